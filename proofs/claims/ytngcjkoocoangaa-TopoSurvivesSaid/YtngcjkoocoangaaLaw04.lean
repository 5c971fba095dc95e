/- Contracts: each law of chapter 4 returns true at every list and at all numbers. No conditions. -/
import Derived.Test.YtngcjkoocoangaaConf
import Derived.Test.YtngcjkoocoangaaValid
namespace Go.Proofs.Ytngcjkoocoangaa
open Go Go.Cpl

theorem Made.laid {c : Cfg} (h : Made c) : Laid c := by
  have h1 := h.zones
  have h2 := h.cells
  have h3 := h.regions
  refine ⟨by omega, by omega, fun x hx => ?_, fun x hx => ?_, fun x hx => ?_, by omega⟩
  · obtain ⟨i, hi⟩ := List.getElem?_of_mem hx
    obtain ⟨e, _⟩ := h.cell i x hi
    rw [e]
    exact ⟨Int.emod_nonneg _ (by omega), Int.emod_lt_of_pos _ (by omega)⟩
  · obtain ⟨i, hi⟩ := List.getElem?_of_mem hx
    rw [h.zone i x hi]
    exact ⟨Int.emod_nonneg _ (by omega), Int.emod_lt_of_pos _ (by omega)⟩
  · obtain ⟨i, hi⟩ := List.getElem?_of_mem hx
    have := (h.cell i x hi).2
    omega

theorem Made.rep {c : Cfg} (h : Made c) : c.replicas.length ≤ 1000 := by have := h.replicas; omega

set_option maxRecDepth 100000 in
theorem topoSurvives_c (l : List Int) (lost : Int) : CallsH Try.prog 4 [.c (.d (.sl (r1 l))), I lost] [] (B true) [] := by
  obtain ⟨c, hm, hcfg⟩ := config_c l
  have hL := hm.laid
  have hR := hm.regions
  refine callsR_of tab mixed Try.func4 rfl (by decide) rfl rfl ?_
  conv => whnf
  refine ⟨_, _, light_c l, ?_⟩
  conv => whnf
  refine spN (fun h => ?_) (fun h => ?_) <;> conv => whnf
  · refine ⟨_, _, awake_c, ?_⟩
    conv => whnf
    exact ⟨[], rfl, rfl, trivial⟩
  refine ⟨_, _, hcfg, ?_⟩
  conv => whnf
  refine ⟨_, _, mod_c lost 16 (by omega) (by omega), ?_⟩
  conv => whnf
  refine ⟨by kernel_rfl, ?_⟩
  conv => whnf
  refine ⟨_, _, awake_c, ?_⟩
  conv => whnf
  refine ⟨fun _ => ?_, fun h => by cases h⟩
  conv => whnf
  refine ⟨_, _, alive_c c lost hL (by omega), ?_⟩
  conv => whnf
  refine ⟨_, _, refAlive_c c lost hL, ?_⟩
  conv => whnf
  refine ⟨_, _, sameInts_c _ _ (by have := upto_le (fun i => !isLost c lost (regionOf c i)) c.cells.length; have := hL.cells; unfold alive; omega), ?_⟩
  conv => whnf
  refine spD (fun _ => ?_) (fun h => (h rfl).elim)
  conv => whnf
  refine ⟨_, _, alive_c c (lost % 16) hL (by omega), ?_⟩
  conv => whnf
  refine ⟨_, _, refAlive_c c (lost % 16) hL, ?_⟩
  conv => whnf
  refine ⟨_, _, sameInts_c _ _ (by have := upto_le (fun i => !isLost c (lost % 16) (regionOf c i)) c.cells.length; have := hL.cells; unfold alive; omega), ?_⟩
  conv => whnf
  refine spD (fun _ => ?_) (fun h => (h rfl).elim)
  conv => whnf
  refine ⟨_, _, majority_c c lost hL (by omega) hm.rep, ?_⟩
  conv => whnf
  refine ⟨_, _, refMajority_c c lost hL hm.rep hm.replica, ?_⟩
  conv => whnf
  refine ⟨fun _ => ?_, fun h => by simp at h⟩
  conv => whnf
  refine ⟨_, _, majority_c c (lost % 16) hL (by omega) hm.rep, ?_⟩
  conv => whnf
  refine ⟨_, _, refMajority_c c (lost % 16) hL hm.rep hm.replica, ?_⟩
  conv => whnf
  exact ⟨[], rfl, by simp [mtV, valOf, mtC, eqD], trivial⟩

end Go.Proofs.Ytngcjkoocoangaa
