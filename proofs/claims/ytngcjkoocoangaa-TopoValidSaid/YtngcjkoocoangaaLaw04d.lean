/- Contract: the law TopoValid returns true at every configuration, every list and all numbers. No conditions. -/
import Derived.Test.YtngcjkoocoangaaLaw04
import Derived.Test.YtngcjkoocoangaaBent
namespace Go.Proofs.Ytngcjkoocoangaa
open Go Go.Cpl

theorem Made.valid {c : Cfg} (hm : Made c) : valid c = 0 := by
  have hR := hm.regions
  have hZ := hm.zones
  have hC := hm.cells
  have hT := hm.tenants
  have hL := hm.laid
  obtain ⟨v, r, hv, hv1, hv2, hr, hrr⟩ := hm.versions
  have hlen : c.versions.length = r.length + 1 := by rw [hv]; rfl
  have hrep := hm.replicas
  have hobs := hm.observers
  have h1 : numbersP c := by unfold numbersP; omega
  have h2 : (c.replicas.length : Int) % 2 = 1 := by omega
  have h3 : placesP c := ⟨fun x hx => by have := hL.zone x hx; omega, fun x hx => by have := hL.cell x hx; omega, fun x hx => by have := hm.replica x hx; omega, fun x hx => by have := hm.observer x hx; omega⟩
  have h4 : valuesP c := by
    refine ⟨fun x hx => ?_, ⟨fun x hx => ?_, ?_⟩, ?_⟩
    · obtain ⟨i, hi⟩ := List.getElem?_of_mem hx
      have := (hm.cell i x hi).2
      omega
    · rw [hv] at hx
      rcases List.mem_cons.1 hx with h | h
      · subst h; simp only; omega
      · have := hrr x h; omega
    · simp [first0, hv]
    · have := hm.blast
      have := hm.lease
      have := hm.bake
      unfold boundsP
      omega
  simp [Go.Proofs.Ytngcjkoocoangaa.valid, h1, h2, h3, h4]

set_option maxRecDepth 100000 in
theorem topoValid_c (raw : Cfg) (l : List Int) (which b : Int) : CallsH Try.prog 3 [cfgV raw, .c (.d (.sl (r1 l))), I which, I b] [] (B true) [] := by
  obtain ⟨c, hm, hcfg⟩ := config_c l
  have hZ := hm.zones
  have hC := hm.cells
  have hT := hm.tenants
  have hR := hm.regions
  obtain ⟨v, r, hv, _, _, hr, _⟩ := hm.versions
  have hlen : c.versions.length = r.length + 1 := by rw [hv]; rfl
  have hrep := hm.replicas
  have hobs := hm.observers
  have vc := valid_c c
  rw [hm.valid] at vc
  refine callsR_of tab mixed Try.func3 rfl (by decide) rfl rfl ?_
  conv => whnf
  refine ⟨_, _, small_c raw, ?_⟩
  conv => whnf
  refine spN (fun h => ?_) (fun h => ?_) <;> conv => whnf
  · refine ⟨_, _, awake_c, ?_⟩
    conv => whnf
    exact ⟨[], rfl, rfl, trivial⟩
  refine ⟨_, _, light_c l, ?_⟩
  conv => whnf
  refine spN (fun h => ?_) (fun h => ?_) <;> conv => whnf
  · refine ⟨_, _, awake_c, ?_⟩
    conv => whnf
    exact ⟨[], rfl, rfl, trivial⟩
  refine ⟨_, _, hcfg, ?_⟩
  conv => whnf
  refine ⟨_, _, bent_c c which b (by omega) (by omega) (by omega) (by omega) (by omega) (by omega), ?_⟩
  generalize bent c (which % 14) b = d
  conv => whnf
  refine ⟨by kernel_rfl, ?_⟩
  conv => whnf
  refine ⟨_, _, awake_c, ?_⟩
  conv => whnf
  refine ⟨fun _ => ?_, fun h => by cases h⟩
  conv => whnf
  refine ⟨_, _, valid_c raw, ?_⟩
  conv => whnf
  refine ⟨_, _, refValid_c raw, ?_⟩
  conv => whnf
  refine spE (fun _ => ?_) (fun h => (h rfl).elim)
  conv => whnf
  refine ⟨_, _, vc, ?_⟩
  conv => whnf
  refine spE (fun _ => ?_) (fun h => (h rfl).elim)
  conv => whnf
  refine ⟨_, _, valid_c d, ?_⟩
  conv => whnf
  refine ⟨_, _, refValid_c d, ?_⟩
  conv => whnf
  exact ⟨[], rfl, by simp [mtV, valOf, mtC, eqD], trivial⟩

end Go.Proofs.Ytngcjkoocoangaa
