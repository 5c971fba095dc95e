/- Contracts: law CertInvalid returns true at every input. No conditions. -/
import Derived.Test.YthpngoplkekkaaaGreatSolveU
import Derived.Test.YthpngoplkekkaaaGreatBent
namespace Go.Proofs.YthpngoplkekkaaaGreat
open Go Go.Cpl

theorem check_bad {c : Cfg} {u : Int} {hd : Bool} (hf : ¬ Fit c (openL c.tenants.length)) (p : List (Int × Int)) (t : List Nd) : (feasible c u hd p t || refuted c u hd p t) = false := by
  have hv : ¬ valid5 c = 0 := fun h => hf (fit_openL h)
  have h1 : ¬ Fit c p := fun h => hv h.val
  simp [feasible, refuted, hv, h1]

set_option maxRecDepth 100000 in
theorem certInvalid_c (raw : Cfg) (l : List Int) (cells which b : Int) : CallsH Tryz.prog 6 [cfgV raw, .c (.d (.sl (r1 l))), I cells, I which, I b] [] (B true) [] := by
  obtain ⟨c, u, hm, hprob⟩ := problem_c l cells false
  have hv := hm.valid5
  have hZ := hm.zones
  have hC := hm.cells
  have hT := hm.tenants
  have hR := hm.regions
  obtain ⟨v, r, hvv, _, _, hr, _⟩ := hm.versions
  have hlen : c.versions.length = r.length + 1 := by rw [hvv]; rfl
  have hrep := hm.replicas
  have hobs := hm.observers
  obtain ⟨_, ht⟩ := find_len u false hv
  have hTl := rN_len (findT (findL c u false))
  have bc := bent_c c which b (by omega) (by omega) (by omega) (by omega) (by omega) (by omega)
  have fc := found19_c c u false
  generalize findP (findL c u false) = P at *
  generalize findT (findL c u false) = T at *
  generalize bent c (which % 14) b = d at bc
  refine callsR_of tab mixed Tryz.func6 rfl (by decide) rfl rfl ?_
  conv => whnf
  refine ⟨_, _, light_c l, ?_⟩
  conv => whnf
  refine spN (fun h => ?_) (fun h => ?_) <;> conv => whnf
  · refine ⟨_, _, awake19_c, ?_⟩
    conv => whnf
    exact ⟨[], rfl, rfl, trivial⟩
  refine ⟨_, _, small_c raw, ?_⟩
  conv => whnf
  refine spN (fun h => ?_) (fun hs => ?_) <;> conv => whnf
  · refine ⟨_, _, awake19_c, ?_⟩
    conv => whnf
    exact ⟨[], rfl, rfl, trivial⟩
  unfold small at hs
  refine ⟨_, _, hprob, ?_⟩
  conv => whnf
  refine ⟨_, _, fc, ?_⟩
  conv => whnf
  refine spD (fun h => ?_) (fun h400 => ?_) <;> conv => whnf
  · refine ⟨_, _, awake19_c, ?_⟩
    conv => whnf
    exact ⟨[], rfl, rfl, trivial⟩
  refine ⟨_, _, bc, ?_⟩
  conv => whnf
  refine ⟨by kernel_rfl, ?_⟩
  conv => whnf
  refine ⟨_, _, awake19_c, ?_⟩
  conv => whnf
  refine ⟨fun _ => ?_, fun h => (by cases h)⟩
  conv => whnf
  refine ⟨_, _, check19_c d u false P T ht, ?_⟩
  conv => whnf
  refine ⟨_, _, refCheck19_c d u false P T ht, ?_⟩
  conv => whnf
  refine ⟨fun _ => ?_, fun h => by simp at h⟩
  conv => whnf
  refine ⟨_, _, check19_c raw u false P T ht, ?_⟩
  conv => whnf
  refine ⟨_, _, refCheck19_c raw u false P T ht, ?_⟩
  conv => whnf
  refine ⟨fun _ => ?_, fun h => by simp at h⟩
  conv => whnf
  refine ⟨_, _, (open17_c raw u false (by omega)).frozen, ?_⟩
  conv => whnf
  refine ⟨_, _, fit_c raw u false (openL raw.tenants.length), ?_⟩
  conv => whnf
  refine spD (fun hf => ?_) (fun hf => ?_) <;> conv => whnf
  · exact ⟨[], rfl, rfl, trivial⟩
  · refine ⟨_, _, check19_c raw u false P T ht, ?_⟩
    conv => whnf
    rw [check_bad hf]
    exact ⟨[], rfl, rfl, trivial⟩

end Go.Proofs.YthpngoplkekkaaaGreat
