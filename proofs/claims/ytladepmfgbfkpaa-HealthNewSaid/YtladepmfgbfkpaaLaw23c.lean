/- Contracts: the laws HealthNew and HealthMinority return true at every input. No conditions. -/
import Derived.Test.YtladepmfgbfkpaaLaw23
import Derived.Test.YtladepmfgbfkpaaBent
namespace Go.Proofs.Ytladepmfgbfkpaa
open Go Go.Cpl

def rC (l : List Cfg) : List (List D) := l.map cfgD

theorem rC_get {l : List Cfg} {i : Nat} {x : Cfg} (h : l[i]? = some x) : (rC l)[i]? = some (cfgD x) := by simp [rC, h]

set_option maxHeartbeats 4000000 in
set_option maxRecDepth 100000 in
theorem healthNew_c (raw : Cfg) (l : List Int) (a b : Int) (which by_ : Int) : CallsH Try.prog 5 [cfgV raw, .c (.d (.sl (r1 l))), polV a b, I which, I by_] [] (B true) [] := by
  obtain ⟨c, hm, hc⟩ := config_c l
  have h1 := hm.zones
  have h2 := hm.cells
  have h3 := hm.tenants
  have h4 := hm.observers
  have h5 := hm.replicas
  obtain ⟨_, _, hv, _, _, hr, _⟩ := hm.versions
  have hvl : c.versions.length ≤ 3 := by rw [hv]; simp; omega
  have h6 := hm.regions
  refine callsR_of tab mixed Try.func5 rfl (by decide) rfl rfl ?_
  conv => whnf
  refine ⟨_, _, small_c raw, ?_⟩
  conv => whnf
  refine spN (fun q1 => ?_) (fun q1 => ?_) <;> conv => whnf
  · refine ⟨_, _, awake23_c, ?_⟩
    conv => whnf
    exact ⟨[], rfl, rfl, trivial⟩
  refine ⟨_, _, light_c l, ?_⟩
  conv => whnf
  refine spN (fun q2 => ?_) (fun q2 => ?_) <;> conv => whnf
  · refine ⟨_, _, awake23_c, ?_⟩
    conv => whnf
    exact ⟨[], rfl, rfl, trivial⟩
  refine ⟨by kernel_rfl, ?_⟩
  conv => whnf
  refine ⟨_, _, hc, ?_⟩
  conv => whnf
  refine ⟨_, _, bent_c c which by_ (by omega) ⟨by omega, by omega⟩ (by omega) (by omega) (by omega) (by omega), ?_⟩
  conv => whnf
  refine ⟨_, _, hc, ?_⟩
  conv => whnf
  refine loopN tab mixed (fun i => i ≤ 3) 3 (fun i => [(12, I i)]) (fun _ => []) 51 [] (by omega) ?_
  conv => whnf
  refine ⟨?_, fun i hi => ?_⟩
  · repeat' (first | exact trivial | rfl | refine And.intro ?_ ?_)
    all_goals (conv => whnf)
    repeat' (first | exact trivial | rfl | refine And.intro ?_ ?_)
  conv => whnf
  refine spD (fun q3 => ?_) (fun q3 => ?_) <;> conv => whnf
  · have q4 : (i : Int) < 3 := q3
    obtain ⟨x, hx⟩ := get_of (l := [raw, bent c (which % 14) by_, c]) (i := i) (by simp; omega)
    by_cases hn : valid5 x = 0 ∧ polOk a b
    · refine ⟨by kernel_rfl, ?_⟩
      conv => whnf
      refine ⟨by omega, _, rC_get hx, ?_⟩
      conv => whnf
      refine ⟨_, _, newOk_c x a b hn, ?_⟩
      conv => whnf
      refine ⟨by kernel_rfl, ?_⟩
      conv => whnf
      refine ⟨by omega, _, rC_get hx, ?_⟩
      conv => whnf
      refine ⟨_, _, newROk_c x a b hn, ?_⟩
      conv => whnf
      refine spSame rfl ?_
      conv => whnf
      refine ⟨fun h => by simp at h, fun _ => ?_⟩
      conv => whnf
      refine gv (by first | omega | (simp only []; omega) | (simp; omega)) (by first | omega | (simp only []; omega) | (simp; omega)) ?_
      conv => whnf
      refine ⟨⟨by omega, by omega⟩, [], ?_⟩
      repeat' (first | exact trivial | rfl | refine And.intro ?_ ?_)
      all_goals (conv => whnf)
      repeat' (first | exact trivial | rfl | refine And.intro ?_ ?_)
    · have hne : newE x ≠ 0 := by
        unfold newE
        split
        · omega
        · assumption
      refine ⟨by kernel_rfl, ?_⟩
      conv => whnf
      refine ⟨by omega, _, rC_get hx, ?_⟩
      conv => whnf
      refine ⟨_, _, newBad_c x a b hn, ?_⟩
      conv => whnf
      refine ⟨by kernel_rfl, ?_⟩
      conv => whnf
      refine ⟨by omega, _, rC_get hx, ?_⟩
      conv => whnf
      refine ⟨_, _, newRBad_c x a b hn, ?_⟩
      conv => whnf
      refine spSame rfl ?_
      conv => whnf
      refine ⟨fun h => by simp [hne] at h, fun _ => ?_⟩
      conv => whnf
      refine gv (by first | omega | (simp only []; omega) | (simp; omega)) (by first | omega | (simp only []; omega) | (simp; omega)) ?_
      conv => whnf
      refine ⟨⟨by omega, by omega⟩, [], ?_⟩
      repeat' (first | exact trivial | rfl | refine And.intro ?_ ?_)
      all_goals (conv => whnf)
      repeat' (first | exact trivial | rfl | refine And.intro ?_ ?_)
  · refine ⟨_, _, awake23_c, ?_⟩
    conv => whnf
    exact ⟨[], rfl, rfl, trivial⟩

end Go.Proofs.Ytladepmfgbfkpaa
