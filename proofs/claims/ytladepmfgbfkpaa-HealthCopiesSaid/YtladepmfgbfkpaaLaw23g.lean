/- Contract: the law HealthCopies returns true at every input. No conditions. -/
import Derived.Test.YtladepmfgbfkpaaLaw23
import Derived.Test.YtladepmfgbfkpaaHealthC
namespace Go.Proofs.Ytladepmfgbfkpaa
open Go Go.Cpl

set_option maxHeartbeats 4000000 in
set_option maxRecDepth 100000 in
theorem healthCopies_c (l : List Int) (a b : Int) (steps rest : List (Int × Int × Int × Int × Bool)) : CallsH Try.prog 9 [.c (.d (.sl (r1 l))), polV a b, .c (.d (.sl (rS steps))), .c (.d (.sl (rS rest)))] [] (B true) [] := by
  have hR := rS_len rest
  obtain ⟨c, hm, hc⟩ := config_c l
  have hS := rS_len steps
  have hobs := hm.observers
  have hval := hm.valid5
  have hn : valid5 c = 0 ∧ polOk (a % 12) (b % 8) := ⟨hval, pol_ok a b⟩
  have hw := new_ok hn (by omega)
  refine callsR_of tab mixed Try.func9 rfl (by decide) rfl rfl ?_
  conv => whnf
  refine ⟨_, _, light_c l, ?_⟩
  conv => whnf
  refine spN (fun h1 => ?_) (fun h1 => ?_) <;> conv => whnf
  · refine ⟨_, _, awake23_c, ?_⟩
    conv => whnf
    exact ⟨[], rfl, rfl, trivial⟩
  refine spD (fun h2 => ?_) (fun h2 => ?_) <;> conv => whnf
  · refine ⟨_, _, awake23_c, ?_⟩
    conv => whnf
    exact ⟨[], rfl, rfl, trivial⟩
  refine spD (fun h3 => ?_) (fun h3 => ?_) <;> conv => whnf
  · refine ⟨_, _, awake23_c, ?_⟩
    conv => whnf
    exact ⟨[], rfl, rfl, trivial⟩
  refine ⟨_, _, hc, ?_⟩
  conv => whnf
  refine ⟨by kernel_rfl, ?_⟩
  conv => whnf
  refine ⟨_, _, pol_c a b, ?_⟩
  conv => whnf
  refine ⟨_, _, newOk_c c _ _ hn, ?_⟩
  conv => whnf
  refine ⟨by kernel_rfl, ?_⟩
  conv => whnf
  refine ⟨_, _, pol_c a b, ?_⟩
  conv => whnf
  refine ⟨_, _, newROk_c c _ _ hn, ?_⟩
  conv => whnf
  refine ⟨fun h => by simp at h, fun _ => ?_⟩
  conv => whnf
  refine spSame rfl ?_
  conv => whnf
  refine loopR tab mixed (ι := { x : Nat × W23 × W23 // x.1 ≤ steps.length ∧ x.2.1.reps.length ≤ x.1 ∧ Rel c x.2.1 x.2.2 }) (fun x => [(14, I x.1.1)])
    (fun x => [(2, wBox c x.1.2.1 3 4 5), (6, rBox c x.1.2.2 7 8 9), (3, .arr 3 (r1 x.1.2.1.ver)), (4, .arr 3 (r1 x.1.2.1.dou)), (5, wM x.1.2.1), (7, .arr 45 (rR x.1.2.2.reps)), (8, .arr 3 (r1 x.1.2.2.ver)), (9, .arr 3 (r1 x.1.2.2.dou))])
    51 (fun x => steps.length - x.1.1) ⟨(0, w0 c (a % 12) (b % 8), w0 c (a % 12) (b % 8)), by omega, by simp, rel_new hw⟩ [(2, some 2), (6, some 6), (3, some 3), (4, some 4), (5, some 5), (7, some 7), (8, some 8), (9, some 9)] ?_
  conv => whnf
  refine ⟨?_, ?_⟩
  · repeat' (first | exact trivial | rfl | refine And.intro ?_ ?_)
    all_goals (conv => whnf)
    repeat' (first | exact trivial | rfl | refine And.intro ?_ ?_)
  rintro ⟨⟨i, s0, s0'⟩, hi, hle, hrel0⟩
  dsimp only at hi hle hrel0 ⊢
  conv => whnf
  refine spD (fun h4 => ?_) (fun h4 => ?_) <;> conv => whnf
  · have hi' : i < steps.length := by omega
    obtain ⟨⟨which, o, ce, ti, bad⟩, hx⟩ := get_of hi'
    obtain ⟨s2, s2', hrel2, hle2, hcall⟩ := both_c c s0 s0' which ⟨o, ce, ti, bad⟩ hrel0 (by omega)
    refine ⟨by omega, _, rS_get hx, ?_⟩
    conv => whnf
    refine ⟨_, _, hcall, ?_⟩
    conv => whnf
    refine gv (by first | omega | (simp only []; omega) | (simp; omega)) (by first | omega | (simp only []; omega) | (simp; omega)) ?_
    conv => whnf
    refine ⟨⟨(i + 1, s2, s2'), hi', by show s2.reps.length ≤ i + 1; omega, hrel2⟩, [(2, some 2), (6, some 6), (3, some 3), (4, some 4), (5, some 5), (7, some 51), (8, some 8), (9, some 9)], ?_, by show steps.length - (i + 1) < steps.length - i; omega⟩
    repeat' (first | exact trivial | rfl | refine And.intro ?_ ?_)
    all_goals (conv => whnf)
    repeat' (first | exact trivial | rfl | refine And.intro ?_ ?_)
  refine ⟨_, _, copyW_c c s0 hrel0.ok, ?_⟩
  conv => whnf
  refine ⟨_, _, copyR_c c s0' hrel0.ok', ?_⟩
  conv => whnf
  refine ⟨fun h => by simp at h, fun _ => ?_⟩
  conv => whnf
  refine loopR tab mixed (ι := { x : Nat × W23 × W23 // x.1 ≤ rest.length ∧ x.2.1.reps.length ≤ 40 + x.1 ∧ Rel c x.2.1 x.2.2 }) (fun x => [(17, I x.1.1)])
    (fun x => [(51, wBox c x.1.2.1 52 53 54), (55, rBox c x.1.2.2 56 57 58), (52, .arr 3 (r1 x.1.2.1.ver)), (53, .arr 3 (r1 x.1.2.1.dou)), (54, wM x.1.2.1), (56, .arr 45 (rR x.1.2.2.reps)), (57, .arr 3 (r1 x.1.2.2.ver)), (58, .arr 3 (r1 x.1.2.2.dou))])
    60 (fun x => rest.length - x.1.1) ⟨(0, s0, s0'), by omega, by show s0.reps.length ≤ 40 + 0; omega, hrel0⟩ [(51, some 51), (55, some 55), (52, some 52), (53, some 53), (54, some 54), (56, some 56), (57, some 57), (58, some 58)] ?_
  conv => whnf
  refine ⟨?_, ?_⟩
  · repeat' (first | exact trivial | rfl | refine And.intro ?_ ?_)
    all_goals (conv => whnf)
    repeat' (first | exact trivial | rfl | refine And.intro ?_ ?_)
  rintro ⟨⟨i, s, s'⟩, hi, hle, hrel⟩
  dsimp only at hi hle hrel ⊢
  conv => whnf
  refine spD (fun h4 => ?_) (fun h4 => ?_) <;> conv => whnf
  · have hi' : i < rest.length := by omega
    obtain ⟨⟨which, o, ce, ti, bad⟩, hx⟩ := get_of hi'
    obtain ⟨s2, s2', hrel2, hle2, hcall⟩ := both_c c s s' which ⟨o, ce, ti, bad⟩ hrel (by omega)
    refine ⟨by omega, _, rS_get hx, ?_⟩
    conv => whnf
    refine ⟨_, _, hcall, ?_⟩
    conv => whnf
    refine ⟨fun h => by simp at h, fun _ => ?_⟩
    conv => whnf
    refine ⟨_, _, same_c c s0 s0' hrel0, ?_⟩
    conv => whnf
    refine ⟨fun h => by simp at h, fun _ => ?_⟩
    conv => whnf
    refine gv (by first | omega | (simp only []; omega) | (simp; omega)) (by first | omega | (simp only []; omega) | (simp; omega)) ?_
    conv => whnf
    refine ⟨⟨(i + 1, s2, s2'), hi', by show s2.reps.length ≤ 40 + (i + 1); omega, hrel2⟩, [(51, some 51), (55, some 55), (52, some 52), (53, some 53), (54, some 54), (56, some 60), (57, some 57), (58, some 58)], ?_, by show rest.length - (i + 1) < rest.length - i; omega⟩
    repeat' (first | exact trivial | rfl | refine And.intro ?_ ?_)
    all_goals (conv => whnf)
    repeat' (first | exact trivial | rfl | refine And.intro ?_ ?_)
  · refine ⟨_, _, awake23_c, ?_⟩
    conv => whnf
    exact ⟨[], rfl, rfl, trivial⟩

end Go.Proofs.Ytladepmfgbfkpaa
