/- Contracts: the sanity check of chapter 23 returns true; the law HealthPlays returns true at every input. No conditions. -/
import Derived.Test.YtladepmfgbfkpaaHealthB
import Derived.Test.YtladepmfgbfkpaaArgs
namespace Go.Proofs.Ytladepmfgbfkpaa
open Go Go.Cpl

theorem rS_len (l : List (Int × Int × Int × Int × Bool)) : (rS l).length = l.length := by simp [rS]

theorem rS_get {l : List (Int × Int × Int × Int × Bool)} {i : Nat} {x : Int × Int × Int × Int × Bool} (h : l[i]? = some x) : (rS l)[i]? = some [i64 x.1, i64 x.2.1, i64 x.2.2.1, i64 x.2.2.2.1, .bool x.2.2.2.2] := by simp [rS, h]

theorem pol_c (a b : Int) : CallsH Try.prog 12 [polV a b] [] (polV (a % 12) (b % 8)) [] := by
  refine callsR_of tab mixed Try.func12 rfl (by decide) rfl rfl ?_
  conv => whnf
  refine ⟨by kernel_rfl, ?_⟩
  conv => whnf
  refine ⟨_, _, mod_c _ _ (by omega) (by omega), ?_⟩
  conv => whnf
  refine ⟨_, _, mod_c _ _ (by omega) (by omega), ?_⟩
  conv => whnf
  exact ⟨[], rfl, ⟨⟨rfl, rfl⟩, ⟨rfl, rfl⟩, trivial⟩, trivial⟩

theorem pol_ok (a b : Int) : polOk (a % 12) (b % 8) := by unfold polOk; omega

def oneC : Cfg := ⟨1, [0, 0], [(0, 5), (1, 5)], [], [(0, 0)], [0], [0], 1, 5, 0⟩

theorem one_c : CallsH Try.prog 33 [] [] (cfgV oneC) [] := by
  refine callsR_of tab mixed Try.func33 rfl (by decide) rfl rfl ?_
  conv => whnf
  exact ⟨[], rfl, ⟨⟨rfl, rfl⟩, rfl, rfl, rfl, rfl, rfl, rfl, ⟨rfl, rfl⟩, ⟨rfl, rfl⟩, ⟨rfl, rfl⟩, trivial⟩, trivial⟩

theorem one_ok : valid5 oneC = 0 ∧ polOk 5 0 := by decide

theorem new_ok {c : Cfg} {a b : Int} (h : valid5 c = 0 ∧ polOk a b) (ho : c.observers.length ≤ 1000) : WOk c (w0 c a b) := by
  have hL := valid_laid (valid5_valid h.1).1
  have hp := h.2
  unfold polOk at hp
  refine ⟨hL, ho, hp.1, hp.2, by simp, by simp, by simp, ?_, List.Pairwise.nil, by simp, by simp⟩
  intro x hx
  have := (List.mem_replicate.1 hx).2
  omega

theorem rel_new {c : Cfg} {a b : Int} (h : WOk c (w0 c a b)) : Rel c (w0 c a b) (w0 c a b) := ⟨h, h, rfl, rfl, rfl, rfl, rfl, .refl _⟩

theorem oneW : WOk oneC (w0 oneC 5 0) := new_ok one_ok (by decide)

abbrev oneR : Rep := ⟨0, 0, 1, true⟩

def oneS : W23 := repW oneC (w0 oneC 5 0) oneR

theorem oneS_ok : WOk oneC oneS := oneW.report (by decide) oneR

def oneT : W23 := advW oneC oneS 1

theorem oneT_ok : WOk oneC oneT := oneS_ok.adv 1

theorem one_e : repE oneC (w0 oneC 5 0).reps oneR = 0 := by decide

theorem one_a : advE oneS 1 = 0 := by decide

theorem one_ch : advC oneC oneS 1 = [0] := by decide

theorem one_0 : verdAt oneT.ver 0 = 2 := by decide

theorem one_1 : verdAt oneT.ver 1 = 1 := by decide

theorem one_2 : verdAt oneT.ver 2 = 3 := by decide

theorem one_z : zoneV oneC oneT.ver 0 = 2 := by decide

theorem one_r : regionV oneC oneT.ver 0 = 1 := by decide

theorem spEq {a b : Int} {A C : Prop} (h : a = b) (k : A) : ((a == b) = true → A) ∧ ((a == b) = false → C) := ⟨fun _ => k, fun h' => by simp [h] at h'⟩

set_option maxHeartbeats 2000000 in
set_option maxRecDepth 100000 in
theorem awake23_c : CallsH Try.prog 11 [] [] (B true) [] := by
  refine callsR_of tab mixed Try.func11 rfl (by decide) rfl rfl ?_
  conv => whnf
  refine ⟨_, _, one_c, ?_⟩
  conv => whnf
  refine ⟨_, _, newOk_c oneC 5 0 one_ok, ?_⟩
  conv => whnf
  refine ⟨fun h => by simp at h, fun _ => ?_⟩
  conv => whnf
  refine spSame rfl ?_
  conv => whnf
  refine ⟨_, _, report_c oneC (w0 oneC 5 0) oneR oneW, ?_⟩
  conv => whnf
  refine ⟨_, _, advance_c oneC oneS 1 oneS_ok, ?_⟩
  conv => whnf
  refine spEq one_e ?_
  conv => whnf
  refine spEq one_a ?_
  conv => whnf
  refine spEq (show ((r1 (advC oneC oneS 1)).length : Int) = 1 by rw [one_ch]; rfl) ?_
  conv => whnf
  refine ⟨by omega, by rw [one_ch]; decide, _, r1_get (show (advC oneC oneS 1)[(0 : Int).toNat]? = some 0 by rw [one_ch]; rfl), ?_⟩
  conv => whnf
  refine spEq rfl ?_
  conv => whnf
  refine ⟨_, _, cellW_c' oneC oneT 0 oneT_ok, ?_⟩
  conv => whnf
  refine spEq one_0 ?_
  conv => whnf
  refine ⟨_, _, cellW_c' oneC oneT 1 oneT_ok, ?_⟩
  conv => whnf
  refine spEq one_1 ?_
  conv => whnf
  refine ⟨_, _, zoneW_c oneC oneT 0 oneT_ok, ?_⟩
  conv => whnf
  refine spEq one_z ?_
  conv => whnf
  refine ⟨_, _, regionW_c oneC oneT 0 oneT_ok, ?_⟩
  conv => whnf
  refine spEq one_r ?_
  conv => whnf
  refine ⟨_, _, cellW_c' oneC oneT 2 oneT_ok, ?_⟩
  conv => whnf
  rw [one_2]
  exact ⟨[], rfl, rfl, trivial⟩

set_option maxHeartbeats 4000000 in
set_option maxRecDepth 100000 in
theorem healthPlays_c (l : List Int) (a b : Int) (steps : List (Int × Int × Int × Int × Bool)) (near : Bool) : CallsH Try.prog 3 [.c (.d (.sl (r1 l))), polV a b, .c (.d (.sl (rS steps))), B near] [] (B true) [] := by
  obtain ⟨c, hm, hc⟩ := config_c l
  have hS := rS_len steps
  have hobs := hm.observers
  have hval := hm.valid5
  refine callsR_of tab mixed Try.func3 rfl (by decide) rfl rfl ?_
  conv => whnf
  refine ⟨_, _, light_c l, ?_⟩
  conv => whnf
  refine spN (fun h1 => ?_) (fun h1 => ?_) <;> conv => whnf
  · refine ⟨_, _, awake23_c, ?_⟩
    conv => whnf
    exact ⟨[], rfl, rfl, trivial⟩
  refine spD (fun h2 => ?_) (fun h2 => ?_) <;> conv => whnf
  · refine ⟨_, _, awake23_c, ?_⟩
    conv => whnf
    exact ⟨[], rfl, rfl, trivial⟩
  refine ⟨fun h3 => ?_, fun h3 => ?_⟩ <;> conv => whnf
  · refine ⟨_, _, pol_c a b, ?_⟩
    conv => whnf
    have hn : valid5 c = 0 ∧ polOk (a % 12) (b % 8) := ⟨hval, pol_ok a b⟩
    have hw := new_ok hn (by omega)
    refine ⟨_, _, hc, ?_⟩
    conv => whnf
    refine ⟨_, _, newOk_c c _ _ hn, ?_⟩
    conv => whnf
    refine ⟨_, _, newROk_c c _ _ hn, ?_⟩
    conv => whnf
    refine spSame rfl ?_
    conv => whnf
    refine ⟨fun h => by simp at h, fun _ => ?_⟩
    conv => whnf
    refine loopR tab mixed (ι := { x : Nat × W23 × W23 // x.1 ≤ steps.length ∧ x.2.1.reps.length ≤ x.1 ∧ Rel c x.2.1 x.2.2 }) (fun x => [(14, I x.1.1)])
      (fun x => [(2, wBox c x.1.2.1 3 4 5), (6, rBox c x.1.2.2 7 8 9), (3, .arr 3 (r1 x.1.2.1.ver)), (4, .arr 3 (r1 x.1.2.1.dou)), (5, wM x.1.2.1), (7, .arr 45 (rR x.1.2.2.reps)), (8, .arr 3 (r1 x.1.2.2.ver)), (9, .arr 3 (r1 x.1.2.2.dou))])
      51 (fun x => steps.length - x.1.1) ⟨(0, w0 c (a % 12) (b % 8), w0 c (a % 12) (b % 8)), by omega, by simp, rel_new hw⟩ [(2, some 2), (6, some 6), (3, some 3), (4, some 4), (5, some 5), (7, some 7), (8, some 8), (9, some 9)] ?_
    conv => whnf
    refine ⟨?_, ?_⟩
    · repeat' (first | exact trivial | rfl | refine And.intro ?_ ?_)
      all_goals (conv => whnf)
      repeat' (first | exact trivial | rfl | refine And.intro ?_ ?_)
    rintro ⟨⟨i, s, s'⟩, hi, hle, hrel⟩
    dsimp only at hi hle hrel ⊢
    conv => whnf
    refine spD (fun h4 => ?_) (fun h4 => ?_) <;> conv => whnf
    · have hi' : i < steps.length := by omega
      obtain ⟨⟨which, o, ce, ti, bad⟩, hx⟩ := get_of hi'
      obtain ⟨s2, s2', hrel2, hle2, hcall⟩ := both_c c s s' which ⟨o, ce, ti, bad⟩ hrel (by omega)
      refine ⟨fun _ => ?_, fun h => by simp at h⟩
      conv => whnf
      refine ⟨by omega, _, rS_get hx, ?_⟩
      conv => whnf
      refine ⟨_, _, hcall, ?_⟩
      conv => whnf
      refine ⟨fun h => by simp at h, fun _ => ?_⟩
      conv => whnf
      refine gv (by first | omega | (simp only []; omega) | (simp; omega)) (by first | omega | (simp only []; omega) | (simp; omega)) ?_
      conv => whnf
      refine ⟨⟨(i + 1, s2, s2'), hi', by show s2.reps.length ≤ i + 1; omega, hrel2⟩, [(2, some 2), (6, some 6), (3, some 3), (4, some 4), (5, some 5), (7, some 51), (8, some 8), (9, some 9)], ?_, by show steps.length - (i + 1) < steps.length - i; omega⟩
      repeat' (first | exact trivial | rfl | refine And.intro ?_ ?_)
      all_goals (conv => whnf)
      repeat' (first | exact trivial | rfl | refine And.intro ?_ ?_)
    · refine ⟨_, _, awake23_c, ?_⟩
      conv => whnf
      exact ⟨[], rfl, rfl, trivial⟩
  by_cases hpo : polOk a b
  · have hn : valid5 c = 0 ∧ polOk a b := ⟨hval, hpo⟩
    have hw := new_ok hn (by omega)
    refine ⟨_, _, hc, ?_⟩
    conv => whnf
    refine ⟨_, _, newOk_c c _ _ hn, ?_⟩
    conv => whnf
    refine ⟨_, _, newROk_c c _ _ hn, ?_⟩
    conv => whnf
    refine spSame rfl ?_
    conv => whnf
    refine ⟨fun h => by simp at h, fun _ => ?_⟩
    conv => whnf
    refine loopR tab mixed (ι := { x : Nat × W23 × W23 // x.1 ≤ steps.length ∧ x.2.1.reps.length ≤ x.1 ∧ Rel c x.2.1 x.2.2 }) (fun x => [(14, I x.1.1)])
      (fun x => [(2, wBox c x.1.2.1 3 4 5), (6, rBox c x.1.2.2 7 8 9), (3, .arr 3 (r1 x.1.2.1.ver)), (4, .arr 3 (r1 x.1.2.1.dou)), (5, wM x.1.2.1), (7, .arr 45 (rR x.1.2.2.reps)), (8, .arr 3 (r1 x.1.2.2.ver)), (9, .arr 3 (r1 x.1.2.2.dou))])
      51 (fun x => steps.length - x.1.1) ⟨(0, w0 c a b, w0 c a b), by omega, by simp, rel_new hw⟩ [(2, some 2), (6, some 6), (3, some 3), (4, some 4), (5, some 5), (7, some 7), (8, some 8), (9, some 9)] ?_
    conv => whnf
    refine ⟨?_, ?_⟩
    · repeat' (first | exact trivial | rfl | refine And.intro ?_ ?_)
      all_goals (conv => whnf)
      repeat' (first | exact trivial | rfl | refine And.intro ?_ ?_)
    rintro ⟨⟨i, s, s'⟩, hi, hle, hrel⟩
    dsimp only at hi hle hrel ⊢
    conv => whnf
    refine spD (fun h4 => ?_) (fun h4 => ?_) <;> conv => whnf
    · have hi' : i < steps.length := by omega
      obtain ⟨⟨which, o, ce, ti, bad⟩, hx⟩ := get_of hi'
      obtain ⟨s2, s2', hrel2, hle2, hcall⟩ := both_c c s s' which ⟨o, ce, ti, bad⟩ hrel (by omega)
      refine ⟨fun _ => ?_, fun h => by simp at h⟩
      conv => whnf
      refine ⟨by omega, _, rS_get hx, ?_⟩
      conv => whnf
      refine ⟨_, _, hcall, ?_⟩
      conv => whnf
      refine ⟨fun h => by simp at h, fun _ => ?_⟩
      conv => whnf
      refine gv (by first | omega | (simp only []; omega) | (simp; omega)) (by first | omega | (simp only []; omega) | (simp; omega)) ?_
      conv => whnf
      refine ⟨⟨(i + 1, s2, s2'), hi', by show s2.reps.length ≤ i + 1; omega, hrel2⟩, [(2, some 2), (6, some 6), (3, some 3), (4, some 4), (5, some 5), (7, some 51), (8, some 8), (9, some 9)], ?_, by show steps.length - (i + 1) < steps.length - i; omega⟩
      repeat' (first | exact trivial | rfl | refine And.intro ?_ ?_)
      all_goals (conv => whnf)
      repeat' (first | exact trivial | rfl | refine And.intro ?_ ?_)
    · refine ⟨_, _, awake23_c, ?_⟩
      conv => whnf
      exact ⟨[], rfl, rfl, trivial⟩
  · have hn : ¬ (valid5 c = 0 ∧ polOk a b) := fun h => hpo h.2
    refine ⟨_, _, hc, ?_⟩
    conv => whnf
    refine ⟨_, _, newBad_c c _ _ hn, ?_⟩
    conv => whnf
    refine ⟨_, _, newRBad_c c _ _ hn, ?_⟩
    conv => whnf
    refine spSame rfl ?_
    conv => whnf
    refine ⟨fun h => by simp at h, fun _ => ?_⟩
    conv => whnf
    refine loopN tab mixed (fun i => i ≤ 0) 0 (fun i => [(14, I i)]) (fun _ => []) 51 [] (by omega) ?_
    conv => whnf
    refine ⟨?_, fun i hi => ?_⟩
    · repeat' (first | exact trivial | rfl | refine And.intro ?_ ?_)
      all_goals (conv => whnf)
      repeat' (first | exact trivial | rfl | refine And.intro ?_ ?_)
    conv => whnf
    refine spD (fun h4 => ?_) (fun h4 => ?_) <;> conv => whnf
    · refine ⟨fun h => by simp at h, fun _ => ?_⟩
      conv => whnf
      refine ⟨_, _, awake23_c, ?_⟩
      conv => whnf
      exact ⟨[], rfl, rfl, trivial⟩
    · refine ⟨_, _, awake23_c, ?_⟩
      conv => whnf
      exact ⟨[], rfl, rfl, trivial⟩

end Go.Proofs.Ytladepmfgbfkpaa
