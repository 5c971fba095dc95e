/- Contracts: certificates compared; law SolveFinds. Conditions: those ahead of each theorem. -/
import Derived.Test.YthpngoplkekkaaaGreatSolveT
import Derived.Test.YthpngoplkekkaaaGreatLaw20
namespace Go.Proofs.YthpngoplkekkaaaGreat
open Go Go.Cpl

theorem eqB2s (a b : Int × Int) : eqB [i64 a.1, i64 a.2] [i64 b.1, i64 b.2] = decide (a = b) := by
  obtain ⟨a1, a2⟩ := a; obtain ⟨b1, b2⟩ := b
  rw [Bool.eq_iff_iff]
  simp [eqB]

theorem eqB8 (a b : Nd) : eqB [i64 a.kind, i64 a.var, i64 a.set, i64 a.brk.rule, i64 a.brk.tenant, i64 a.brk.other, i64 a.brk.cell, i64 a.brk.region] [i64 b.kind, i64 b.var, i64 b.set, i64 b.brk.rule, i64 b.brk.tenant, i64 b.brk.other, i64 b.brk.cell, i64 b.brk.region] = decide (a = b) := by
  obtain ⟨a1, a2, a3, a4, a5, a6, a7, a8⟩ := a; obtain ⟨b1, b2, b3, b4, b5, b6, b7, b8⟩ := b
  rw [Bool.eq_iff_iff]
  simp [eqB]

theorem samePl_c (a b : List (Int × Int)) (ha : a.length ≤ 1000000) : CallsH Tryz.prog 36 [.c (.d (.sl (r2 a))), .c (.d (.sl (r2 b)))] [] (B (decide (a = b))) [] := by
  refine callsR_of tab mixed Tryz.func36 rfl (by decide) rfl rfl ?_
  conv => whnf
  have hla := r2_len a
  have hlb := r2_len b
  refine spNe (fun h => ?_) (fun h => ?_) <;> conv => whnf
  · refine ⟨[], rfl, ?_, trivial⟩
    have : a ≠ b := fun e => h (by rw [e])
    simp [mtV, Cpl.valOf, mtC, eqD, this]
  have hab : a.length = b.length := by omega
  refine loopN tab mixed (fun i => i ≤ a.length ∧ a.take i = b.take i) a.length (fun i => [(5, I i)]) (fun _ => []) 51 [] ⟨by omega, by simp⟩ ?_
  conv => whnf
  refine ⟨?_, fun i ⟨hi, hj⟩ => ?_⟩
  · repeat' (first | exact trivial | rfl | refine And.intro ?_ ?_)
    all_goals (conv => whnf)
    repeat' (first | exact trivial | rfl | refine And.intro ?_ ?_)
  conv => whnf
  refine spD (fun h => ?_) (fun h => ?_) <;> conv => whnf
  · have hi' : i < a.length := by omega
    obtain ⟨x, hx⟩ := get_of hi'
    obtain ⟨y, hy⟩ := get_of (l := b) (i := i) (by omega)
    refine ⟨by kernel_rfl, ?_⟩
    conv => whnf
    refine ⟨by omega, _, r2_get hx, ?_⟩
    conv => whnf
    refine ⟨by omega, _, r2_get hy, ?_⟩
    conv => whnf
    refine ⟨by kernel_rfl, ?_⟩
    conv => whnf
    rw [show eqB _ _ = _ from eqB2s x y]
    refine spN (fun hp => ?_) (fun hp => ?_) <;> conv => whnf
    · refine ⟨[], rfl, ?_, trivial⟩
      have : a ≠ b := fun e => hp (by rw [e, hy] at hx; simpa using hx.symm)
      simp [mtV, Cpl.valOf, mtC, eqD, this]
    · refine gv (by first | omega | (simp only []; omega) | (simp; omega)) (by first | omega | (simp only []; omega) | (simp; omega)) ?_
      conv => whnf
      refine ⟨⟨hi', hi', ?_⟩, [], ?_⟩
      · rw [take_succ_of hx, take_succ_of hy, hj, hp]
      · repeat' (first | exact trivial | rfl | refine And.intro ?_ ?_)
        all_goals (conv => whnf)
        repeat' (first | exact trivial | rfl | refine And.intro ?_ ?_)
  · refine ⟨[], rfl, ?_, trivial⟩
    have hi' : i = a.length := by omega
    rw [hi', List.take_length, hab, List.take_length] at hj
    simp [mtV, Cpl.valOf, mtC, eqD, hj]

theorem same19_c (pa pb : List (Int × Int)) (a b : List Nd) (hpa : pa.length ≤ 1000000) (ha : a.length ≤ 1000000) : CallsH Tryz.prog 30 [certV pa a, certV pb b] [] (B (decide (pa = pb ∧ a = b))) [] := by
  refine callsR_of tab mixed Tryz.func30 rfl (by decide) rfl rfl ?_
  conv => whnf
  have hla := rN_len a
  have hlb := rN_len b
  refine ⟨_, _, samePl_c pa pb hpa, ?_⟩
  conv => whnf
  refine spN (fun hp => ?_) (fun hp => ?_) <;> conv => whnf
  · refine ⟨[], rfl, ?_, trivial⟩
    simp [mtV, Cpl.valOf, mtC, eqD, hp]
  refine spNe (fun h => ?_) (fun h => ?_) <;> conv => whnf
  · refine ⟨[], rfl, ?_, trivial⟩
    have : a ≠ b := fun e => h (by rw [e])
    simp [mtV, Cpl.valOf, mtC, eqD, this]
  have hab : a.length = b.length := by omega
  refine loopN tab mixed (fun i => i ≤ a.length ∧ a.take i = b.take i) a.length (fun i => [(5, I i)]) (fun _ => []) 51 [] ⟨by omega, by simp⟩ ?_
  conv => whnf
  refine ⟨?_, fun i ⟨hi, hj⟩ => ?_⟩
  · repeat' (first | exact trivial | rfl | refine And.intro ?_ ?_)
    all_goals (conv => whnf)
    repeat' (first | exact trivial | rfl | refine And.intro ?_ ?_)
  conv => whnf
  refine spD (fun h => ?_) (fun h => ?_) <;> conv => whnf
  · have hi' : i < a.length := by omega
    obtain ⟨x, hx⟩ := get_of hi'
    obtain ⟨y, hy⟩ := get_of (l := b) (i := i) (by omega)
    refine ⟨by kernel_rfl, ?_⟩
    conv => whnf
    refine ⟨by omega, _, rN_get hx, ?_⟩
    conv => whnf
    refine ⟨by omega, _, rN_get hy, ?_⟩
    conv => whnf
    refine ⟨by kernel_rfl, ?_⟩
    conv => whnf
    rw [show eqB _ _ = _ from eqB8 x y]
    refine spN (fun hp => ?_) (fun hp => ?_) <;> conv => whnf
    · refine ⟨[], rfl, ?_, trivial⟩
      have : a ≠ b := fun e => hp (by rw [e, hy] at hx; simpa using hx.symm)
      simp [mtV, Cpl.valOf, mtC, eqD, this]
    · refine gv (by first | omega | (simp only []; omega) | (simp; omega)) (by first | omega | (simp only []; omega) | (simp; omega)) ?_
      conv => whnf
      refine ⟨⟨hi', hi', ?_⟩, [], ?_⟩
      · rw [take_succ_of hx, take_succ_of hy, hj, hp]
      · repeat' (first | exact trivial | rfl | refine And.intro ?_ ?_)
        all_goals (conv => whnf)
        repeat' (first | exact trivial | rfl | refine And.intro ?_ ?_)
  · refine ⟨[], rfl, ?_, trivial⟩
    have hi' : i = a.length := by omega
    rw [hi', List.take_length, hab, List.take_length] at hj
    simp [mtV, Cpl.valOf, mtC, eqD, hj, hp]

theorem find_len {c : Cfg} (u : Int) (hd : Bool) (hv : valid5 c = 0) : (findP (findL c u hd)).length ≤ 1000000 ∧ TreeOK (findT (findL c u hd)) := by
  have hF : findL c u hd = runN c u hd (vars c).length (openL c.tenants.length) [] 0 := by unfold findL; rw [if_pos hv]
  have hok := runN_ok u hd (vars c).length (openL c.tenants.length) [] 0 (fit_openL hv) (by omega)
  rw [← hF] at hok
  refine ⟨?_, ?_⟩
  · have hg := good_of hv
    have := hg.tenants
    have := hok.fit.len
    unfold findP
    split
    · omega
    · simp
  · by_cases h2 : (findL c u hd).code = 2
    · rw [show findT (findL c u hd) = [] by simp [findT, h2]]; exact treeOK_nil
    · exact (find_cert u hd hv h2).2.1

theorem solveFinds_c (l : List Int) (cells : Int) (hd : Bool) : CallsH Tryz.prog 7 [.c (.d (.sl (r1 l))), I cells, B hd] [] (B true) [] := by
  obtain ⟨c, u, hm, hprob⟩ := problem_c l cells hd
  have hv := hm.valid5
  obtain ⟨h1, h2⟩ := find_len u hd hv
  refine callsR_of tab mixed Tryz.func7 rfl (by decide) rfl rfl ?_
  conv => whnf
  refine ⟨_, _, light_c l, ?_⟩
  conv => whnf
  refine spN (fun h => ?_) (fun h => ?_) <;> conv => whnf
  · refine ⟨_, _, awake20_c, ?_⟩
    conv => whnf
    exact ⟨[], rfl, rfl, trivial⟩
  refine ⟨_, _, hprob, ?_⟩
  conv => whnf
  refine ⟨_, _, find_c c u hd hm.t12, ?_⟩
  conv => whnf
  refine ⟨_, _, refFind_c c u hd, ?_⟩
  conv => whnf
  refine ⟨_, _, awake20_c, ?_⟩
  conv => whnf
  refine ⟨fun _ => ?_, fun h => (by cases h)⟩
  conv => whnf
  refine ⟨_, _, same19_c _ _ _ _ h1 h2.1, ?_⟩
  conv => whnf
  refine spTrue (by simp) ?_
  conv => whnf
  exact ⟨[], rfl, by simp [mtV, Cpl.valOf, mtC, eqD], trivial⟩

end Go.Proofs.YthpngoplkekkaaaGreat
