/- Contracts: certificates compared; law SolveFinds. Conditions: those ahead of each theorem. -/
import Derived.Test.YtelnligfebjjiaaGreatSolveT
import Derived.Test.YtelnligfebjjiaaGreatLaw20
namespace Go.Proofs.YtelnligfebjjiaaGreat
open Go Go.Cpl

theorem eqB2s (a b : Int × Int) : eqB [i64 a.1, i64 a.2] [i64 b.1, i64 b.2] = decide (a = b) := by
  obtain ⟨a1, a2⟩ := a; obtain ⟨b1, b2⟩ := b
  rw [Bool.eq_iff_iff]
  simp [eqB]

theorem samePl_c (a b : List (Int × Int)) (ha : a.length ≤ 1000000) : CallsH Tryz.prog 36 [.c (.d (.sl (r2 a))), .c (.d (.sl (r2 b)))] [] (B (decide (a = b))) [] := by
  refine callsR_of tab mixed Tryz.func36 rfl (by decide) rfl rfl ?_
  conv => whnf
  have hla := r2_len a
  have hlb := r2_len b
  refine spNe (fun h => ?_) (fun h => ?_) <;> conv => whnf
  · refine ⟨[], rfl, ?_, trivial⟩
    have : a ≠ b := fun e => h (by rw [e])
    simp [mtV, Cpl.valOf, mtC, eqD, this]
  have hab : a.length = b.length := by omega
  refine loopN tab mixed (fun i => i ≤ a.length ∧ a.take i = b.take i) a.length (fun i => [(5, I i)]) (fun _ => []) 51 [] ⟨by omega, by simp⟩ ?_
  conv => whnf
  refine ⟨?_, fun i ⟨hi, hj⟩ => ?_⟩
  · repeat' (first | exact trivial | rfl | refine And.intro ?_ ?_)
    all_goals (conv => whnf)
    repeat' (first | exact trivial | rfl | refine And.intro ?_ ?_)
  conv => whnf
  refine spD (fun h => ?_) (fun h => ?_) <;> conv => whnf
  · have hi' : i < a.length := by omega
    obtain ⟨x, hx⟩ := get_of hi'
    obtain ⟨y, hy⟩ := get_of (l := b) (i := i) (by omega)
    refine ⟨by kernel_rfl, ?_⟩
    conv => whnf
    refine ⟨by omega, _, r2_get hx, ?_⟩
    conv => whnf
    refine ⟨by omega, _, r2_get hy, ?_⟩
    conv => whnf
    refine ⟨by kernel_rfl, ?_⟩
    conv => whnf
    rw [show eqB _ _ = _ from eqB2s x y]
    refine spN (fun hp => ?_) (fun hp => ?_) <;> conv => whnf
    · refine ⟨[], rfl, ?_, trivial⟩
      have : a ≠ b := fun e => hp (by rw [e, hy] at hx; simpa using hx.symm)
      simp [mtV, Cpl.valOf, mtC, eqD, this]
    · refine gv (by first | omega | (simp only []; omega) | (simp; omega)) (by first | omega | (simp only []; omega) | (simp; omega)) ?_
      conv => whnf
      refine ⟨⟨hi', hi', ?_⟩, [], ?_⟩
      · rw [take_succ_of hx, take_succ_of hy, hj, hp]
      · repeat' (first | exact trivial | rfl | refine And.intro ?_ ?_)
        all_goals (conv => whnf)
        repeat' (first | exact trivial | rfl | refine And.intro ?_ ?_)
  · refine ⟨[], rfl, ?_, trivial⟩
    have hi' : i = a.length := by omega
    rw [hi', List.take_length, hab, List.take_length] at hj
    simp [mtV, Cpl.valOf, mtC, eqD, hj]

theorem find_len {c : Cfg} (u : Int) (hd : Bool) (hv : valid5 c = 0) : (findP (findL c u hd)).length ≤ 1000000 ∧ TreeOK (findT (findL c u hd)) := by
  have hF : findL c u hd = runN c u hd (vars c).length (openL c.tenants.length) [] 0 := by unfold findL; rw [if_pos hv]
  have hok := runN_ok u hd (vars c).length (openL c.tenants.length) [] 0 (fit_openL hv) (by omega)
  rw [← hF] at hok
  refine ⟨?_, ?_⟩
  · have hg := good_of hv
    have := hg.tenants
    have := hok.fit.len
    unfold findP
    split
    · omega
    · simp
  · by_cases h2 : (findL c u hd).code = 2
    · rw [show findT (findL c u hd) = [] by simp [findT, h2]]; exact treeOK_nil
    · exact (find_cert u hd hv h2).2.1

end Go.Proofs.YtelnligfebjjiaaGreat
