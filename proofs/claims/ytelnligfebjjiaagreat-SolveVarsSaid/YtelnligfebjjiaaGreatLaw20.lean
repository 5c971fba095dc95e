/- Contracts: laws of chapter 20 return true at every input. No conditions. -/
import Derived.Test.YtelnligfebjjiaaGreatSolveL
import Derived.Test.YtelnligfebjjiaaGreatLaw19
namespace Go.Proofs.YtelnligfebjjiaaGreat
open Go Go.Cpl

theorem one20_c (n : Int) : CallsH Tryz.prog 54 [I n] [] (probV (oneC n) 1 false) [] := by
  refine callsR_of tab mixed Tryz.func54 rfl (by decide) rfl rfl ?_
  conv => whnf
  refine ⟨[], rfl, ?_⟩
  repeat' (first | exact trivial | rfl | refine And.intro ?_ ?_)
  all_goals (conv => whnf)
  repeat' (first | exact trivial | rfl | refine And.intro ?_ ?_)

def cfg0 : Cfg := ⟨0, [], [], [], [], [], [], 0, 0, 0⟩

set_option maxRecDepth 100000 in
theorem awake20_c : CallsH Tryz.prog 27 [] [] (B true) [] := by
  have e1 : CallsH Tryz.prog 28 [probV (oneC 9) 1 false] [] (.tup [.inr [.d (.sl [[i64 0, i64 (-1)]]), .d (.sl [])], .inl (.d (i64 0))]) [] := by
    have h := find_c (oneC 9) 1 false (by decide)
    rw [show findL (oneC 9) 1 false = ⟨0, [(0, -1)], [⟨1, 0, 0, brk0⟩], 2⟩ by kernel_rfl] at h
    exact h
  have e2 : CallsH Tryz.prog 28 [probV (oneC 10) 1 false] [] (.tup [.inr [.d (.sl []), .d (.sl [[i64 3, i64 0, i64 1, i64 0, i64 0, i64 0, i64 0, i64 0]])], .inl (.d (i64 0))]) [] := by
    have h := find_c (oneC 10) 1 false (by decide)
    rw [show findL (oneC 10) 1 false = ⟨1, [(-1, -1)], [nd1], 1⟩ by kernel_rfl] at h
    exact h
  have e3 : CallsH Tryz.prog 28 [probV cfg0 0 false] [] (.tup [.inr [.d (.sl []), .d (.sl [])], .inl (.d (i64 1))]) [] := by
    have h := find_c cfg0 0 false (by decide)
    rw [show findL cfg0 0 false = ⟨3, [], [], 0⟩ by kernel_rfl] at h
    exact h
  refine callsR_of tab mixed Tryz.func27 rfl (by decide) rfl rfl ?_
  conv => whnf
  refine ⟨_, _, one20_c 9, ?_⟩
  conv => whnf
  refine ⟨_, _, e1, ?_⟩
  conv => whnf
  refine ⟨_, _, one20_c 10, ?_⟩
  conv => whnf
  refine ⟨_, _, e2, ?_⟩
  conv => whnf
  refine ⟨_, _, e3, ?_⟩
  conv => whnf
  refine ⟨fun _ => ?_, fun h => (by cases h)⟩
  conv => whnf
  refine ⟨fun _ => ?_, fun h => (by cases h)⟩
  conv => whnf
  refine ⟨by decide, _, rfl, ?_⟩
  conv => whnf
  refine ⟨by kernel_rfl, fun _ => ?_, fun h => (by cases h)⟩
  conv => whnf
  refine ⟨fun _ => ?_, fun h => (by cases h)⟩
  conv => whnf
  refine ⟨fun _ => ?_, fun h => (by cases h)⟩
  conv => whnf
  refine ⟨by decide, _, rfl, ?_⟩
  conv => whnf
  refine ⟨by kernel_rfl, fun _ => ?_, fun h => (by cases h)⟩
  conv => whnf
  exact ⟨[], rfl, rfl, trivial⟩

theorem spTrue {b : Bool} (hb : b = true) {A C : Prop} (h : A) : (b = true → A) ∧ (b = false → C) := ⟨fun _ => h, fun h => by rw [hb] at h; cases h⟩

theorem Made.t12 {c : Cfg} (hm : Made c) : c.tenants.length ≤ 12 := by have := hm.tenants; omega

end Go.Proofs.YtelnligfebjjiaaGreat
