/- Contracts: laws of chapter 19 return true at every input. No conditions. -/
import Derived.Test.YthpngoplkekkaaaGreatCertF
namespace Go.Proofs.YthpngoplkekkaaaGreat
open Go Go.Cpl

theorem Made.fit19 {c : Cfg} (hm : Made c) (more : List Int) : Fit c (pl more c c.tenants.length) := by
  have := hm.cells
  have := hm.zones
  have := hm.regions
  exact ⟨hm.valid5, pl_len more c _, pl_rng more c (by omega) _⟩

theorem Made.places19 {c : Cfg} (hm : Made c) (more : List Int) : CallsH Tryz.prog 22 [.c (.d (.sl (r1 more))), cfgV c] [] (plV (pl more c c.tenants.length)) [] := by
  have := hm.cells
  have := hm.zones
  have := hm.regions
  have := hm.tenants
  exact (mkPlaces_c more c hm.laid (by omega) (by omega)).frozen

def oneC (n : Int) : Cfg := ⟨1, [0], [(0, 9)], [⟨n, 0, 0, 0, 1, 0, false⟩], [(0, 0)], [0], [0], 1, 5, 0⟩

theorem one19_c (n : Int) : CallsH Tryz.prog 37 [I n] [] (probV (oneC n) 1 false) [] := by
  refine callsR_of tab mixed Tryz.func37 rfl (by decide) rfl rfl ?_
  conv => whnf
  refine ⟨[], rfl, ?_⟩
  repeat' (first | exact trivial | rfl | refine And.intro ?_ ?_)
  all_goals (conv => whnf)
  repeat' (first | exact trivial | rfl | refine And.intro ?_ ?_)

def nd1 : Nd := ⟨3, 0, 1, brk0⟩

theorem treeOK_nil : TreeOK [] := ⟨by simp, by simp⟩

theorem treeOK_nd1 : TreeOK [nd1] := ⟨by simp, by simp [nd1]⟩

theorem awake19_c : CallsH Tryz.prog 11 [] [] (B true) [] := by
  have e1 := check19_c (oneC 9) 1 false [(0, -1)] [] treeOK_nil
  rw [show (feasible (oneC 9) 1 false [(0, -1)] [] || refuted (oneC 9) 1 false [(0, -1)] []) = true by decide +kernel] at e1
  have e2 := check19_c (oneC 10) 1 false [(0, -1)] [] treeOK_nil
  rw [show (feasible (oneC 10) 1 false [(0, -1)] [] || refuted (oneC 10) 1 false [(0, -1)] []) = false by decide +kernel] at e2
  have e3 := refuted_c (oneC 10) 1 false [] [nd1] treeOK_nd1
  rw [show refuted (oneC 10) 1 false [] [nd1] = true by decide +kernel] at e3
  have e4 := refuted_c (oneC 9) 1 false [] [nd1] treeOK_nd1
  rw [show refuted (oneC 9) 1 false [] [nd1] = false by decide +kernel] at e4
  have e5 := check19_c (oneC 9) 1 false [] [] treeOK_nil
  rw [show (feasible (oneC 9) 1 false [] [] || refuted (oneC 9) 1 false [] []) = false by decide +kernel] at e5
  refine callsR_of tab mixed Tryz.func11 rfl (by decide) rfl rfl ?_
  conv => whnf
  refine ⟨by kernel_rfl, ?_⟩
  conv => whnf
  refine ⟨_, _, one19_c 9, ?_⟩
  conv => whnf
  refine ⟨_, _, e1, ?_⟩
  conv => whnf
  refine ⟨fun _ => ?_, fun h => by cases h⟩
  conv => whnf
  refine ⟨_, _, one19_c 10, ?_⟩
  conv => whnf
  refine ⟨_, _, e2, ?_⟩
  conv => whnf
  refine ⟨fun _ => ?_, fun h => by cases h⟩
  conv => whnf
  refine ⟨_, _, one19_c 10, ?_⟩
  conv => whnf
  refine ⟨_, _, e3, ?_⟩
  conv => whnf
  refine ⟨fun _ => ?_, fun h => by cases h⟩
  conv => whnf
  refine ⟨_, _, one19_c 9, ?_⟩
  conv => whnf
  refine ⟨_, _, e4, ?_⟩
  conv => whnf
  refine ⟨fun _ => ?_, fun h => by cases h⟩
  conv => whnf
  refine ⟨_, _, one19_c 9, ?_⟩
  conv => whnf
  refine ⟨_, _, e5, ?_⟩
  conv => whnf
  refine ⟨fun _ => ?_, fun h => by cases h⟩
  conv => whnf
  refine ⟨_, _, size_c [] [nd1], ?_⟩
  conv => whnf
  exact ⟨[], rfl, rfl, trivial⟩

end Go.Proofs.YthpngoplkekkaaaGreat
