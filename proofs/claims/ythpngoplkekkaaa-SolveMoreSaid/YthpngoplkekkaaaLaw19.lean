/- Contracts: laws of chapter 19 return true at every input. No conditions. -/
import Derived.Test.YthpngoplkekkaaaCertF
namespace Go.Proofs.Ythpngoplkekkaaa
open Go Go.Cpl

theorem Made.fit19 {c : Cfg} (hm : Made c) (more : List Int) : Fit c (pl more c c.tenants.length) := by
  have := hm.cells
  have := hm.zones
  have := hm.regions
  exact ⟨hm.valid5, pl_len more c _, pl_rng more c (by omega) _⟩

theorem Made.places19 {c : Cfg} (hm : Made c) (more : List Int) : CallsH Try.prog 10 [.c (.d (.sl (r1 more))), cfgV c] [] (plV (pl more c c.tenants.length)) [] := by
  have := hm.cells
  have := hm.zones
  have := hm.regions
  have := hm.tenants
  exact (mkPlaces_c more c hm.laid (by omega) (by omega)).frozen

def oneC (n : Int) : Cfg := ⟨1, [0], [(0, 9)], [⟨n, 0, 0, 0, 1, 0, false⟩], [(0, 0)], [0], [0], 1, 5, 0⟩

theorem one19_c (n : Int) : CallsH Try.prog 17 [I n] [] (probV (oneC n) 1 false) [] := by
  refine callsR_of tab mixed Try.func17 rfl (by decide) rfl rfl ?_
  conv => whnf
  refine ⟨[], rfl, ?_⟩
  repeat' (first | exact trivial | rfl | refine And.intro ?_ ?_)
  all_goals (conv => whnf)
  repeat' (first | exact trivial | rfl | refine And.intro ?_ ?_)

def nd1 : Nd := ⟨3, 0, 1, brk0⟩

theorem treeOK_nil : TreeOK [] := ⟨by simp, by simp⟩

theorem treeOK_nd1 : TreeOK [nd1] := ⟨by simp, by simp [nd1]⟩

theorem awake19_c : CallsH Try.prog 8 [] [] (B true) [] := by
  have e1 := check19_c (oneC 9) 1 false [(0, -1)] [] treeOK_nil
  rw [show (feasible (oneC 9) 1 false [(0, -1)] [] || refuted (oneC 9) 1 false [(0, -1)] []) = true by decide +kernel] at e1
  have e2 := check19_c (oneC 10) 1 false [(0, -1)] [] treeOK_nil
  rw [show (feasible (oneC 10) 1 false [(0, -1)] [] || refuted (oneC 10) 1 false [(0, -1)] []) = false by decide +kernel] at e2
  have e3 := refuted_c (oneC 10) 1 false [] [nd1] treeOK_nd1
  rw [show refuted (oneC 10) 1 false [] [nd1] = true by decide +kernel] at e3
  have e4 := refuted_c (oneC 9) 1 false [] [nd1] treeOK_nd1
  rw [show refuted (oneC 9) 1 false [] [nd1] = false by decide +kernel] at e4
  have e5 := check19_c (oneC 9) 1 false [] [] treeOK_nil
  rw [show (feasible (oneC 9) 1 false [] [] || refuted (oneC 9) 1 false [] []) = false by decide +kernel] at e5
  refine callsR_of tab mixed Try.func8 rfl (by decide) rfl rfl ?_
  conv => whnf
  refine ⟨by kernel_rfl, ?_⟩
  conv => whnf
  refine ⟨_, _, one19_c 9, ?_⟩
  conv => whnf
  refine ⟨_, _, e1, ?_⟩
  conv => whnf
  refine ⟨fun _ => ?_, fun h => by cases h⟩
  conv => whnf
  refine ⟨_, _, one19_c 10, ?_⟩
  conv => whnf
  refine ⟨_, _, e2, ?_⟩
  conv => whnf
  refine ⟨fun _ => ?_, fun h => by cases h⟩
  conv => whnf
  refine ⟨_, _, one19_c 10, ?_⟩
  conv => whnf
  refine ⟨_, _, e3, ?_⟩
  conv => whnf
  refine ⟨fun _ => ?_, fun h => by cases h⟩
  conv => whnf
  refine ⟨_, _, one19_c 9, ?_⟩
  conv => whnf
  refine ⟨_, _, e4, ?_⟩
  conv => whnf
  refine ⟨fun _ => ?_, fun h => by cases h⟩
  conv => whnf
  refine ⟨_, _, one19_c 9, ?_⟩
  conv => whnf
  refine ⟨_, _, e5, ?_⟩
  conv => whnf
  refine ⟨fun _ => ?_, fun h => by cases h⟩
  conv => whnf
  refine ⟨_, _, size_c [] [nd1], ?_⟩
  conv => whnf
  exact ⟨[], rfl, rfl, trivial⟩

set_option maxRecDepth 100000 in
theorem certPlacement_c (l more : List Int) (cells : Int) (hd : Bool) : CallsH Try.prog 3 [.c (.d (.sl (r1 l))), .c (.d (.sl (r1 more))), I cells, B hd] [] (B true) [] := by
  obtain ⟨c, u, hm, hprob⟩ := problem_c l cells hd
  have hf := hm.fit19 more
  have hpl := hm.places19 more
  generalize pl more c c.tenants.length = x at hf hpl
  have hlx := r2_len x
  have e1 : feasible c u hd x [] = (((rB (fullL c u hd x)).length : Int) == 0) := by
    rw [Bool.eq_iff_iff]
    simp only [feasible, decide_eq_true_eq, beq_iff_eq, rB_len]
    constructor
    · rintro ⟨_, _, h3⟩; rw [h3]; rfl
    · intro h3; exact ⟨trivial, hf, List.length_eq_zero_iff.1 (by omega)⟩
  refine callsR_of tab mixed Try.func3 rfl (by decide) rfl rfl ?_
  conv => whnf
  refine ⟨_, _, light_c l, ?_⟩
  conv => whnf
  refine spN (fun h => ?_) (fun h => ?_) <;> conv => whnf
  · refine ⟨_, _, awake19_c, ?_⟩
    conv => whnf
    exact ⟨[], rfl, rfl, trivial⟩
  refine ⟨_, _, light_c more, ?_⟩
  conv => whnf
  refine spN (fun h => ?_) (fun h => ?_) <;> conv => whnf
  · refine ⟨_, _, awake19_c, ?_⟩
    conv => whnf
    exact ⟨[], rfl, rfl, trivial⟩
  refine ⟨_, _, hprob, ?_⟩
  conv => whnf
  refine ⟨_, _, hpl, ?_⟩
  conv => whnf
  refine ⟨by kernel_rfl, ?_⟩
  conv => whnf
  refine ⟨_, _, awake19_c, ?_⟩
  conv => whnf
  refine ⟨fun _ => ?_, fun h => by cases h⟩
  conv => whnf
  refine ⟨_, _, feasible_c c u hd x [], ?_⟩
  conv => whnf
  refine ⟨_, _, full_c c u hd x hf, ?_⟩
  conv => whnf
  rw [e1]
  refine ⟨fun _ => ?_, fun h => by simp at h⟩
  conv => whnf
  refine spE (fun h3 => ?_) (fun h3 => ?_) <;> conv => whnf
  · exact ⟨[], rfl, rfl, trivial⟩
  · have hne : x ≠ [] := fun e => h3 (by rw [e]; rfl)
    refine ⟨_, _, refuted_c c u hd x [] treeOK_nil, ?_⟩
    conv => whnf
    have : refuted c u hd x [] = false := by simp [refuted, hne]
    rw [this]
    exact ⟨[], rfl, rfl, trivial⟩

end Go.Proofs.Ythpngoplkekkaaa
