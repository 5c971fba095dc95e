/- Contracts: laws of chapter 20 return true at every input. No conditions. -/
import Derived.Test.YthpngoplkekkaaaSolveL
import Derived.Test.YthpngoplkekkaaaLaw19
namespace Go.Proofs.Ythpngoplkekkaaa
open Go Go.Cpl

theorem one20_c (n : Int) : CallsH Try.prog 33 [I n] [] (probV (oneC n) 1 false) [] := by
  refine callsR_of tab mixed Try.func33 rfl (by decide) rfl rfl ?_
  conv => whnf
  refine ⟨[], rfl, ?_⟩
  repeat' (first | exact trivial | rfl | refine And.intro ?_ ?_)
  all_goals (conv => whnf)
  repeat' (first | exact trivial | rfl | refine And.intro ?_ ?_)

def cfg0 : Cfg := ⟨0, [], [], [], [], [], [], 0, 0, 0⟩

set_option maxRecDepth 100000 in
theorem awake20_c : CallsH Try.prog 14 [] [] (B true) [] := by
  have e1 : CallsH Try.prog 15 [probV (oneC 9) 1 false] [] (.tup [.inr [.d (.sl [[i64 0, i64 (-1)]]), .d (.sl [])], .inl (.d (i64 0))]) [] := by
    have h := find_c (oneC 9) 1 false (by decide)
    rw [show findL (oneC 9) 1 false = ⟨0, [(0, -1)], [⟨1, 0, 0, brk0⟩], 2⟩ by kernel_rfl] at h
    exact h
  have e2 : CallsH Try.prog 15 [probV (oneC 10) 1 false] [] (.tup [.inr [.d (.sl []), .d (.sl [[i64 3, i64 0, i64 1, i64 0, i64 0, i64 0, i64 0, i64 0]])], .inl (.d (i64 0))]) [] := by
    have h := find_c (oneC 10) 1 false (by decide)
    rw [show findL (oneC 10) 1 false = ⟨1, [(-1, -1)], [nd1], 1⟩ by kernel_rfl] at h
    exact h
  have e3 : CallsH Try.prog 15 [probV cfg0 0 false] [] (.tup [.inr [.d (.sl []), .d (.sl [])], .inl (.d (i64 1))]) [] := by
    have h := find_c cfg0 0 false (by decide)
    rw [show findL cfg0 0 false = ⟨3, [], [], 0⟩ by kernel_rfl] at h
    exact h
  refine callsR_of tab mixed Try.func14 rfl (by decide) rfl rfl ?_
  conv => whnf
  refine ⟨_, _, one20_c 9, ?_⟩
  conv => whnf
  refine ⟨_, _, e1, ?_⟩
  conv => whnf
  refine ⟨_, _, one20_c 10, ?_⟩
  conv => whnf
  refine ⟨_, _, e2, ?_⟩
  conv => whnf
  refine ⟨_, _, e3, ?_⟩
  conv => whnf
  refine ⟨fun _ => ?_, fun h => (by cases h)⟩
  conv => whnf
  refine ⟨fun _ => ?_, fun h => (by cases h)⟩
  conv => whnf
  refine ⟨by decide, _, rfl, ?_⟩
  conv => whnf
  refine ⟨by kernel_rfl, fun _ => ?_, fun h => (by cases h)⟩
  conv => whnf
  refine ⟨fun _ => ?_, fun h => (by cases h)⟩
  conv => whnf
  refine ⟨fun _ => ?_, fun h => (by cases h)⟩
  conv => whnf
  refine ⟨by decide, _, rfl, ?_⟩
  conv => whnf
  refine ⟨by kernel_rfl, fun _ => ?_, fun h => (by cases h)⟩
  conv => whnf
  exact ⟨[], rfl, rfl, trivial⟩

theorem r2_nil {l : List (Int × Int)} : (((r2 l).length : Int) == 0) = decide (l = []) := by
  rw [r2_len]; cases l <;> simp <;> omega

theorem rN_nil {l : List Nd} : (((rN l).length : Int) == 0) = decide (l = []) := by
  rw [rN_len]; cases l <;> simp <;> omega

theorem spTrue {b : Bool} (hb : b = true) {A C : Prop} (h : A) : (b = true → A) ∧ (b = false → C) := ⟨fun _ => h, fun h => by rw [hb] at h; cases h⟩

theorem spFalse {b : Bool} (hb : b = false) {A C : Prop} (h : C) : (b = true → A) ∧ (b = false → C) := ⟨fun h => (by rw [hb] at h; cases h), fun _ => h⟩

theorem Made.t12 {c : Cfg} (hm : Made c) : c.tenants.length ≤ 12 := by have := hm.tenants; omega

theorem findE_ne {c : Cfg} {u : Int} {hd : Bool} (hv : valid5 c = 0) : (findE (findL c u hd) = 0 ∧ (findL c u hd).code ≠ 2) ∨ (findE (findL c u hd) = 2 ∧ (findL c u hd).code = 2) := by
  have hF : findL c u hd = runN c u hd (vars c).length (openL c.tenants.length) [] 0 := by unfold findL; rw [if_pos hv]
  have hok := runN_ok u hd (vars c).length (openL c.tenants.length) [] 0 (fit_openL hv) (by omega)
  rw [← hF] at hok
  unfold findE
  rcases hok.code with h | h | h <;> simp [h]

set_option maxRecDepth 100000 in
theorem solveCertified_c (l : List Int) (cells : Int) (hd : Bool) : CallsH Try.prog 5 [.c (.d (.sl (r1 l))), I cells, B hd] [] (B true) [] := by
  obtain ⟨c, u, hm, hprob⟩ := problem_c l cells hd
  have hv := hm.valid5
  refine callsR_of tab mixed Try.func5 rfl (by decide) rfl rfl ?_
  conv => whnf
  refine ⟨_, _, light_c l, ?_⟩
  conv => whnf
  refine spN (fun h => ?_) (fun h => ?_) <;> conv => whnf
  · refine ⟨_, _, awake20_c, ?_⟩
    conv => whnf
    exact ⟨[], rfl, rfl, trivial⟩
  refine ⟨_, _, hprob, ?_⟩
  conv => whnf
  refine ⟨_, _, find_c c u hd hm.t12, ?_⟩
  conv => whnf
  rcases findE_ne (u := u) (hd := hd) hv with ⟨he, hcode⟩ | ⟨he, hcode⟩
  · rw [he]
    refine spNe (fun h => absurd rfl h) (fun _ => ?_)
    conv => whnf
    obtain ⟨h1, h2, h3, _⟩ := find_cert u hd hv hcode
    refine ⟨_, _, awake20_c, ?_⟩
    conv => whnf
    refine ⟨fun _ => ?_, fun h => (by cases h)⟩
    conv => whnf
    refine ⟨_, _, check19_c c u hd _ _ h2, ?_⟩
    conv => whnf
    refine spTrue h1 ?_
    conv => whnf
    rcases h3 with h3 | h3
    · refine ⟨fun _ => ?_, fun _ => ?_⟩ <;> conv => whnf
      · exact ⟨[], rfl, rfl, trivial⟩
      · refine ⟨[], rfl, ?_, trivial⟩
        rw [show findT (findL c u hd) = [] by simp [findT, h3]]
        rfl
    · have hP : findP (findL c u hd) = [] := by simp [findP, h3]
      rw [hP]
      refine ⟨fun _ => ?_, fun h => (by cases h)⟩
      conv => whnf
      exact ⟨[], rfl, rfl, trivial⟩
  · rw [he]
    have hP : findP (findL c u hd) = [] := by simp [findP, hcode]
    have hT : findT (findL c u hd) = [] := by simp [findT, hcode]
    rw [hP, hT]
    refine spNe (fun _ => ?_) (fun h => absurd h (by decide))
    conv => whnf
    refine ⟨_, _, awake20_c, ?_⟩
    conv => whnf
    refine ⟨fun _ => ?_, fun h => (by cases h)⟩
    conv => whnf
    refine ⟨fun _ => ?_, fun h => (by cases h)⟩
    conv => whnf
    refine ⟨fun _ => ?_, fun h => (by cases h)⟩
    conv => whnf
    exact ⟨[], rfl, rfl, trivial⟩

theorem find_feas {c : Cfg} {u : Int} {hd : Bool} {y : List (Int × Int)} (hy : Fit c y) (hfull : fullL c u hd y = []) (hcode : (findL c u hd).code ≠ 2) : feasible c u hd (findP (findL c u hd)) (findT (findL c u hd)) = true := by
  obtain ⟨_, _, h3, h4⟩ := find_cert u hd hy.val hcode
  have := find_complete hy hfull
  exact h4 (by omega)

set_option maxRecDepth 100000 in
theorem solveComplete_c (l more : List Int) (cells : Int) (hd : Bool) : CallsH Try.prog 6 [.c (.d (.sl (r1 l))), .c (.d (.sl (r1 more))), I cells, B hd] [] (B true) [] := by
  obtain ⟨c, u, hm, hprob⟩ := problem_c l cells hd
  have hv := hm.valid5
  have hf := hm.fit19 more
  have hpl := hm.places19 more
  generalize pl more c c.tenants.length = x at hf hpl
  refine callsR_of tab mixed Try.func6 rfl (by decide) rfl rfl ?_
  conv => whnf
  refine ⟨_, _, light_c l, ?_⟩
  conv => whnf
  refine spN (fun h => ?_) (fun h => ?_) <;> conv => whnf
  · refine ⟨_, _, awake20_c, ?_⟩
    conv => whnf
    exact ⟨[], rfl, rfl, trivial⟩
  refine ⟨_, _, light_c more, ?_⟩
  conv => whnf
  refine spN (fun h => ?_) (fun h => ?_) <;> conv => whnf
  · refine ⟨_, _, awake20_c, ?_⟩
    conv => whnf
    exact ⟨[], rfl, rfl, trivial⟩
  refine ⟨_, _, hprob, ?_⟩
  conv => whnf
  refine ⟨_, _, hpl, ?_⟩
  conv => whnf
  refine ⟨_, _, full_c c u hd x hf, ?_⟩
  conv => whnf
  refine spD (fun h3 => ?_) (fun h3 => ?_) <;> conv => whnf
  · refine ⟨_, _, awake20_c, ?_⟩
    conv => whnf
    exact ⟨[], rfl, rfl, trivial⟩
  have hfull : fullL c u hd x = [] := by
    rw [rB_len] at h3
    exact List.length_eq_zero_iff.1 (by omega)
  refine ⟨_, _, find_c c u hd hm.t12, ?_⟩
  conv => whnf
  refine ⟨_, _, awake20_c, ?_⟩
  conv => whnf
  refine ⟨fun _ => ?_, fun h => (by cases h)⟩
  conv => whnf
  rcases findE_ne (u := u) (hd := hd) hv with ⟨he, hcode⟩ | ⟨he, hcode⟩
  · rw [he]
    refine ⟨fun h => (by cases h), fun _ => ?_⟩
    conv => whnf
    refine ⟨fun _ => ?_, fun h => (by cases h)⟩
    conv => whnf
    refine ⟨_, _, feasible_c c u hd _ _, ?_⟩
    conv => whnf
    rw [find_feas hf hfull hcode]
    exact ⟨[], rfl, rfl, trivial⟩
  · rw [he]
    refine ⟨fun _ => ?_, fun h => (by cases h)⟩
    conv => whnf
    exact ⟨[], rfl, rfl, trivial⟩

end Go.Proofs.Ythpngoplkekkaaa
