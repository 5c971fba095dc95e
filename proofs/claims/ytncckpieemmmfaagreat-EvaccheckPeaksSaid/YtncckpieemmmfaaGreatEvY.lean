/- Contract: the checker of plans (evaccheck.Check). Conditions: those ahead of the theorem. -/
import Derived.Test.YtncckpieemmmfaaGreatEvX
namespace Go.Proofs.YtncckpieemmmfaaGreat
open Go Go.Cpl

theorem movedL_len (l : List Stp) : (movedL l).length ≤ l.length := by
  unfold movedL
  have := List.length_filter_le (fun x : Stp => decide (x.kind = 2)) l
  simp only [List.length_map]; omega

set_option maxHeartbeats 4000000 in
set_option maxRecDepth 100000 in
theorem check_c (c : Cfg) (s : St) (r : Int) (steps : List Stp) (left : List Int) (w : WG c) (h : StOk c s) (hl : steps.length ≤ 100000) : CallsH Tryz.prog 15 [cfgV c, stV s, evV r steps left] [] (.tup [.inl (.d (i64 (checkF c s r steps left).1)), .inl (.d (i64 (checkF c s r steps left).2))]) [] := by
  have hb0 := bkd_bd w h
  have l0 := rSt_len steps
  have hC := w.good.cells
  have hT := w.few
  generalize hF : checkF c s r steps left = F
  obtain ⟨fa, fb⟩ := F
  have hno : ∀ {a b : Int}, checkF c s r steps left = (a, b) → fa = a ∧ fb = b := fun e => by rw [hF] at e; cases e; exact ⟨rfl, rfl⟩
  dsimp only
  by_cases hr : 0 ≤ r ∧ r < c.regions
  rotate_left 1
  · obtain ⟨rfl, rfl⟩ := hno (a := 0) (b := 1) (by unfold checkF; rw [if_pos (by omega)])
    refine callsR_of tab mixed Tryz.func15 rfl (by decide) rfl rfl ?_
    conv => whnf
    refine spD (fun q1 => ?_) (fun q1 => ?_) <;> conv => whnf
    · exact ⟨[], rfl, ⟨⟨rfl, rfl⟩, ⟨rfl, rfl⟩, trivial⟩, trivial⟩
    refine spD (fun q2 => ?_) (fun q2 => ?_) <;> conv => whnf
    · exact ⟨[], rfl, ⟨⟨rfl, rfl⟩, ⟨rfl, rfl⟩, trivial⟩, trivial⟩
    · omega
  have hcl := cand_len c s r
  obtain ⟨⟨⟨n, e⟩, ⟨se', bk'⟩⟩, hR⟩ : ∃ R, chk2 c s (cand c s r) steps 0 (sit0 c s) steps = R := ⟨_, rfl⟩
  obtain ⟨hn, hce⟩ := check_eq (left := left) hr hR
  have hll : (leftL c s r steps).length ≤ 12 := by
    have := List.length_filter_le (fun x => !decide (x ∈ movedL steps)) (cand c s r)
    unfold leftL; omega
  have hml := movedL_len steps
  have hrun := runCk_c c s r steps left (cand c s r) w h hl (by omega) seated0 hb0 (by omega) hR
  have hmov := moved_c r steps left hl
  have hdn := delete_none (cand c s r) (movedL steps) (by omega) (by omega)
  have hds := fun j0 x0 => delete_some (cand c s r) (movedL steps) (by omega) (by omega) (j0 := j0) (x0 := x0)
  have hcase := idxI_neg (p := fun y => decide (y ∈ movedL steps)) (cand c s r) 0
  refine callsR_of tab mixed Tryz.func15 rfl (by decide) rfl rfl ?_
  conv => whnf
  refine spD (fun q1 => absurd q1 (by omega)) (fun _ => ?_)
  conv => whnf
  refine spD (fun q1 => absurd q1 (by omega)) (fun _ => ?_)
  conv => whnf
  refine ⟨_, _, candCk_c c s r w h.pre.nt, ?_⟩
  conv => whnf
  refine ⟨_, _, start_c c s w h, ?_⟩
  conv => whnf
  refine ⟨_, _, hrun, ?_⟩
  conv => whnf
  refine spNe (fun q1 => ?_) (fun q1 => ?_) <;> conv => whnf
  · refine ⟨by kernel_rfl, ?_⟩
    conv => whnf
    obtain ⟨rfl, rfl⟩ := hno (by rw [hce, if_pos q1])
    exact ⟨[], rfl, ⟨⟨rfl, rfl⟩, ⟨rfl, rfl⟩, trivial⟩, trivial⟩
  subst q1
  refine spD (fun q2 => ?_) (fun q2 => ?_) <;> conv => whnf
  · obtain ⟨rfl, rfl⟩ := hno (by rw [hce, if_neg (by simp), if_pos (by omega)])
    exact ⟨[], rfl, ⟨⟨rfl, rfl⟩, ⟨rfl, rfl⟩, trivial⟩, trivial⟩
  refine ⟨_, _, hmov, ?_⟩
  conv => whnf
  rcases hcase with ⟨k1, k2⟩ | ⟨j, x0, k1, k2, k3, k4⟩
  · have hL : leftL c s r steps = cand c s r := by
      unfold leftL
      exact List.filter_eq_self.2 fun y hy => by have := k2 y hy; simpa using this
    refine ⟨_, _, hdn k1, ?_⟩
    conv => whnf
    rw [← hL]
    refine ⟨_, _, equal_c (leftL c s r steps) left (by omega), ?_⟩
    conv => whnf
    refine spN (fun q3 => ?_) (fun q3 => ?_) <;> conv => whnf
    · obtain ⟨rfl, rfl⟩ := hno (by rw [hce, if_neg (by simp), if_neg (by omega), if_pos q3])
      exact ⟨[], rfl, ⟨⟨rfl, rfl⟩, ⟨rfl, rfl⟩, trivial⟩, trivial⟩
    rw [if_neg (by simp), if_neg (by omega), if_neg (by simpa using q3)] at hce
    have hll2 : left.length ≤ 12 := by rw [← q3]; exact hll
    have l5 := r1_len left
    refine loopN tab mixed (fun i => i ≤ left.length ∧ ∀ y ∈ left.take i, fitsF c s r steps y = false) left.length (fun i => [(62, I i)]) (fun _ => []) 51 [] ⟨by omega, by simp⟩ ?_
    conv => whnf
    refine ⟨?_, fun i ⟨hi, hJ⟩ => ?_⟩
    · repeat' (first | exact trivial | rfl | refine And.intro ?_ ?_)
      all_goals (conv => whnf)
      repeat' (first | exact trivial | rfl | refine And.intro ?_ ?_)
    conv => whnf
    refine spD (fun q4 => ?_) (fun q4 => ?_) <;> conv => whnf
    · have hi' : i < left.length := by omega
      obtain ⟨y, hy⟩ := get_of hi'
      refine ⟨by omega, _, r1_get hy, ?_⟩
      conv => whnf
      refine ⟨_, _, fits_c c s r y steps left w h hl, ?_⟩
      conv => whnf
      refine ⟨fun q5 => ?_, fun q5 => ?_⟩ <;> conv => whnf
      · have hany : left.any (fitsF c s r steps) = true := List.any_eq_true.2 ⟨y, List.mem_of_getElem? hy, q5⟩
        obtain ⟨rfl, rfl⟩ := hno (by rw [hce, if_pos hany])
        exact ⟨[], rfl, ⟨⟨rfl, rfl⟩, ⟨rfl, rfl⟩, trivial⟩, trivial⟩
      · refine gv (by first | omega | (simp only []; omega) | (simp; omega)) (by first | omega | (simp only []; omega) | (simp; omega)) ?_
        conv => whnf
        refine ⟨⟨hi', hi', fun v hv => ?_⟩, [], ?_⟩
        · rw [take_succ_of hy] at hv
          rcases List.mem_append.1 hv with hv | hv
          · exact hJ v hv
          · rw [List.mem_singleton] at hv; rw [hv]; exact q5
        repeat' (first | exact trivial | rfl | refine And.intro ?_ ?_)
        all_goals (conv => whnf)
        repeat' (first | exact trivial | rfl | refine And.intro ?_ ?_)
    · have hi' : i = left.length := by omega
      rw [hi', List.take_length] at hJ
      have hany : left.any (fitsF c s r steps) = false := List.any_eq_false.2 fun y hy => by rw [hJ y hy]; simp
      obtain ⟨rfl, rfl⟩ := hno (by rw [hce, if_neg (by rw [hany]; simp)])
      exact ⟨[], rfl, ⟨⟨rfl, rfl⟩, ⟨rfl, rfl⟩, trivial⟩, trivial⟩
  · have hd := hds j x0 (by rw [k1]; simp) k2 (by simpa using k3) (fun y hy => by have := k4 y hy; simpa using this)
    have hL : ((cand c s r).filter fun x => !decide (x ∈ movedL steps)) = leftL c s r steps := rfl
    rw [hL] at hd
    have heq := equal_c (leftL c s r steps) left (by omega)
    rw [show r1 (leftL c s r steps) = List.take (leftL c s r steps).length (List.drop 0 (r1 (leftL c s r steps ++ List.replicate ((cand c s r).length - (leftL c s r steps).length) 0))) by simp [r1]] at heq
    refine ⟨_, _, hd, ?_⟩
    conv => whnf
    refine ⟨_, _, heq, ?_⟩
    conv => whnf
    refine spN (fun q3 => ?_) (fun q3 => ?_) <;> conv => whnf
    · obtain ⟨rfl, rfl⟩ := hno (by rw [hce, if_neg (by simp), if_neg (by omega), if_pos q3])
      exact ⟨[], rfl, ⟨⟨rfl, rfl⟩, ⟨rfl, rfl⟩, trivial⟩, trivial⟩
    rw [if_neg (by simp), if_neg (by omega), if_neg (by simpa using q3)] at hce
    have hll2 : left.length ≤ 12 := by rw [← q3]; exact hll
    have l5 := r1_len left
    refine loopN tab mixed (fun i => i ≤ left.length ∧ ∀ y ∈ left.take i, fitsF c s r steps y = false) left.length (fun i => [(62, I i)]) (fun _ => []) 51 [] ⟨by omega, by simp⟩ ?_
    conv => whnf
    refine ⟨?_, fun i ⟨hi, hJ⟩ => ?_⟩
    · repeat' (first | exact trivial | rfl | refine And.intro ?_ ?_)
      all_goals (conv => whnf)
      repeat' (first | exact trivial | rfl | refine And.intro ?_ ?_)
    conv => whnf
    refine spD (fun q4 => ?_) (fun q4 => ?_) <;> conv => whnf
    · have hi' : i < left.length := by omega
      obtain ⟨y, hy⟩ := get_of hi'
      refine ⟨by omega, _, r1_get hy, ?_⟩
      conv => whnf
      refine ⟨_, _, fits_c c s r y steps left w h hl, ?_⟩
      conv => whnf
      refine ⟨fun q5 => ?_, fun q5 => ?_⟩ <;> conv => whnf
      · have hany : left.any (fitsF c s r steps) = true := List.any_eq_true.2 ⟨y, List.mem_of_getElem? hy, q5⟩
        obtain ⟨rfl, rfl⟩ := hno (by rw [hce, if_pos hany])
        exact ⟨[], rfl, ⟨⟨rfl, rfl⟩, ⟨rfl, rfl⟩, trivial⟩, trivial⟩
      · refine gv (by first | omega | (simp only []; omega) | (simp; omega)) (by first | omega | (simp only []; omega) | (simp; omega)) ?_
        conv => whnf
        refine ⟨⟨hi', hi', fun v hv => ?_⟩, [], ?_⟩
        · rw [take_succ_of hy] at hv
          rcases List.mem_append.1 hv with hv | hv
          · exact hJ v hv
          · rw [List.mem_singleton] at hv; rw [hv]; exact q5
        repeat' (first | exact trivial | rfl | refine And.intro ?_ ?_)
        all_goals (conv => whnf)
        repeat' (first | exact trivial | rfl | refine And.intro ?_ ?_)
    · have hi' : i = left.length := by omega
      rw [hi', List.take_length] at hJ
      have hany : left.any (fitsF c s r steps) = false := List.any_eq_false.2 fun y hy => by rw [hJ y hy]; simp
      obtain ⟨rfl, rfl⟩ := hno (by rw [hce, if_neg (by rw [hany]; simp)])
      exact ⟨[], rfl, ⟨⟨rfl, rfl⟩, ⟨rfl, rfl⟩, trivial⟩, trivial⟩

end Go.Proofs.YtncckpieemmmfaaGreat
