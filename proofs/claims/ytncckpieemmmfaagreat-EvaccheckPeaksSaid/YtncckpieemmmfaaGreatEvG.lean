/- Contract: the plan that is made (evacplan.Make). Conditions: those ahead of each theorem. -/
import Derived.Test.YtncckpieemmmfaaGreatEvE
import Derived.Test.YtncckpieemmmfaaGreatEvF
namespace Go.Proofs.YtncckpieemmmfaaGreat
open Go Go.Cpl

theorem takePl_yes (c : Cfg) (s : St) {b : Int} {se se' : List Seat} {bk bk' : List Int} {kind ten cell : Int} (w : WG c) (hn : s.cs.length = c.cells.length) (h : Sz c b se bk) (hb : b ≤ 999999999000000) (hq : takeF c s ⟨se, bk⟩ ⟨kind, ten, cell⟩ = some ⟨se', bk'⟩) :
    CallsH Tryz.prog 35 [.c (.ptr 0 0 0), .agg [.d (i64 kind), .d (i64 ten), .d (i64 cell)]] (sitH c s 138 se bk) (B true) (sitH c s 138 se' bk') := by
  obtain ⟨p', e, hc⟩ := takePl_c c s ⟨kind, ten, cell⟩ w hn h hb
  rw [hq] at e hc
  subst e
  exact hc

theorem steps_in {c : Cfg} {s : St} {b : Int} {p : Sit} {x : Int} (w : WG c) (hn : s.cs.length = c.cells.length) (h : Sz c b p.seats p.bk) (hx : 0 ≤ x ∧ x < p.seats.length) : CallsH Tryz.prog 34 [.c (.ptr 0 0 0), I x] (sitH c s 138 p.seats p.bk) (.c (.gs 3)) (sitH c s 138 p.seats p.bk ++ [.arr 60 (rSt (stepsF c s p x))]) := steps_c c s x w hn h hx

/-- between rounds -/
structure MO (c : Cfg) (s : St) (r : Int) where
  steps : List Stp
  left : List Int
  se : List Seat
  bk : List Int
  inv : PI c s r steps left ⟨se, bk⟩

/-- within a round -/
structure MI (c : Cfg) (s : St) (r : Int) (L : List Int) where
  i : Nat
  steps : List Stp
  left : List Int
  se : List Seat
  bk : List Int
  hi : i ≤ L.length
  hl : left.length ≤ i
  inv : PI c s r steps (left ++ L.drop i) ⟨se, bk⟩
  no : left.length = i → left = L.take i ∧ ∀ x ∈ left, stepsF c s ⟨se, bk⟩ x = []

/-- within the steps of one tenant -/
structure MS (c : Cfg) (s : St) (p0 : Sit) (l : List Stp) where
  j : Nat
  se : List Seat
  bk : List Int
  hj : j ≤ l.length
  h : runF c s p0 (l.take j) = some ⟨se, bk⟩

def RMake (c : Cfg) (s : St) (r : Int) (res : AV) (hout : List HObj) : Prop := ∃ steps left p, res = .tup [.inr [.d (i64 r), .d (.sl (rSt steps)), .d (.sl (r1 left))], .inl (.d (i64 0))] ∧ hout = [] ∧ MadePlan c s r steps left p

set_option maxHeartbeats 4000000 in
set_option maxRecDepth 100000 in
theorem makePl_q (c : Cfg) (s : St) (r : Int) (w : WG c) (h : StOk c s) (hr : 0 ≤ r ∧ r < c.regions) : ExH Tryz.prog 13 [cfgV c, stV s, I r] [] (RMake c s r) := by
  have hn := h.pre.nc
  have hT := w.few
  have hcl := cand_len c s r
  have hb0 := bkd_bd w h
  refine callsE_of tab mixed noRel Tryz.func13 rfl (by decide) rfl rfl ?_
  conv => whnf
  refine spD (fun q => absurd q (by omega)) (fun _ => ?_)
  conv => whnf
  refine spD (fun q => absurd q (by omega)) (fun _ => ?_)
  conv => whnf
  refine ⟨_, _, begin_c c s w h, ?_⟩
  conv => whnf
  refine ⟨_, _, candPl_c c s r w h.pre.nt, ?_⟩
  conv => whnf
  refine loopE tab mixed noRel (ι := MO c s r) (fun k => [(32, .top), (33, .top)]) (fun k => [(4, .arr 138 (rSe k.se)), (5, .arr 3 (r1 k.bk)), (7, .box [.d (i64 r), .gs 50, .gs 6]), (50, .arr 60 (rSt k.steps)), (6, .arr 3 (r1 k.left))]) 51 (fun k => k.left.length) ⟨[], cand c s r, s.ts.map seatOf, bkd c s.ts, pi_nil h r⟩ [(4, some 4), (5, some 5), (7, some 7), (50, none), (6, some 6)] ?_
  conv => whnf
  refine ⟨?_, fun k => ?_⟩
  · repeat' (first | exact trivial | rfl | refine And.intro ?_ ?_)
    all_goals (conv => whnf)
    repeat' (first | exact trivial | rfl | refine And.intro ?_ ?_)
  obtain ⟨steps0, L, se0, bk0, inv0⟩ := k
  have l1 := r1_len L
  have hL0 := inv0.len
  dsimp only
  conv => whnf
  refine loopE tab mixed noRel (ι := MI c s r L) (fun k => [(37, I k.i), (10, .c (.gs 60))]) (fun k => [(4, .arr 138 (rSe k.se)), (5, .arr 3 (r1 k.bk)), (7, .box [.d (i64 r), .gs 50, .gs 6]), (50, .arr 60 (rSt k.steps)), (60, .arr 3 (r1 k.left))]) 71 (fun k => L.length - k.i) ⟨0, steps0, [], se0, bk0, by omega, by simp, by simpa using inv0, fun _ => ⟨rfl, fun x hx => by cases hx⟩⟩ [(4, some 4), (5, some 5), (7, some 7), (50, some 50), (60, none)] ?_
  conv => whnf
  refine ⟨?_, fun k => ?_⟩
  · repeat' (first | exact trivial | rfl | refine And.intro ?_ ?_)
    all_goals (conv => whnf)
    repeat' (first | exact trivial | rfl | refine And.intro ?_ ?_)
  obtain ⟨i, steps, left, se, bk, hi, hl, inv, no⟩ := k
  have l2 := rSt_len steps
  have l3 := r1_len left
  dsimp only
  conv => whnf
  refine spD (fun q1 => ?_) (fun q1 => ?_) <;> conv => whnf
  · have hi' : i < L.length := by omega
    obtain ⟨x, hx⟩ := get_of hi'
    rw [drop_of hx] at inv
    have hlen := inv.len
    have hsz := inv.sz w hb0
    obtain ⟨⟨se1, bk1⟩, g1, g2, g3, g4, g5⟩ := inv.go w h
    have hsn := hsz.n
    have hcall := steps_in (x := x) w hn hsz (by omega)
    have g6 : stepsF c s ⟨se, bk⟩ x = [] → left.length = i → left ++ [x] = L.take (i + 1) ∧ ∀ y ∈ left ++ [x], stepsF c s ⟨se, bk⟩ y = [] := fun q1 q2 => ⟨by rw [take_succ_of hx, ← (no q2).1], fun y hy => by
      rcases List.mem_append.1 hy with hy | hy
      · exact (no q2).2 y hy
      · rw [List.mem_singleton] at hy; rw [hy]; exact q1⟩
    generalize stepsF c s ⟨se, bk⟩ x = l at *
    have l4 := rSt_len l
    simp only [List.length_append, List.length_cons] at hlen
    refine ⟨by omega, by omega, _, r1_get hx, ?_⟩
    conv => whnf
    refine ⟨_, _, hcall, ?_⟩
    conv => whnf
    refine loopE tab mixed noRel (ι := MS c s ⟨se, bk⟩ l) (fun k => [(46, I k.j)]) (fun k => [(4, .arr 138 (rSe k.se)), (5, .arr 3 (r1 k.bk))]) 81 (fun k => l.length - k.j) ⟨0, se, bk, by omega, rfl⟩ [(4, some 4), (5, some 5)] ?_
    conv => whnf
    refine ⟨?_, fun k => ?_⟩
    · repeat' (first | exact trivial | rfl | refine And.intro ?_ ?_)
      all_goals (conv => whnf)
      repeat' (first | exact trivial | rfl | refine And.intro ?_ ?_)
    obtain ⟨j, se2, bk2, hj, hrun⟩ := k
    dsimp only
    conv => whnf
    refine spD (fun q2 => ?_) (fun q2 => ?_) <;> conv => whnf
    · have hj' : j < l.length := by omega
      obtain ⟨⟨kind, ten, cell⟩, hy⟩ := get_of hj'
      obtain ⟨⟨se3, bk3⟩, hr3⟩ := runF_take g1 (j + 1)
      have htk := runF_succ hy hrun
      rw [hr3] at htk
      have hsz2 := run_sz w.good (l.take j) hsz (by have := List.length_take_le' j l; omega) hrun
      refine ⟨by omega, by omega, _, rSt_get hy, ?_⟩
      conv => whnf
      refine ⟨_, _, takePl_yes c s w hn hsz2 (by have := List.length_take_le' j l; omega) htk.symm, ?_⟩
      conv => whnf
      refine gv (by first | omega | (simp only []; omega) | (simp; omega)) (by first | omega | (simp only []; omega) | (simp; omega)) ?_
      conv => whnf
      refine ⟨⟨j + 1, se3, bk3, by omega, hr3⟩, [(4, some 4), (5, some 5)], ?_, by show l.length - (j + 1) < l.length - j; omega⟩
      repeat' (first | exact trivial | rfl | refine And.intro ?_ ?_)
      all_goals (conv => whnf)
      repeat' (first | exact trivial | rfl | refine And.intro ?_ ?_)
    · have hj' : j = l.length := by omega
      rw [hj', List.take_length, g1] at hrun
      cases hrun
      refine spE (fun q3 => ?_) (fun q3 => ?_) <;> conv => whnf
      · have hln : l = [] := List.length_eq_zero_iff.1 (by omega)
        have ep := g2 hln
        cases ep
        refine ⟨row1 _ rfl, ⟨by simp; omega⟩, ?_⟩
        conv => whnf
        refine ⟨rSt_ok _, ⟨by omega⟩, ?_⟩
        conv => whnf
        refine gv (by first | omega | (simp only []; omega) | (simp; omega)) (by first | omega | (simp only []; omega) | (simp; omega)) ?_
        conv => whnf
        refine ⟨⟨i + 1, steps, left ++ [x], se, bk, by omega, by simp; omega, by simpa using inv, fun q => g6 hln (by simp at q; omega)⟩, [(4, some 4), (5, some 5), (7, some 7), (50, some 83), (60, some 82)], ?_, by show L.length - (i + 1) < L.length - i; omega⟩
        repeat' (first | exact trivial | rfl | refine And.intro ?_ ?_)
        all_goals (conv => whnf)
        repeat' (first | exact trivial | rfl | refine And.intro ?_ ?_)
        all_goals first | rfl | (simp [hln, rSt]; done) | exact (r1_app _ _).symm | exact r1_app _ _
      · have hln : l ≠ [] := by rintro rfl; exact q3 (by simp [rSt])
        refine ⟨rSt_ok _, ⟨by omega⟩, ?_⟩
        conv => whnf
        refine gv (by first | omega | (simp only []; omega) | (simp; omega)) (by first | omega | (simp only []; omega) | (simp; omega)) ?_
        conv => whnf
        refine ⟨⟨i + 1, steps ++ l, left, se1, bk1, by omega, by omega, g3 hln, fun q => by omega⟩, [(4, some 4), (5, some 5), (7, some 7), (50, some 81), (60, some 60)], ?_, by show L.length - (i + 1) < L.length - i; omega⟩
        repeat' (first | exact trivial | rfl | refine And.intro ?_ ?_)
        all_goals (conv => whnf)
        repeat' (first | exact trivial | rfl | refine And.intro ?_ ?_)
        all_goals first | rfl | exact rSt_apps _ _ | exact (rSt_apps _ _).symm
  · have hi' : i = L.length := by omega
    subst hi'
    rw [List.drop_length, List.append_nil] at inv
    refine spE (fun q2 => ?_) (fun q2 => ?_) <;> conv => whnf
    · have hno := no (by omega)
      rw [List.take_length] at hno
      obtain ⟨rfl, hno⟩ := hno
      refine ⟨_, _, ⟨steps, left, ⟨se, bk⟩, rfl, rfl, inv.made w hno⟩, [], rfl, ?_⟩
      repeat' (first | exact trivial | rfl | refine And.intro ?_ ?_)
      all_goals (conv => whnf)
      repeat' (first | exact trivial | rfl | refine And.intro ?_ ?_)
    · refine ⟨⟨steps, left, se, bk, inv⟩, [(4, some 4), (5, some 5), (7, some 7), (50, some 50), (6, some 60)], ?_, by show left.length < L.length; omega⟩
      repeat' (first | exact trivial | rfl | refine And.intro ?_ ?_)
      all_goals (conv => whnf)
      repeat' (first | exact trivial | rfl | refine And.intro ?_ ?_)

end Go.Proofs.YtncckpieemmmfaaGreat
