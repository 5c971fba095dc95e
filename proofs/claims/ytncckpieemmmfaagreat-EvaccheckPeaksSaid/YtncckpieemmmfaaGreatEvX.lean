/- Contract: the checker of plans (evaccheck.Check). Conditions: those ahead of each theorem. -/
import Derived.Test.YtncckpieemmmfaaGreatEvW
namespace Go.Proofs.YtncckpieemmmfaaGreat
open Go Go.Cpl

abbrev chkH (c : Cfg) (s : St) (r : Int) (steps : List Stp) (left : List Int) (err : Int) (cands : List Int) (ty : Nat) (se : List Seat) (bk : List Int) : List HObj :=
  [.box (evC r steps left), .box [.gs 6], .box [.d (i64 err)], .box [.ptr 7 0 0], .box (cfgC c), .box (stC s), .arr 3 (r1 cands), .box (sitC c s 8 9), .arr ty (rSe se), .arr 3 (r1 bk)]

set_option maxHeartbeats 2000000 in
set_option maxRecDepth 100000 in
theorem check1_c (c : Cfg) (s : St) (r : Int) (steps : List Stp) (left cands : List Int) {b : Int} {se : List Seat} {bk : List Int} {i : Nat} {x : Stp} (w : WG c) (h : StOk c s) (hl : steps.length ≤ 100000) (hcl : cands.length ≤ 100) (hx : steps[i]? = some x) (hz : Sz c b se bk) :
    CallsH Tryz.prog 39 [I i, .c (.ptr 0 0 0), .c (.ptr 1 0 0), .c (.ptr 2 0 0), .c (.ptr 3 0 0), .c (.ptr 4 0 0), .c (.ptr 5 0 0)] (chkH c s r steps left 0 cands 102 se bk) (B (errF c s cands steps i x bk == 0)) (chkH c s r steps left (errF c s cands steps i x bk) cands 102 se bk) := by
  have hC := w.good.cells
  obtain ⟨kind, ten, cell⟩ := x
  generalize hE : errF c s cands steps i ⟨kind, ten, cell⟩ bk = er
  have hno : ∀ {v : Int}, errF c s cands steps i ⟨kind, ten, cell⟩ bk = v → er = v := fun e => by rw [← hE, e]
  refine callsR_of tab mixed Tryz.func39 rfl (by decide) rfl rfl ?_
  conv => whnf
  refine ⟨by omega, _, rSt_get hx, ?_⟩
  conv => whnf
  refine spE (fun q1 => ?_) (fun q1 => ?_) <;> dsimp only at q1 <;> conv => whnf
  · refine ⟨_, _, contains_c cands ten (by omega), ?_⟩
    conv => whnf
    refine spN (fun q2 => ?_) (fun q2 => ?_) <;> conv => whnf
    · have e1 := hno (v := 4) (by unfold errF; rw [if_pos ⟨q1, q2⟩])
      subst e1
      refine ⟨[(0, some 0), (1, some 1), (2, some 2), (3, some 3), (4, some 4), (5, some 5), (6, some 6), (7, some 7), (8, some 8), (9, some 9)], ?_⟩
      repeat' (first | exact trivial | rfl | refine And.intro ?_ ?_)
      all_goals (conv => whnf)
      repeat' (first | exact trivial | rfl | refine And.intro ?_ ?_)
    refine ⟨_, _, over_c c s hz (by omega), ?_⟩
    conv => whnf
    cases hov : overF c bk
    · refine ⟨fun q => (by cases q), fun _ => ?_⟩
      conv => whnf
      refine spE (fun q3 => ?_) (fun q3 => ?_) <;> dsimp only at q3 <;> conv => whnf
      · refine ⟨_, _, needed_c c s r i steps left w h hl, ?_⟩
        conv => whnf
        cases hnd : neededF c s steps i
        · have e1 := hno (v := 37) (by unfold errF; rw [if_neg (fun hh => hh.2 q2), hov, if_neg (by simp), if_pos ⟨q3, hnd⟩])
          subst e1
          refine ⟨fun _ => ?_, fun q => (by cases q)⟩
          conv => whnf
          refine ⟨[(0, some 0), (1, some 1), (2, some 2), (3, some 3), (4, some 4), (5, some 5), (6, some 6), (7, some 7), (8, some 8), (9, some 9)], ?_⟩
          repeat' (first | exact trivial | rfl | refine And.intro ?_ ?_)
          all_goals (conv => whnf)
          repeat' (first | exact trivial | rfl | refine And.intro ?_ ?_)
        · have e1 := hno (v := 0) (by unfold errF; rw [if_neg (fun hh => hh.2 q2), hov, if_neg (by simp), if_neg (by rw [hnd]; simp)])
          subst e1
          refine ⟨fun q => (by cases q), fun _ => ?_⟩
          conv => whnf
          refine ⟨[(0, some 0), (1, some 1), (2, some 2), (3, some 3), (4, some 4), (5, some 5), (6, some 6), (7, some 7), (8, some 8), (9, some 9)], ?_⟩
          repeat' (first | exact trivial | rfl | refine And.intro ?_ ?_)
          all_goals (conv => whnf)
          repeat' (first | exact trivial | rfl | refine And.intro ?_ ?_)
      · have e1 := hno (v := 0) (by unfold errF; rw [if_neg (fun hh => hh.2 q2), hov, if_neg (by simp), if_neg (fun hh => q3 hh.1)])
        subst e1
        refine ⟨[(0, some 0), (1, some 1), (2, some 2), (3, some 3), (4, some 4), (5, some 5), (6, some 6), (7, some 7), (8, some 8), (9, some 9)], ?_⟩
        repeat' (first | exact trivial | rfl | refine And.intro ?_ ?_)
        all_goals (conv => whnf)
        repeat' (first | exact trivial | rfl | refine And.intro ?_ ?_)
    · have e1 := hno (v := 10) (by unfold errF; rw [if_neg (fun hh => hh.2 q2), hov, if_pos rfl])
      subst e1
      refine ⟨fun _ => ?_, fun q => (by cases q)⟩
      conv => whnf
      refine ⟨[(0, some 0), (1, some 1), (2, some 2), (3, some 3), (4, some 4), (5, some 5), (6, some 6), (7, some 7), (8, some 8), (9, some 9)], ?_⟩
      repeat' (first | exact trivial | rfl | refine And.intro ?_ ?_)
      all_goals (conv => whnf)
      repeat' (first | exact trivial | rfl | refine And.intro ?_ ?_)
  · skip
    refine ⟨_, _, over_c c s hz (by omega), ?_⟩
    conv => whnf
    cases hov : overF c bk
    · refine ⟨fun q => (by cases q), fun _ => ?_⟩
      conv => whnf
      refine spE (fun q3 => ?_) (fun q3 => ?_) <;> dsimp only at q3 <;> conv => whnf
      · refine ⟨_, _, needed_c c s r i steps left w h hl, ?_⟩
        conv => whnf
        cases hnd : neededF c s steps i
        · have e1 := hno (v := 37) (by unfold errF; rw [if_neg (fun hh => q1 hh.1), hov, if_neg (by simp), if_pos ⟨q3, hnd⟩])
          subst e1
          refine ⟨fun _ => ?_, fun q => (by cases q)⟩
          conv => whnf
          refine ⟨[(0, some 0), (1, some 1), (2, some 2), (3, some 3), (4, some 4), (5, some 5), (6, some 6), (7, some 7), (8, some 8), (9, some 9)], ?_⟩
          repeat' (first | exact trivial | rfl | refine And.intro ?_ ?_)
          all_goals (conv => whnf)
          repeat' (first | exact trivial | rfl | refine And.intro ?_ ?_)
        · have e1 := hno (v := 0) (by unfold errF; rw [if_neg (fun hh => q1 hh.1), hov, if_neg (by simp), if_neg (by rw [hnd]; simp)])
          subst e1
          refine ⟨fun q => (by cases q), fun _ => ?_⟩
          conv => whnf
          refine ⟨[(0, some 0), (1, some 1), (2, some 2), (3, some 3), (4, some 4), (5, some 5), (6, some 6), (7, some 7), (8, some 8), (9, some 9)], ?_⟩
          repeat' (first | exact trivial | rfl | refine And.intro ?_ ?_)
          all_goals (conv => whnf)
          repeat' (first | exact trivial | rfl | refine And.intro ?_ ?_)
      · have e1 := hno (v := 0) (by unfold errF; rw [if_neg (fun hh => q1 hh.1), hov, if_neg (by simp), if_neg (fun hh => q3 hh.1)])
        subst e1
        refine ⟨[(0, some 0), (1, some 1), (2, some 2), (3, some 3), (4, some 4), (5, some 5), (6, some 6), (7, some 7), (8, some 8), (9, some 9)], ?_⟩
        repeat' (first | exact trivial | rfl | refine And.intro ?_ ?_)
        all_goals (conv => whnf)
        repeat' (first | exact trivial | rfl | refine And.intro ?_ ?_)
    · have e1 := hno (v := 10) (by unfold errF; rw [if_neg (fun hh => q1 hh.1), hov, if_pos rfl])
      subst e1
      refine ⟨fun _ => ?_, fun q => (by cases q)⟩
      conv => whnf
      refine ⟨[(0, some 0), (1, some 1), (2, some 2), (3, some 3), (4, some 4), (5, some 5), (6, some 6), (7, some 7), (8, some 8), (9, some 9)], ?_⟩
      repeat' (first | exact trivial | rfl | refine And.intro ?_ ?_)
      all_goals (conv => whnf)
      repeat' (first | exact trivial | rfl | refine And.intro ?_ ?_)

/-- along the steps, checked -/
structure CJ (c : Cfg) (s : St) (b : Int) (p0 : Sit) (steps : List Stp) (cands : List Int) where
  i : Nat
  se : List Seat
  bk : List Int
  hi : i ≤ steps.length
  hg : chk2 c s cands steps 0 p0 steps = chk2 c s cands steps i ⟨se, bk⟩ (steps.drop i)
  hs : Seated s ⟨se, bk⟩
  hz : Sz c (b + 262144 * (i : Int)) se bk

abbrev runCH (c : Cfg) (s : St) (r : Int) (steps : List Stp) (left : List Int) (err : Int) (cands : List Int) (ty : Nat) (se : List Seat) (bk : List Int) : List HObj :=
  [.box (sitC c s 7 8), .box (evC r steps left), .box [.gs 9], .box [.d (i64 err)], .box [.ptr 0 0 0], .box (cfgC c), .box (stC s), .arr ty (rSe se), .arr 3 (r1 bk), .arr 3 (r1 cands)]

set_option maxHeartbeats 2000000 in
set_option maxRecDepth 100000 in
theorem runCk_c (c : Cfg) (s : St) (r : Int) (steps : List Stp) (left cands : List Int) {b : Int} {se : List Seat} {bk : List Int} (w : WG c) (h : StOk c s) (hl : steps.length ≤ 100000) (hcl : cands.length ≤ 100) (hse : Seated s ⟨se, bk⟩) (hz : Sz c b se bk) (hb : b + 262144 * (steps.length : Int) ≤ 999999999000000) {n : Nat} {e : Int} {se' : List Seat} {bk' : List Int} (hR : chk2 c s cands steps 0 ⟨se, bk⟩ steps = ((n, e), ⟨se', bk'⟩)) :
    CallsH Tryz.prog 38 [.c (.ptr 0 0 0), .c (.d (.sl (rSt steps))), .fn 39 [.ptr 1 0 0, .ptr 2 0 0, .ptr 3 0 0, .ptr 4 0 0, .ptr 5 0 0, .ptr 6 0 0]] (runCH c s r steps left 0 cands 102 se bk) (I n) (runCH c s r steps left e cands 102 se' bk') := by
  have l1 := rSt_len steps
  have hg := w.good
  refine callsR_of tab mixed Tryz.func38 rfl (by decide) rfl rfl ?_
  conv => whnf
  refine loopR tab mixed (ι := CJ c s b ⟨se, bk⟩ steps cands) (fun k => [(11, I k.i)]) (fun k => [(3, .box [.d (i64 0)]), (7, .arr 102 (rSe k.se)), (8, .arr 3 (r1 k.bk))]) 51 (fun k => steps.length - k.i) ⟨0, se, bk, by omega, rfl, hse, by simpa using hz⟩ [(3, some 3), (7, some 7), (8, some 8)] ?_
  conv => whnf
  refine ⟨?_, fun k => ?_⟩
  · repeat' (first | exact trivial | rfl | refine And.intro ?_ ?_)
    all_goals (conv => whnf)
    repeat' (first | exact trivial | rfl | refine And.intro ?_ ?_)
  obtain ⟨i, se1, bk1, hi, hgo, hs1, hz1⟩ := k
  rw [hR] at hgo
  dsimp only
  conv => whnf
  refine spD (fun q1 => ?_) (fun q1 => ?_) <;> conv => whnf
  · have hi' : i < steps.length := by omega
    obtain ⟨⟨kind, ten, cell⟩, hx⟩ := get_of hi'
    refine ⟨by omega, _, rSt_get hx, ?_⟩
    conv => whnf
    rcases Option.eq_none_or_eq_some (takeF c s ⟨se1, bk1⟩ ⟨kind, ten, cell⟩) with e1 | ⟨⟨se2, bk2⟩, e1⟩
    · rw [chk2_stop hx e1] at hgo
      cases hgo
      refine ⟨_, _, takeCk_no c s w h.pre.nc h.pre.nt hs1 hz1 (by omega) e1, ?_⟩
      conv => whnf
      refine ⟨fun _ => ?_, fun q => (by cases q)⟩
      conv => whnf
      refine ⟨[(0, some 0), (1, some 1), (2, some 2), (3, some 3), (4, some 4), (5, some 5), (6, some 6), (7, some 7), (8, some 8), (9, some 9)], ?_⟩
      repeat' (first | exact trivial | rfl | refine And.intro ?_ ?_)
      all_goals (conv => whnf)
      repeat' (first | exact trivial | rfl | refine And.intro ?_ ?_)
    · rw [chk2_step hx e1] at hgo
      have hz2 := sz_step hg hz1 (by omega) e1
      refine ⟨_, _, takeCk_yes c s w h.pre.nc h.pre.nt hs1 hz1 (by omega) e1, ?_⟩
      conv => whnf
      refine ⟨fun q => (by cases q), fun _ => ?_⟩
      conv => whnf
      refine ⟨_, _, check1_c c s r steps left cands w h hl hcl hx hz2, ?_⟩
      conv => whnf
      refine ⟨fun q => ?_, fun q => ?_⟩ <;> conv => whnf
      · have q : errF c s cands steps i ⟨kind, ten, cell⟩ bk2 ≠ 0 := by simpa using q
        rw [if_pos q] at hgo
        cases hgo
        refine ⟨[(0, some 0), (1, some 1), (2, some 2), (3, some 3), (4, some 4), (5, some 5), (6, some 6), (7, some 7), (8, some 8), (9, some 9)], ?_⟩
        repeat' (first | exact trivial | rfl | refine And.intro ?_ ?_)
        all_goals (conv => whnf)
        repeat' (first | exact trivial | rfl | refine And.intro ?_ ?_)
      · have q : errF c s cands steps i ⟨kind, ten, cell⟩ bk2 = 0 := by simpa using q
        rw [if_neg (fun hh => hh q)] at hgo
        rw [q]
        refine gv (by first | omega | (simp only []; omega) | (simp; omega)) (by first | omega | (simp only []; omega) | (simp; omega)) ?_
        conv => whnf
        refine ⟨⟨i + 1, se2, bk2, by omega, by rw [hR]; exact hgo, take_seated hs1 e1, hz2⟩, [(3, some 3), (7, some 7), (8, some 8)], ?_, by show steps.length - (i + 1) < steps.length - i; omega⟩
        repeat' (first | exact trivial | rfl | refine And.intro ?_ ?_)
        all_goals (conv => whnf)
        repeat' (first | exact trivial | rfl | refine And.intro ?_ ?_)
  · have hi' : i = steps.length := by omega
    rw [chk2_end (by omega)] at hgo
    cases hgo
    refine ⟨[(0, some 0), (1, some 1), (2, some 2), (3, some 3), (4, some 4), (5, some 5), (6, some 6), (7, some 7), (8, some 8), (9, some 9)], ?_⟩
    repeat' (first | exact trivial | rfl | refine And.intro ?_ ?_)
    all_goals (conv => whnf)
    repeat' (first | exact trivial | rfl | refine And.intro ?_ ?_)
    all_goals first | rfl | omega | (dsimp only; omega)

end Go.Proofs.YtncckpieemmmfaaGreat
