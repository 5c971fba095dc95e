/- Contracts: peaks, who would fit, which steps are needed (evaccheck). Conditions: those ahead of each theorem. -/
import Derived.Test.YtncckpieemmmfaaGreatEvU
namespace Go.Proofs.YtncckpieemmmfaaGreat
open Go Go.Cpl

/-- along the steps, with peaks -/
structure PJK (c : Cfg) (s : St) (b : Int) (p0 : Sit) (l : List Stp) (m0 : List Int) where
  i : Nat
  se : List Seat
  bk : List Int
  m : List Int
  hi : i ≤ l.length
  hg : goF c s p0 l = goF c s ⟨se, bk⟩ (l.drop i)
  hc : cntF c s p0 l = i + cntF c s ⟨se, bk⟩ (l.drop i)
  hp : peakF c s p0 l m0 = peakF c s ⟨se, bk⟩ (l.drop i) m
  hm : m.length = bk.length
  hs : Seated s ⟨se, bk⟩
  hz : Sz c (b + 262144 * (i : Int)) se bk

abbrev runPH (c : Cfg) (s : St) (ty : Nat) (se : List Seat) (bk m : List Int) : List HObj := [.box (sitC c s 3 4), .box [.ptr 0 0 0], .box [.gs 5], .arr ty (rSe se), .arr 3 (r1 bk), .arr 3 (r1 m)]

set_option maxRecDepth 100000 in
theorem runPeak_c (c : Cfg) (s : St) {b : Int} {se : List Seat} {bk m0 : List Int} (l : List Stp) (w : WG c) (hn : s.cs.length = c.cells.length) (hm : s.ts.length = c.tenants.length) (hse : Seated s ⟨se, bk⟩) (h : Sz c b se bk) (hb : b + 262144 * (l.length : Int) ≤ 999999999000000) (hl : l.length ≤ 100000) (hm0 : m0.length = bk.length) :
    CallsH Tryz.prog 38 [.c (.ptr 0 0 0), .c (.d (.sl (rSt l))), .fn 66 [.ptr 1 0 0, .ptr 2 0 0]] (runPH c s 102 se bk m0) (I (cntF c s ⟨se, bk⟩ l)) (runPH c s 102 (goF c s ⟨se, bk⟩ l).seats (goF c s ⟨se, bk⟩ l).bk (peakF c s ⟨se, bk⟩ l m0)) := by
  have l1 := rSt_len l
  have hg := w.good
  have hC := hg.cells
  refine callsR_of tab mixed Tryz.func38 rfl (by decide) rfl rfl ?_
  conv => whnf
  refine loopR tab mixed (ι := PJK c s b ⟨se, bk⟩ l m0) (fun k => [(11, I k.i)]) (fun k => [(3, .arr 102 (rSe k.se)), (4, .arr 3 (r1 k.bk)), (5, .arr 3 (r1 k.m))]) 51 (fun k => l.length - k.i) ⟨0, se, bk, m0, by omega, rfl, by simp, rfl, hm0, hse, by simpa using h⟩ [(3, some 3), (4, some 4), (5, some 5)] ?_
  conv => whnf
  refine ⟨?_, fun k => ?_⟩
  · repeat' (first | exact trivial | rfl | refine And.intro ?_ ?_)
    all_goals (conv => whnf)
    repeat' (first | exact trivial | rfl | refine And.intro ?_ ?_)
  obtain ⟨i, se1, bk1, m, hi, hgo, hcnt, hpk, hmm, hs1, hz⟩ := k
  rw [hgo, hcnt, hpk]
  have hkk := hz.k
  dsimp only
  conv => whnf
  refine spD (fun q1 => ?_) (fun q1 => ?_) <;> conv => whnf
  · have hi' : i < l.length := by omega
    obtain ⟨⟨kind, ten, cell⟩, hx⟩ := get_of hi'
    refine ⟨by omega, _, rSt_get hx, ?_⟩
    conv => whnf
    rcases Option.eq_none_or_eq_some (takeF c s ⟨se1, bk1⟩ ⟨kind, ten, cell⟩) with e | ⟨⟨se2, bk2⟩, e⟩
    · have hst := go_stop hx e
      rw [hst.1, hst.2, peak_stop hx e]
      refine ⟨_, _, takeCk_no c s w hn hm hs1 hz (by omega) e, ?_⟩
      conv => whnf
      refine ⟨fun _ => ?_, fun q => (by cases q)⟩
      conv => whnf
      refine ⟨[(0, some 0), (1, some 1), (2, some 2), (3, some 3), (4, some 4), (5, some 5)], ?_⟩
      repeat' (first | exact trivial | rfl | refine And.intro ?_ ?_)
      all_goals (conv => whnf)
      repeat' (first | exact trivial | rfl | refine And.intro ?_ ?_)
    · have hst := go_step hx e
      have hpe := peak_step (m := m) hx e
      have hbl := take_blen e
      dsimp only at hbl hpe
      refine ⟨_, _, takeCk_yes c s w hn hm hs1 hz (by omega) e, ?_⟩
      conv => whnf
      refine ⟨fun q => (by cases q), fun _ => ?_⟩
      conv => whnf
      refine ⟨_, _, peak1_c c s i (se := se2) (bk := bk2) (m := m) (by omega) (by omega), ?_⟩
      conv => whnf
      refine ⟨fun q => (by cases q), fun _ => ?_⟩
      conv => whnf
      refine gv (by first | omega | (simp only []; omega) | (simp; omega)) (by first | omega | (simp only []; omega) | (simp; omega)) ?_
      conv => whnf
      refine ⟨⟨i + 1, se2, bk2, maxL m bk2, by omega, by rw [hgo, hst.1], by rw [hcnt, hst.2]; omega, by rw [hpk, hpe], by rw [maxL_len (by omega)]; omega, take_seated hs1 e, sz_step hg hz (by omega) e⟩, [(3, some 3), (4, some 4), (5, some 5)], ?_, by show l.length - (i + 1) < l.length - i; omega⟩
      repeat' (first | exact trivial | rfl | refine And.intro ?_ ?_)
      all_goals (conv => whnf)
      repeat' (first | exact trivial | rfl | refine And.intro ?_ ?_)
  · have hi' : i = l.length := by omega
    have hst := go_end (c := c) (s := s) (p := ⟨se1, bk1⟩) (l := l) (i := i) (by omega)
    rw [hst.1, hst.2, peak_end (by omega)]
    refine ⟨[(0, some 0), (1, some 1), (2, some 2), (3, some 3), (4, some 4), (5, some 5)], ?_⟩
    repeat' (first | exact trivial | rfl | refine And.intro ?_ ?_)
    all_goals (conv => whnf)
    repeat' (first | exact trivial | rfl | refine And.intro ?_ ?_)
    all_goals first | rfl | (simp; omega)

theorem peak_c (c : Cfg) (s : St) (r : Int) (steps : List Stp) (left : List Int) (w : WG c) (h : StOk c s) (hl : steps.length ≤ 100000) : CallsH Tryz.prog 25 [cfgV c, stV s, evV r steps left] [] (.c (.gs 0)) [.arr 3 (r1 (peakF c s (sit0 c s) steps (bkd c s.ts)))] := by
  have hb0 := bkd_bd w h
  have hk := hb0.k
  have hC := w.good.cells
  refine callsR_of tab mixed Tryz.func25 rfl (by decide) rfl rfl ?_
  conv => whnf
  refine ⟨_, _, start_c c s w h, ?_⟩
  conv => whnf
  refine ⟨_, _, cloneI_c (bkd c s.ts) (by omega) (by intro e; rw [e] at hk; simp at hk; omega), ?_⟩
  conv => whnf
  refine ⟨_, _, runPeak_c c s steps w h.pre.nc h.pre.nt seated0 hb0 (by omega) hl rfl, ?_⟩
  conv => whnf
  refine ⟨[(0, some 7)], ?_⟩
  repeat' (first | exact trivial | rfl | refine And.intro ?_ ?_)
  all_goals (conv => whnf)
  repeat' (first | exact trivial | rfl | refine And.intro ?_ ?_)

theorem sumL_app (c : Cfg) : ∀ a b : List Int, sumL c (a ++ b) = sumL c a + sumL c b
  | [], b => by simp [sumL]
  | x :: a, b => by simp only [List.cons_append, sumL, sumL_app c a b]; omega

theorem sum_low {c : Cfg} (hg : Good c) {se : List Seat} {sb prio : Int} : ∀ n, 0 ≤ sumL c (upto (lowP c se sb prio) n) ∧ sumL c (upto (lowP c se sb prio) n) ≤ 65536 * n
  | 0 => by simp [upto, sumL]
  | n + 1 => by
    have ih := sum_low hg (se := se) (sb := sb) (prio := prio) n
    have hd := ten_ld hg (n : Int)
    by_cases h : lowP c se sb prio n = true
    · rw [upto_yes h, sumL_app]
      simp only [sumL]; omega
    · rw [upto_no (by simpa using h)]; omega

set_option maxHeartbeats 4000000 in
set_option maxRecDepth 100000 in
theorem fits_c (c : Cfg) (s : St) (r x : Int) (steps : List Stp) (left : List Int) (w : WG c) (h : StOk c s) (hl : steps.length ≤ 100000) : CallsH Tryz.prog 21 [cfgV c, stV s, evV r steps left, I x] [] (B (fitsF c s r steps x)) [] := by
  have hb0 := bkd_bd w h
  have hg := w.good
  have hC := hg.cells
  have hT := w.few
  have l3 := rT_len c.tenants
  generalize hfi : fitsF c s r steps x = fi
  have hno : ∀ {v : Bool}, fitsF c s r steps x = v → fi = v := fun e => by rw [← hfi, e]
  rcases Option.eq_none_or_eq_some (runF c s (sit0 c s) steps) with e | ⟨⟨se, bk⟩, e⟩
  · obtain ⟨se', bk', hc⟩ := all_no c s (l := steps) w h.pre.nc h.pre.nt seated0 hb0 (by omega) hl e
    have hfalse := hno (v := false) (by unfold fitsF; rw [e])
    subst hfalse
    refine callsR_of tab mixed Tryz.func21 rfl (by decide) rfl rfl ?_
    conv => whnf
    refine ⟨_, _, start_c c s w h, ?_⟩
    conv => whnf
    refine ⟨_, _, hc, ?_⟩
    conv => whnf
    refine ⟨fun _ => ?_, fun q => (by cases q)⟩
    conv => whnf
    first | exact ⟨[], rfl, ⟨rfl, rfl⟩, trivial⟩ | exact ⟨[], rfl, rfl, trivial⟩
  have hc := all_yes c s (l := steps) w h.pre.nc h.pre.nt seated0 hb0 (by omega) hl e
  have hsz := run_sz hg steps (p := sit0 c s) hb0 (by omega) e
  have hsd := run_seated steps seated0 e
  have hok := run_ok steps (sit0_ok h) e
  dsimp only at hsz
  have hn := hsz.n
  have hk := hsz.k
  have l1 := rSe_len se
  have l2 := r1_len bk
  have ef : fitsF c s r steps x = fitsS c s r ⟨se, bk⟩ x := by unfold fitsF; rw [e]
  rw [ef] at hno
  by_cases hx : 0 ≤ x ∧ x < se.length
  rotate_left 1
  · have hfalse := hno (v := false) (by
      unfold fitsS
      split
      · rw [List.getElem?_eq_none (by dsimp only; omega)]
      · rfl)
    subst hfalse
    refine callsR_of tab mixed Tryz.func21 rfl (by decide) rfl rfl ?_
    conv => whnf
    refine ⟨_, _, start_c c s w h, ?_⟩
    conv => whnf
    refine ⟨_, _, hc, ?_⟩
    conv => whnf
    refine ⟨fun q => (by cases q), fun _ => ?_⟩
    conv => whnf
    refine spD (fun q1 => ?_) (fun q1 => ?_) <;> conv => whnf
    · first | exact ⟨[], rfl, ⟨rfl, rfl⟩, trivial⟩ | exact ⟨[], rfl, rfl, trivial⟩
    refine spD (fun q2 => ?_) (fun q2 => ?_) <;> conv => whnf
    · first | exact ⟨[], rfl, ⟨rfl, rfl⟩, trivial⟩ | exact ⟨[], rfl, rfl, trivial⟩
    · omega
  obtain ⟨⟨ac, ho, sb, nx, tg⟩, ht⟩ := get_int (l := se) hx.1 (by omega)
  have hhome := hok.home x.toNat _ ht
  have e1 : fitsS c s r ⟨se, bk⟩ x = (ac && (decide (regionOf c ho = r) && (usableP c s sb && decide (missF c ⟨se, bk⟩ x ⟨ac, ho, sb, nx, tg⟩ - sumL c (lowL c se sb (prioOf c x)) ≤ 0)))) := by
    unfold fitsS
    rw [if_pos hx.1]
    dsimp only
    rw [ht]
  refine callsR_of tab mixed Tryz.func21 rfl (by decide) rfl rfl ?_
  conv => whnf
  refine ⟨_, _, start_c c s w h, ?_⟩
  conv => whnf
  refine ⟨_, _, hc, ?_⟩
  conv => whnf
  refine ⟨fun q => (by cases q), fun _ => ?_⟩
  conv => whnf
  refine spD (fun q1 => ?_) (fun q1 => ?_) <;> conv => whnf
  · omega
  refine spD (fun q2 => ?_) (fun q2 => ?_) <;> conv => whnf
  · omega
  refine ⟨by omega, by omega, _, rSe_get ht, ?_⟩
  conv => whnf
  refine ⟨by kernel_rfl, ?_⟩
  conv => whnf
  cases ac
  · have hfalse := hno (v := false) (by rw [e1]; rfl)
    subst hfalse
    refine ⟨fun _ => ?_, fun q => (by cases q)⟩
    conv => whnf
    first | exact ⟨[], rfl, ⟨rfl, rfl⟩, trivial⟩ | exact ⟨[], rfl, rfl, trivial⟩
  refine ⟨fun q => (by cases q), fun _ => ?_⟩
  conv => whnf
  replace hhome := hhome rfl
  dsimp only at hhome
  refine spD (fun q3 => ?_) (fun q3 => ?_) <;> dsimp only at q3 <;> conv => whnf
  · omega
  refine ⟨_, _, regionOf_c c ho hg.laid.cells hg.laid.zones, ?_⟩
  conv => whnf
  refine spNe (fun q4 => ?_) (fun q4 => ?_) <;> conv => whnf
  · have hfalse := hno (v := false) (by rw [e1, decide_eq_false q4]; rfl)
    subst hfalse
    first | exact ⟨[], rfl, ⟨rfl, rfl⟩, trivial⟩ | exact ⟨[], rfl, rfl, trivial⟩
  refine ⟨by kernel_rfl, ?_⟩
  conv => whnf
  have hnu : ¬ (0 ≤ sb ∧ sb < bk.length) → usableP c s sb = false := fun hh => by
    cases hu : usableP c s sb with
    | false => rfl
    | true => have := usable_in hu; omega
  refine spD (fun q5 => ?_) (fun q5 => ?_) <;> dsimp only at q5 <;> conv => whnf
  · have hfalse := hno (v := false) (by rw [e1, hnu (by omega)]; simp)
    subst hfalse
    first | exact ⟨[], rfl, ⟨rfl, rfl⟩, trivial⟩ | exact ⟨[], rfl, rfl, trivial⟩
  refine spD (fun q6 => ?_) (fun q6 => ?_) <;> dsimp only at q6 <;> conv => whnf
  · have hfalse := hno (v := false) (by rw [e1, hnu (by omega)]; simp)
    subst hfalse
    first | exact ⟨[], rfl, ⟨rfl, rfl⟩, trivial⟩ | exact ⟨[], rfl, rfl, trivial⟩
  have hus := seated_us (c := c) hsd hx.1 ht rfl (by omega : 0 ≤ sb) rfl
  refine ⟨_, _, usableT_e c s x hg h.pre.nc h.pre.nt, ?_⟩
  conv => whnf
  rw [hus]
  cases hu : usableP c s sb
  · have hfalse := hno (v := false) (by rw [e1, hu]; simp)
    subst hfalse
    refine ⟨fun _ => ?_, fun q => (by cases q)⟩
    conv => whnf
    first | exact ⟨[], rfl, ⟨rfl, rfl⟩, trivial⟩ | exact ⟨[], rfl, rfl, trivial⟩
  refine ⟨fun q => (by cases q), fun _ => ?_⟩
  conv => whnf
  have hci := usable_in hu
  obtain ⟨⟨d1, d2, d3, d4, d5, d6, d7⟩, hd⟩ := get_int (l := c.tenants) hx.1 (by omega)
  have hdd := hg.ten _ (List.mem_of_getElem? hd)
  unfold okT at hdd
  dsimp only at hdd
  obtain ⟨y, hy⟩ := get_int (l := c.cells) hci.1 (by omega)
  obtain ⟨z, hz⟩ := get_int (l := bk) hci.1 (by omega)
  have hb := hsz.bd z (List.mem_of_getElem? hz)
  have hcap := w.caps y (List.mem_of_getElem? hy)
  have em : missF c ⟨se, bk⟩ x ⟨true, ho, sb, nx, tg⟩ = d1 - d2 - (y.2 - z) := by simp [missF, ldOf, shOf, capOf, atI, hd, hy, hz]
  have ep : prioOf c x = d3 := by simp [prioOf, hd]
  rw [em, ep] at e1
  have hsl := fun n => sum_low hg (se := se) (sb := sb) (prio := d3) n
  refine ⟨by omega, _, rT_get hd, ?_⟩
  conv => whnf
  refine ⟨by kernel_rfl, ?_⟩
  conv => whnf
  refine ⟨by dsimp only; omega, by dsimp only; omega, _, r1_get hz, ?_⟩
  conv => whnf
  refine gv (by first | omega | (simp only []; omega) | (simp; omega)) (by first | omega | (simp only []; omega) | (simp; omega)) ?_
  conv => whnf
  refine gv (by first | omega | (simp only []; omega) | (simp; omega)) (by first | omega | (simp only []; omega) | (simp; omega)) ?_
  conv => whnf
  refine loopN tab mixed (fun i => i ≤ se.length) se.length (fun i => [(104, I i), (12, I (z + d1 - d2 - sumL c (upto (lowP c se sb d3) i)))]) (fun _ => []) 51 [] (by omega) ?_
  conv => whnf
  refine ⟨?_, fun i hi => ?_⟩
  · repeat' (first | exact trivial | rfl | refine And.intro ?_ ?_)
    all_goals (conv => whnf)
    repeat' (first | exact trivial | rfl | refine And.intro ?_ ?_)
    simp [upto, sumL]
  conv => whnf
  refine spD (fun q7 => ?_) (fun q7 => ?_) <;> conv => whnf
  · have hi' : i < se.length := by omega
    obtain ⟨⟨ac2, ho2, sb2, nx2, tg2⟩, hx2⟩ := get_of hi'
    obtain ⟨⟨f1, f2, f3, f4, f5, f6, f7⟩, hf⟩ := get_of (l := c.tenants) (i := i) (by omega)
    have hff := hg.ten _ (List.mem_of_getElem? hf)
    unfold okT at hff
    dsimp only at hff
    have ep2 : prioOf c (i : Int) = f3 := by simp [prioOf, hf]
    have el2 : ldOf c (i : Int) = f1 := by simp [ldOf, hf]
    have e2 : lowP c se sb d3 i = (ac2 && (decide (ho2 = sb) && decide (f3 < d3))) := by simp [lowP, hx2, ep2]
    have hsi := hsl i
    refine ⟨by omega, by omega, _, rSe_get hx2, ?_⟩
    conv => whnf
    refine ⟨by kernel_rfl, ?_⟩
    conv => whnf
    cases ac2
    · refine ⟨fun q => (by cases q), fun _ => ?_⟩
      conv => whnf
      refine gv (by first | omega | (simp only []; omega) | (simp; omega)) (by first | omega | (simp only []; omega) | (simp; omega)) ?_
      conv => whnf
      refine ⟨⟨hi', hi'⟩, [], ?_⟩
      repeat' (first | exact trivial | rfl | refine And.intro ?_ ?_)
      all_goals (conv => whnf)
      repeat' (first | exact trivial | rfl | refine And.intro ?_ ?_)
      rw [upto_no (by rw [e2]; rfl)]
    refine ⟨fun _ => ?_, fun q => (by cases q)⟩
    conv => whnf
    refine spE (fun q8 => ?_) (fun q8 => ?_) <;> dsimp only at q8 <;> conv => whnf
    rotate_left 1
    · refine gv (by first | omega | (simp only []; omega) | (simp; omega)) (by first | omega | (simp only []; omega) | (simp; omega)) ?_
      conv => whnf
      refine ⟨⟨hi', hi'⟩, [], ?_⟩
      repeat' (first | exact trivial | rfl | refine And.intro ?_ ?_)
      all_goals (conv => whnf)
      repeat' (first | exact trivial | rfl | refine And.intro ?_ ?_)
      rw [upto_no (by rw [e2]; simp [q8])]
    refine ⟨by omega, _, rT_get hf, ?_⟩
    conv => whnf
    refine spD (fun q9 => ?_) (fun q9 => ?_) <;> dsimp only at q9 <;> conv => whnf
    · refine ⟨by omega, _, rT_get hf, ?_⟩
      conv => whnf
      refine gv (by first | omega | (simp only []; omega) | (simp; omega)) (by first | omega | (simp only []; omega) | (simp; omega)) ?_
      conv => whnf
      refine gv (by first | omega | (simp only []; omega) | (simp; omega)) (by first | omega | (simp only []; omega) | (simp; omega)) ?_
      conv => whnf
      refine ⟨⟨hi', hi'⟩, [], ?_⟩
      repeat' (first | exact trivial | rfl | refine And.intro ?_ ?_)
      all_goals (conv => whnf)
      repeat' (first | exact trivial | rfl | refine And.intro ?_ ?_)
      rw [upto_yes (by rw [e2]; simp [q8, q9]), sumL_app]
      simp only [sumL, el2]
      omega
    · refine gv (by first | omega | (simp only []; omega) | (simp; omega)) (by first | omega | (simp only []; omega) | (simp; omega)) ?_
      conv => whnf
      refine ⟨⟨hi', hi'⟩, [], ?_⟩
      repeat' (first | exact trivial | rfl | refine And.intro ?_ ?_)
      all_goals (conv => whnf)
      repeat' (first | exact trivial | rfl | refine And.intro ?_ ?_)
      rw [upto_no (by rw [e2]; simp [q9])]
  · have hi' : i = se.length := by omega
    subst hi'
    refine ⟨by dsimp only; omega, _, r2_get hy, ?_⟩
    conv => whnf
    have hfin := hno (v := decide (z + d1 - d2 - sumL c (upto (lowP c se sb d3) se.length) ≤ y.2)) (by
      rw [e1, hu, decide_eq_true q4]
      unfold lowL
      simp only [Bool.true_and]
      exact decide_eq_decide.2 (by omega))
    subst hfin
    first | exact ⟨[], rfl, ⟨rfl, rfl⟩, trivial⟩ | exact ⟨[], rfl, rfl, trivial⟩

end Go.Proofs.YtncckpieemmmfaaGreat
