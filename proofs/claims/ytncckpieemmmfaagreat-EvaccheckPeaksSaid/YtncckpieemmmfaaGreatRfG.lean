/- Contract: the reference's checker (cellplaneref35.Check). Conditions: those ahead of the theorem. -/
import Derived.Test.YtncckpieemmmfaaGreatRfD
namespace Go.Proofs.YtncckpieemmmfaaGreat
open Go Go.Cpl

set_option maxRecDepth 100000 in
theorem sameInts24_c (l m : List Int) (hl : l.length ≤ 100000) : CallsH Tryz.prog 26 [.c (.d (.sl (r1 l))), .c (.d (.sl (r1 m)))] [] (B (decide (l = m))) [] := by
  have l1 := r1_len l
  have l2 := r1_len m
  refine callsR_of tab mixed Tryz.func26 rfl (by decide) rfl rfl ?_
  conv => whnf
  refine spNe (fun q => ?_) (fun q => ?_) <;> conv => whnf
  · have : ¬ l = m := by rintro rfl; exact q rfl
    rw [decide_eq_false this]
    exact ⟨[], rfl, by simp [mtV, Cpl.valOf, mtC, eqD], trivial⟩
  have hlm : l.length = m.length := by omega
  refine loopN tab mixed (fun i => i ≤ l.length ∧ l.take i = m.take i) l.length (fun i => [(13, I i)]) (fun _ => []) 51 [] ⟨by omega, by simp⟩ ?_
  conv => whnf
  refine ⟨?_, fun i ⟨hi, hJ⟩ => ?_⟩
  · repeat' (first | exact trivial | rfl | refine And.intro ?_ ?_)
    all_goals (conv => whnf)
    repeat' (first | exact trivial | rfl | refine And.intro ?_ ?_)
  conv => whnf
  refine spD (fun q1 => ?_) (fun q1 => ?_) <;> conv => whnf
  · have hi' : i < l.length := by omega
    obtain ⟨x, hx⟩ := get_of hi'
    obtain ⟨y, hy⟩ := get_of (l := m) (i := i) (by omega)
    refine ⟨by kernel_rfl, ?_⟩
    conv => whnf
    refine ⟨by omega, _, r1_get hx, ?_⟩
    conv => whnf
    refine ⟨by omega, _, r1_get hy, ?_⟩
    conv => whnf
    refine spNe (fun q2 => ?_) (fun q2 => ?_) <;> conv => whnf
    · have : ¬ l = m := by rintro rfl; rw [hx] at hy; cases hy; exact q2 rfl
      rw [decide_eq_false this]
      exact ⟨[], rfl, by simp [mtV, Cpl.valOf, mtC, eqD], trivial⟩
    · refine gv (by first | omega | (simp only []; omega) | (simp; omega)) (by first | omega | (simp only []; omega) | (simp; omega)) ?_
      conv => whnf
      refine ⟨⟨hi', hi', by rw [take_succ_of hx, take_succ_of hy, hJ, q2]⟩, [], ?_⟩
      repeat' (first | exact trivial | rfl | refine And.intro ?_ ?_)
      all_goals (conv => whnf)
      repeat' (first | exact trivial | rfl | refine And.intro ?_ ?_)
  · have hi' : i = l.length := by omega
    rw [hi', List.take_length, List.take_of_length_le (by omega)] at hJ
    rw [decide_eq_true hJ]
    exact ⟨[], rfl, by simp [mtV, Cpl.valOf, mtC, eqD], trivial⟩

set_option maxRecDepth 100000 in
theorem overR_c (c : Cfg) (s : St) {T : List TS} {bk : List Int} (hk : bk.length = c.cells.length) (hC : c.cells.length ≤ 100) : CallsH Tryz.prog 53 [.c (.ptr 0 0 0)] (rfH c s T bk) (B (overF c bk)) (rfH c s T bk) := by
  have l1 := r1_len bk
  have l2 := r2_len c.cells
  generalize hov : overF c bk = ov
  refine callsR_of tab mixed Tryz.func53 rfl (by decide) rfl rfl ?_
  conv => whnf
  refine loopN tab mixed (fun i => i ≤ bk.length ∧ ∀ k : Nat, k < i → atI bk k ≤ capOf c k) bk.length (fun i => [(10, I i)]) (fun _ => []) 51 [] ⟨by omega, fun k hk => absurd hk (Nat.not_lt_zero k)⟩ ?_
  conv => whnf
  refine ⟨?_, fun i ⟨hi, hJ⟩ => ?_⟩
  · repeat' (first | exact trivial | rfl | refine And.intro ?_ ?_)
    all_goals (conv => whnf)
    repeat' (first | exact trivial | rfl | refine And.intro ?_ ?_)
  conv => whnf
  refine spD (fun q1 => ?_) (fun q1 => ?_) <;> conv => whnf
  · have hi' : i < bk.length := by omega
    obtain ⟨z, hz⟩ := get_of hi'
    obtain ⟨y, hy⟩ := get_of (l := c.cells) (i := i) (by omega)
    have e1 : atI bk (i : Int) = z := atI_get (by simpa using hz)
    have e2 : capOf c i = y.2 := by simp [capOf, hy]
    refine ⟨by omega, by omega, _, r1_get hz, ?_⟩
    conv => whnf
    refine ⟨by omega, _, r2_get hy, ?_⟩
    conv => whnf
    refine spD (fun q2 => ?_) (fun q2 => ?_) <;> conv => whnf
    · have : overF c bk = true := overF_yes i hi' (by rw [e1, e2]; exact q2)
      rw [hov] at this
      subst this
      refine ⟨[(0, some 0), (1, some 1), (2, some 2)], ?_⟩
      repeat' (first | exact trivial | rfl | refine And.intro ?_ ?_)
      all_goals (conv => whnf)
      repeat' (first | exact trivial | rfl | refine And.intro ?_ ?_)
    · refine gv (by first | omega | (simp only []; omega) | (simp; omega)) (by first | omega | (simp only []; omega) | (simp; omega)) ?_
      conv => whnf
      refine ⟨⟨hi', hi', fun k hk => ?_⟩, [], ?_⟩
      · rcases Nat.lt_or_ge k i with h | h
        · exact hJ k h
        · have : k = i := by omega
          subst this
          rw [e1, e2]; omega
      · repeat' (first | exact trivial | rfl | refine And.intro ?_ ?_)
        all_goals (conv => whnf)
        repeat' (first | exact trivial | rfl | refine And.intro ?_ ?_)
  · have hi' : i = bk.length := by omega
    have : overF c bk = false := overF_no fun k hk => hJ k (by omega)
    rw [hov] at this
    subst this
    refine ⟨[(0, some 0), (1, some 1), (2, some 2)], ?_⟩
    repeat' (first | exact trivial | rfl | refine And.intro ?_ ?_)
    all_goals (conv => whnf)
    repeat' (first | exact trivial | rfl | refine And.intro ?_ ?_)

set_option maxHeartbeats 4000000 in
set_option maxRecDepth 100000 in
theorem fitsR_c (c : Cfg) (s : St) (r x : Int) (steps : List Stp) (left : List Int) (w : WG c) (h : StOk c s) (hl : steps.length ≤ 100000) : CallsH Tryz.prog 22 [cfgV c, stV s, evV r steps left, I x] [] (B (fitsF c s r steps x)) [] := by
  have hg := w.good
  have hC := hg.cells
  have hT := w.few
  have l3 := rT_len c.tenants
  generalize hfi : fitsF c s r steps x = fi
  have hno : ∀ {v : Bool}, fitsF c s r steps x = v → fi = v := fun e => by rw [← hfi, e]
  rcases Option.eq_none_or_eq_some (runF c s (sit0 c s) steps) with e | ⟨⟨se, bk⟩, e⟩
  · have hfalse := hno (v := false) (by unfold fitsF; rw [e])
    subst hfalse
    refine callsR_of tab mixed Tryz.func22 rfl (by decide) rfl rfl ?_
    conv => whnf
    refine ⟨_, _, through_no c s steps w h hl e, ?_⟩
    conv => whnf
    refine ⟨by kernel_rfl, ?_⟩
    conv => whnf
    refine ⟨fun _ => ?_, fun q => (by cases q)⟩
    conv => whnf
    first | exact ⟨[], rfl, ⟨rfl, rfl⟩, trivial⟩ | exact ⟨[], rfl, rfl, trivial⟩
  have hthr := through_yes c s steps w h hl e
  have hsz := run_sz hg steps (p := sit0 c s) (bkd_bd w h) (by omega) e
  have hok := run_ok steps (sit0_ok h) e
  dsimp only at hsz hthr
  have hn := hsz.n
  have hk := hsz.k
  have ef : fitsF c s r steps x = fitsS c s r ⟨se, bk⟩ x := by unfold fitsF; rw [e]
  rw [ef] at hno
  refine callsR_of tab mixed Tryz.func22 rfl (by decide) rfl rfl ?_
  conv => whnf
  refine exK hthr ?_
  rintro _ _ ⟨T, rfl, rfl, rfl, hz⟩
  have l1 := rTS_len T
  rw [List.length_map] at hn
  conv => whnf
  refine ⟨by kernel_rfl, ?_⟩
  conv => whnf
  refine ⟨fun q => (by cases q), fun _ => ?_⟩
  conv => whnf
  by_cases hx : 0 ≤ x ∧ x < T.length
  rotate_left 1
  · have hfalse := hno (v := false) (by
      unfold fitsS
      split
      · rw [List.getElem?_eq_none (by simp; omega)]
      · rfl)
    subst hfalse
    refine spD (fun q1 => ?_) (fun q1 => ?_) <;> conv => whnf
    · first | exact ⟨[], rfl, ⟨rfl, rfl⟩, trivial⟩ | exact ⟨[], rfl, rfl, trivial⟩
    refine spD (fun q1 => ?_) (fun q1 => ?_) <;> conv => whnf
    · first | exact ⟨[], rfl, ⟨rfl, rfl⟩, trivial⟩ | exact ⟨[], rfl, rfl, trivial⟩
    · omega
  refine spD (fun q1 => absurd q1 (by omega)) (fun _ => ?_)
  conv => whnf
  refine spD (fun q1 => absurd q1 (by omega)) (fun _ => ?_)
  conv => whnf
  obtain ⟨⟨t1, t2, t3, t4, t5, t6, t7, t8, t9, t10, t11, t12⟩, ht⟩ := get_int (l := T) hx.1 (by omega)
  have ht2 : (T.map seatOf)[x.toNat]? = some ⟨t1 && !t2, t3, t4, t5, t6⟩ := by rw [List.getElem?_map, ht]; rfl
  have e1 : fitsS c s r ⟨T.map seatOf, bk⟩ x = ((t1 && !t2) && (decide (regionOf c t3 = r) && (usableP c s t4 && decide (missF c ⟨T.map seatOf, bk⟩ x ⟨t1 && !t2, t3, t4, t5, t6⟩ - sumL c (lowL c (T.map seatOf) t4 (prioOf c x)) ≤ 0)))) := by
    unfold fitsS
    rw [if_pos hx.1]
    dsimp only
    rw [ht2]
  have hact := activeR_c c s (Bk := bk) hx.1 ht
  dsimp only at hact
  refine ⟨_, _, hact, ?_⟩
  conv => whnf
  cases hac : (t1 && !t2)
  · have hfalse := hno (v := false) (by rw [e1, hac]; rfl)
    subst hfalse
    refine ⟨fun _ => ?_, fun q => (by cases q)⟩
    conv => whnf
    first | exact ⟨[], rfl, ⟨rfl, rfl⟩, trivial⟩ | exact ⟨[], rfl, rfl, trivial⟩
  rw [hac] at e1
  refine ⟨fun q => (by cases q), fun _ => ?_⟩
  conv => whnf
  refine ⟨by omega, by omega, _, rTS_get ht, ?_⟩
  conv => whnf
  refine ⟨_, _, refRegionOf_c c t3 hg.laid, ?_⟩
  conv => whnf
  refine spNe (fun q4 => ?_) (fun q4 => ?_) <;> (try dsimp only at q4) <;> conv => whnf
  · have hfalse := hno (v := false) (by rw [e1, decide_eq_false q4]; rfl)
    subst hfalse
    first | exact ⟨[], rfl, ⟨rfl, rfl⟩, trivial⟩ | exact ⟨[], rfl, rfl, trivial⟩
  have hokk := okR_c c s (Bk := bk) hg h.pre.nc hx.1 ht
  dsimp only at hokk
  refine ⟨_, _, hokk, ?_⟩
  conv => whnf
  cases hu : usableP c s t4
  · have hfalse := hno (v := false) (by rw [e1, hu]; simp)
    subst hfalse
    refine ⟨fun _ => ?_, fun q => (by cases q)⟩
    conv => whnf
    first | exact ⟨[], rfl, ⟨rfl, rfl⟩, trivial⟩ | exact ⟨[], rfl, rfl, trivial⟩
  refine ⟨fun q => (by cases q), fun _ => ?_⟩
  conv => whnf
  have hci := usable_in hu
  obtain ⟨⟨d1, d2, d3, d4, d5, d6, d7⟩, hd⟩ := get_int (l := c.tenants) hx.1 (by omega)
  have hdd := hg.ten _ (List.mem_of_getElem? hd)
  unfold okT at hdd
  dsimp only at hdd
  obtain ⟨y, hy⟩ := get_int (l := c.cells) hci.1 (by omega)
  obtain ⟨z, hzz⟩ := get_int (l := bk) hci.1 (by omega)
  have hb := hsz.bd z (List.mem_of_getElem? hzz)
  have hcap := w.caps y (List.mem_of_getElem? hy)
  have em : missF c ⟨T.map seatOf, bk⟩ x ⟨true, t3, t4, t5, t6⟩ = d1 - d2 - (y.2 - z) := by simp [missF, ldOf, shOf, capOf, atI, hd, hy, hzz]
  have em2 : missB c bk x t4 = d1 - d2 - (y.2 - z) := by simp [missB, ldOf, shOf, capOf, atI, hd, hy, hzz]
  have ep : prioOf c x = d3 := by simp [prioOf, hd]
  rw [em, ep] at e1
  have hmis := missingR_c c s w hz hx.1 ht hci
  dsimp only at hmis
  rw [em2] at hmis
  refine ⟨_, _, hmis, ?_⟩
  conv => whnf
  refine ⟨by kernel_rfl, ?_⟩
  conv => whnf
  refine ⟨by omega, by omega, _, rTS_get ht, ?_⟩
  conv => whnf
  refine ⟨by omega, _, rT_get hd, ?_⟩
  conv => whnf
  refine exK (lowerR_q c s t4 d3 hT hn) ?_
  rintro _ _ ⟨out, rfl, rfl, hp⟩
  have hol : out.length ≤ 12 := by
    rw [hp.length_eq]
    have := upto_leN (lowP c (T.map seatOf) t4 d3) (T.map seatOf).length
    rw [List.length_map] at this
    unfold lowL; rw [List.length_map]; omega
  have hoi : ∀ v ∈ out, inT c v := fun v hv => low_in (by simp [hn]) v (hp.subset hv)
  have hsum := sumL_perm c hp
  have l4 := r1_len out
  have hsb : ∀ j, j ≤ out.length → 0 ≤ sumL c (out.take j) ∧ sumL c (out.take j) ≤ 65536 * (j : Int) := by
    intro j
    induction j with
    | zero => intro _; simp [sumL]
    | succ j ih =>
      intro hj
      obtain ⟨v, hv⟩ := get_of (l := out) (i := j) (by omega)
      have := ih (by omega)
      have hv2 := ten_ld hg v
      rw [take_succ_of hv, sumL_app]
      simp only [sumL]; omega
  conv => whnf
  refine ⟨rfl, rfl, rfl, ?_⟩
  conv => whnf
  refine loopN tab mixed (fun j => j ≤ out.length) out.length (fun j => [(82, I j), (11, I (d1 - d2 - (y.2 - z) - sumL c (out.take j)))]) (fun _ => []) 51 [] (by omega) ?_
  conv => whnf
  refine ⟨?_, fun j hj => ?_⟩
  · repeat' (first | exact trivial | rfl | refine And.intro ?_ ?_)
    all_goals (conv => whnf)
    repeat' (first | exact trivial | rfl | refine And.intro ?_ ?_)
    simp [sumL]
  conv => whnf
  refine spD (fun q7 => ?_) (fun q7 => ?_) <;> conv => whnf
  · have hj' : j < out.length := by omega
    obtain ⟨v, hv⟩ := get_of hj'
    have hvi := hoi v (List.mem_of_getElem? hv)
    unfold inT at hvi
    obtain ⟨⟨f1, f2, f3, f4, f5, f6, f7⟩, hf⟩ := get_int (l := c.tenants) hvi.1 (by omega)
    have hff := hg.ten _ (List.mem_of_getElem? hf)
    unfold okT at hff
    dsimp only at hff
    have el2 : ldOf c v = f1 := by simp [ldOf, hf]
    have hsj := hsb j (by omega)
    refine ⟨by omega, by omega, _, r1_get hv, ?_⟩
    conv => whnf
    refine ⟨by omega, _, rT_get hf, ?_⟩
    conv => whnf
    refine gv (by first | omega | (simp only []; omega) | (simp; omega)) (by first | omega | (simp only []; omega) | (simp; omega)) ?_
    conv => whnf
    refine gv (by first | omega | (simp only []; omega) | (simp; omega)) (by first | omega | (simp only []; omega) | (simp; omega)) ?_
    conv => whnf
    refine ⟨⟨hj', hj'⟩, [], ?_⟩
    repeat' (first | exact trivial | rfl | refine And.intro ?_ ?_)
    all_goals (conv => whnf)
    repeat' (first | exact trivial | rfl | refine And.intro ?_ ?_)
    rw [take_succ_of hv, sumL_app]
    simp only [sumL, el2]
    omega
  · have hj' : j = out.length := by omega
    rw [hj', List.take_length]
    have hfin := hno (v := decide (d1 - d2 - (y.2 - z) - sumL c out ≤ 0)) (by
      rw [e1, hu, decide_eq_true q4, hsum]
      rfl)
    subst hfin
    first | exact ⟨[], rfl, ⟨rfl, rfl⟩, trivial⟩ | exact ⟨[], rfl, rfl, trivial⟩

set_option maxHeartbeats 4000000 in
set_option maxRecDepth 100000 in
theorem neededR_c (c : Cfg) (s : St) (r i : Int) (steps : List Stp) (left : List Int) (w : WG c) (h : StOk c s) (hl : steps.length ≤ 100000) : CallsH Tryz.prog 20 [cfgV c, stV s, evV r steps left, I i] [] (B (neededF c s steps i)) [] := by
  have hg := w.good
  have hC := hg.cells
  have hT := w.few
  have l0 := rSt_len steps
  have l3 := rT_len c.tenants
  generalize hfi : neededF c s steps i = nd
  have hno : ∀ {v : Bool}, neededF c s steps i = v → nd = v := fun e => by rw [← hfi, e]
  by_cases hi : 0 ≤ i ∧ i < steps.length
  rotate_left 1
  · have hfalse := hno (v := false) (by
      unfold neededF
      split
      · rw [List.getElem?_eq_none (by omega)]
      · rfl)
    subst hfalse
    refine callsR_of tab mixed Tryz.func20 rfl (by decide) rfl rfl ?_
    conv => whnf
    refine spD (fun q1 => ?_) (fun q1 => ?_) <;> conv => whnf
    · first | exact ⟨[], rfl, ⟨rfl, rfl⟩, trivial⟩ | exact ⟨[], rfl, rfl, trivial⟩
    refine spD (fun q1 => ?_) (fun q1 => ?_) <;> conv => whnf
    · first | exact ⟨[], rfl, ⟨rfl, rfl⟩, trivial⟩ | exact ⟨[], rfl, rfl, trivial⟩
    · omega
  obtain ⟨⟨kind, ten, cell⟩, hx⟩ := get_int (l := steps) hi.1 (by omega)
  by_cases hk : kind = 1
  rotate_left 1
  · have hfalse := hno (v := false) (needed_kind hx hk)
    subst hfalse
    refine callsR_of tab mixed Tryz.func20 rfl (by decide) rfl rfl ?_
    conv => whnf
    refine spD (fun q1 => absurd q1 (by omega)) (fun _ => ?_)
    conv => whnf
    refine spD (fun q1 => absurd q1 (by omega)) (fun _ => ?_)
    conv => whnf
    refine ⟨by omega, _, rSt_get hx, ?_⟩
    conv => whnf
    refine spNe (fun q1 => ?_) (fun q1 => absurd q1 hk)
    conv => whnf
    first | exact ⟨[], rfl, ⟨rfl, rfl⟩, trivial⟩ | exact ⟨[], rfl, rfl, trivial⟩
  subst hk
  have hen := endF_gt (cell := cell) hx rfl rfl
  have hel := endF_le steps cell i.toNat (by omega)
  generalize hE : endF steps cell i.toNat = en at hen hel
  have htl : (steps.take en).length ≤ 100000 := by simp; omega
  have htl2 : (steps.take i.toNat).length ≤ 100000 := by simp; omega
  have e5 := needed_eq (c := c) (s := s) hi.1 hx rfl hE
  dsimp only at e5
  refine callsR_of tab mixed Tryz.func20 rfl (by decide) rfl rfl ?_
  conv => whnf
  refine spD (fun q1 => absurd q1 (by omega)) (fun _ => ?_)
  conv => whnf
  refine spD (fun q1 => absurd q1 (by omega)) (fun _ => ?_)
  conv => whnf
  refine ⟨by omega, _, rSt_get hx, ?_⟩
  conv => whnf
  refine spNe (fun q1 => absurd rfl q1) (fun _ => ?_)
  conv => whnf
  refine ⟨by omega, _, rSt_get hx, ?_⟩
  conv => whnf
  refine loopRX tab mixed (ι := { e : Nat // e ≤ steps.length ∧ endF steps cell e = en }) (κ := Unit) (fun k => [(10, I k.1)]) (fun k => []) 51 (fun k => steps.length - k.1) 0 (fun _ => [(10, I en)]) (fun _ => []) 51 ⟨i.toNat, by omega, hE⟩ [] ?_
  conv => whnf
  refine ⟨?_, fun k => ?_, fun k => ?_⟩
  · repeat' (first | exact trivial | rfl | refine And.intro ?_ ?_)
    all_goals (conv => whnf)
    repeat' (first | exact trivial | rfl | refine And.intro ?_ ?_)
    all_goals (dsimp only; omega)
  · obtain ⟨e, he1, he2⟩ := k
    dsimp only
    conv => whnf
    refine ⟨by kernel_rfl, ?_⟩
    conv => whnf
    refine spD (fun q3 => ?_) (fun q3 => ?_) <;> conv => whnf
    rotate_left 1
    · refine ⟨(), [], ?_⟩
      repeat' (first | exact trivial | rfl | refine And.intro ?_ ?_)
      all_goals (conv => whnf)
      repeat' (first | exact trivial | rfl | refine And.intro ?_ ?_)
      all_goals (rw [← he2, endF_none (by omega)])
    obtain ⟨⟨kind2, ten2, cell2⟩, hx2⟩ := get_of (l := steps) (i := e) (by omega)
    refine ⟨by omega, _, rSt_get hx2, ?_⟩
    conv => whnf
    refine spE (fun q4 => ?_) (fun q4 => ?_) <;> (try dsimp only at q4) <;> conv => whnf
    rotate_left 1
    · refine ⟨(), [], ?_⟩
      repeat' (first | exact trivial | rfl | refine And.intro ?_ ?_)
      all_goals (conv => whnf)
      repeat' (first | exact trivial | rfl | refine And.intro ?_ ?_)
      all_goals (rw [← he2, endF_no hx2 (by simp [isShedAt, q4])])
    refine ⟨by omega, _, rSt_get hx2, ?_⟩
    conv => whnf
    refine spE (fun q5 => ?_) (fun q5 => ?_) <;> (try dsimp only at q5) <;> conv => whnf
    rotate_left 1
    · refine ⟨(), [], ?_⟩
      repeat' (first | exact trivial | rfl | refine And.intro ?_ ?_)
      all_goals (conv => whnf)
      repeat' (first | exact trivial | rfl | refine And.intro ?_ ?_)
      all_goals (rw [← he2, endF_no hx2 (by simp [isShedAt, q5])])
    refine gv (by first | omega | (simp only []; omega) | (simp; omega)) (by first | omega | (simp only []; omega) | (simp; omega)) ?_
    conv => whnf
    refine ⟨⟨e + 1, by omega, by rw [← he2, endF_yes hx2 (by simp [isShedAt, q4, q5])]⟩, [], ?_, by show steps.length - (e + 1) < steps.length - e; omega⟩
    repeat' (first | exact trivial | rfl | refine And.intro ?_ ?_)
    all_goals (conv => whnf)
    repeat' (first | exact trivial | rfl | refine And.intro ?_ ?_)
  · conv => whnf
    refine ⟨by kernel_rfl, ?_⟩
    conv => whnf
    refine spE (fun q3 => ?_) (fun q3 => ?_) <;> conv => whnf
    · have hfalse := hno (v := false) (by rw [e5, List.getElem?_eq_none (by omega)])
      subst hfalse
      first | exact ⟨[], rfl, ⟨rfl, rfl⟩, trivial⟩ | exact ⟨[], rfl, rfl, trivial⟩
    obtain ⟨⟨kind2, ten2, cell2⟩, hy⟩ := get_of (l := steps) (i := en) (by omega)
    rw [hy] at e5
    dsimp only at e5
    refine ⟨by omega, _, rSt_get hy, ?_⟩
    conv => whnf
    refine spNe (fun q4 => ?_) (fun q4 => ?_) <;> (try dsimp only at q4) <;> conv => whnf
    · have hfalse := hno (v := false) (by rw [e5, decide_eq_false (by omega)]; rfl)
      subst hfalse
      first | exact ⟨[], rfl, ⟨rfl, rfl⟩, trivial⟩ | exact ⟨[], rfl, rfl, trivial⟩
    refine ⟨by omega, _, rSt_get hy, ?_⟩
    conv => whnf
    refine spNe (fun q5 => ?_) (fun q5 => ?_) <;> (try dsimp only at q5) <;> conv => whnf
    · have hfalse := hno (v := false) (by rw [e5, decide_eq_false (by omega)]; rfl)
      subst hfalse
      first | exact ⟨[], rfl, ⟨rfl, rfl⟩, trivial⟩ | exact ⟨[], rfl, rfl, trivial⟩
    refine ⟨by omega, _, rSt_get hy, ?_⟩
    conv => whnf
    refine spD (fun q6 => ?_) (fun q6 => ?_) <;> (try dsimp only at q6) <;> conv => whnf
    · have hfalse := hno (v := false) (by rw [e5, decide_eq_false (by omega)]; rfl)
      subst hfalse
      first | exact ⟨[], rfl, ⟨rfl, rfl⟩, trivial⟩ | exact ⟨[], rfl, rfl, trivial⟩
    refine spD (fun q7 => ?_) (fun q7 => ?_) <;> (try dsimp only at q7) <;> conv => whnf
    · have hfalse := hno (v := false) (by rw [e5, decide_eq_false (by omega)]; rfl)
      subst hfalse
      first | exact ⟨[], rfl, ⟨rfl, rfl⟩, trivial⟩ | exact ⟨[], rfl, rfl, trivial⟩
    rw [decide_eq_true (by omega), Bool.true_and] at e5
    have hsplit := run_split c s (sit0 c s) steps (i := i.toNat) (n := en) (by omega)
    refine ⟨by kernel_rfl, ?_⟩
    conv => whnf
    refine ⟨fun r hr => (rSt_ok _ r hr).1, by omega, by omega, ?_⟩
    conv => whnf
    rcases Option.eq_none_or_eq_some (runF c s (sit0 c s) (steps.take en)) with e2 | ⟨p2, e2⟩
    · have hthr := through_no c s _ w h htl e2
      rw [rSt_take] at hthr
      have hfalse := hno (v := false) (by rw [e5, e2]; rfl)
      subst hfalse
      refine ⟨_, _, hthr, ?_⟩
      conv => whnf
      refine ⟨by kernel_rfl, ?_⟩
      conv => whnf
      refine ⟨fun _ => ?_, fun q => (by cases q)⟩
      conv => whnf
      first | exact ⟨[], rfl, ⟨rfl, rfl⟩, trivial⟩ | exact ⟨[], rfl, rfl, trivial⟩
    have hthr := through_yes c s _ w h htl e2
    rw [rSt_take] at hthr
    rw [e2] at e5 hsplit
    simp only [Option.isSome_some, Bool.true_and] at e5
    -- the steps ahead
    obtain ⟨⟨se, bk⟩, e⟩ : ∃ q, runF c s (sit0 c s) (steps.take i.toNat) = some q := by
      cases hq : runF c s (sit0 c s) (steps.take i.toNat) with
      | none => rw [hq] at hsplit; cases hsplit
      | some q => exact ⟨q, rfl⟩
    rw [e] at hsplit
    simp only [Option.bind_some] at hsplit
    have hcut : (steps.take en).drop i.toNat = ⟨1, ten, cell⟩ :: (steps.take en).drop (i.toNat + 1) := drop_of (by rw [List.getElem?_take, if_pos hen]; exact hx)
    rw [hcut] at hsplit
    simp only [runF] at hsplit
    have hsz := run_sz hg (steps.take i.toNat) (p := sit0 c s) (bkd_bd w h) (by omega) e
    dsimp only at hsz
    have hn := hsz.n
    have hkk := hsz.k
    have hin : (0 ≤ ten ∧ ten < se.length) ∧ 0 ≤ cell ∧ cell < bk.length := by
      cases ht : takeF c s ⟨se, bk⟩ ⟨1, ten, cell⟩ with
      | none => rw [ht] at hsplit; cases hsplit
      | some q =>
        cases take_view ht with
        | shed t h0 hc ht ha hk hh e => exact ⟨⟨h0, by have := (List.getElem?_eq_some_iff.1 ht).1; dsimp only at this; omega⟩, hc⟩
        | move t h0 hc ht ha hk hh hus e => exact absurd hk (by intro hh2; cases hh2)
    have hthr2 := through_yes c s _ w h htl2 e
    rw [rSt_take] at hthr2
    obtain ⟨⟨d1, d2, d3, d4, d5, d6, d7⟩, hd⟩ := get_int (l := c.tenants) (i := ten2) (by omega) (by omega)
    obtain ⟨⟨f1, f2, f3, f4, f5, f6, f7⟩, hf⟩ := get_int (l := c.tenants) (i := ten) (by omega) (by omega)
    obtain ⟨y, hyc⟩ := get_int (l := c.cells) (i := cell) (by omega) (by omega)
    obtain ⟨z, hz⟩ := get_int (l := bk) (i := cell) (by omega) (by omega)
    have hbz := hsz.bd z (List.mem_of_getElem? hz)
    have hdd := hg.ten _ (List.mem_of_getElem? hd)
    unfold okT at hdd
    dsimp only at hdd
    have g1 : prioOf c ten2 = d3 := by simp [prioOf, hd]
    have g2 : prioOf c ten = f3 := by simp [prioOf, hf]
    have g3 : capOf c cell = y.2 := by simp [capOf, hyc]
    have g4 : ldOf c ten2 = d1 := by simp [ldOf, hd]
    have g5 : shOf c ten2 = d2 := by simp [shOf, hd]
    have g6 : atI bk cell = z := atI_get hz
    rw [g1, g2, e] at e5
    dsimp only at e5
    rw [g3, g4, g5, g6] at e5
    refine exK hthr ?_
    rintro _ _ ⟨T1, rfl, rfl, _, _⟩
    conv => whnf
    refine ⟨by kernel_rfl, ?_⟩
    conv => whnf
    refine ⟨fun q => (by cases q), fun _ => ?_⟩
    conv => whnf
    refine ⟨by first | omega | (dsimp only; omega), _, rT_get hf, ?_⟩
    conv => whnf
    refine ⟨by first | omega | (dsimp only; omega), _, rT_get hd, ?_⟩
    conv => whnf
    refine spD (fun q8 => ?_) (fun q8 => ?_) <;> (try dsimp only at q8) <;> conv => whnf
    · have hfalse := hno (v := false) (by rw [e5, decide_eq_false (by omega)]; rfl)
      subst hfalse
      first | exact ⟨[], rfl, ⟨rfl, rfl⟩, trivial⟩ | exact ⟨[], rfl, rfl, trivial⟩
    rw [decide_eq_true (by omega), Bool.true_and] at e5
    refine gv (by first | omega | (simp only []; omega) | (simp; omega)) (by first | omega | (simp only []; omega) | (simp; omega)) ?_
    conv => whnf
    refine spD (fun q9 => ?_) (fun q9 => ?_) <;> conv => whnf
    · have htrue := hno (v := true) (by rw [e5, decide_eq_true (by omega)]; rfl)
      subst htrue
      first | exact ⟨[], rfl, ⟨rfl, rfl⟩, trivial⟩ | exact ⟨[], rfl, rfl, trivial⟩
    rw [decide_eq_false (by omega), Bool.false_or] at e5
    refine ⟨by kernel_rfl, ?_⟩
    conv => whnf
    refine ⟨fun r hr => (rSt_ok _ r hr).1, by omega, by omega, ?_⟩
    conv => whnf
    refine exK hthr2 ?_
    rintro _ _ ⟨T2, rfl, rfl, _, _⟩
    have l7 := r1_len bk
    conv => whnf
    refine ⟨by kernel_rfl, ?_⟩
    conv => whnf
    refine ⟨by first | omega | (dsimp only; omega), by first | omega | (dsimp only; omega), _, r1_get hz, ?_⟩
    conv => whnf
    refine ⟨by first | omega | (dsimp only; omega), _, rT_get hd, ?_⟩
    conv => whnf
    refine gv (by first | omega | (simp only []; omega) | (simp; omega)) (by first | omega | (simp only []; omega) | (simp; omega)) ?_
    conv => whnf
    refine ⟨by first | omega | (dsimp only; omega), _, rT_get hd, ?_⟩
    conv => whnf
    refine gv (by first | omega | (simp only []; omega) | (simp; omega)) (by first | omega | (simp only []; omega) | (simp; omega)) ?_
    conv => whnf
    refine ⟨by first | omega | (dsimp only; omega), _, r2_get hyc, ?_⟩
    conv => whnf
    have hfin := hno e5
    subst hfin
    first | exact ⟨[], rfl, ⟨rfl, rfl⟩, trivial⟩ | exact ⟨[], rfl, rfl, trivial⟩

end Go.Proofs.YtncckpieemmmfaaGreat

namespace Go.Proofs.YtncckpieemmmfaaGreat
open Go Go.Cpl

/-- along the steps of the reference, with peaks -/
structure PR (c : Cfg) (s : St) (l : List Stp) (fin : List Int) where
  i : Nat
  T : List TS
  Bk : List Int
  m : List Int
  hi : i ≤ l.length
  hp : fin = peakF c s (absS T Bk) (l.drop i) m
  hm : m.length = Bk.length
  hz : SzT c (100000000 + 262144 * (i : Int)) T Bk

set_option maxHeartbeats 2000000 in
set_option maxRecDepth 100000 in
theorem peakR_c (c : Cfg) (s : St) (r : Int) (steps : List Stp) (left : List Int) (w : WG c) (h : StOk c s) (hl : steps.length ≤ 100000) : CallsH Tryz.prog 27 [cfgV c, stV s, evV r steps left] [] (.c (.gs 0)) [.arr 3 (r1 (peakF c s (sit0 c s) steps (bkd c s.ts)))] := by
  have hb0 := szt0 w h
  have hk := hb0.k
  have hg := w.good
  have hC := hg.cells
  have l0 := rSt_len steps
  have l1 := r1_len (bkd c s.ts)
  obtain ⟨fin, hfin⟩ : ∃ fin, peakF c s (sit0 c s) steps (bkd c s.ts) = fin := ⟨_, rfl⟩
  rw [hfin]
  refine callsR_of tab mixed Tryz.func27 rfl (by decide) rfl rfl ?_
  conv => whnf
  refine ⟨_, _, startR_c c s w h, ?_⟩
  conv => whnf
  refine ⟨r1_okE _, ⟨by simp; omega⟩, ?_⟩
  conv => whnf
  refine loopRX tab mixed (ι := PR c s steps fin) (κ := List TS × List Int) (fun k => [(25, I k.i)]) (fun k => [(4, .arr 58 (rTS k.T)), (5, .arr 3 (r1 k.Bk)), (7, .arr 3 (r1 k.m))]) 51 (fun k => steps.length - k.i) 0 (fun _ => []) (fun k => [(4, .arr 58 (rTS k.1)), (5, .arr 3 (r1 k.2)), (7, .arr 3 (r1 fin))]) 51 ⟨0, s.ts, bkd c s.ts, bkd c s.ts, by omega, hfin.symm, rfl, by simpa using hb0⟩ [(4, some 4), (5, some 5), (7, some 7)] ?_
  conv => whnf
  refine ⟨?_, fun k => ?_, fun k => ?_⟩
  · repeat' (first | exact trivial | rfl | refine And.intro ?_ ?_)
    all_goals (conv => whnf)
    repeat' (first | exact trivial | rfl | refine And.intro ?_ ?_)
  · obtain ⟨i, T, Bk, m, hi, hp, hm, hz⟩ := k
    have hkk := hz.k
    have l2 := r1_len Bk
    dsimp only
    conv => whnf
    refine spD (fun q1 => ?_) (fun q1 => ?_) <;> conv => whnf
    rotate_left 1
    · rw [peak_end (by omega)] at hp
      refine ⟨(T, Bk), [(4, some 4), (5, some 5), (7, some 7)], ?_⟩
      repeat' (first | exact trivial | rfl | refine And.intro ?_ ?_)
      all_goals (conv => whnf)
      repeat' (first | exact trivial | rfl | refine And.intro ?_ ?_)
      all_goals (rw [hp])
    have hi' : i < steps.length := by omega
    obtain ⟨⟨kind, ten, cell⟩, hx⟩ := get_of hi'
    have hpos := possible_c c s (T := T) (Bk := Bk) kind ten cell hg h.pre.nc
    refine ⟨by omega, _, rSt_get hx, ?_⟩
    conv => whnf
    rcases Option.eq_none_or_eq_some (takeF c s (absS T Bk) ⟨kind, ten, cell⟩) with e | ⟨p2, e⟩
    · rw [e] at hpos
      rw [peak_stop hx e] at hp
      refine ⟨_, _, hpos, ?_⟩
      conv => whnf
      refine ⟨fun _ => ?_, fun q => (by cases q)⟩
      conv => whnf
      refine ⟨(T, Bk), [(4, some 4), (5, some 5), (7, some 7)], ?_⟩
      repeat' (first | exact trivial | rfl | refine And.intro ?_ ?_)
      all_goals (conv => whnf)
      repeat' (first | exact trivial | rfl | refine And.intro ?_ ?_)
      all_goals (rw [hp])
    have hten := take_ten e
    have habs := take_abs e
    rw [e] at hpos
    rw [peak_step hx e, habs] at hp
    dsimp only at hp
    have hz2 := szt_step hg ⟨kind, ten, cell⟩ hz (by omega)
    have hkk2 := hz2.k
    refine ⟨_, _, hpos, ?_⟩
    conv => whnf
    refine ⟨fun q => (by cases q), fun _ => ?_⟩
    conv => whnf
    refine ⟨_, _, takeR_c c s kind ten cell w hz (by omega) hten, ?_⟩
    conv => whnf
    generalize takeB c T Bk ⟨kind, ten, cell⟩ = Bk2 at *
    generalize takeT T ⟨kind, ten, cell⟩ = T2 at *
    have l3 := r1_len Bk2
    have hm2 : m.length = Bk2.length := by omega
    have l5 := maxL_len hm2
    refine loopN tab mixed (fun j => j ≤ Bk2.length) Bk2.length (fun j => [(41, I j)]) (fun j => [(7, .arr 3 (r1 ((maxL m Bk2).take j ++ m.drop j)))]) 61 [(7, some 7)] (by omega) ?_
    conv => whnf
    refine ⟨?_, fun j hj => ?_⟩
    · repeat' (first | exact trivial | rfl | refine And.intro ?_ ?_)
      all_goals (conv => whnf)
      repeat' (first | exact trivial | rfl | refine And.intro ?_ ?_)
    conv => whnf
    refine spD (fun q2 => ?_) (fun q2 => ?_) <;> conv => whnf
    · have hj' : j < Bk2.length := by omega
      obtain ⟨z, hzz⟩ := get_of hj'
      obtain ⟨u, hu⟩ := get_of (l := m) (i := j) (by omega)
      have hA : (maxL m Bk2)[j]? = some (if z > u then z else u) := by simp [maxL, List.getElem?_zipWith, hzz, hu]
      have hgm := get_mid (A := maxL m Bk2) (m := m) l5 (i := j) (by omega)
      rw [hu] at hgm
      have hs := set_mid (m := m) hA l5
      have hla : ((maxL m Bk2).take j ++ m.drop j).length = m.length := by simp; omega
      have l6 := r1_len ((maxL m Bk2).take j ++ m.drop j)
      refine ⟨by omega, by omega, _, r1_get hzz, ?_⟩
      conv => whnf
      refine ⟨by omega, by omega, _, r1_get hgm, ?_⟩
      conv => whnf
      refine ⟨by omega, by omega, _, r1_get hgm, ?_⟩
      conv => whnf
      refine gv (by first | omega | (simp only []; omega) | (simp; omega)) (by first | omega | (simp only []; omega) | (simp; omega)) ?_
      conv => whnf
      refine ⟨⟨hj', hj'⟩, [(7, some 7)], ?_⟩
      repeat' (first | exact trivial | rfl | refine And.intro ?_ ?_)
      all_goals (conv => whnf)
      repeat' (first | exact trivial | rfl | refine And.intro ?_ ?_)
      rw [← hs]
      exact r1_set' _ _ _
    · have hj' : j = Bk2.length := by omega
      subst hj'
      rw [List.take_of_length_le (by omega), List.drop_eq_nil_of_le (by omega), List.append_nil]
      refine gv (by first | omega | (simp only []; omega) | (simp; omega)) (by first | omega | (simp only []; omega) | (simp; omega)) ?_
      conv => whnf
      refine ⟨⟨i + 1, T2, Bk2, maxL m Bk2, by omega, hp, by omega, hz2⟩, [(4, some 4), (5, some 5), (7, some 7)], ?_, by show steps.length - (i + 1) < steps.length - i; omega⟩
      repeat' (first | exact trivial | rfl | refine And.intro ?_ ?_)
      all_goals (conv => whnf)
      repeat' (first | exact trivial | rfl | refine And.intro ?_ ?_)
  · conv => whnf
    refine ⟨[(0, some 7)], ?_⟩
    repeat' (first | exact trivial | rfl | refine And.intro ?_ ?_)
    all_goals (conv => whnf)
    repeat' (first | exact trivial | rfl | refine And.intro ?_ ?_)

/-! the map of the tenants that were moved -/

def mpE (l : List (Int × Bool)) : List (List D × List D) := l.map fun p => ([i64 p.1], [.bool p.2])

def fndB (k : Int) : List (Int × Bool) → Option Bool
  | [] => none
  | p :: r => if k = p.1 then some p.2 else fndB k r

def setB (k : Int) (v : Bool) : List (Int × Bool) → List (Int × Bool)
  | [] => [(k, v)]
  | p :: r => if k = p.1 then (k, v) :: r else p :: setB k v r

theorem find_mp (k : Int) : ∀ l, findE [i64 k] (mpE l) = (fndB k l).map fun b => [.bool b]
  | [] => rfl
  | p :: r => by
    have ih := find_mp k r
    unfold mpE at ih ⊢
    rw [List.map_cons, findE, fndB]
    by_cases h : k = p.1
    · simp [eqB, h]
    · have hb : (k == p.1) = false := by simpa using h
      simp [eqB, h, hb, ih]

theorem set_mp (k : Int) (v : Bool) : ∀ l, setE [i64 k] [.bool v] (mpE l) = mpE (setB k v l)
  | [] => rfl
  | p :: r => by
    have ih := set_mp k v r
    unfold mpE at ih ⊢
    rw [List.map_cons, setE, setB]
    by_cases h : k = p.1
    · simp [eqB, h]
    · have hb : (k == p.1) = false := by simpa using h
      simp [eqB, h, hb, ih]

theorem fnd_set (k k' : Int) (v : Bool) : ∀ l, fndB k' (setB k v l) = if k' = k then some v else fndB k' l
  | [] => by simp [setB, fndB]
  | p :: r => by
    have ih := fnd_set k k' v r
    rw [setB]
    by_cases h : k = p.1
    · subst h
      rw [if_pos rfl, fndB, fndB]
      by_cases h2 : k' = p.1 <;> simp [h2]
    · rw [if_neg h, fndB, ih, fndB]
      by_cases h2 : k' = p.1
      · have : ¬ k' = k := fun e => h (by rw [← e, h2])
        rw [if_pos h2, if_neg this, if_pos h2]
      · rw [if_neg h2, if_neg h2]

theorem kinds_mp (k : Int) (l : List (Int × Bool)) : ∀ p ∈ mpE l, eqKinds [i64 k] p.1 = true := by
  intro p hp
  obtain ⟨q, _, rfl⟩ := List.mem_map.1 hp
  rfl

theorem look_mp (k : Int) (l : List (Int × Bool)) {b : Bool} (h : (fndB k l).getD false = b) : findE [i64 k] (mpE l) = some [.bool b] ∨ (findE [i64 k] (mpE l) = none ∧ b = false) := by
  rw [find_mp]
  cases hf : fndB k l with
  | none => rw [hf] at h; exact .inr ⟨rfl, h.symm⟩
  | some v => rw [hf] at h; simp at h; exact .inl (by rw [h]; rfl)

/-- what the map tells behind some steps -/
def MvOk (l : List (Int × Bool)) (steps : List Stp) : Prop := ∀ k, (fndB k l).getD false = decide (k ∈ movedL steps)

theorem mv_step {l : List (Int × Bool)} {steps : List Stp} {i : Nat} {x : Stp} (h : MvOk l (steps.take i)) (hx : steps[i]? = some x) (v : Bool) (hv : v = (decide (x.tenant ∈ movedL (steps.take i)) || decide (x.kind = 2))) : MvOk (setB x.tenant v l) (steps.take (i + 1)) := by
  intro k
  have hm : movedL (steps.take (i + 1)) = movedL (steps.take i) ++ movedL [x] := by rw [take_succ_of hx, movedL_app]
  have hx1 : movedL [x] = if x.kind = 2 then [x.tenant] else [] := by unfold movedL; by_cases hk : x.kind = 2 <;> simp [hk]
  rw [fnd_set, hm, hx1]
  by_cases hk : k = x.tenant
  · subst hk
    rw [if_pos rfl, hv]
    by_cases h2 : x.kind = 2 <;> simp [h2]
  · rw [if_neg hk, h k]
    by_cases h2 : x.kind = 2 <;> simp [h2, hk]

end Go.Proofs.YtncckpieemmmfaaGreat

namespace Go.Proofs.YtncckpieemmmfaaGreat
open Go Go.Cpl

theorem chk_none {c : Cfg} {s : St} {cands : List Int} {full l : List Stp} {i : Nat} {p : Sit} {x : Stp} (hx : l[i]? = some x) (e : takeF c s p x = none) : chk c s cands full i p (l.drop i) = (i, 4) := by
  rw [drop_of hx]; simp only [chk, e]

theorem chk_some {c : Cfg} {s : St} {cands : List Int} {full l : List Stp} {i : Nat} {p q : Sit} {x : Stp} (hx : l[i]? = some x) (e : takeF c s p x = some q) : chk c s cands full i p (l.drop i) = if x.kind = 2 ∧ x.tenant ∉ cands then (i, 4) else if overF c q.bk = true then (i, 10) else if x.kind = 1 ∧ neededF c s full i = false then (i, 37) else chk c s cands full (i + 1) q (l.drop (i + 1)) := by
  rw [drop_of hx]; simp only [chk, e]

/-- along the steps of the reference, checked -/
structure CR (c : Cfg) (s : St) (cands : List Int) (steps : List Stp) (n : Nat) (e : Int) where
  i : Nat
  T : List TS
  Bk : List Int
  mp : List (Int × Bool)
  hi : i ≤ steps.length
  hg : (n, e) = chk c s cands steps i (absS T Bk) (steps.drop i)
  hz : SzT c (100000000 + 262144 * (i : Int)) T Bk
  hv : MvOk mp (steps.take i)

theorem mvOk_nil : MvOk [] [] := fun k => by simp [fndB, movedL]

theorem check_eq2 {c : Cfg} {s : St} {r : Int} {steps : List Stp} {left : List Int} (hr : 0 ≤ r ∧ r < c.regions) {n : Nat} {e : Int} (h : chk c s (cand c s r) steps 0 (sit0 c s) steps = (n, e)) : checkF c s r steps left =
    if e ≠ 0 then ((n : Int), e) else if leftL c s r steps ≠ left then ((steps.length : Nat), 4) else if left.any (fitsF c s r steps) then ((steps.length : Nat), 37) else ((steps.length : Nat), 0) := by
  unfold checkF
  rw [if_neg (by omega), h]

set_option maxHeartbeats 8000000 in
set_option maxRecDepth 100000 in
theorem checkR_c (c : Cfg) (s : St) (r : Int) (steps : List Stp) (left : List Int) (w : WG c) (h : StOk c s) (hl : steps.length ≤ 100000) : CallsH Tryz.prog 18 [cfgV c, stV s, evV r steps left] [] (.tup [.inl (.d (i64 (checkF c s r steps left).1)), .inl (.d (i64 (checkF c s r steps left).2))]) [] := by
  have hb0 := szt0 w h
  have hg := w.good
  have l0 := rSt_len steps
  have hC := hg.cells
  have hT := w.few
  generalize hF : checkF c s r steps left = F
  obtain ⟨fa, fb⟩ := F
  have hno : ∀ {a b : Int}, checkF c s r steps left = (a, b) → fa = a ∧ fb = b := fun e => by rw [hF] at e; cases e; exact ⟨rfl, rfl⟩
  dsimp only
  by_cases hr : 0 ≤ r ∧ r < c.regions
  rotate_left 1
  · obtain ⟨rfl, rfl⟩ := hno (a := 0) (b := 1) (by unfold checkF; rw [if_pos (by omega)])
    refine callsR_of tab mixed Tryz.func18 rfl (by decide) rfl rfl ?_
    conv => whnf
    refine spD (fun q1 => ?_) (fun q1 => ?_) <;> conv => whnf
    · exact ⟨[], rfl, ⟨⟨rfl, rfl⟩, ⟨rfl, rfl⟩, trivial⟩, trivial⟩
    refine spD (fun q2 => ?_) (fun q2 => ?_) <;> conv => whnf
    · exact ⟨[], rfl, ⟨⟨rfl, rfl⟩, ⟨rfl, rfl⟩, trivial⟩, trivial⟩
    · omega
  have hcl := cand_len c s r
  obtain ⟨⟨n, e⟩, hR⟩ : ∃ R, chk c s (cand c s r) steps 0 (sit0 c s) steps = R := ⟨_, rfl⟩
  have hce := check_eq2 (left := left) hr hR
  have hll : (leftL c s r steps).length ≤ 12 := by
    have := List.length_filter_le (fun x => !decide (x ∈ movedL steps)) (cand c s r)
    unfold leftL; omega
  have l1 := r1_len (cand c s r)
  refine callsR_of tab mixed Tryz.func18 rfl (by decide) rfl rfl ?_
  conv => whnf
  refine spD (fun q1 => absurd q1 (by omega)) (fun _ => ?_)
  conv => whnf
  refine spD (fun q1 => absurd q1 (by omega)) (fun _ => ?_)
  conv => whnf
  refine ⟨_, _, refCand_c c s r w h.pre.nt, ?_⟩
  conv => whnf
  refine ⟨_, _, startR_c c s w h, ?_⟩
  conv => whnf
  refine loopR tab mixed (ι := CR c s (cand c s r) steps n e) (fun k => [(43, I k.i)]) (fun k => [(5, .arr 58 (rTS k.T)), (6, .arr 3 (r1 k.Bk)), (7, .mp false false (mpE k.mp))]) 51 (fun k => steps.length - k.i) ⟨0, s.ts, bkd c s.ts, [], by omega, hR.symm, by simpa using hb0, mvOk_nil⟩ [(5, some 5), (6, some 6), (7, some 7)] ?_
  conv => whnf
  refine ⟨?_, fun k => ?_⟩
  · repeat' (first | exact trivial | rfl | refine And.intro ?_ ?_)
    all_goals (conv => whnf)
    repeat' (first | exact trivial | rfl | refine And.intro ?_ ?_)
  obtain ⟨i, T, Bk, mp, hi, hch, hz, hmv⟩ := k
  have hkk := hz.k
  dsimp only
  conv => whnf
  refine spD (fun q1 => ?_) (fun q1 => ?_) <;> conv => whnf
  · have hi' : i < steps.length := by omega
    obtain ⟨⟨kind, ten, cell⟩, hx⟩ := get_of hi'
    have hpos := possible_c c s (T := T) (Bk := Bk) kind ten cell hg h.pre.nc
    refine ⟨by omega, _, rSt_get hx, ?_⟩
    conv => whnf
    refine loopN tab mixed (fun j => j ≤ (cand c s r).length) (cand c s r).length (fun j => [(53, I j), (13, B ((kind != 2) || decide (ten ∈ (cand c s r).take j)))]) (fun _ => []) 61 [] (by omega) ?_
    conv => whnf
    refine ⟨?_, fun j hj => ?_⟩
    · repeat' (first | exact trivial | rfl | refine And.intro ?_ ?_)
      all_goals (conv => whnf)
      repeat' (first | exact trivial | rfl | refine And.intro ?_ ?_)
      simp
    conv => whnf
    refine spD (fun q2 => ?_) (fun q2 => ?_) <;> conv => whnf
    · have hj' : j < (cand c s r).length := by omega
      obtain ⟨v, hv⟩ := get_of hj'
      have hts := take_succ_of hv
      refine ⟨by omega, by omega, _, r1_get hv, ?_⟩
      conv => whnf
      refine ⟨fun q3 => ?_, fun q3 => ?_⟩ <;> conv => whnf
      · refine gv (by first | omega | (simp only []; omega) | (simp; omega)) (by first | omega | (simp only []; omega) | (simp; omega)) ?_
        conv => whnf
        refine ⟨⟨hj', hj'⟩, [], ?_⟩
        repeat' (first | exact trivial | rfl | refine And.intro ?_ ?_)
        all_goals (conv => whnf)
        repeat' (first | exact trivial | rfl | refine And.intro ?_ ?_)
        rw [hts]
        simp only [Bool.or_eq_true, decide_eq_true_eq] at q3
        rcases q3 with q3 | q3
        · rw [q3]; rfl
        · simp [q3]
      · refine gv (by first | omega | (simp only []; omega) | (simp; omega)) (by first | omega | (simp only []; omega) | (simp; omega)) ?_
        conv => whnf
        refine ⟨⟨hj', hj'⟩, [], ?_⟩
        repeat' (first | exact trivial | rfl | refine And.intro ?_ ?_)
        all_goals (conv => whnf)
        repeat' (first | exact trivial | rfl | refine And.intro ?_ ?_)
        rw [hts]
        simp only [Bool.or_eq_false_iff, decide_eq_false_iff_not] at q3
        rw [q3.1]
        simp only [Bool.false_or, List.mem_append, List.mem_singleton, q3.2, false_or]
        exact decide_eq_decide.2 ⟨Eq.symm, Eq.symm⟩
    have hj' : j = (cand c s r).length := by omega
    rw [hj', List.take_length]
    cases hcd : ((kind != 2) || decide (ten ∈ cand c s r))
    · have hn : (n, e) = (i, 4) := by
        simp only [Bool.or_eq_false_iff, decide_eq_false_iff_not] at hcd
        have hk2 : kind = 2 := by simpa using hcd.1
        rw [hch]
        rcases Option.eq_none_or_eq_some (takeF c s (absS T Bk) ⟨kind, ten, cell⟩) with e1 | ⟨p2, e1⟩
        · exact chk_none hx e1
        · rw [chk_some hx e1, if_pos ⟨hk2, hcd.2⟩]
      cases hn
      obtain ⟨rfl, rfl⟩ := hno (by rw [hce, if_pos (by simp)])
      refine ⟨fun _ => ?_, fun q => (by cases q)⟩
      conv => whnf
      exact ⟨[], rfl, ⟨⟨rfl, rfl⟩, ⟨rfl, rfl⟩, trivial⟩, trivial⟩
    have hnc : ¬ (kind = 2 ∧ ten ∉ cand c s r) := by
      simp only [Bool.or_eq_true, decide_eq_true_eq] at hcd
      rintro ⟨rfl, hh⟩
      rcases hcd with hcd | hcd
      · cases hcd
      · exact hh hcd
    refine ⟨fun q => (by cases q), fun _ => ?_⟩
    conv => whnf
    rcases Option.eq_none_or_eq_some (takeF c s (absS T Bk) ⟨kind, ten, cell⟩) with e1 | ⟨p2, e1⟩
    · rw [e1] at hpos
      rw [chk_none hx e1] at hch
      cases hch
      obtain ⟨rfl, rfl⟩ := hno (by rw [hce, if_pos (by simp)])
      refine ⟨_, _, hpos, ?_⟩
      conv => whnf
      refine ⟨fun _ => ?_, fun q => (by cases q)⟩
      conv => whnf
      exact ⟨[], rfl, ⟨⟨rfl, rfl⟩, ⟨rfl, rfl⟩, trivial⟩, trivial⟩
    rw [e1] at hpos
    have hten := take_ten e1
    have habs := take_abs e1
    rw [chk_some hx e1, if_neg hnc, habs] at hch
    dsimp only at hch
    have hz2 := szt_step hg ⟨kind, ten, cell⟩ hz (by omega)
    have hstep := fun v hv => mv_step hmv hx v hv
    dsimp only at hstep
    refine ⟨_, _, hpos, ?_⟩
    conv => whnf
    refine ⟨fun q => (by cases q), fun _ => ?_⟩
    conv => whnf
    refine ⟨_, _, takeR_c c s kind ten cell w hz (by omega) hten, ?_⟩
    conv => whnf
    generalize takeB c T Bk ⟨kind, ten, cell⟩ = Bk2 at *
    generalize takeT T ⟨kind, ten, cell⟩ = T2 at *
    refine ⟨_, _, overR_c c s (T := T2) (bk := Bk2) hz2.k (by omega), ?_⟩
    conv => whnf
    cases hov : overF c Bk2
    rotate_left 1
    · rw [hov, if_pos rfl] at hch
      cases hch
      obtain ⟨rfl, rfl⟩ := hno (by rw [hce, if_pos (by simp)])
      refine ⟨fun _ => ?_, fun q => (by cases q)⟩
      conv => whnf
      exact ⟨[], rfl, ⟨⟨rfl, rfl⟩, ⟨rfl, rfl⟩, trivial⟩, trivial⟩
    rw [hov, if_neg (by simp)] at hch
    refine ⟨fun q => (by cases q), fun _ => ?_⟩
    conv => whnf
    refine spE (fun q3 => ?_) (fun q3 => ?_) <;> (try dsimp only at q3) <;> conv => whnf
    · refine ⟨_, _, neededR_c c s r i steps left w h hl, ?_⟩
      conv => whnf
      cases hnd : neededF c s steps i
      · rw [if_pos ⟨q3, hnd⟩] at hch
        cases hch
        obtain ⟨rfl, rfl⟩ := hno (by rw [hce, if_pos (by simp)])
        refine ⟨fun _ => ?_, fun q => (by cases q)⟩
        conv => whnf
        exact ⟨[], rfl, ⟨⟨rfl, rfl⟩, ⟨rfl, rfl⟩, trivial⟩, trivial⟩
      rw [if_neg (fun hh => by rw [hnd] at hh; cases hh.2)] at hch
      refine ⟨fun q => (by cases q), fun _ => ?_⟩
      conv => whnf
      have hlk := look_mp ten mp (hmv ten)
      refine ⟨kinds_mp _ _, ?_⟩
      rcases hlk with hlk | ⟨hlk, hlb⟩
      · refine .inl ⟨_, hlk, ?_⟩
        conv => whnf
        refine ⟨fun q4 => ?_, fun q4 => ?_⟩ <;> conv => whnf
        · refine ⟨kinds_mp _ _, ?_⟩
          conv => whnf
          refine gv (by first | omega | (simp only []; omega) | (simp; omega)) (by first | omega | (simp only []; omega) | (simp; omega)) ?_
          conv => whnf
          refine ⟨⟨i + 1, T2, Bk2, setB ten true mp, by omega, hch, hz2, hstep true (by rw [q4]; rfl)⟩, [(5, some 5), (6, some 6), (7, some 7)], ?_, by show steps.length - (i + 1) < steps.length - i; omega⟩
          repeat' (first | exact trivial | rfl | refine And.intro ?_ ?_)
          all_goals (conv => whnf)
          repeat' (first | exact trivial | rfl | refine And.intro ?_ ?_)
          all_goals exact (set_mp _ _ _).symm
        · refine ⟨kinds_mp _ _, ?_⟩
          conv => whnf
          refine gv (by first | omega | (simp only []; omega) | (simp; omega)) (by first | omega | (simp only []; omega) | (simp; omega)) ?_
          conv => whnf
          refine ⟨⟨i + 1, T2, Bk2, setB ten (kind == 2) mp, by omega, hch, hz2, hstep (kind == 2) (by rw [q4]; rfl)⟩, [(5, some 5), (6, some 6), (7, some 7)], ?_, by show steps.length - (i + 1) < steps.length - i; omega⟩
          repeat' (first | exact trivial | rfl | refine And.intro ?_ ?_)
          all_goals (conv => whnf)
          repeat' (first | exact trivial | rfl | refine And.intro ?_ ?_)
          all_goals exact (set_mp _ _ _).symm
      · refine .inr ⟨hlk, ?_⟩
        conv => whnf
        refine ⟨kinds_mp _ _, ?_⟩
        conv => whnf
        refine gv (by first | omega | (simp only []; omega) | (simp; omega)) (by first | omega | (simp only []; omega) | (simp; omega)) ?_
        conv => whnf
        refine ⟨⟨i + 1, T2, Bk2, setB ten (kind == 2) mp, by omega, hch, hz2, hstep (kind == 2) (by rw [hlb]; rfl)⟩, [(5, some 5), (6, some 6), (7, some 7)], ?_, by show steps.length - (i + 1) < steps.length - i; omega⟩
        repeat' (first | exact trivial | rfl | refine And.intro ?_ ?_)
        all_goals (conv => whnf)
        repeat' (first | exact trivial | rfl | refine And.intro ?_ ?_)
        all_goals exact (set_mp _ _ _).symm
    · rw [if_neg (fun hh => q3 hh.1)] at hch
      have hlk := look_mp ten mp (hmv ten)
      refine ⟨kinds_mp _ _, ?_⟩
      rcases hlk with hlk | ⟨hlk, hlb⟩
      · refine .inl ⟨_, hlk, ?_⟩
        conv => whnf
        refine ⟨fun q4 => ?_, fun q4 => ?_⟩ <;> conv => whnf
        · refine ⟨kinds_mp _ _, ?_⟩
          conv => whnf
          refine gv (by first | omega | (simp only []; omega) | (simp; omega)) (by first | omega | (simp only []; omega) | (simp; omega)) ?_
          conv => whnf
          refine ⟨⟨i + 1, T2, Bk2, setB ten true mp, by omega, hch, hz2, hstep true (by rw [q4]; rfl)⟩, [(5, some 5), (6, some 6), (7, some 7)], ?_, by show steps.length - (i + 1) < steps.length - i; omega⟩
          repeat' (first | exact trivial | rfl | refine And.intro ?_ ?_)
          all_goals (conv => whnf)
          repeat' (first | exact trivial | rfl | refine And.intro ?_ ?_)
          all_goals exact (set_mp _ _ _).symm
        · refine ⟨kinds_mp _ _, ?_⟩
          conv => whnf
          refine gv (by first | omega | (simp only []; omega) | (simp; omega)) (by first | omega | (simp only []; omega) | (simp; omega)) ?_
          conv => whnf
          refine ⟨⟨i + 1, T2, Bk2, setB ten (kind == 2) mp, by omega, hch, hz2, hstep (kind == 2) (by rw [q4]; rfl)⟩, [(5, some 5), (6, some 6), (7, some 7)], ?_, by show steps.length - (i + 1) < steps.length - i; omega⟩
          repeat' (first | exact trivial | rfl | refine And.intro ?_ ?_)
          all_goals (conv => whnf)
          repeat' (first | exact trivial | rfl | refine And.intro ?_ ?_)
          all_goals exact (set_mp _ _ _).symm
      · refine .inr ⟨hlk, ?_⟩
        conv => whnf
        refine ⟨kinds_mp _ _, ?_⟩
        conv => whnf
        refine gv (by first | omega | (simp only []; omega) | (simp; omega)) (by first | omega | (simp only []; omega) | (simp; omega)) ?_
        conv => whnf
        refine ⟨⟨i + 1, T2, Bk2, setB ten (kind == 2) mp, by omega, hch, hz2, hstep (kind == 2) (by rw [hlb]; rfl)⟩, [(5, some 5), (6, some 6), (7, some 7)], ?_, by show steps.length - (i + 1) < steps.length - i; omega⟩
        repeat' (first | exact trivial | rfl | refine And.intro ?_ ?_)
        all_goals (conv => whnf)
        repeat' (first | exact trivial | rfl | refine And.intro ?_ ?_)
        all_goals exact (set_mp _ _ _).symm
  · have hi' : i = steps.length := by omega
    subst hi'
    rw [List.drop_length] at hch
    cases hch
    rw [if_neg (by simp)] at hce
    rw [List.take_length] at hmv
    refine loopN tab mixed (fun j => j ≤ (cand c s r).length) (cand c s r).length (fun j => [(107, I j), (16, .c (.gs 60))]) (fun j => [(60, .arr 3 (r1 (((cand c s r).take j).filter fun x => !decide (x ∈ movedL steps))))]) 61 [(60, none)] (by omega) ?_
    conv => whnf
    refine ⟨?_, fun j hj => ?_⟩
    · repeat' (first | exact trivial | rfl | refine And.intro ?_ ?_)
      all_goals (conv => whnf)
      repeat' (first | exact trivial | rfl | refine And.intro ?_ ?_)
    have hfl := filt_le (fun x => !decide (x ∈ movedL steps)) (cand c s r) j
    have l5 := r1_len (((cand c s r).take j).filter fun x => !decide (x ∈ movedL steps))
    conv => whnf
    refine spD (fun q2 => ?_) (fun q2 => ?_) <;> conv => whnf
    · have hj' : j < (cand c s r).length := by omega
      obtain ⟨v, hv⟩ := get_of hj'
      have hts := take_succ_of hv
      have hlk := look_mp v mp (hmv v)
      refine ⟨by omega, by omega, _, r1_get hv, ?_⟩
      conv => whnf
      refine ⟨kinds_mp _ _, ?_⟩
      rcases hlk with hlk | ⟨hlk, hlb⟩
      · refine .inl ⟨_, hlk, ?_⟩
        conv => whnf
        refine spN (fun q4 => ?_) (fun q4 => ?_) <;> conv => whnf
        · refine ⟨row1 _ rfl, ⟨by simp; omega⟩, ?_⟩
          conv => whnf
          refine gv (by first | omega | (simp only []; omega) | (simp; omega)) (by first | omega | (simp only []; omega) | (simp; omega)) ?_
          conv => whnf
          refine ⟨⟨hj', hj'⟩, [(60, some 62)], ?_⟩
          repeat' (first | exact trivial | rfl | refine And.intro ?_ ?_)
          all_goals (conv => whnf)
          repeat' (first | exact trivial | rfl | refine And.intro ?_ ?_)
          rw [hts, List.filter_append]
          simp [q4, r1]
        · refine gv (by first | omega | (simp only []; omega) | (simp; omega)) (by first | omega | (simp only []; omega) | (simp; omega)) ?_
          conv => whnf
          refine ⟨⟨hj', hj'⟩, [(60, some 60)], ?_⟩
          repeat' (first | exact trivial | rfl | refine And.intro ?_ ?_)
          all_goals (conv => whnf)
          repeat' (first | exact trivial | rfl | refine And.intro ?_ ?_)
          rw [hts, List.filter_append]
          simp [q4]
      · refine .inr ⟨hlk, ?_⟩
        have q4 : v ∉ movedL steps := by simpa using hlb
        conv => whnf
        refine ⟨row1 _ rfl, ⟨by simp; omega⟩, ?_⟩
        conv => whnf
        refine gv (by first | omega | (simp only []; omega) | (simp; omega)) (by first | omega | (simp only []; omega) | (simp; omega)) ?_
        conv => whnf
        refine ⟨⟨hj', hj'⟩, [(60, some 62)], ?_⟩
        repeat' (first | exact trivial | rfl | refine And.intro ?_ ?_)
        all_goals (conv => whnf)
        repeat' (first | exact trivial | rfl | refine And.intro ?_ ?_)
        rw [hts, List.filter_append]
        simp [q4, r1]
    have hj' : j = (cand c s r).length := by omega
    have hlf : (((cand c s r).take j).filter fun x => !decide (x ∈ movedL steps)) = leftL c s r steps := by rw [hj', List.take_length]; rfl
    rw [hlf]
    refine ⟨_, _, sameInts24_c (leftL c s r steps) left (by omega), ?_⟩
    conv => whnf
    refine spN (fun q3 => ?_) (fun q3 => ?_) <;> conv => whnf
    · obtain ⟨rfl, rfl⟩ := hno (by rw [hce, if_pos q3])
      refine ⟨[], rfl, ⟨⟨rfl, by rw [l0]⟩, ⟨rfl, rfl⟩, trivial⟩, trivial⟩
    rw [if_neg (by simpa using q3)] at hce
    rw [q3]
    have hll2 : left.length ≤ 12 := by rw [← q3]; exact hll
    have l6 := r1_len left
    refine loopN tab mixed (fun i => i ≤ left.length ∧ ∀ y ∈ left.take i, fitsF c s r steps y = false) left.length (fun i => [(130, I i)]) (fun _ => []) 71 [] ⟨by omega, by simp⟩ ?_
    conv => whnf
    refine ⟨?_, fun i ⟨hi, hJ⟩ => ?_⟩
    · repeat' (first | exact trivial | rfl | refine And.intro ?_ ?_)
      all_goals (conv => whnf)
      repeat' (first | exact trivial | rfl | refine And.intro ?_ ?_)
    conv => whnf
    refine spD (fun q4 => ?_) (fun q4 => ?_) <;> conv => whnf
    · have hi' : i < left.length := by omega
      obtain ⟨y, hy⟩ := get_of hi'
      refine ⟨by omega, by omega, _, r1_get hy, ?_⟩
      conv => whnf
      refine ⟨_, _, fitsR_c c s r y steps left w h hl, ?_⟩
      conv => whnf
      refine ⟨fun q5 => ?_, fun q5 => ?_⟩ <;> conv => whnf
      · have hany : left.any (fitsF c s r steps) = true := List.any_eq_true.2 ⟨y, List.mem_of_getElem? hy, q5⟩
        obtain ⟨rfl, rfl⟩ := hno (by rw [hce, if_pos hany])
        refine ⟨[], rfl, ⟨⟨rfl, by rw [l0]⟩, ⟨rfl, rfl⟩, trivial⟩, trivial⟩
      · refine gv (by first | omega | (simp only []; omega) | (simp; omega)) (by first | omega | (simp only []; omega) | (simp; omega)) ?_
        conv => whnf
        refine ⟨⟨hi', hi', fun v hv => ?_⟩, [], ?_⟩
        · rw [take_succ_of hy] at hv
          rcases List.mem_append.1 hv with hv | hv
          · exact hJ v hv
          · rw [List.mem_singleton] at hv; rw [hv]; exact q5
        repeat' (first | exact trivial | rfl | refine And.intro ?_ ?_)
        all_goals (conv => whnf)
        repeat' (first | exact trivial | rfl | refine And.intro ?_ ?_)
    · have hi' : i = left.length := by omega
      rw [hi', List.take_length] at hJ
      have hany : left.any (fitsF c s r steps) = false := List.any_eq_false.2 fun y hy => by rw [hJ y hy]; simp
      obtain ⟨rfl, rfl⟩ := hno (by rw [hce, if_neg (by rw [hany]; simp)])
      refine ⟨[], rfl, ⟨⟨rfl, by rw [l0]⟩, ⟨rfl, rfl⟩, trivial⟩, trivial⟩

end Go.Proofs.YtncckpieemmmfaaGreat
