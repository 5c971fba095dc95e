/- Contracts: the laws EvaccheckWhole and EvaccheckSafe. Conditions: those ahead of each theorem. -/
import Derived.Test.YtncckpieemmmfaaGreatEvBt
namespace Go.Proofs.YtncckpieemmmfaaGreat
open Go Go.Cpl

theorem chk_rng {c : Cfg} {s : St} {cands : List Int} {full : List Stp} (l : List Stp) (i : Nat) (p : Sit) : (chk c s cands full i p l).1 ≤ i + l.length := by
  rw [(chk2_chk c s cands full l i p).2]
  exact (chk2_chk c s cands full l i p).1

theorem check_rng (c : Cfg) (s : St) (r : Int) (steps : List Stp) (left : List Int) : 0 ≤ (checkF c s r steps left).1 ∧ (checkF c s r steps left).1 ≤ steps.length := by
  have h := chk_rng (c := c) (s := s) (cands := cand c s r) (full := steps) steps 0 (sit0 c s)
  unfold checkF
  split
  · simp
  · split
    · dsimp only; omega
    · split
      · simp
      · split <;> simp

theorem count_one {l : List Int} (h : l.Pairwise (· ≠ ·)) {y : Int} (hy : y ∈ l) : (l.filter fun z => decide (z = y)).length = 1 := by
  induction l with
  | nil => cases hy
  | cons x r ih =>
    rw [List.pairwise_cons] at h
    rw [List.filter_cons]
    by_cases hx : x = y
    · subst hx
      have : (r.filter fun z => decide (z = x)) = [] := List.filter_eq_nil_iff.2 fun z hz => by have := h.1 z hz; simpa using this.symm
      simp [this]
    · have hyr : y ∈ r := by
        rcases List.mem_cons.1 hy with e | e
        · exact absurd e.symm hx
        · exact e
      simp [hx, ih h.2 hyr]

set_option maxHeartbeats 4000000 in
set_option maxRecDepth 100000 in
theorem evaccheckWhole_c (l n : List Int) (packed : Bool) (region : Int) (m : List Int) : CallsH Tryz.prog 6 [.c (.d (.sl (r1 l))), .c (.d (.sl (r1 n))), B packed, I region, .c (.d (.sl (r1 m)))] [] (B true) [] := by
  refine callsR_of tab mixed Tryz.func6 rfl (by decide) rfl rfl ?_
  conv => whnf
  refine ⟨_, _, awake35_c, ?_⟩
  conv => whnf
  refine ⟨fun q => (by cases q), fun _ => ?_⟩
  conv => whnf
  refine ⟨_, _, lightM_c l, ?_⟩
  conv => whnf
  refine spN (fun q1 => ?_) (fun q1 => ?_) <;> conv => whnf
  · first | exact ⟨[], rfl, ⟨rfl, rfl⟩, trivial⟩ | exact ⟨[], rfl, rfl, trivial⟩
  refine ⟨_, _, lightM_c n, ?_⟩
  conv => whnf
  refine spN (fun q2 => ?_) (fun q2 => ?_) <;> conv => whnf
  · first | exact ⟨[], rfl, ⟨rfl, rfl⟩, trivial⟩ | exact ⟨[], rfl, rfl, trivial⟩
  refine ⟨_, _, lightM_c m, ?_⟩
  conv => whnf
  refine spN (fun q3 => ?_) (fun q3 => ?_) <;> conv => whnf
  · first | exact ⟨[], rfl, ⟨rfl, rfl⟩, trivial⟩ | exact ⟨[], rfl, rfl, trivial⟩
  refine exK (worlds_q l n packed (by omega) (by omega)) ?_
  rintro _ _ ⟨c, ⟨s1, s2, s3, s4, s5, s6, s7, s8⟩, rfl, rfl, w, hs⟩
  have hR := w.good.regions
  have hT := w.few
  conv => whnf
  refine exN (modM_e region c.regions (by omega) (by omega)) (fun r hr => ?_)
  conv => whnf
  refine exK (makePl_q c ⟨s1, s2, s3, s4, s5, s6, s7, s8⟩ r w hs hr) ?_
  rintro _ _ ⟨steps, left, p, rfl, rfl, mp⟩
  have hl := mp.len
  have hcl := cand_len c ⟨s1, s2, s3, s4, s5, s6, s7, s8⟩ r
  have hll : left.length ≤ 12 := by
    rw [mp.lft]
    have := List.length_filter_le (fun x => !decide (x ∈ movedL steps)) (cand c ⟨s1, s2, s3, s4, s5, s6, s7, s8⟩ r)
    unfold leftL; omega
  have hbent := bent_c c r steps left m w.good (by omega) (by omega) (by omega)
  have hbl := bentGo_len (c := c) (l := m) (m := 200) (by omega) m.length ⟨0, steps, left⟩ (by dsimp only; omega)
  generalize bentGo c m m.length ⟨0, steps, left⟩ = bt at *
  obtain ⟨ba, st, lf⟩ := bt
  dsimp only at hbent hbl
  have hc := check_c c ⟨s1, s2, s3, s4, s5, s6, s7, s8⟩ r st lf w hs (by omega)
  have hrng := check_rng c ⟨s1, s2, s3, s4, s5, s6, s7, s8⟩ r st lf
  have hacc := whole_perm (c := c) (s := ⟨s1, s2, s3, s4, s5, s6, s7, s8⟩) (r := r) (steps := st) (left := lf)
  have hnd := cand_nodup c ⟨s1, s2, s3, s4, s5, s6, s7, s8⟩ r
  have hcand := refCand_c c ⟨s1, s2, s3, s4, s5, s6, s7, s8⟩ r w hs.pre.nt
  generalize checkF c ⟨s1, s2, s3, s4, s5, s6, s7, s8⟩ r st lf = ck at *
  obtain ⟨k, bad⟩ := ck
  generalize cand c ⟨s1, s2, s3, s4, s5, s6, s7, s8⟩ r = cd at *
  dsimp only at hc hrng hacc
  have l1 := rSt_len st
  have l2 := r1_len cd
  have l3 := r1_len (movedL st)
  have l4 := r1_len lf
  have hml := movedL_len st
  conv => whnf
  refine ⟨_, _, hbent, ?_⟩
  conv => whnf
  refine ⟨_, _, hc, ?_⟩
  conv => whnf
  refine spNe (fun q4 => ?_) (fun q4 => ?_) <;> conv => whnf
  · refine spD (fun _ => ?_) (fun q => absurd (by omega) q)
    conv => whnf
    have : decide (k ≤ ((rSt st).length : Int)) = true := decide_eq_true (by omega)
    rw [this]
    first | exact ⟨[], rfl, ⟨rfl, rfl⟩, trivial⟩ | exact ⟨[], rfl, rfl, trivial⟩
  have hp := hacc q4
  have hpl := hp.length_eq
  rw [List.length_append] at hpl
  have hpn : (movedL st ++ lf).Pairwise (· ≠ ·) := (List.Perm.nodup_iff hp).2 hnd
  have hrows : r1 (movedL st) ++ r1 lf = r1 (movedL st ++ lf) := by simp [r1]
  have hln : (movedL st ++ lf).length ≤ 12 := by rw [List.length_append]; omega
  have l5 := r1_len (movedL st ++ lf)
  rw [List.length_append] at l5
  refine ⟨_, _, hcand, ?_⟩
  conv => whnf
  refine ⟨by kernel_rfl, ?_⟩
  conv => whnf
  refine ⟨_, _, moved_c r st lf (by omega), ?_⟩
  conv => whnf
  refine ⟨r1_okE _, ⟨by omega⟩, ?_⟩
  conv => whnf
  rw [hrows]
  refine spNe (fun q5 => absurd (by omega) q5) (fun _ => ?_)
  conv => whnf
  refine loopN tab mixed (fun i => i ≤ cd.length) cd.length (fun i => [(96, I i)]) (fun _ => []) 51 [] (by omega) ?_
  conv => whnf
  refine ⟨?_, fun i hi => ?_⟩
  · repeat' (first | exact trivial | rfl | refine And.intro ?_ ?_)
    all_goals (conv => whnf)
    repeat' (first | exact trivial | rfl | refine And.intro ?_ ?_)
  conv => whnf
  refine spD (fun q6 => ?_) (fun q6 => ?_) <;> conv => whnf
  rotate_left 1
  · first | exact ⟨[], rfl, ⟨rfl, rfl⟩, trivial⟩ | exact ⟨[], rfl, rfl, trivial⟩
  have hi' : i < cd.length := by omega
  obtain ⟨y, hy⟩ := get_of hi'
  have hone := count_one hpn (y := y) ((hp.mem_iff).2 (List.mem_of_getElem? hy))
  refine ⟨by omega, by omega, _, r1_get hy, ?_⟩
  conv => whnf
  refine loopN tab mixed (fun j => j ≤ (movedL st ++ lf).length) (movedL st ++ lf).length (fun j => [(102, I j), (22, I (((movedL st ++ lf).take j).filter fun z => decide (z = y)).length)]) (fun _ => []) 61 [] (by omega) ?_
  conv => whnf
  refine ⟨?_, fun j hj => ?_⟩
  · repeat' (first | exact trivial | rfl | refine And.intro ?_ ?_)
    all_goals (conv => whnf)
    repeat' (first | exact trivial | rfl | refine And.intro ?_ ?_)
  have hfl := filt_le (fun z => decide (z = y)) (movedL st ++ lf) j
  conv => whnf
  refine spD (fun q7 => ?_) (fun q7 => ?_) <;> conv => whnf
  · have hj' : j < (movedL st ++ lf).length := by rw [List.length_append] at *; omega
    obtain ⟨v, hv⟩ := get_of hj'
    have hts := take_succ_of hv
    refine ⟨by omega, by omega, _, r1_get hv, ?_⟩
    conv => whnf
    refine spE (fun q8 => ?_) (fun q8 => ?_) <;> conv => whnf
    · refine gv (by first | omega | (simp only []; omega) | (simp; omega)) (by first | omega | (simp only []; omega) | (simp; omega)) ?_
      conv => whnf
      refine gv (by first | omega | (simp only []; omega) | (simp; omega)) (by first | omega | (simp only []; omega) | (simp; omega)) ?_
      conv => whnf
      refine ⟨⟨hj', hj'⟩, [], ?_⟩
      repeat' (first | exact trivial | rfl | refine And.intro ?_ ?_)
      all_goals (conv => whnf)
      repeat' (first | exact trivial | rfl | refine And.intro ?_ ?_)
      rw [hts, List.filter_append]
      simp [q8]
    · refine gv (by first | omega | (simp only []; omega) | (simp; omega)) (by first | omega | (simp only []; omega) | (simp; omega)) ?_
      conv => whnf
      refine ⟨⟨hj', hj'⟩, [], ?_⟩
      repeat' (first | exact trivial | rfl | refine And.intro ?_ ?_)
      all_goals (conv => whnf)
      repeat' (first | exact trivial | rfl | refine And.intro ?_ ?_)
      rw [hts, List.filter_append]
      simp [q8]
  · have hj' : j = (movedL st ++ lf).length := by rw [List.length_append] at *; omega
    rw [hj', List.take_length, hone]
    refine spNe (fun q8 => absurd rfl q8) (fun _ => ?_)
    conv => whnf
    refine gv (by first | omega | (simp only []; omega) | (simp; omega)) (by first | omega | (simp only []; omega) | (simp; omega)) ?_
    conv => whnf
    refine ⟨⟨hi', hi'⟩, [], ?_⟩
    repeat' (first | exact trivial | rfl | refine And.intro ?_ ?_)
    all_goals (conv => whnf)
    repeat' (first | exact trivial | rfl | refine And.intro ?_ ?_)

/-- what an accepted plan is, as the law asks it -/
theorem safe_facts {c : Cfg} {s : St} (hs : StOk c s) {r : Int} {st : List Stp} {lf : List Int} (h : (checkF c s r st lf).2 = 0) :
    (∀ k : Int, 0 ≤ k ∧ k < c.cells.length → atI (peakF c s (sit0 c s) st (bkd c s.ts)) k ≤ capOf c k) ∧
    ∀ (i : Nat) (y : Stp), st[i]? = some y → y.kind = 1 → (0 ≤ y.tenant ∧ y.tenant < c.tenants.length) ∧ ∃ (en : Nat) (z : Stp), i < en ∧ st[en]? = some z ∧ z.kind = 2 ∧ z.cell = y.cell ∧ (0 ≤ z.tenant ∧ z.tenant < c.tenants.length) ∧ (∀ j, i ≤ j → j < en → ∃ u, st[j]? = some u ∧ u.kind = 1) ∧ prioOf c y.tenant < prioOf c z.tenant := by
  obtain ⟨_, h1, h2⟩ := check_acc h
  obtain ⟨q, g1, g2, g3, g4⟩ := chk_acc h1
  have hl0 : (sit0 c s).bk.length = c.cells.length := cl_len _ _
  refine ⟨fun k hk => ?_, fun i y hy hyk => ⟨?_, ?_⟩⟩
  · refine peak_le (m := bkd c s.ts) rfl (by rw [show (bkd c s.ts).length = c.cells.length from cl_len _ _]; exact hk) (sit0_cap hs k (by omega)) fun i q hq => ?_
    have ho := g3 i q hq (sit0_cap hs).over
    have hq2 := run_ok (st.take i) (sit0_ok hs) hq
    exact capOk_of ho k (by have := hq2.k; omega)
  · obtain ⟨p, hp⟩ := runF_take g1 i
    obtain ⟨p2, hp2⟩ := runF_take g1 (i + 1)
    have ht := runF_succ hy hp
    rw [hp2] at ht
    have hpo := run_ok (st.take i) (sit0_ok hs) hp
    have hn := hpo.n
    cases take_view ht.symm with
    | shed t h0 hc ht ha hk hh e => exact ⟨h0, by have := (List.getElem?_eq_some_iff.1 ht).1; omega⟩
    | move t h0 hc ht ha hk hh hus e => exact ⟨h0, by have := (List.getElem?_eq_some_iff.1 ht).1; omega⟩
  · have := g4 i y hy hyk
    rw [Nat.zero_add] at this
    exact needed_wit hy this

set_option maxHeartbeats 4000000 in
set_option maxRecDepth 100000 in
theorem evaccheckSafe_c (l n : List Int) (packed : Bool) (region : Int) (m : List Int) : CallsH Tryz.prog 9 [.c (.d (.sl (r1 l))), .c (.d (.sl (r1 n))), B packed, I region, .c (.d (.sl (r1 m)))] [] (B true) [] := by
  refine callsR_of tab mixed Tryz.func9 rfl (by decide) rfl rfl ?_
  conv => whnf
  refine ⟨_, _, awake35_c, ?_⟩
  conv => whnf
  refine ⟨fun q => (by cases q), fun _ => ?_⟩
  conv => whnf
  refine ⟨_, _, lightM_c l, ?_⟩
  conv => whnf
  refine spN (fun q1 => ?_) (fun q1 => ?_) <;> conv => whnf
  · first | exact ⟨[], rfl, ⟨rfl, rfl⟩, trivial⟩ | exact ⟨[], rfl, rfl, trivial⟩
  refine ⟨_, _, lightM_c n, ?_⟩
  conv => whnf
  refine spN (fun q2 => ?_) (fun q2 => ?_) <;> conv => whnf
  · first | exact ⟨[], rfl, ⟨rfl, rfl⟩, trivial⟩ | exact ⟨[], rfl, rfl, trivial⟩
  refine ⟨_, _, lightM_c m, ?_⟩
  conv => whnf
  refine spN (fun q3 => ?_) (fun q3 => ?_) <;> conv => whnf
  · first | exact ⟨[], rfl, ⟨rfl, rfl⟩, trivial⟩ | exact ⟨[], rfl, rfl, trivial⟩
  refine exK (worlds_q l n packed (by omega) (by omega)) ?_
  rintro _ _ ⟨c, ⟨s1, s2, s3, s4, s5, s6, s7, s8⟩, rfl, rfl, w, hs⟩
  have hR := w.good.regions
  have hT := w.few
  have hC := w.good.cells
  conv => whnf
  refine ⟨by kernel_rfl, ?_⟩
  conv => whnf
  refine exN (modM_e region c.regions (by omega) (by omega)) (fun r hr => ?_)
  conv => whnf
  refine exK (makePl_q c ⟨s1, s2, s3, s4, s5, s6, s7, s8⟩ r w hs hr) ?_
  rintro _ _ ⟨steps, left, p, rfl, rfl, mp⟩
  have hl := mp.len
  have hcl := cand_len c ⟨s1, s2, s3, s4, s5, s6, s7, s8⟩ r
  have hll : left.length ≤ 12 := by
    rw [mp.lft]
    have := List.length_filter_le (fun x => !decide (x ∈ movedL steps)) (cand c ⟨s1, s2, s3, s4, s5, s6, s7, s8⟩ r)
    unfold leftL; omega
  have hbent := bent_c c r steps left m w.good (by omega) (by omega) (by omega)
  have hbl := bentGo_len (c := c) (l := m) (m := 200) (by omega) m.length ⟨0, steps, left⟩ (by dsimp only; omega)
  generalize bentGo c m m.length ⟨0, steps, left⟩ = bt at *
  obtain ⟨ba, st, lf⟩ := bt
  dsimp only at hbent hbl
  have hc := check_c c ⟨s1, s2, s3, s4, s5, s6, s7, s8⟩ r st lf w hs (by omega)
  have hpk := peak_c c ⟨s1, s2, s3, s4, s5, s6, s7, s8⟩ r st lf w hs (by omega)
  have hsafe := safe_facts hs (r := r) (st := st) (lf := lf)
  have hpl : (peakF c ⟨s1, s2, s3, s4, s5, s6, s7, s8⟩ (sit0 c ⟨s1, s2, s3, s4, s5, s6, s7, s8⟩) st (bkd c s3)).length = c.cells.length := by
    exact (peak_len (m := bkd c s3) (cl_len _ _ |>.trans (cl_len _ _).symm)).trans (cl_len _ _)
  generalize checkF c ⟨s1, s2, s3, s4, s5, s6, s7, s8⟩ r st lf = ck at *
  obtain ⟨k, bad⟩ := ck
  dsimp only at hc hsafe hpk
  generalize peakF c ⟨s1, s2, s3, s4, s5, s6, s7, s8⟩ (sit0 c ⟨s1, s2, s3, s4, s5, s6, s7, s8⟩) st (bkd c s3) = pk at *
  have l1 := rSt_len st
  have l2 := r1_len pk
  conv => whnf
  refine ⟨_, _, hbent, ?_⟩
  conv => whnf
  refine ⟨_, _, hc, ?_⟩
  conv => whnf
  refine spNe (fun q4 => ?_) (fun q4 => ?_) <;> conv => whnf
  · first | exact ⟨[], rfl, ⟨rfl, rfl⟩, trivial⟩ | exact ⟨[], rfl, rfl, trivial⟩
  obtain ⟨hcap, hneed⟩ := hsafe q4
  refine ⟨_, _, hpk, ?_⟩
  conv => whnf
  refine loopN tab mixed (fun i => i ≤ pk.length) pk.length (fun i => [(73, I i)]) (fun _ => []) 51 [] (by omega) ?_
  conv => whnf
  refine ⟨?_, fun i hi => ?_⟩
  · repeat' (first | exact trivial | rfl | refine And.intro ?_ ?_)
    all_goals (conv => whnf)
    repeat' (first | exact trivial | rfl | refine And.intro ?_ ?_)
  conv => whnf
  refine spD (fun q6 => ?_) (fun q6 => ?_) <;> conv => whnf
  · have hi' : i < pk.length := by omega
    obtain ⟨z, hz⟩ := get_of hi'
    obtain ⟨y, hy⟩ := get_of (l := c.cells) (i := i) (by omega)
    have h1 := hcap i (by omega)
    rw [atI_get (by simpa using hz), show capOf c (i : Int) = y.2 by simp [capOf, hy]] at h1
    refine ⟨by omega, by omega, _, r1_get hz, ?_⟩
    conv => whnf
    refine ⟨by omega, _, r2_get hy, ?_⟩
    conv => whnf
    refine spD (fun q7 => absurd q7 (by first | omega | (dsimp only; omega))) (fun _ => ?_)
    conv => whnf
    refine gv (by first | omega | (simp only []; omega) | (simp; omega)) (by first | omega | (simp only []; omega) | (simp; omega)) ?_
    conv => whnf
    refine ⟨⟨hi', hi'⟩, [], ?_⟩
    repeat' (first | exact trivial | rfl | refine And.intro ?_ ?_)
    all_goals (conv => whnf)
    repeat' (first | exact trivial | rfl | refine And.intro ?_ ?_)
  refine loopN tab mixed (fun i => i ≤ st.length) st.length (fun i => [(90, I i)]) (fun _ => []) 61 [] (by omega) ?_
  conv => whnf
  refine ⟨?_, fun i hi => ?_⟩
  · repeat' (first | exact trivial | rfl | refine And.intro ?_ ?_)
    all_goals (conv => whnf)
    repeat' (first | exact trivial | rfl | refine And.intro ?_ ?_)
  conv => whnf
  refine spD (fun q7 => ?_) (fun q7 => ?_) <;> conv => whnf
  rotate_left 1
  · first | exact ⟨[], rfl, ⟨rfl, rfl⟩, trivial⟩ | exact ⟨[], rfl, rfl, trivial⟩
  have hi' : i < st.length := by omega
  obtain ⟨⟨kind, ten, cell⟩, hx⟩ := get_of hi'
  refine ⟨by omega, _, rSt_get hx, ?_⟩
  conv => whnf
  refine spNe (fun q8 => ?_) (fun q8 => ?_) <;> (try dsimp only at q8) <;> conv => whnf
  · refine gv (by first | omega | (simp only []; omega) | (simp; omega)) (by first | omega | (simp only []; omega) | (simp; omega)) ?_
    conv => whnf
    refine ⟨⟨hi', hi'⟩, [], ?_⟩
    repeat' (first | exact trivial | rfl | refine And.intro ?_ ?_)
    all_goals (conv => whnf)
    repeat' (first | exact trivial | rfl | refine And.intro ?_ ?_)
  obtain ⟨hten, en, ⟨kind2, ten2, cell2⟩, e1, e2, e3, e4, e5, e6, e7⟩ := hneed i _ hx q8
  dsimp only at hten e3 e4 e5 e7
  have hel := (List.getElem?_eq_some_iff.1 e2).1
  refine loopR tab mixed (ι := { k : Nat // i ≤ k ∧ k ≤ en }) (fun k => [(22, I k.1)]) (fun _ => []) 71 (fun k => en - k.1) ⟨i, by omega, by omega⟩ [] ?_
  conv => whnf
  refine ⟨?_, fun k => ?_⟩
  · repeat' (first | exact trivial | rfl | refine And.intro ?_ ?_)
    all_goals (conv => whnf)
    repeat' (first | exact trivial | rfl | refine And.intro ?_ ?_)
  obtain ⟨k, k1, k2⟩ := k
  dsimp only
  obtain ⟨⟨kind3, ten3, cell3⟩, hk3⟩ := get_of (l := st) (i := k) (by omega)
  conv => whnf
  refine ⟨by omega, _, rSt_get hk3, ?_⟩
  conv => whnf
  refine spE (fun q9 => ?_) (fun q9 => ?_) <;> (try dsimp only at q9) <;> conv => whnf
  · have hlt : k < en := by
      rcases Nat.lt_or_ge k en with h | h
      · exact h
      · have : k = en := by omega
        subst this
        rw [e2] at hk3; cases hk3; omega
    refine gv (by first | omega | (simp only []; omega) | (simp; omega)) (by first | omega | (simp only []; omega) | (simp; omega)) ?_
    conv => whnf
    refine spD (fun _ => ?_) (fun q => absurd (by omega) q)
    conv => whnf
    refine gv (by first | omega | (simp only []; omega) | (simp; omega)) (by first | omega | (simp only []; omega) | (simp; omega)) ?_
    conv => whnf
    refine ⟨⟨k + 1, by omega, by omega⟩, [], ?_, by show en - (k + 1) < en - k; omega⟩
    repeat' (first | exact trivial | rfl | refine And.intro ?_ ?_)
    all_goals (conv => whnf)
    repeat' (first | exact trivial | rfl | refine And.intro ?_ ?_)
  · have hke : k = en := by
      rcases Nat.lt_or_ge k en with h | h
      · obtain ⟨u, hu, hu1⟩ := e6 k k1 h
        rw [hk3] at hu; cases hu
        exact absurd hu1 q9
      · omega
    subst hke
    rw [e2] at hk3
    cases hk3
    obtain ⟨⟨d1, d2, d3, d4, d5, d6, d7⟩, hd⟩ := get_int (l := c.tenants) (i := ten2) (by omega) (by omega)
    obtain ⟨⟨f1, f2, f3, f4, f5, f6, f7⟩, hf⟩ := get_int (l := c.tenants) (i := ten) (by omega) (by omega)
    rw [show prioOf c ten = f3 by simp [prioOf, hf], show prioOf c ten2 = d3 by simp [prioOf, hd]] at e7
    refine ⟨by kernel_rfl, ?_⟩
    conv => whnf
    refine ⟨by omega, _, rSt_get e2, ?_⟩
    conv => whnf
    refine spNe (fun q => absurd e3 q) (fun _ => ?_)
    conv => whnf
    refine ⟨by omega, _, rSt_get e2, ?_⟩
    conv => whnf
    refine spNe (fun q => absurd e4 q) (fun _ => ?_)
    conv => whnf
    refine ⟨by omega, _, rSt_get e2, ?_⟩
    conv => whnf
    refine ⟨by first | omega | (dsimp only; omega), _, rT_get hd, ?_⟩
    conv => whnf
    refine ⟨by first | omega | (dsimp only; omega), _, rT_get hf, ?_⟩
    conv => whnf
    refine spD (fun q => absurd q (by first | omega | (dsimp only; omega))) (fun _ => ?_)
    conv => whnf
    refine gv (by first | omega | (simp only []; omega) | (simp; omega)) (by first | omega | (simp only []; omega) | (simp; omega)) ?_
    conv => whnf
    refine ⟨⟨hi', hi'⟩, [], ?_⟩
    repeat' (first | exact trivial | rfl | refine And.intro ?_ ?_)
    all_goals (conv => whnf)
    repeat' (first | exact trivial | rfl | refine And.intro ?_ ?_)

end Go.Proofs.YtncckpieemmmfaaGreat
