/- Contract: which steps are needed (evaccheck.Needed). Conditions: those ahead of the theorem. -/
import Derived.Test.YtncckpieemmmfaaGreatEvV
namespace Go.Proofs.YtncckpieemmmfaaGreat
open Go Go.Cpl

theorem rSt_take (l : List Stp) (n : Nat) : rSt (l.take n) = List.drop 0 (List.take n (rSt l)) := by simp [rSt, List.map_take]

theorem rSt_sub (l : List Stp) (i n : Nat) : rSt ((l.take n).drop i) = List.drop i (List.take n (rSt l)) := by simp [rSt, List.map_take, List.map_drop]

theorem needed_kind {c : Cfg} {s : St} {steps : List Stp} {i : Int} {x : Stp} (hx : steps[i.toNat]? = some x) (hk : x.kind ≠ 1) : neededF c s steps i = false := by
  unfold neededF
  split
  · rw [hx]; simp [hk]
  · rfl

theorem needed_eq {c : Cfg} {s : St} {steps : List Stp} {i : Int} {x : Stp} (h0 : 0 ≤ i) (hx : steps[i.toNat]? = some x) (hk : x.kind = 1) {en : Nat} (he : endF steps x.cell i.toNat = en) : neededF c s steps i = (match steps[en]? with
       | none => false
       | some y => decide (y.kind = 2 ∧ y.cell = x.cell ∧ 0 ≤ y.tenant ∧ y.tenant < c.tenants.length) && ((runF c s (sit0 c s) (steps.take en)).isSome && (decide (prioOf c x.tenant < prioOf c y.tenant) &&
          (decide (i.toNat + 1 < en) || (match runF c s (sit0 c s) (steps.take i.toNat) with
             | some p => decide (capOf c x.cell < atI p.bk x.cell + ldOf c y.tenant - shOf c y.tenant)
             | none => false))))) := by
  unfold neededF
  rw [if_pos h0, hx]
  dsimp only
  rw [decide_eq_true hk, he]
  rfl

theorem needed_norun {c : Cfg} {s : St} {steps : List Stp} {i : Int} {x : Stp} (h0 : 0 ≤ i) (hx : steps[i.toNat]? = some x) (hk : x.kind = 1) {en : Nat} (he : endF steps x.cell i.toNat = en) (hr : runF c s (sit0 c s) (steps.take en) = none) : neededF c s steps i = false := by
  rw [needed_eq h0 hx hk he, hr]
  cases steps[en]? <;> simp

theorem run_split (c : Cfg) (s : St) (p : Sit) (l : List Stp) {i n : Nat} (h : i ≤ n) : runF c s p (l.take n) = (runF c s p (l.take i)).bind fun q => runF c s q ((l.take n).drop i) := by
  have : l.take n = l.take i ++ (l.take n).drop i := by
    have h1 := (List.take_append_drop i (l.take n)).symm
    rw [List.take_take, Nat.min_eq_left h] at h1
    exact h1
  rw [this, runF_app]
  congr 1
  funext q
  rw [← this]

theorem endF_gt {steps : List Stp} {cell : Int} {i : Nat} {x : Stp} (hx : steps[i]? = some x) (hk : x.kind = 1) (hc : x.cell = cell) : i < endF steps cell i := by
  rw [endF_yes hx (by simp [isShedAt, hk, hc])]
  have := endF_ge steps cell (i + 1)
  omega

set_option maxHeartbeats 4000000 in
set_option maxRecDepth 100000 in
theorem needed_c (c : Cfg) (s : St) (r i : Int) (steps : List Stp) (left : List Int) (w : WG c) (h : StOk c s) (hl : steps.length ≤ 100000) : CallsH Tryz.prog 19 [cfgV c, stV s, evV r steps left, I i] [] (B (neededF c s steps i)) [] := by
  have hb0 := bkd_bd w h
  have hg := w.good
  have hC := hg.cells
  have hT := w.few
  have l0 := rSt_len steps
  have l3 := rT_len c.tenants
  generalize hfi : neededF c s steps i = nd
  have hno : ∀ {v : Bool}, neededF c s steps i = v → nd = v := fun e => by rw [← hfi, e]
  by_cases hi : 0 ≤ i ∧ i < steps.length
  rotate_left 1
  · have hfalse := hno (v := false) (by
      unfold neededF
      split
      · rw [List.getElem?_eq_none (by omega)]
      · rfl)
    subst hfalse
    refine callsR_of tab mixed Tryz.func19 rfl (by decide) rfl rfl ?_
    conv => whnf
    refine spD (fun q1 => ?_) (fun q1 => ?_) <;> conv => whnf
    · first | exact ⟨[], rfl, ⟨rfl, rfl⟩, trivial⟩ | exact ⟨[], rfl, rfl, trivial⟩
    refine spD (fun q1 => ?_) (fun q1 => ?_) <;> conv => whnf
    · first | exact ⟨[], rfl, ⟨rfl, rfl⟩, trivial⟩ | exact ⟨[], rfl, rfl, trivial⟩
    · omega
  obtain ⟨⟨kind, ten, cell⟩, hx⟩ := get_int (l := steps) hi.1 (by omega)
  by_cases hk : kind = 1
  rotate_left 1
  · have hfalse := hno (v := false) (needed_kind hx hk)
    subst hfalse
    refine callsR_of tab mixed Tryz.func19 rfl (by decide) rfl rfl ?_
    conv => whnf
    refine spD (fun q1 => absurd q1 (by omega)) (fun _ => ?_)
    conv => whnf
    refine spD (fun q1 => absurd q1 (by omega)) (fun _ => ?_)
    conv => whnf
    refine ⟨by omega, _, rSt_get hx, ?_⟩
    conv => whnf
    refine spNe (fun q1 => ?_) (fun q1 => absurd q1 hk)
    conv => whnf
    first | exact ⟨[], rfl, ⟨rfl, rfl⟩, trivial⟩ | exact ⟨[], rfl, rfl, trivial⟩
  subst hk
  have hen := endF_gt (cell := cell) hx rfl rfl
  have hel := endF_le steps cell i.toNat (by omega)
  generalize hE : endF steps cell i.toNat = en at hen hel
  have hsplit := run_split c s (sit0 c s) steps (i := i.toNat) (n := en) (by omega)
  have htl : (steps.take i.toNat).length ≤ 100000 := by simp; omega
  -- the steps ahead
  rcases Option.eq_none_or_eq_some (runF c s (sit0 c s) (steps.take i.toNat)) with e | ⟨⟨se, bk⟩, e⟩
  · obtain ⟨se', bk', hc⟩ := all_no c s (l := steps.take i.toNat) w h.pre.nc h.pre.nt seated0 hb0 (by omega) htl e
    rw [rSt_take] at hc
    have hfalse := hno (v := false) (needed_norun hi.1 hx rfl hE (by rw [hsplit, e]; rfl))
    subst hfalse
    refine callsR_of tab mixed Tryz.func19 rfl (by decide) rfl rfl ?_
    conv => whnf
    refine spD (fun q1 => absurd q1 (by omega)) (fun _ => ?_)
    conv => whnf
    refine spD (fun q1 => absurd q1 (by omega)) (fun _ => ?_)
    conv => whnf
    refine ⟨by omega, _, rSt_get hx, ?_⟩
    conv => whnf
    refine spNe (fun q1 => absurd rfl q1) (fun _ => ?_)
    conv => whnf
    refine ⟨_, _, start_c c s w h, ?_⟩
    conv => whnf
    refine ⟨by omega, _, rSt_get hx, ?_⟩
    conv => whnf
    refine ⟨by kernel_rfl, ?_⟩
    conv => whnf
    refine ⟨fun r hr => (rSt_ok _ r hr).1, by omega, by omega, ?_⟩
    conv => whnf
    refine ⟨_, _, hc, ?_⟩
    conv => whnf
    refine ⟨fun _ => ?_, fun q => (by cases q)⟩
    conv => whnf
    first | exact ⟨[], rfl, ⟨rfl, rfl⟩, trivial⟩ | exact ⟨[], rfl, rfl, trivial⟩
  have hc := all_yes c s (l := steps.take i.toNat) w h.pre.nc h.pre.nt seated0 hb0 (by omega) htl e
  rw [rSt_take] at hc
  have hsz := run_sz hg (steps.take i.toNat) (p := sit0 c s) hb0 (by omega) e
  have hsd := run_seated (steps.take i.toNat) seated0 e
  dsimp only at hsz
  have hn := hsz.n
  have hkk := hsz.k
  have l1 := rSe_len se
  have l2 := r1_len bk
  rw [e] at hsplit
  simp only [Option.bind_some] at hsplit
  have hcut : (steps.take en).drop i.toNat = ⟨1, ten, cell⟩ :: (steps.take en).drop (i.toNat + 1) := drop_of (by rw [List.getElem?_take, if_pos hen]; exact hx)
  have hin : (runF c s (sit0 c s) (steps.take en)).isSome = true → (0 ≤ ten ∧ ten < se.length) ∧ 0 ≤ cell ∧ cell < bk.length := by
    rw [hsplit, hcut]
    simp only [runF]
    intro hh
    cases ht : takeF c s ⟨se, bk⟩ ⟨1, ten, cell⟩ with
    | none => rw [ht] at hh; cases hh
    | some q =>
      cases take_view ht with
      | shed t h0 hc ht ha hk hh e => exact ⟨⟨h0, by have := (List.getElem?_eq_some_iff.1 ht).1; dsimp only at this; omega⟩, hc⟩
      | move t h0 hc ht ha hk hh hus e => exact absurd hk (by intro hh2; cases hh2)
  refine callsR_of tab mixed Tryz.func19 rfl (by decide) rfl rfl ?_
  conv => whnf
  refine spD (fun q1 => absurd q1 (by omega)) (fun _ => ?_)
  conv => whnf
  refine spD (fun q1 => absurd q1 (by omega)) (fun _ => ?_)
  conv => whnf
  refine ⟨by omega, _, rSt_get hx, ?_⟩
  conv => whnf
  refine spNe (fun q1 => absurd rfl q1) (fun _ => ?_)
  conv => whnf
  refine ⟨_, _, start_c c s w h, ?_⟩
  conv => whnf
  refine ⟨by omega, _, rSt_get hx, ?_⟩
  conv => whnf
  refine ⟨by kernel_rfl, ?_⟩
  conv => whnf
  refine ⟨fun r hr => (rSt_ok _ r hr).1, by omega, by omega, ?_⟩
  conv => whnf
  refine ⟨_, _, hc, ?_⟩
  conv => whnf
  refine ⟨fun q => (by cases q), fun _ => ?_⟩
  conv => whnf
  refine spD (fun q1 => ?_) (fun q1 => ?_) <;> dsimp only at q1 <;> conv => whnf
  · have hfalse := hno (v := false) (needed_norun hi.1 hx rfl hE (Option.not_isSome_iff_eq_none.1 fun hh => by have := hin hh; omega))
    subst hfalse
    first | exact ⟨[], rfl, ⟨rfl, rfl⟩, trivial⟩ | exact ⟨[], rfl, rfl, trivial⟩
  refine spD (fun q2 => ?_) (fun q2 => ?_) <;> dsimp only at q2 <;> conv => whnf
  · have hfalse := hno (v := false) (needed_norun hi.1 hx rfl hE (Option.not_isSome_iff_eq_none.1 fun hh => by have := hin hh; omega))
    subst hfalse
    first | exact ⟨[], rfl, ⟨rfl, rfl⟩, trivial⟩ | exact ⟨[], rfl, rfl, trivial⟩
  obtain ⟨z, hz⟩ := get_int (l := bk) (i := cell) (by omega) (by omega)
  have hbz := hsz.bd z (List.mem_of_getElem? hz)
  refine ⟨by kernel_rfl, ?_⟩
  conv => whnf
  refine ⟨by dsimp only; omega, by dsimp only; omega, _, r1_get hz, ?_⟩
  conv => whnf
  refine loopRX tab mixed (ι := { e : Nat // e ≤ steps.length ∧ endF steps cell e = en }) (κ := Unit) (fun k => [(12, I k.1)]) (fun k => []) 51 (fun k => steps.length - k.1) 0 (fun _ => [(12, I en)]) (fun _ => []) 51 ⟨i.toNat, by omega, hE⟩ [] ?_
  conv => whnf
  refine ⟨?_, fun k => ?_, fun k => ?_⟩
  · repeat' (first | exact trivial | rfl | refine And.intro ?_ ?_)
    all_goals (conv => whnf)
    repeat' (first | exact trivial | rfl | refine And.intro ?_ ?_)
    all_goals (dsimp only; omega)
  · obtain ⟨e, he1, he2⟩ := k
    dsimp only
    conv => whnf
    refine ⟨by kernel_rfl, ?_⟩
    conv => whnf
    refine spD (fun q3 => ?_) (fun q3 => ?_) <;> conv => whnf
    rotate_left 1
    · refine ⟨(), [], ?_⟩
      repeat' (first | exact trivial | rfl | refine And.intro ?_ ?_)
      all_goals (conv => whnf)
      repeat' (first | exact trivial | rfl | refine And.intro ?_ ?_)
      all_goals (rw [← he2, endF_none (by omega)])
    obtain ⟨⟨kind2, ten2, cell2⟩, hx2⟩ := get_of (l := steps) (i := e) (by omega)
    refine ⟨by omega, _, rSt_get hx2, ?_⟩
    conv => whnf
    refine spE (fun q4 => ?_) (fun q4 => ?_) <;> dsimp only at q4 <;> conv => whnf
    rotate_left 1
    · refine ⟨(), [], ?_⟩
      repeat' (first | exact trivial | rfl | refine And.intro ?_ ?_)
      all_goals (conv => whnf)
      repeat' (first | exact trivial | rfl | refine And.intro ?_ ?_)
      all_goals (rw [← he2, endF_no hx2 (by simp [isShedAt, q4])])
    refine ⟨by omega, _, rSt_get hx2, ?_⟩
    conv => whnf
    refine spE (fun q5 => ?_) (fun q5 => ?_) <;> dsimp only at q5 <;> conv => whnf
    rotate_left 1
    · refine ⟨(), [], ?_⟩
      repeat' (first | exact trivial | rfl | refine And.intro ?_ ?_)
      all_goals (conv => whnf)
      repeat' (first | exact trivial | rfl | refine And.intro ?_ ?_)
      all_goals (rw [← he2, endF_no hx2 (by simp [isShedAt, q5])])
    refine gv (by first | omega | (simp only []; omega) | (simp; omega)) (by first | omega | (simp only []; omega) | (simp; omega)) ?_
    conv => whnf
    refine ⟨⟨e + 1, by omega, by rw [← he2, endF_yes hx2 (by simp [isShedAt, q4, q5])]⟩, [], ?_, by show steps.length - (e + 1) < steps.length - e; omega⟩
    repeat' (first | exact trivial | rfl | refine And.intro ?_ ?_)
    all_goals (conv => whnf)
    repeat' (first | exact trivial | rfl | refine And.intro ?_ ?_)
  · conv => whnf
    have htl2 : ((steps.take en).drop i.toNat).length ≤ 100000 := by simp; omega
    have hbd : 100000000 + 262144 * (((steps.take i.toNat).length : Nat) : Int) + 262144 * ((((steps.take en).drop i.toNat).length : Nat) : Int) ≤ 999999999000000 := by simp; omega
    refine ⟨fun r hr => (rSt_ok _ r hr).1, by omega, by omega, by omega, by omega, ?_⟩
    conv => whnf
    rcases Option.eq_none_or_eq_some (runF c s ⟨se, bk⟩ ((steps.take en).drop i.toNat)) with e2 | ⟨⟨se2, bk2⟩, e2⟩
    · obtain ⟨se', bk', hc2⟩ := all_no c s w h.pre.nc h.pre.nt hsd hsz hbd htl2 e2
      rw [rSt_sub] at hc2
      have hfalse := hno (v := false) (needed_norun hi.1 hx rfl hE (by rw [hsplit]; exact e2))
      subst hfalse
      refine ⟨_, _, hc2, ?_⟩
      conv => whnf
      refine ⟨fun _ => ?_, fun q => (by cases q)⟩
      conv => whnf
      first | exact ⟨[], rfl, ⟨rfl, rfl⟩, trivial⟩ | exact ⟨[], rfl, rfl, trivial⟩
    have hc2 := all_yes c s w h.pre.nc h.pre.nt hsd hsz hbd htl2 e2
    rw [rSt_sub] at hc2
    have hrun : (runF c s (sit0 c s) (steps.take en)).isSome = true := by rw [hsplit, e2]; rfl
    have hin' := hin hrun
    have hlen2 : se2.length = se.length := by
      have := run_sz hg _ (p := ⟨se, bk⟩) hsz hbd e2
      have := this.n
      dsimp only at this; omega
    have l5 := rSe_len se2
    have e5 := needed_eq (c := c) (s := s) hi.1 hx rfl hE
    dsimp only at e5
    rw [hrun] at e5
    simp only [Bool.true_and] at e5
    refine ⟨_, _, hc2, ?_⟩
    conv => whnf
    refine ⟨fun q => (by cases q), fun _ => ?_⟩
    conv => whnf
    refine spE (fun q3 => ?_) (fun q3 => ?_) <;> conv => whnf
    · have hfalse := hno (v := false) (by rw [e5, List.getElem?_eq_none (by omega)])
      subst hfalse
      first | exact ⟨[], rfl, ⟨rfl, rfl⟩, trivial⟩ | exact ⟨[], rfl, rfl, trivial⟩
    obtain ⟨⟨kind2, ten2, cell2⟩, hy⟩ := get_of (l := steps) (i := en) (by omega)
    rw [hy] at e5
    dsimp only at e5
    refine ⟨by omega, _, rSt_get hy, ?_⟩
    conv => whnf
    refine ⟨by kernel_rfl, ?_⟩
    conv => whnf
    refine spNe (fun q4 => ?_) (fun q4 => ?_) <;> dsimp only at q4 <;> conv => whnf
    · have hfalse := hno (v := false) (by rw [e5, decide_eq_false (by omega)]; rfl)
      subst hfalse
      first | exact ⟨[], rfl, ⟨rfl, rfl⟩, trivial⟩ | exact ⟨[], rfl, rfl, trivial⟩
    refine spNe (fun q5 => ?_) (fun q5 => ?_) <;> dsimp only at q5 <;> conv => whnf
    · have hfalse := hno (v := false) (by rw [e5, decide_eq_false (by omega)]; rfl)
      subst hfalse
      first | exact ⟨[], rfl, ⟨rfl, rfl⟩, trivial⟩ | exact ⟨[], rfl, rfl, trivial⟩
    refine spD (fun q6 => ?_) (fun q6 => ?_) <;> dsimp only at q6 <;> conv => whnf
    · have hfalse := hno (v := false) (by rw [e5, decide_eq_false (by omega)]; rfl)
      subst hfalse
      first | exact ⟨[], rfl, ⟨rfl, rfl⟩, trivial⟩ | exact ⟨[], rfl, rfl, trivial⟩
    refine spD (fun q7 => ?_) (fun q7 => ?_) <;> dsimp only at q7 <;> conv => whnf
    · have hfalse := hno (v := false) (by rw [e5, decide_eq_false (by omega)]; rfl)
      subst hfalse
      first | exact ⟨[], rfl, ⟨rfl, rfl⟩, trivial⟩ | exact ⟨[], rfl, rfl, trivial⟩
    rw [decide_eq_true (by omega), Bool.true_and] at e5
    obtain ⟨⟨d1, d2, d3, d4, d5, d6, d7⟩, hd⟩ := get_int (l := c.tenants) (i := ten2) (by omega) (by omega)
    obtain ⟨⟨f1, f2, f3, f4, f5, f6, f7⟩, hf⟩ := get_int (l := c.tenants) (i := ten) (by omega) (by omega)
    obtain ⟨y, hyc⟩ := get_int (l := c.cells) (i := cell) (by omega) (by omega)
    have hdd := hg.ten _ (List.mem_of_getElem? hd)
    unfold okT at hdd
    dsimp only at hdd
    have g1 : prioOf c ten2 = d3 := by simp [prioOf, hd]
    have g2 : prioOf c ten = f3 := by simp [prioOf, hf]
    have g3 : capOf c cell = y.2 := by simp [capOf, hyc]
    have g4 : ldOf c ten2 = d1 := by simp [ldOf, hd]
    have g5 : shOf c ten2 = d2 := by simp [shOf, hd]
    have g6 : atI bk cell = z := atI_get hz
    rw [g1, g2, e] at e5
    dsimp only at e5
    rw [g3, g4, g5, g6] at e5
    refine ⟨by dsimp only; omega, _, rT_get hd, ?_⟩
    conv => whnf
    refine ⟨by kernel_rfl, ?_⟩
    conv => whnf
    refine ⟨by dsimp only; omega, _, rT_get hf, ?_⟩
    conv => whnf
    refine spD (fun q8 => ?_) (fun q8 => ?_) <;> dsimp only at q8 <;> conv => whnf
    · have hfalse := hno (v := false) (by rw [e5, decide_eq_false (by omega)]; rfl)
      subst hfalse
      first | exact ⟨[], rfl, ⟨rfl, rfl⟩, trivial⟩ | exact ⟨[], rfl, rfl, trivial⟩
    rw [decide_eq_true (by omega), Bool.true_and] at e5
    refine ⟨by kernel_rfl, ?_⟩
    conv => whnf
    refine gv (by first | omega | (simp only []; omega) | (simp; omega)) (by first | omega | (simp only []; omega) | (simp; omega)) ?_
    conv => whnf
    refine spD (fun q9 => ?_) (fun q9 => ?_) <;> conv => whnf
    · have htrue := hno (v := true) (by rw [e5, decide_eq_true (by omega)]; rfl)
      subst htrue
      first | exact ⟨[], rfl, ⟨rfl, rfl⟩, trivial⟩ | exact ⟨[], rfl, rfl, trivial⟩
    rw [decide_eq_false (by omega), Bool.false_or] at e5
    refine gv (by first | omega | (simp only []; omega) | (simp; omega)) (by first | omega | (simp only []; omega) | (simp; omega)) ?_
    conv => whnf
    refine gv (by first | omega | (simp only []; omega) | (simp; omega)) (by first | omega | (simp only []; omega) | (simp; omega)) ?_
    conv => whnf
    refine ⟨by dsimp only; omega, _, r2_get hyc, ?_⟩
    conv => whnf
    have hfin := hno e5
    subst hfin
    first | exact ⟨[], rfl, ⟨rfl, rfl⟩, trivial⟩ | exact ⟨[], rfl, rfl, trivial⟩

end Go.Proofs.YtncckpieemmmfaaGreat
