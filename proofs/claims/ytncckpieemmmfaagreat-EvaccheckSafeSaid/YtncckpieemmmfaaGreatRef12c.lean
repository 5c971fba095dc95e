/- Contracts: how the reference of state applies entries of tenants. Conditions: those ahead of each theorem. -/
import Derived.Test.YtncckpieemmmfaaGreatRef12b
namespace Go.Proofs.YtncckpieemmmfaaGreat
open Go Go.Cpl

theorem StPre.setT {c : Cfg} {s : St} (h : StPre c s) (i : Nat) {x : TS} (hx : TOk c x) : StPre c { s with ts := s.ts.set i x } := by
  refine ⟨?_, h.nc, ?_, h.c, h.tick, h.count, h.schema⟩
  · show (s.ts.set i x).length = _
    rw [List.length_set]; exact h.nt
  · intro y hy
    rcases List.mem_or_eq_of_mem_set hy with h1 | h1
    · exact h.t y h1
    · rw [h1]; exact hx

theorem bad_rs {c : Cfg} {g : List HObj} {k : Int} (hk : k ≠ 0) : RS c g (.tup [.inr (stC noSt), .inl (.d (i64 k))]) g := ⟨noSt, k, rfl, rfl, fun h => absurd h hk⟩

theorem fit_r (c : Cfg) (s : St) (hg : Good c) (hp : StPre c s) {r1 r2 : List (List D)} (h1 : r1 = rTS s.ts) (h2 : r2 = rCS s.cs) : ExH Tryz.prog 132 [cfgV c, stO s 0 1] [.arr 58 r1, .arr 122 r2] (RS c [.gone, .gone]) := by
  rw [h1, h2]
  exact fit_q c s hg hp

theorem sg {l : List (List D)} {i : Nat} {r : List D} (h : i < l.length) : (l.set i r)[i]? = some r := by simp [h]

theorem sT {l : List TS} {i : Nat} {r : List (List D)} {x : TS} {d : List D} (h : ∀ y, r.set i y = (rTS l).set i y) (hd : d = tsD x) : r.set i d = rTS (l.set i x) := by
  rw [h, hd, rTS_set]

theorem opt_get {α : Type} [Inhabited α] {l : List α} {k : Int} (h : k < l.length) : ∃ z, 0 ≤ k → l[k.toNat]? = some z := by
  by_cases h0 : 0 ≤ k
  · obtain ⟨z, hz⟩ := get_int (l := l) h0 (by omega)
    exact ⟨z, fun _ => hz⟩
  · exact ⟨default, fun h1 => absurd h1 h0⟩

instance : Inhabited CS4 := ⟨⟨0, 0, 0, 0⟩⟩

instance : Inhabited TS := ⟨⟨false, false, 0, 0, 0, 0, 0, 0, 0, 0, 0, 0⟩⟩

theorem place_q (c : Cfg) (s : St) (e : Ent) (w : WG c) (h : StOk c s) (ht : 0 ≤ e.tenant ∧ e.tenant < c.tenants.length) (hc : 0 ≤ e.cell ∧ e.cell < c.cells.length) (ho : -1 ≤ e.other ∧ e.other < c.cells.length) : ExH Tryz.prog 103 [cfgV c, stO s 0 1, entV e] (stH s) (RS c [.gone, .gone]) := by
  have hg := w.good
  have hn := h.pre.nt
  have hnc := h.pre.nc
  have l1 := rTS_len s.ts
  have l2 := rCS_len s.cs
  obtain ⟨x, hx⟩ := get_int (l := s.ts) ht.1 (by omega)
  obtain ⟨y, hy⟩ := get_int (l := s.cs) hc.1 (by omega)
  have hxo := h.pre.t x (List.mem_of_getElem? hx)
  refine callsE_of tab mixed noRel Tryz.func103 rfl (by decide) rfl rfl ?_
  conv => whnf
  refine ⟨ht.1, by omega, ?_⟩
  conv => whnf
  refine ⟨_, rTS_get hx, ?_⟩
  conv => whnf
  refine spG (fun b1 => ?_) (fun b1 => ?_) <;> conv => whnf
  · refine ⟨_, _, no_c 4, ?_⟩
    conv => whnf
    all_goals try exact ⟨_, _, bad_rs (by decide), [], rfl, ⟨⟨⟨rfl, rfl⟩, ⟨rfl, rfl⟩, rfl, rfl, ⟨rfl, rfl⟩, ⟨rfl, rfl⟩, ⟨rfl, rfl⟩, ⟨rfl, rfl⟩, trivial⟩, ⟨rfl, rfl⟩, trivial⟩, trivial⟩
  refine ⟨hc.1, by omega, ?_⟩
  conv => whnf
  refine ⟨_, rCS_get hy, ?_⟩
  conv => whnf
  obtain ⟨z, hz⟩ := opt_get (l := s.cs) (k := e.other) (by omega)
  repeat' (first | contradiction | (refine gv (by omega) (by omega) ?_; conv => whnf) | (refine ⟨by kernel_rfl, ?_⟩; conv => whnf) | (refine ⟨_, _, no_c _, ?_⟩; conv => whnf) | (refine ⟨_, _, frozen_c c s _ hg.laid, ?_⟩; conv => whnf) | (refine ⟨_, _, refMay_c c _ _ hg.laid, ?_⟩; conv => whnf) | (refine ⟨_, _, together_c c _ _ hg.laid, ?_⟩; conv => whnf) | (refine ⟨by assumption, by omega, ?_⟩; conv => whnf) | (refine ⟨_, rCS_get (hz (by assumption)), ?_⟩; conv => whnf) | (refine spD (fun _ => ?_) (fun _ => ?_) <;> conv => whnf) | (refine spN (fun _ => ?_) (fun _ => ?_) <;> conv => whnf) | (refine spE (fun _ => ?_) (fun _ => ?_) <;> conv => whnf) | (refine spNe (fun _ => ?_) (fun _ => ?_) <;> conv => whnf) | (refine gvu (by omega) (by omega) ?_; conv => whnf) | (refine spBn (fun _ => ?_) (fun _ => ?_) <;> conv => whnf) | (refine spG (fun _ => ?_) (fun _ => ?_) <;> conv => whnf))
  all_goals try exact ⟨_, _, bad_rs (by decide), [], rfl, ⟨⟨⟨rfl, rfl⟩, ⟨rfl, rfl⟩, rfl, rfl, ⟨rfl, rfl⟩, ⟨rfl, rfl⟩, ⟨rfl, rfl⟩, ⟨rfl, rfl⟩, trivial⟩, ⟨rfl, rfl⟩, trivial⟩, trivial⟩
  all_goals
    refine ⟨_, rTS_get hx, ?_⟩
    conv => whnf
    refine ⟨_, sg (by omega), ?_⟩
    conv => whnf
    refine ⟨_, sg (by rw [List.length_set]; omega), ?_⟩
    conv => whnf
    refine exK (fit_r c { s with ts := s.ts.set e.tenant.toNat { x with placed := true, home := e.cell, standby := e.other } } hg (h.pre.setT _ ?_) (sT (by intro y; simp) rfl) rfl) ?_
    · exact { hxo with home := ⟨by show -1 ≤ e.cell; omega, hc.2⟩, standby := ho, placed := fun _ => hc.1, shed := fun _ => rfl, open_ := fun h => (by cases h), apart := .inl (hxo.open_ b1) }
    rintro _ _ ⟨s9, b9, rfl, rfl, h9⟩
    conv => whnf
    exact ⟨_, _, ⟨s9, b9, rfl, rfl, h9⟩, [], rfl, ⟨⟨⟨rfl, rfl⟩, ⟨rfl, rfl⟩, rfl, rfl, ⟨rfl, rfl⟩, ⟨rfl, rfl⟩, ⟨rfl, rfl⟩, ⟨rfl, rfl⟩, trivial⟩, ⟨rfl, rfl⟩, trivial⟩, trivial⟩

abbrev winT (x : TS) (e : Ent) : TS := { x with wc := e.cell, we := e.epoch, wv := e.n, wf := e.from_, wu := e.until_, epoch := e.epoch }

theorem tok_win {c : Cfg} {x : TS} {e : Ent} (h : TOk c x) (hc : 0 ≤ e.cell ∧ e.cell < c.cells.length) (h0 : 1 ≤ e.epoch ∧ e.epoch ≤ 1048576) (h2 : 0 ≤ e.from_ ∧ e.from_ ≤ 1073741824) (h3 : 0 ≤ e.until_ ∧ e.until_ ≤ 1073741824) : TOk c (winT x e) :=
  { h with wc := ⟨by show -1 ≤ e.cell; omega, hc.2⟩, epoch := ⟨by show 0 ≤ e.epoch; omega, h0.2⟩, wf := ⟨h2.1, by show e.from_ ≤ 1073741825; omega⟩, wu := ⟨h3.1, by show e.until_ ≤ 1073741825; omega⟩ }

theorem tok_up {c : Cfg} {x : TS} {k : Int} (h : TOk c x) (hc : 0 ≤ k ∧ k < c.cells.length) : TOk c { x with home := k, standby := -1, next := -1, target := -1, shed := false } :=
  { h with home := ⟨by show -1 ≤ k; omega, hc.2⟩, standby := ⟨by show (-1 : Int) ≤ -1; omega, by show (-1 : Int) < _; omega⟩, next := ⟨by show (-1 : Int) ≤ -1; omega, by show (-1 : Int) < _; omega⟩, target := ⟨by show (-1 : Int) ≤ -1; omega, by show (-1 : Int) < _; omega⟩, placed := fun _ => hc.1, shed := fun h => (by cases h), open_ := fun _ => rfl, apart := .inl rfl }

theorem tok_over {c : Cfg} {x : TS} {k : Int} (h : TOk c x) (hc : 0 ≤ k ∧ k < c.cells.length) : TOk c { x with home := k, target := -1 } :=
  { h with home := ⟨by show -1 ≤ k; omega, hc.2⟩, target := ⟨by show (-1 : Int) ≤ -1; omega, by show (-1 : Int) < _; omega⟩, placed := fun _ => hc.1, open_ := fun _ => rfl, apart := .inl rfl }

set_option maxHeartbeats 4000000 in
set_option maxRecDepth 100000 in
theorem grant_q (c : Cfg) (s : St) (e : Ent) (w : WG c) (h : StOk c s) (ht : 0 ≤ e.tenant ∧ e.tenant < c.tenants.length) (hc : 0 ≤ e.cell ∧ e.cell < c.cells.length) (h0 : 1 ≤ e.epoch ∧ e.epoch ≤ 1048576) (h1 : 0 ≤ e.tick ∧ e.tick ≤ 1073741824) (h2 : 0 ≤ e.from_ ∧ e.from_ ≤ 1073741824) (h3 : 0 ≤ e.until_ ∧ e.until_ ≤ 1073741824) : ExH Tryz.prog 104 [cfgV c, stO s 0 1, entV e] (stH s) (RS c [.gone, .gone]) := by
  have hg := w.good
  have hn := h.pre.nt
  have hnc := h.pre.nc
  have l1 := rTS_len s.ts
  obtain ⟨x, hx⟩ := get_int (l := s.ts) ht.1 (by omega)
  obtain ⟨y, hy⟩ := get_int (l := s.cs) hc.1 (by omega)
  have hxo := h.pre.t x (List.mem_of_getElem? hx)
  have hw := tok_win hxo hc h0 h2 h3
  refine callsE_of tab mixed noRel Tryz.func104 rfl (by decide) rfl rfl ?_
  conv => whnf
  refine ⟨ht.1, by omega, ?_⟩
  conv => whnf
  repeat' (first | contradiction | (refine gv (by omega) (by omega) ?_; conv => whnf) | (refine ⟨by kernel_rfl, ?_⟩; conv => whnf) | (refine ⟨_, _, no_c _, ?_⟩; conv => whnf) | (refine ⟨_, rTS_get hx, ?_⟩; conv => whnf) | (refine spD (fun _ => ?_) (fun _ => ?_) <;> conv => whnf) | (refine spN (fun _ => ?_) (fun _ => ?_) <;> conv => whnf) | (refine spE (fun _ => ?_) (fun _ => ?_) <;> conv => whnf) | (refine spNe (fun _ => ?_) (fun _ => ?_) <;> conv => whnf) | (refine gvu (by omega) (by omega) ?_; conv => whnf) | (refine spBn (fun _ => ?_) (fun _ => ?_) <;> conv => whnf) | (refine spG (fun _ => ?_) (fun _ => ?_) <;> conv => whnf))
  all_goals try exact ⟨_, _, bad_rs (by decide), [], rfl, ⟨⟨⟨rfl, rfl⟩, ⟨rfl, rfl⟩, rfl, rfl, ⟨rfl, rfl⟩, ⟨rfl, rfl⟩, ⟨rfl, rfl⟩, ⟨rfl, rfl⟩, trivial⟩, ⟨rfl, rfl⟩, trivial⟩, trivial⟩
  all_goals
    refine exK (granted_q c s e ht.1 hx hc.1 hy hxo.epoch h1 h2 h3 w.lease) ?_
    rintro _ _ ⟨k, rfl, rfl⟩
    conv => whnf
  repeat' (first | contradiction | (refine gv (by omega) (by omega) ?_; conv => whnf) | (refine ⟨by kernel_rfl, ?_⟩; conv => whnf) | (refine ⟨_, _, no_c _, ?_⟩; conv => whnf) | (refine ⟨_, rTS_get hx, ?_⟩; conv => whnf) | (refine ⟨_, sg (by first | omega | (simp only [List.length_set]; omega)), ?_⟩; conv => whnf) | (refine spD (fun _ => ?_) (fun _ => ?_) <;> conv => whnf) | (refine spN (fun _ => ?_) (fun _ => ?_) <;> conv => whnf) | (refine spE (fun _ => ?_) (fun _ => ?_) <;> conv => whnf) | (refine spNe (fun _ => ?_) (fun _ => ?_) <;> conv => whnf) | (refine gvu (by omega) (by omega) ?_; conv => whnf) | (refine spBn (fun _ => ?_) (fun _ => ?_) <;> conv => whnf) | (refine spG (fun _ => ?_) (fun _ => ?_) <;> conv => whnf))
  all_goals try exact ⟨_, _, bad_rs (by decide), [], rfl, ⟨⟨⟨rfl, rfl⟩, ⟨rfl, rfl⟩, rfl, rfl, ⟨rfl, rfl⟩, ⟨rfl, rfl⟩, ⟨rfl, rfl⟩, ⟨rfl, rfl⟩, trivial⟩, ⟨rfl, rfl⟩, trivial⟩, trivial⟩
  all_goals try exact ⟨_, _, bad_rs (by assumption), [], rfl, ⟨⟨⟨rfl, rfl⟩, ⟨rfl, rfl⟩, rfl, rfl, ⟨rfl, rfl⟩, ⟨rfl, rfl⟩, ⟨rfl, rfl⟩, ⟨rfl, rfl⟩, trivial⟩, ⟨rfl, rfl⟩, trivial⟩, trivial⟩
  all_goals first
    | refine exK (fit_r c { s with ts := s.ts.set e.tenant.toNat (winT x e) } hg (h.pre.setT _ hw) (sT (by intro y; simp) rfl) rfl) ?_
    | refine exK (fit_r c { s with ts := s.ts.set e.tenant.toNat { winT x e with home := e.cell, standby := -1, next := -1, target := -1, shed := false } } hg (h.pre.setT _ (tok_up hw hc)) (sT (by intro y; simp) rfl) rfl) ?_
    | refine exK (fit_r c { s with ts := s.ts.set e.tenant.toNat { winT x e with home := e.cell, target := -1 } } hg (h.pre.setT _ (tok_over hw hc)) (sT (by intro y; simp) rfl) rfl) ?_
  all_goals
    rintro _ _ ⟨s9, b9, rfl, rfl, h9⟩
    conv => whnf
    exact ⟨_, _, ⟨s9, b9, rfl, rfl, h9⟩, [], rfl, ⟨⟨⟨rfl, rfl⟩, ⟨rfl, rfl⟩, rfl, rfl, ⟨rfl, rfl⟩, ⟨rfl, rfl⟩, ⟨rfl, rfl⟩, ⟨rfl, rfl⟩, trivial⟩, ⟨rfl, rfl⟩, trivial⟩, trivial⟩

theorem bkF_le {c : Cfg} (hg : Good c) {ts : List TS} {i : Nat} {x x' : TS} (hx : ts[i]? = some x) {k : Int} (hle : ∀ ld sh : Int, 0 ≤ ld → 0 ≤ sh → con ld sh x' k ≤ con ld sh x k) : ∀ n, bkF c (ts.set i x') n k ≤ bkF c ts n k
  | 0 => by simp [bkF]
  | n + 1 => by
    have ih := bkF_le hg hx hle n
    have hl := hg.load n
    have hs := hg.shadow n
    rw [bkF, bkF, List.getElem?_set]
    by_cases h : i = n
    · subst h
      have hlt : i < ts.length := (List.getElem?_eq_some_iff.1 hx).1
      have := hle (loadOf c i) (shadowOf c i) hl.1 hs.1
      simp only [if_true, hlt, hx]
      omega
    · rw [if_neg h]
      omega

theorem StOk.setT {c : Cfg} (hg : Good c) {s : St} (h : StOk c s) {i : Nat} {x x' : TS} (hx : s.ts[i]? = some x) (ho : TOk c x') (hle : ∀ k ld sh : Int, 0 ≤ k → 0 ≤ ld → 0 ≤ sh → con ld sh x' k ≤ con ld sh x k) : StOk c { s with ts := s.ts.set i x' } := by
  refine ⟨h.pre.setT i ho, fun k hk => ?_⟩
  show bkF c (s.ts.set i x') (s.ts.set i x').length k ≤ _
  rw [List.length_set]
  exact Int.le_trans (bkF_le hg hx (fun ld sh => hle k ld sh (by omega)) _) (h.cap k hk)

set_option maxHeartbeats 4000000 in
set_option maxRecDepth 100000 in
theorem standby_q (c : Cfg) (s : St) (e : Ent) (w : WG c) (h : StOk c s) (ht : 0 ≤ e.tenant ∧ e.tenant < c.tenants.length) (hc : -1 ≤ e.cell ∧ e.cell < c.cells.length) : ExH Tryz.prog 106 [cfgV c, stO s 0 1, entV e] (stH s) (RS c [.gone, .gone]) := by
  have hg := w.good
  have hn := h.pre.nt
  have hnc := h.pre.nc
  have l1 := rTS_len s.ts
  have l2 := rCS_len s.cs
  obtain ⟨x, hx⟩ := get_int (l := s.ts) ht.1 (by omega)
  obtain ⟨y, hy⟩ := opt_get (l := s.cs) (k := e.cell) (by omega)
  have hxo := h.pre.t x (List.mem_of_getElem? hx)
  refine callsE_of tab mixed noRel Tryz.func106 rfl (by decide) rfl rfl ?_
  conv => whnf
  refine ⟨ht.1, by omega, ?_⟩
  conv => whnf
  repeat' (first | contradiction | (refine gv (by omega) (by omega) ?_; conv => whnf) | (refine ⟨by kernel_rfl, ?_⟩; conv => whnf) | (refine ⟨_, _, no_c _, ?_⟩; conv => whnf) | (refine ⟨_, _, frozen_c c s _ hg.laid, ?_⟩; conv => whnf) | (refine ⟨_, _, refMay_c c _ _ hg.laid, ?_⟩; conv => whnf) | (refine ⟨_, _, together_c c _ _ hg.laid, ?_⟩; conv => whnf) | (refine ⟨by omega, by omega, ?_⟩; conv => whnf) | (refine ⟨_, rTS_get hx, ?_⟩; conv => whnf) | (refine ⟨_, rCS_get (hy (by omega)), ?_⟩; conv => whnf) | (refine spD (fun _ => ?_) (fun _ => ?_) <;> conv => whnf) | (refine spN (fun _ => ?_) (fun _ => ?_) <;> conv => whnf) | (refine spE (fun _ => ?_) (fun _ => ?_) <;> conv => whnf) | (refine spNe (fun _ => ?_) (fun _ => ?_) <;> conv => whnf) | (refine gvu (by omega) (by omega) ?_; conv => whnf) | (refine spBn (fun _ => ?_) (fun _ => ?_) <;> conv => whnf) | (refine spG (fun _ => ?_) (fun _ => ?_) <;> conv => whnf))
  all_goals try exact ⟨_, _, bad_rs (by decide), [], rfl, ⟨⟨⟨rfl, rfl⟩, ⟨rfl, rfl⟩, rfl, rfl, ⟨rfl, rfl⟩, ⟨rfl, rfl⟩, ⟨rfl, rfl⟩, ⟨rfl, rfl⟩, trivial⟩, ⟨rfl, rfl⟩, trivial⟩, trivial⟩
  all_goals
    refine exK (fit_r c { s with ts := s.ts.set e.tenant.toNat { x with next := e.cell } } hg (h.pre.setT _ { hxo with next := hc }) (sT (by intro y; rfl) rfl) rfl) ?_
    rintro _ _ ⟨s9, b9, rfl, rfl, h9⟩
    conv => whnf
    exact ⟨_, _, ⟨s9, b9, rfl, rfl, h9⟩, [], rfl, ⟨⟨⟨rfl, rfl⟩, ⟨rfl, rfl⟩, rfl, rfl, ⟨rfl, rfl⟩, ⟨rfl, rfl⟩, ⟨rfl, rfl⟩, ⟨rfl, rfl⟩, trivial⟩, ⟨rfl, rfl⟩, trivial⟩, trivial⟩

set_option maxHeartbeats 4000000 in
set_option maxRecDepth 100000 in
theorem migrate_q (c : Cfg) (s : St) (e : Ent) (w : WG c) (h : StOk c s) (ht : 0 ≤ e.tenant ∧ e.tenant < c.tenants.length) (hc : 0 ≤ e.cell ∧ e.cell < c.cells.length) : ExH Tryz.prog 108 [cfgV c, stO s 0 1, entV e] (stH s) (RS c [.gone, .gone]) := by
  have hg := w.good
  have hn := h.pre.nt
  have hnc := h.pre.nc
  have l1 := rTS_len s.ts
  have l2 := rCS_len s.cs
  obtain ⟨x, hx⟩ := get_int (l := s.ts) ht.1 (by omega)
  obtain ⟨y, hy⟩ := get_int (l := s.cs) hc.1 (by omega)
  have hxo := h.pre.t x (List.mem_of_getElem? hx)
  refine callsE_of tab mixed noRel Tryz.func108 rfl (by decide) rfl rfl ?_
  conv => whnf
  refine ⟨ht.1, by omega, ?_⟩
  conv => whnf
  repeat' (first | contradiction | (refine gv (by omega) (by omega) ?_; conv => whnf) | (refine ⟨by kernel_rfl, ?_⟩; conv => whnf) | (refine ⟨_, _, no_c _, ?_⟩; conv => whnf) | (refine ⟨_, _, frozen_c c s _ hg.laid, ?_⟩; conv => whnf) | (refine ⟨_, _, refMay_c c _ _ hg.laid, ?_⟩; conv => whnf) | (refine ⟨_, _, together_c c _ _ hg.laid, ?_⟩; conv => whnf) | (refine ⟨hc.1, by omega, ?_⟩; conv => whnf) | (refine ⟨_, rTS_get hx, ?_⟩; conv => whnf) | (refine ⟨_, rCS_get hy, ?_⟩; conv => whnf) | (refine spD (fun _ => ?_) (fun _ => ?_) <;> conv => whnf) | (refine spN (fun _ => ?_) (fun _ => ?_) <;> conv => whnf) | (refine spE (fun _ => ?_) (fun _ => ?_) <;> conv => whnf) | (refine spNe (fun _ => ?_) (fun _ => ?_) <;> conv => whnf) | (refine gvu (by omega) (by omega) ?_; conv => whnf) | (refine spBn (fun _ => ?_) (fun _ => ?_) <;> conv => whnf) | (refine spG (fun _ => ?_) (fun _ => ?_) <;> conv => whnf))
  all_goals try exact ⟨_, _, bad_rs (by decide), [], rfl, ⟨⟨⟨rfl, rfl⟩, ⟨rfl, rfl⟩, rfl, rfl, ⟨rfl, rfl⟩, ⟨rfl, rfl⟩, ⟨rfl, rfl⟩, ⟨rfl, rfl⟩, trivial⟩, ⟨rfl, rfl⟩, trivial⟩, trivial⟩
  all_goals
    refine exK (fit_r c { s with ts := s.ts.set e.tenant.toNat { x with target := e.cell } } hg (h.pre.setT _ { hxo with target := ⟨by show -1 ≤ e.cell; omega, hc.2⟩, open_ := fun h => (by simp_all), apart := .inr (by assumption) }) (sT (by intro y; rfl) rfl) rfl) ?_
    rintro _ _ ⟨s9, b9, rfl, rfl, h9⟩
    conv => whnf
    exact ⟨_, _, ⟨s9, b9, rfl, rfl, h9⟩, [], rfl, ⟨⟨⟨rfl, rfl⟩, ⟨rfl, rfl⟩, rfl, rfl, ⟨rfl, rfl⟩, ⟨rfl, rfl⟩, ⟨rfl, rfl⟩, ⟨rfl, rfl⟩, trivial⟩, ⟨rfl, rfl⟩, trivial⟩, trivial⟩

end Go.Proofs.YtncckpieemmmfaaGreat
