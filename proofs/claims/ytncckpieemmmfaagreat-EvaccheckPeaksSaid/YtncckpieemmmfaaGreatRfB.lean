/- Contracts: the reference's situations (cellplaneref34): Possible, Take, Through. Conditions: those ahead of each theorem. -/
import Derived.Test.YtncckpieemmmfaaGreatEvZ
namespace Go.Proofs.YtncckpieemmmfaaGreat
open Go Go.Cpl

abbrev rfH (c : Cfg) (s : St) (T : List TS) (Bk : List Int) : List HObj := [.box (sitC c s 1 2), .arr 58 (rTS T), .arr 3 (r1 Bk)]

abbrev absS (T : List TS) (Bk : List Int) : Sit := ⟨T.map seatOf, Bk⟩

def takeT (T : List TS) (x : Stp) : List TS := match T[x.tenant.toNat]? with
  | none => T
  | some t => if x.kind = 1 then T.set x.tenant.toNat { t with shed := true, target := -1 } else T.set x.tenant.toNat { t with home := x.cell, standby := -1, next := -1, target := -1 }

def takeB (c : Cfg) (T : List TS) (Bk : List Int) (x : Stp) : List Int := match T[x.tenant.toNat]? with
  | none => Bk
  | some t => if x.kind = 1 then addAt (addAt Bk t.home (-ldOf c x.tenant)) t.target (-ldOf c x.tenant)
    else addAt (addAt (addAt (addAt Bk t.home (-ldOf c x.tenant)) t.target (-ldOf c x.tenant)) t.next (-shOf c x.tenant)) x.cell (ldOf c x.tenant - shOf c x.tenant)

theorem seat_get {T : List TS} {i : Nat} {u : Seat} (h : (T.map seatOf)[i]? = some u) : ∃ t, T[i]? = some t ∧ seatOf t = u := by
  rw [List.getElem?_map, Option.map_eq_some_iff] at h
  exact h

theorem take_abs {c : Cfg} {s : St} {T : List TS} {Bk : List Int} {x : Stp} {q : Sit} (h : takeF c s (absS T Bk) x = some q) : q = absS (takeT T x) (takeB c T Bk x) := by
  cases take_view h with
  | shed u h0 hc ht ha hk hh e =>
    obtain ⟨t, ht2, rfl⟩ := seat_get ht
    subst e
    unfold takeT takeB
    rw [ht2]
    simp only [hk, if_true, absS, shedF, List.map_set]
    simp [seatOf]
  | move u h0 hc ht ha hk hh hus e =>
    obtain ⟨t, ht2, rfl⟩ := seat_get ht
    subst e
    unfold takeT takeB
    rw [ht2]
    have h1 : ¬ x.kind = 1 := by omega
    simp only [h1, if_false, absS, moveF, List.map_set]
    have ha2 : (t.placed && !t.shed) = true := ha
    simp [seatOf, ha2]

theorem takeT_len (T : List TS) (x : Stp) : (takeT T x).length = T.length := by
  unfold takeT; split
  · rfl
  · split <;> simp

structure SzT (c : Cfg) (b : Int) (T : List TS) (Bk : List Int) : Prop where
  n : T.length = c.tenants.length
  k : Bk.length = c.cells.length
  bd : Bd b Bk
  le : b ≤ 1000000000000000

theorem szt_take {c : Cfg} (hg : Good c) {b : Int} {T : List TS} {Bk : List Int} (x : Stp) (h : SzT c b T Bk) (hb : b ≤ 999999999000000) (hb0 : 0 ≤ b) : SzT c (b + 262144) (takeT T x) (takeB c T Bk x) := by
  have hl := ten_ld hg x.tenant
  refine ⟨by rw [takeT_len]; exact h.n, ?_, ?_, by omega⟩
  · unfold takeB
    split
    · exact h.k
    · split <;> simp [addAt_len, h.k]
  · unfold takeB
    split
    · intro y hy; have := h.bd y hy; omega
    · rename_i t _
      have h1 := addAt_bd (d := 65536) (addAt_bd (d := 65536) h.bd (i := t.home) (n := -ldOf c x.tenant) (by omega)) (i := t.target) (n := -ldOf c x.tenant) (by omega)
      split
      · intro y hy; have := h1 y hy; omega
      · have h2 := addAt_bd (d := 65536) (addAt_bd (d := 65536) h1 (i := t.next) (n := -shOf c x.tenant) (by omega)) (i := x.cell) (n := ldOf c x.tenant - shOf c x.tenant) (by omega)
        intro y hy; have := h2 y hy; omega

theorem szt_add {c : Cfg} {b : Int} {T : List TS} {Bk : List Int} (h : SzT c b T Bk) {k n : Int} (hn : -65536 ≤ n ∧ n ≤ 65536) (hb : b ≤ 999999999900000) : SzT c (b + 65536) T (addAt Bk k n) :=
  ⟨h.n, by rw [addAt_len]; exact h.k, addAt_bd h.bd hn, by omega⟩

theorem szt0 {c : Cfg} (w : WG c) {s : St} (h : StOk c s) : SzT c 100000000 s.ts (bkd c s.ts) := by
  have := bkd_bd w h
  exact ⟨h.pre.nt, this.k, this.bd, this.le⟩

set_option maxRecDepth 100000 in
theorem startR_c (c : Cfg) (s : St) (w : WG c) (h : StOk c s) : CallsH Tryz.prog 45 [cfgV c, stV s] [] (.c (.ptr 0 0 0)) (rfH c s s.ts (bkd c s.ts)) := by
  have l2 := rTS_len s.ts
  have hn := h.pre.nt
  have hT := w.few
  refine callsR_of tab mixed Tryz.func45 rfl (by decide) rfl rfl ?_
  conv => whnf
  refine ⟨by kernel_rfl, ?_⟩
  conv => whnf
  refine ⟨rTS_ok _, ⟨by simp only [List.length_nil]; omega⟩, ?_⟩
  conv => whnf
  refine ⟨_, _, booked11_c c s w.good hn, ?_⟩
  conv => whnf
  refine ⟨[(0, some 5), (1, some 3), (2, some 4)], ?_⟩
  repeat' (first | exact trivial | rfl | refine And.intro ?_ ?_)
  all_goals (conv => whnf)
  repeat' (first | exact trivial | rfl | refine And.intro ?_ ?_)

set_option maxRecDepth 100000 in
theorem addR_c (c : Cfg) (s : St) {b : Int} {T : List TS} {Bk : List Int} (k n : Int) (h : SzT c b T Bk) (hn : -65536 ≤ n ∧ n ≤ 65536) : CallsH Tryz.prog 93 [.c (.ptr 0 0 0), I k, I n] (rfH c s T Bk) (.tup []) (rfH c s T (addAt Bk k n)) := by
  have l1 := r1_len Bk
  have hle := h.le
  by_cases hk : 0 ≤ k ∧ k < Bk.length
  · obtain ⟨x, hx⟩ := get_int (l := Bk) hk.1 (by omega)
    have hb := h.bd x (List.mem_of_getElem? hx)
    have e := r1_addAt (n := n) hk.1 hk.2 hx
    refine callsR_of tab mixed Tryz.func93 rfl (by decide) rfl rfl ?_
    conv => whnf
    refine spD (fun h1 => ?_) (fun h1 => ?_) <;> conv => whnf
    · refine spD (fun h2 => ?_) (fun h2 => ?_) <;> conv => whnf
      · refine ⟨by kernel_rfl, ?_⟩
        conv => whnf
        refine ⟨by omega, by omega, _, r1_get hx, ?_⟩
        conv => whnf
        refine gv (by first | omega | (simp only []; omega) | (simp; omega)) (by first | omega | (simp only []; omega) | (simp; omega)) ?_
        conv => whnf
        refine ⟨by omega, by omega, _, r1_get hx, ?_⟩
        conv => whnf
        refine ⟨[(0, some 0), (1, some 1), (2, some 2)], ?_⟩
        repeat' (first | exact trivial | rfl | refine And.intro ?_ ?_)
        all_goals (conv => whnf)
        repeat' (first | exact trivial | rfl | refine And.intro ?_ ?_)
        exact e.symm
      · omega
    · omega
  · rw [addAt_out hk]
    refine callsR_of tab mixed Tryz.func93 rfl (by decide) rfl rfl ?_
    conv => whnf
    repeat' (first | (refine gv (by omega) (by omega) ?_; conv => whnf) | (refine ⟨by kernel_rfl, ?_⟩; conv => whnf) | (refine spD (fun _ => ?_) (fun _ => ?_) <;> conv => whnf) | (refine spN (fun _ => ?_) (fun _ => ?_) <;> conv => whnf) | (refine spE (fun _ => ?_) (fun _ => ?_) <;> conv => whnf) | (refine spNe (fun _ => ?_) (fun _ => ?_) <;> conv => whnf) | (refine gvu (by omega) (by omega) ?_; conv => whnf))
    all_goals first | (exfalso; omega) | (refine ⟨[(0, some 0), (1, some 1), (2, some 2)], ?_⟩; (repeat' (first | exact trivial | rfl | refine And.intro ?_ ?_)); (all_goals (conv => whnf)); (repeat' (first | exact trivial | rfl | refine And.intro ?_ ?_)))

set_option maxRecDepth 100000 in
theorem activeR_c (c : Cfg) (s : St) {T : List TS} {Bk : List Int} {i : Int} {t : TS} (h0 : 0 ≤ i) (ht : T[i.toNat]? = some t) : CallsH Tryz.prog 58 [.c (.ptr 0 0 0), I i] (rfH c s T Bk) (B (t.placed && !t.shed)) (rfH c s T Bk) := by
  have l1 := rTS_len T
  have hlt := (List.getElem?_eq_some_iff.1 ht).1
  obtain ⟨t1, t2, t3, t4, t5, t6, t7, t8, t9, t10, t11, t12⟩ := t
  refine callsR_of tab mixed Tryz.func58 rfl (by decide) rfl rfl ?_
  conv => whnf
  refine ⟨by omega, by omega, _, rTS_get ht, ?_⟩
  conv => whnf
  cases t1
  · refine ⟨fun q => (by cases q), fun _ => ?_⟩
    conv => whnf
    refine ⟨[(0, some 0), (1, some 1), (2, some 2)], ?_⟩
    repeat' (first | exact trivial | rfl | refine And.intro ?_ ?_)
    all_goals (conv => whnf)
    repeat' (first | exact trivial | rfl | refine And.intro ?_ ?_)
  · refine ⟨fun _ => ?_, fun q => (by cases q)⟩
    conv => whnf
    refine ⟨by omega, by omega, _, rTS_get ht, ?_⟩
    conv => whnf
    refine ⟨[(0, some 0), (1, some 1), (2, some 2)], ?_⟩
    repeat' (first | exact trivial | rfl | refine And.intro ?_ ?_)
    all_goals (conv => whnf)
    repeat' (first | exact trivial | rfl | refine And.intro ?_ ?_)

set_option maxRecDepth 100000 in
theorem usableR_c (c : Cfg) (s : St) {T : List TS} {Bk : List Int} (k : Int) (hg : Good c) (hn : s.cs.length = c.cells.length) : CallsH Tryz.prog 92 [.c (.ptr 0 0 0), I k] (rfH c s T Bk) (B (usableP c s k)) (rfH c s T Bk) := by
  have l2 := rCS_len s.cs
  have hC := hg.cells
  by_cases hk : 0 ≤ k ∧ k < c.cells.length
  · obtain ⟨⟨m, ru, wa, si⟩, hx⟩ := get_int (l := s.cs) hk.1 (by omega)
    have hr := regionOf_in hg.laid hk.1 hk.2
    have e : usableP c s k = (decide (m = 1) && (decide (ru = wa) && (decide (0 ≤ regionOf c k) && !bit s.evac (regionOf c k)))) := by simp [usableP, hk, hx]
    rw [e, decide_eq_true hr.1]
    refine callsR_of tab mixed Tryz.func92 rfl (by decide) rfl rfl ?_
    conv => whnf
    refine spD (fun h1 => absurd h1 (by omega)) (fun h1 => ?_)
    conv => whnf
    refine spD (fun h2 => absurd h2 (by omega)) (fun h2 => ?_)
    conv => whnf
    refine ⟨by omega, _, rCS_get hx, ?_⟩
    conv => whnf
    refine ⟨by kernel_rfl, ?_⟩
    conv => whnf
    refine spE (fun h4 => ?_) (fun h4 => ?_) <;> dsimp only at h4 <;> conv => whnf
    rotate_left 1
    · rw [decide_eq_false h4]
      refine ⟨[(0, some 0), (1, some 1), (2, some 2)], ?_⟩
      repeat' (first | exact trivial | rfl | refine And.intro ?_ ?_)
      all_goals (conv => whnf)
      repeat' (first | exact trivial | rfl | refine And.intro ?_ ?_)
    refine spE (fun h5 => ?_) (fun h5 => ?_) <;> dsimp only at h5 <;> conv => whnf
    rotate_left 1
    · rw [decide_eq_false h5]
      refine ⟨[(0, some 0), (1, some 1), (2, some 2)], ?_⟩
      repeat' (first | exact trivial | rfl | refine And.intro ?_ ?_)
      all_goals (conv => whnf)
      repeat' (first | exact trivial | rfl | refine And.intro ?_ ?_)
      simp
    rw [decide_eq_true h4, decide_eq_true h5]
    refine ⟨_, _, refRegionOf_c c k hg.laid, ?_⟩
    conv => whnf
    refine ⟨_, _, has_c s.evac (regionOf c k), ?_⟩
    conv => whnf
    refine ⟨[(0, some 0), (1, some 1), (2, some 2)], ?_⟩
    repeat' (first | exact trivial | rfl | refine And.intro ?_ ?_)
    all_goals (conv => whnf)
    repeat' (first | exact trivial | rfl | refine And.intro ?_ ?_)
  · have e : usableP c s k = false := by simp [usableP, hk]
    rw [e]
    refine callsR_of tab mixed Tryz.func92 rfl (by decide) rfl rfl ?_
    conv => whnf
    refine spD (fun h1 => ?_) (fun h1 => ?_) <;> conv => whnf
    · refine ⟨[(0, some 0), (1, some 1), (2, some 2)], ?_⟩
      repeat' (first | exact trivial | rfl | refine And.intro ?_ ?_)
      all_goals (conv => whnf)
      repeat' (first | exact trivial | rfl | refine And.intro ?_ ?_)
    refine spD (fun h2 => ?_) (fun h2 => ?_) <;> conv => whnf
    · refine ⟨[(0, some 0), (1, some 1), (2, some 2)], ?_⟩
      repeat' (first | exact trivial | rfl | refine And.intro ?_ ?_)
      all_goals (conv => whnf)
      repeat' (first | exact trivial | rfl | refine And.intro ?_ ?_)
    · omega

set_option maxRecDepth 100000 in
theorem okR_c (c : Cfg) (s : St) {T : List TS} {Bk : List Int} {i : Int} {t : TS} (hg : Good c) (hn : s.cs.length = c.cells.length) (h0 : 0 ≤ i) (ht : T[i.toNat]? = some t) : CallsH Tryz.prog 60 [.c (.ptr 0 0 0), I i] (rfH c s T Bk) (B (usableP c s t.standby)) (rfH c s T Bk) := by
  have l1 := rTS_len T
  have hlt := (List.getElem?_eq_some_iff.1 ht).1
  refine callsR_of tab mixed Tryz.func60 rfl (by decide) rfl rfl ?_
  conv => whnf
  refine ⟨by omega, by omega, _, rTS_get ht, ?_⟩
  conv => whnf
  refine ⟨_, _, usableR_c c s t.standby hg hn, ?_⟩
  conv => whnf
  refine ⟨[(0, some 0), (1, some 1), (2, some 2)], ?_⟩
  repeat' (first | exact trivial | rfl | refine And.intro ?_ ?_)
  all_goals (conv => whnf)
  repeat' (first | exact trivial | rfl | refine And.intro ?_ ?_)

def missB (c : Cfg) (Bk : List Int) (i k : Int) : Int := ldOf c i - shOf c i - (capOf c k - atI Bk k)

set_option maxRecDepth 100000 in
theorem missingR_c (c : Cfg) (s : St) {b : Int} {T : List TS} {Bk : List Int} {i : Int} {t : TS} (w : WG c) (h : SzT c b T Bk) (h0 : 0 ≤ i) (ht : T[i.toNat]? = some t) (hk : 0 ≤ t.standby ∧ t.standby < c.cells.length) : CallsH Tryz.prog 61 [.c (.ptr 0 0 0), I i] (rfH c s T Bk) (I (missB c Bk i t.standby)) (rfH c s T Bk) := by
  have l1 := rTS_len T
  have l2 := r1_len Bk
  have hlt := (List.getElem?_eq_some_iff.1 ht).1
  have hnn := h.n
  have hkk := h.k
  have hle := h.le
  obtain ⟨⟨d1, d2, d3, d4, d5, d6, d7⟩, hd⟩ := get_int (l := c.tenants) h0 (by omega)
  have hdd := w.good.ten _ (List.mem_of_getElem? hd)
  unfold okT at hdd
  dsimp only at hdd
  obtain ⟨t1, t2, t3, t4, t5, t6, t7, t8, t9, t10, t11, t12⟩ := t
  dsimp only at hk ⊢
  obtain ⟨y, hy⟩ := get_int (l := c.cells) hk.1 (by omega)
  obtain ⟨z, hz⟩ := get_int (l := Bk) hk.1 (by omega)
  have hb := h.bd z (List.mem_of_getElem? hz)
  have hcap := w.caps y (List.mem_of_getElem? hy)
  have em : missB c Bk i t4 = d1 - d2 - (y.2 - z) := by simp [missB, ldOf, shOf, capOf, atI, hd, hy, hz]
  rw [em]
  refine callsR_of tab mixed Tryz.func61 rfl (by decide) rfl rfl ?_
  conv => whnf
  refine ⟨by kernel_rfl, ?_⟩
  conv => whnf
  refine ⟨by omega, _, rT_get hd, ?_⟩
  conv => whnf
  refine ⟨by omega, by omega, _, rTS_get ht, ?_⟩
  conv => whnf
  refine ⟨by kernel_rfl, ?_⟩
  conv => whnf
  refine gv (by first | omega | (simp only []; omega) | (simp; omega)) (by first | omega | (simp only []; omega) | (simp; omega)) ?_
  conv => whnf
  refine ⟨by dsimp only; omega, _, r2_get hy, ?_⟩
  conv => whnf
  refine ⟨by dsimp only; omega, by dsimp only; omega, _, r1_get hz, ?_⟩
  conv => whnf
  refine gv (by first | omega | (simp only []; omega) | (simp; omega)) (by first | omega | (simp only []; omega) | (simp; omega)) ?_
  conv => whnf
  refine gv (by first | omega | (simp only []; omega) | (simp; omega)) (by first | omega | (simp only []; omega) | (simp; omega)) ?_
  conv => whnf
  refine ⟨[(0, some 0), (1, some 1), (2, some 2)], ?_⟩
  repeat' (first | exact trivial | rfl | refine And.intro ?_ ?_)
  all_goals (conv => whnf)
  repeat' (first | exact trivial | rfl | refine And.intro ?_ ?_)

end Go.Proofs.YtncckpieemmmfaaGreat

namespace Go.Proofs.YtncckpieemmmfaaGreat
open Go Go.Cpl

set_option maxHeartbeats 1000000 in
set_option maxRecDepth 100000 in
theorem possible_c (c : Cfg) (s : St) {T : List TS} {Bk : List Int} (kind ten cell : Int) (hg : Good c) (hn : s.cs.length = c.cells.length) : CallsH Tryz.prog 51 [.c (.ptr 0 0 0), .agg [.d (i64 kind), .d (i64 ten), .d (i64 cell)]] (rfH c s T Bk) (B (takeF c s (absS T Bk) ⟨kind, ten, cell⟩).isSome) (rfH c s T Bk) := by
  have l1 := rTS_len T
  have l2 := r1_len Bk
  generalize hR : (takeF c s (absS T Bk) ⟨kind, ten, cell⟩).isSome = R
  have hno : ∀ {v : Bool}, (takeF c s (absS T Bk) ⟨kind, ten, cell⟩).isSome = v → R = v := fun e => by rw [← hR, e]
  by_cases h1 : (0 ≤ ten ∧ ten < T.length) ∧ 0 ≤ cell ∧ cell < Bk.length
  rotate_left 1
  · have hf := hno (v := false) (by
      unfold takeF
      split
      · rename_i q
        dsimp only at q
        rw [List.getElem?_eq_none (by simp; omega)]
        rfl
      · rfl)
    subst hf
    refine callsR_of tab mixed Tryz.func51 rfl (by decide) rfl rfl ?_
    conv => whnf
    refine ⟨by kernel_rfl, ?_⟩
    conv => whnf
    refine spD (fun q => ?_) (fun q => ?_) <;> (try dsimp only at q) <;> conv => whnf
    · refine ⟨[(0, some 0), (1, some 1), (2, some 2)], ?_⟩
      repeat' (first | exact trivial | rfl | refine And.intro ?_ ?_)
      all_goals (conv => whnf)
      repeat' (first | exact trivial | rfl | refine And.intro ?_ ?_)
    refine spD (fun q => ?_) (fun q => ?_) <;> (try dsimp only at q) <;> conv => whnf
    · refine ⟨[(0, some 0), (1, some 1), (2, some 2)], ?_⟩
      repeat' (first | exact trivial | rfl | refine And.intro ?_ ?_)
      all_goals (conv => whnf)
      repeat' (first | exact trivial | rfl | refine And.intro ?_ ?_)
    refine spD (fun q => ?_) (fun q => ?_) <;> (try dsimp only at q) <;> conv => whnf
    · refine ⟨[(0, some 0), (1, some 1), (2, some 2)], ?_⟩
      repeat' (first | exact trivial | rfl | refine And.intro ?_ ?_)
      all_goals (conv => whnf)
      repeat' (first | exact trivial | rfl | refine And.intro ?_ ?_)
    refine spD (fun q => ?_) (fun q => ?_) <;> (try dsimp only at q) <;> conv => whnf
    · refine ⟨[(0, some 0), (1, some 1), (2, some 2)], ?_⟩
      repeat' (first | exact trivial | rfl | refine And.intro ?_ ?_)
      all_goals (conv => whnf)
      repeat' (first | exact trivial | rfl | refine And.intro ?_ ?_)
    · omega
  obtain ⟨⟨t1, t2, t3, t4, t5, t6, t7, t8, t9, t10, t11, t12⟩, ht⟩ := get_int (l := T) h1.1.1 (by omega)
  have ht2 : (T.map seatOf)[ten.toNat]? = some ⟨t1 && !t2, t3, t4, t5, t6⟩ := by rw [List.getElem?_map, ht]; rfl
  have htk := takeF_in c s (kind := kind) h1.1.1 h1.2 ht2
  have hact := activeR_c c s (Bk := Bk) h1.1.1 ht
  dsimp only at hact
  refine callsR_of tab mixed Tryz.func51 rfl (by decide) rfl rfl ?_
  conv => whnf
  refine ⟨by kernel_rfl, ?_⟩
  conv => whnf
  refine spD (fun q => absurd q (by first | omega | (dsimp only; omega))) (fun _ => ?_)
  conv => whnf
  refine spD (fun q => absurd q (by first | omega | (dsimp only; omega))) (fun _ => ?_)
  conv => whnf
  refine spD (fun q => absurd q (by first | omega | (dsimp only; omega))) (fun _ => ?_)
  conv => whnf
  refine spD (fun q => absurd q (by first | omega | (dsimp only; omega))) (fun _ => ?_)
  conv => whnf
  refine ⟨_, _, hact, ?_⟩
  conv => whnf
  cases hac : (t1 && !t2)
  · have hf := hno (v := false) (by rw [htk.trans (if_neg (by dsimp only; rw [hac]; simp))]; rfl)
    subst hf
    refine ⟨fun _ => ?_, fun q => (by cases q)⟩
    conv => whnf
    refine ⟨[(0, some 0), (1, some 1), (2, some 2)], ?_⟩
    repeat' (first | exact trivial | rfl | refine And.intro ?_ ?_)
    all_goals (conv => whnf)
    repeat' (first | exact trivial | rfl | refine And.intro ?_ ?_)
  replace htk := htk.trans (if_pos hac)
  replace hno : ∀ {v : Bool}, (takeF c s (absS T Bk) ⟨kind, ten, cell⟩).isSome = v → R = v := hno
  rw [show takeF c s (absS T Bk) ⟨kind, ten, cell⟩ = _ from htk] at hno
  refine ⟨fun q => (by cases q), fun _ => ?_⟩
  conv => whnf
  refine ⟨by kernel_rfl, ?_⟩
  conv => whnf
  refine ⟨by first | omega | (dsimp only; omega), by first | omega | (dsimp only; omega), _, rTS_get ht, ?_⟩
  conv => whnf
  refine spE (fun k1 => ?_) (fun k1 => ?_) <;> (try dsimp only at k1) <;> conv => whnf
  · rw [if_pos k1] at hno
    refine spE (fun k2 => ?_) (fun k2 => ?_) <;> (try dsimp only at k2) <;> conv => whnf
    · have hf := hno (v := true) (by rw [if_pos k2]; rfl)
      subst hf
      refine ⟨[(0, some 0), (1, some 1), (2, some 2)], ?_⟩
      repeat' (first | exact trivial | rfl | refine And.intro ?_ ?_)
      all_goals (conv => whnf)
      repeat' (first | exact trivial | rfl | refine And.intro ?_ ?_)
    · have hf := hno (v := false) (by rw [if_neg k2]; rfl)
      subst hf
      refine spE (fun k3 => absurd k3 (by first | omega | (dsimp only; omega))) (fun _ => ?_)
      conv => whnf
      refine ⟨[(0, some 0), (1, some 1), (2, some 2)], ?_⟩
      repeat' (first | exact trivial | rfl | refine And.intro ?_ ?_)
      all_goals (conv => whnf)
      repeat' (first | exact trivial | rfl | refine And.intro ?_ ?_)
  rw [if_neg k1] at hno
  refine spE (fun k2 => ?_) (fun k2 => ?_) <;> (try dsimp only at k2) <;> conv => whnf
  rotate_left 1
  · have hf := hno (v := false) (by rw [if_neg k2]; rfl)
    subst hf
    refine ⟨[(0, some 0), (1, some 1), (2, some 2)], ?_⟩
    repeat' (first | exact trivial | rfl | refine And.intro ?_ ?_)
    all_goals (conv => whnf)
    repeat' (first | exact trivial | rfl | refine And.intro ?_ ?_)
  rw [if_pos k2] at hno
  refine spE (fun k3 => ?_) (fun k3 => ?_) <;> (try dsimp only at k3) <;> conv => whnf
  rotate_left 1
  · have hf := hno (v := false) (by rw [if_neg (fun hh => k3 hh.1)]; rfl)
    subst hf
    refine ⟨[(0, some 0), (1, some 1), (2, some 2)], ?_⟩
    repeat' (first | exact trivial | rfl | refine And.intro ?_ ?_)
    all_goals (conv => whnf)
    repeat' (first | exact trivial | rfl | refine And.intro ?_ ?_)
  refine ⟨_, _, usableR_c c s cell hg hn, ?_⟩
  conv => whnf
  cases hu : usableP c s cell
  · have hf := hno (v := false) (by rw [hu, if_neg (by simp)]; rfl)
    subst hf
    refine ⟨[(0, some 0), (1, some 1), (2, some 2)], ?_⟩
    repeat' (first | exact trivial | rfl | refine And.intro ?_ ?_)
    all_goals (conv => whnf)
    repeat' (first | exact trivial | rfl | refine And.intro ?_ ?_)
  · have hf := hno (v := true) (by rw [hu, if_pos ⟨k3, rfl⟩]; rfl)
    subst hf
    refine ⟨[(0, some 0), (1, some 1), (2, some 2)], ?_⟩
    repeat' (first | exact trivial | rfl | refine And.intro ?_ ?_)
    all_goals (conv => whnf)
    repeat' (first | exact trivial | rfl | refine And.intro ?_ ?_)

set_option maxHeartbeats 1000000 in
set_option maxRecDepth 100000 in
theorem takeR_c (c : Cfg) (s : St) {b : Int} {T : List TS} {Bk : List Int} (kind ten cell : Int) (w : WG c) (h : SzT c b T Bk) (hb : b ≤ 999999999000000) (h0 : 0 ≤ ten ∧ ten < T.length) : CallsH Tryz.prog 52 [.c (.ptr 0 0 0), .agg [.d (i64 kind), .d (i64 ten), .d (i64 cell)]] (rfH c s T Bk) (.tup []) (rfH c s (takeT T ⟨kind, ten, cell⟩) (takeB c T Bk ⟨kind, ten, cell⟩)) := by
  have l1 := rTS_len T
  have l3 := rT_len c.tenants
  have hg := w.good
  have hnn := h.n
  obtain ⟨⟨t1, t2, t3, t4, t5, t6, t7, t8, t9, t10, t11, t12⟩, ht⟩ := get_int (l := T) h0.1 (by omega)
  obtain ⟨⟨d1, d2, d3, d4, d5, d6, d7⟩, hd⟩ := get_int (l := c.tenants) h0.1 (by omega)
  have hdd := hg.ten _ (List.mem_of_getElem? hd)
  unfold okT at hdd
  dsimp only at hdd
  have e1 : -ldOf c ten = 0 - d1 := by simp [ldOf, hd]
  have e2 : -shOf c ten = 0 - d2 := by simp [shOf, hd]
  have e3 : ldOf c ten - shOf c ten = d1 - d2 := by simp [ldOf, shOf, hd]
  have z1 := szt_add h (k := t3) (n := 0 - d1) (by omega) (by omega)
  have z2 := szt_add z1 (k := t6) (n := 0 - d1) (by omega) (by omega)
  have z3 := szt_add z2 (k := t5) (n := 0 - d2) (by omega) (by omega)
  have eB : takeB c T Bk ⟨kind, ten, cell⟩ = if kind = 1 then addAt (addAt Bk t3 (0 - d1)) t6 (0 - d1) else addAt (addAt (addAt (addAt Bk t3 (0 - d1)) t6 (0 - d1)) t5 (0 - d2)) cell (d1 - d2) := by
    unfold takeB
    dsimp only
    rw [ht]
    dsimp only
    rw [e1, e2, e3]
  have eT : takeT T ⟨kind, ten, cell⟩ = if kind = 1 then T.set ten.toNat ⟨t1, true, t3, t4, t5, -1, t7, t8, t9, t10, t11, t12⟩ else T.set ten.toNat ⟨t1, t2, cell, -1, -1, -1, t7, t8, t9, t10, t11, t12⟩ := by
    unfold takeT
    dsimp only
    rw [ht]
  rw [eB, eT]
  have hs2 : SzT c (b + 65536 + 65536) (T.set ten.toNat ⟨t1, t2, t3, t4, t5, -1, t7, t8, t9, t10, t11, t12⟩) (addAt (addAt Bk t3 (0 - d1)) t6 (0 - d1)) := ⟨by simp [hnn], z2.k, z2.bd, z2.le⟩
  have hs3 := szt_add hs2 (k := t5) (n := 0 - d2) (by omega) (by omega)
  have ha1 := addR_c c s t5 (0 - d2) hs2 (by omega)
  have ha2 := addR_c c s cell (d1 - d2) hs3 (by omega)
  dsimp only [rfH] at ha1 ha2
  rw [show rTS (T.set ten.toNat ⟨t1, t2, t3, t4, t5, -1, t7, t8, t9, t10, t11, t12⟩) = (rTS T).set ten.toNat (tsD ⟨t1, t2, t3, t4, t5, -1, t7, t8, t9, t10, t11, t12⟩) from (rTS_set _ _ _).symm] at ha1 ha2
  refine callsR_of tab mixed Tryz.func52 rfl (by decide) rfl rfl ?_
  conv => whnf
  refine ⟨by kernel_rfl, ?_⟩
  conv => whnf
  refine ⟨by first | omega | (dsimp only; omega), by first | omega | (dsimp only; omega), ?_⟩
  conv => whnf
  refine ⟨by kernel_rfl, ?_⟩
  conv => whnf
  refine ⟨by first | omega | (dsimp only; omega), _, rT_get hd, ?_⟩
  conv => whnf
  refine ⟨by kernel_rfl, ?_⟩
  conv => whnf
  refine ⟨_, rTS_get ht, ?_⟩
  conv => whnf
  refine gv (by first | omega | (simp only []; omega) | (simp; omega)) (by first | omega | (simp only []; omega) | (simp; omega)) ?_
  conv => whnf
  refine ⟨_, _, addR_c c s t3 (0 - d1) h (by omega), ?_⟩
  conv => whnf
  refine ⟨by kernel_rfl, ?_⟩
  conv => whnf
  refine ⟨_, rTS_get ht, ?_⟩
  conv => whnf
  refine gv (by first | omega | (simp only []; omega) | (simp; omega)) (by first | omega | (simp only []; omega) | (simp; omega)) ?_
  conv => whnf
  refine ⟨_, _, addR_c c s t6 (0 - d1) z1 (by omega), ?_⟩
  conv => whnf
  refine ⟨_, rTS_get ht, ?_⟩
  conv => whnf
  refine spE (fun k1 => ?_) (fun k1 => ?_) <;> (try dsimp only at k1) <;> conv => whnf
  · rw [if_pos k1, if_pos k1]
    refine ⟨_, sg (by omega), ?_⟩
    conv => whnf
    refine ⟨[(0, some 0), (1, some 1), (2, some 2)], ?_⟩
    repeat' (first | exact trivial | rfl | refine And.intro ?_ ?_)
    all_goals (conv => whnf)
    repeat' (first | exact trivial | rfl | refine And.intro ?_ ?_)
    exact (sT (by first | (intro y; rfl) | (intro y; simp)) rfl).symm
  · rw [if_neg k1, if_neg k1]
    refine ⟨by kernel_rfl, ?_⟩
    conv => whnf
    refine ⟨_, sg (by omega), ?_⟩
    conv => whnf
    refine gv (by first | omega | (simp only []; omega) | (simp; omega)) (by first | omega | (simp only []; omega) | (simp; omega)) ?_
    conv => whnf
    refine ⟨_, _, ha1, ?_⟩
    conv => whnf
    refine gv (by first | omega | (simp only []; omega) | (simp; omega)) (by first | omega | (simp only []; omega) | (simp; omega)) ?_
    conv => whnf
    refine ⟨_, _, ha2, ?_⟩
    conv => whnf
    refine ⟨_, sg (by first | omega | (simp; omega)), ?_⟩
    conv => whnf
    refine ⟨_, sg (by first | omega | (simp; omega)), ?_⟩
    conv => whnf
    refine ⟨_, sg (by first | omega | (simp; omega)), ?_⟩
    conv => whnf
    refine ⟨[(0, some 0), (1, some 1), (2, some 2)], ?_⟩
    repeat' (first | exact trivial | rfl | refine And.intro ?_ ?_)
    all_goals (conv => whnf)
    repeat' (first | exact trivial | rfl | refine And.intro ?_ ?_)
    exact (sT (by first | (intro y; rfl) | (intro y; simp)) rfl).symm

/-- along the steps of the reference -/
structure TJ (c : Cfg) (s : St) (l : List Stp) where
  i : Nat
  T : List TS
  Bk : List Int
  hi : i ≤ l.length
  h : runF c s (sit0 c s) (l.take i) = some (absS T Bk)
  hz : SzT c (100000000 + 262144 * (i : Int)) T Bk

theorem szt_step {c : Cfg} (hg : Good c) {T : List TS} {Bk : List Int} {i : Nat} (x : Stp) (h : SzT c (100000000 + 262144 * (i : Int)) T Bk) (hi : i ≤ 1000000) : SzT c (100000000 + 262144 * ((i + 1 : Nat) : Int)) (takeT T x) (takeB c T Bk x) := by
  have := szt_take hg x h (by omega) (by omega)
  rwa [show 100000000 + 262144 * (i : Int) + 262144 = 100000000 + 262144 * ((i + 1 : Nat) : Int) by omega] at this

theorem take_ten {c : Cfg} {s : St} {T : List TS} {Bk : List Int} {x : Stp} {q : Sit} (h : takeF c s (absS T Bk) x = some q) : 0 ≤ x.tenant ∧ x.tenant < T.length := by
  cases take_view h with
  | shed u h0 hc ht ha hk hh e => exact ⟨h0, by have := (List.getElem?_eq_some_iff.1 ht).1; simp at this; omega⟩
  | move u h0 hc ht ha hk hh hus e => exact ⟨h0, by have := (List.getElem?_eq_some_iff.1 ht).1; simp at this; omega⟩

set_option maxRecDepth 100000 in
theorem through_yes (c : Cfg) (s : St) (l : List Stp) (w : WG c) (h : StOk c s) (hl : l.length ≤ 100000) {q : Sit} (hq : runF c s (sit0 c s) l = some q) : ExH Tryz.prog 55 [cfgV c, stV s, .c (.d (.sl (rSt l)))] [] (fun res hout => ∃ T, res = .tup [.inl (.ptr 0 0 0), .inl (.d (.bool true))] ∧ hout = rfH c s T q.bk ∧ T.map seatOf = q.seats ∧ SzT c (100000000 + 262144 * (l.length : Int)) T q.bk) := by
  have l1 := rSt_len l
  have hg := w.good
  refine callsE_of tab mixed noRel Tryz.func55 rfl (by decide) rfl rfl ?_
  conv => whnf
  refine ⟨_, _, startR_c c s w h, ?_⟩
  conv => whnf
  refine loopE tab mixed noRel (ι := TJ c s l) (fun k => [(16, I k.i)]) (fun k => [(3, .arr 58 (rTS k.T)), (4, .arr 3 (r1 k.Bk))]) 51 (fun k => l.length - k.i) ⟨0, s.ts, bkd c s.ts, by omega, rfl, by simpa using szt0 w h⟩ [(3, some 3), (4, some 4)] ?_
  conv => whnf
  refine ⟨?_, fun k => ?_⟩
  · repeat' (first | exact trivial | rfl | refine And.intro ?_ ?_)
    all_goals (conv => whnf)
    repeat' (first | exact trivial | rfl | refine And.intro ?_ ?_)
  obtain ⟨i, T, Bk, hi, hrun, hz⟩ := k
  dsimp only
  conv => whnf
  refine spD (fun q1 => ?_) (fun q1 => ?_) <;> conv => whnf
  · have hi' : i < l.length := by omega
    obtain ⟨⟨kind, ten, cell⟩, hx⟩ := get_of hi'
    obtain ⟨p2, hp2⟩ := runF_take hq (i + 1)
    have htk := runF_succ hx hrun
    rw [hp2] at htk
    have hten := take_ten htk.symm
    have habs := take_abs htk.symm
    have hpos := possible_c c s (T := T) (Bk := Bk) kind ten cell hg h.pre.nc
    rw [← htk] at hpos
    refine ⟨by omega, _, rSt_get hx, ?_⟩
    conv => whnf
    refine ⟨_, _, hpos, ?_⟩
    conv => whnf
    refine ⟨fun q => (by cases q), fun _ => ?_⟩
    conv => whnf
    refine ⟨_, _, takeR_c c s kind ten cell w hz (by omega) hten, ?_⟩
    conv => whnf
    refine gv (by first | omega | (simp only []; omega) | (simp; omega)) (by first | omega | (simp only []; omega) | (simp; omega)) ?_
    conv => whnf
    refine ⟨⟨i + 1, takeT T ⟨kind, ten, cell⟩, takeB c T Bk ⟨kind, ten, cell⟩, by omega, by rw [hp2, habs], szt_step hg _ hz (by omega)⟩, [(3, some 3), (4, some 4)], ?_, by show l.length - (i + 1) < l.length - i; omega⟩
    repeat' (first | exact trivial | rfl | refine And.intro ?_ ?_)
    all_goals (conv => whnf)
    repeat' (first | exact trivial | rfl | refine And.intro ?_ ?_)
  · have hi' : i = l.length := by omega
    subst hi'
    rw [List.take_length, hq] at hrun
    cases hrun
    refine ⟨_, _, ⟨T, rfl, rfl, rfl, hz⟩, [(0, some 2), (1, some 3), (2, some 4)], ?_⟩
    repeat' (first | exact trivial | rfl | refine And.intro ?_ ?_)
    all_goals (conv => whnf)
    repeat' (first | exact trivial | rfl | refine And.intro ?_ ?_)

set_option maxRecDepth 100000 in
theorem through_no (c : Cfg) (s : St) (l : List Stp) (w : WG c) (h : StOk c s) (hl : l.length ≤ 100000) (hq : runF c s (sit0 c s) l = none) : CallsH Tryz.prog 55 [cfgV c, stV s, .c (.d (.sl (rSt l)))] [] (.tup [.inl (.d .nilp), .inl (.d (.bool false))]) [] := by
  have l1 := rSt_len l
  have hg := w.good
  refine callsR_of tab mixed Tryz.func55 rfl (by decide) rfl rfl ?_
  conv => whnf
  refine ⟨_, _, startR_c c s w h, ?_⟩
  conv => whnf
  refine loopR tab mixed (ι := TJ c s l) (fun k => [(16, I k.i)]) (fun k => [(3, .arr 58 (rTS k.T)), (4, .arr 3 (r1 k.Bk))]) 51 (fun k => l.length - k.i) ⟨0, s.ts, bkd c s.ts, by omega, rfl, by simpa using szt0 w h⟩ [(3, some 3), (4, some 4)] ?_
  conv => whnf
  refine ⟨?_, fun k => ?_⟩
  · repeat' (first | exact trivial | rfl | refine And.intro ?_ ?_)
    all_goals (conv => whnf)
    repeat' (first | exact trivial | rfl | refine And.intro ?_ ?_)
  obtain ⟨i, T, Bk, hi, hrun, hz⟩ := k
  dsimp only
  conv => whnf
  refine spD (fun q1 => ?_) (fun q1 => ?_) <;> conv => whnf
  · have hi' : i < l.length := by omega
    obtain ⟨⟨kind, ten, cell⟩, hx⟩ := get_of hi'
    have hpos := possible_c c s (T := T) (Bk := Bk) kind ten cell hg h.pre.nc
    refine ⟨by omega, _, rSt_get hx, ?_⟩
    conv => whnf
    rcases Option.eq_none_or_eq_some (takeF c s (absS T Bk) ⟨kind, ten, cell⟩) with e | ⟨p2, e⟩
    · rw [e] at hpos
      refine ⟨_, _, hpos, ?_⟩
      conv => whnf
      refine ⟨fun _ => ?_, fun q => (by cases q)⟩
      conv => whnf
      refine ⟨[], ?_⟩
      repeat' (first | exact trivial | rfl | refine And.intro ?_ ?_)
      all_goals (conv => whnf)
      repeat' (first | exact trivial | rfl | refine And.intro ?_ ?_)
    · rw [e] at hpos
      have hten := take_ten e
      have habs := take_abs e
      have hp2 := runF_succ hx hrun
      refine ⟨_, _, hpos, ?_⟩
      conv => whnf
      refine ⟨fun q => (by cases q), fun _ => ?_⟩
      conv => whnf
      refine ⟨_, _, takeR_c c s kind ten cell w hz (by omega) hten, ?_⟩
      conv => whnf
      refine gv (by first | omega | (simp only []; omega) | (simp; omega)) (by first | omega | (simp only []; omega) | (simp; omega)) ?_
      conv => whnf
      refine ⟨⟨i + 1, takeT T ⟨kind, ten, cell⟩, takeB c T Bk ⟨kind, ten, cell⟩, by omega, by rw [hp2, e, habs], szt_step hg _ hz (by omega)⟩, [(3, some 3), (4, some 4)], ?_, by show l.length - (i + 1) < l.length - i; omega⟩
      repeat' (first | exact trivial | rfl | refine And.intro ?_ ?_)
      all_goals (conv => whnf)
      repeat' (first | exact trivial | rfl | refine And.intro ?_ ?_)
  · have hi' : i = l.length := by omega
    subst hi'
    rw [List.take_length, hq] at hrun
    cases hrun

end Go.Proofs.YtncckpieemmmfaaGreat
