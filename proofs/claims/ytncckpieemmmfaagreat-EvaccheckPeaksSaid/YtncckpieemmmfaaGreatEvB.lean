/- Contracts: situations of evacplan and evaccheck: begin, start, add, take. Conditions: those ahead of each theorem. -/
import Derived.Test.YtncckpieemmmfaaGreatEvA
namespace Go.Proofs.YtncckpieemmmfaaGreat
open Go Go.Cpl

/-- all numbers lie within -b .. b -/
def Bd (b : Int) (l : List Int) : Prop := ∀ x ∈ l, -b ≤ x ∧ x ≤ b

theorem addAt_bd {b d : Int} {l : List Int} (h : Bd b l) {i n : Int} (hn : -d ≤ n ∧ n ≤ d) : Bd (b + d) (addAt l i n) := by
  have hd : 0 ≤ d := by omega
  unfold addAt
  split
  · rename_i hi
    intro x hx
    rcases List.mem_or_eq_of_mem_set hx with h1 | h1
    · have := h x h1; omega
    · obtain ⟨y, hy⟩ := get_int (l := l) hi.1 (by omega)
      have := h y (List.mem_of_getElem? hy)
      rw [h1]; simp [hy]; omega
  · intro x hx
    have := h x hx; omega

structure Sz (c : Cfg) (b : Int) (se : List Seat) (bk : List Int) : Prop where
  n : se.length = c.tenants.length
  k : bk.length = c.cells.length
  bd : Bd b bk
  le : b ≤ 1000000000000000

def ldOf (c : Cfg) (i : Int) : Int := ((c.tenants[i.toNat]?).map (·.load)).getD 0

def shOf (c : Cfg) (i : Int) : Int := ((c.tenants[i.toNat]?).map (·.shadow)).getD 0

def shedF (c : Cfg) (p : Sit) (x : Stp) (t : Seat) : Sit :=
  ⟨p.seats.set x.tenant.toNat ⟨false, t.home, t.standby, t.next, -1⟩, addAt (addAt p.bk t.home (-ldOf c x.tenant)) t.target (-ldOf c x.tenant)⟩

def moveF (c : Cfg) (p : Sit) (x : Stp) (t : Seat) : Sit :=
  ⟨p.seats.set x.tenant.toNat ⟨true, x.cell, -1, -1, -1⟩, addAt (addAt (addAt (addAt p.bk t.home (-ldOf c x.tenant)) t.target (-ldOf c x.tenant)) t.next (-shOf c x.tenant)) x.cell (ldOf c x.tenant - shOf c x.tenant)⟩

/-- takes a step, if it is possible -/
def takeF (c : Cfg) (s : St) (p : Sit) (x : Stp) : Option Sit :=
  if (0 ≤ x.tenant ∧ 0 ≤ x.cell) ∧ x.cell < p.bk.length then
    match p.seats[x.tenant.toNat]? with
    | none => none
    | some t =>
      if t.active = true then
        if x.kind = 1 then (if t.home = x.cell then some (shedF c p x t) else none)
        else if x.kind = 2 then (if t.standby = x.cell ∧ usableP c s x.cell = true then some (moveF c p x t) else none)
        else none
      else none
  else none

/-- the seats of active tenants are as in the state -/
def Seated (s : St) (p : Sit) : Prop := ∀ (i : Nat) (t : Seat), p.seats[i]? = some t → t.active = true → ∃ x : TS, s.ts[i]? = some x ∧ x.placed = true ∧ x.shed = false ∧ (t.standby = x.standby ∨ t.standby = -1)

theorem seated_set {s : St} {p : Sit} (h : Seated s p) {i : Nat} {t t' : Seat} {bk : List Int} (ht : p.seats[i]? = some t) (ha : t.active = true) (h' : t'.active = true → t'.standby = -1) : Seated s ⟨p.seats.set i t', bk⟩ := by
  intro k y hy hya
  simp only at hy
  rw [List.getElem?_set] at hy
  split at hy
  · rename_i e
    subst e
    split at hy
    · cases hy
      obtain ⟨x, h1, h2, h3, _⟩ := h _ t ht ha
      exact ⟨x, h1, h2, h3, .inr (h' hya)⟩
    · cases hy
  · exact h k y hy hya

theorem take_seated {c : Cfg} {s : St} {p q : Sit} {x : Stp} (h : Seated s p) (hq : takeF c s p x = some q) : Seated s q := by
  unfold takeF at hq
  split at hq
  · split at hq
    · cases hq
    · rename_i t ht
      split at hq
      · rename_i ha
        split at hq
        · split at hq
          · cases hq; exact seated_set h ht ha (fun h => by cases h)
          · cases hq
        · split at hq
          · split at hq
            · cases hq; exact seated_set h ht ha (fun _ => rfl)
            · cases hq
          · cases hq
      · cases hq
  · cases hq

theorem ten_ld {c : Cfg} (hg : Good c) (i : Int) : 0 ≤ ldOf c i ∧ ldOf c i ≤ 65536 ∧ 0 ≤ shOf c i ∧ shOf c i ≤ ldOf c i := by
  unfold ldOf shOf
  cases h : c.tenants[i.toNat]? with
  | none => simp
  | some t =>
    have := hg.ten t (List.mem_of_getElem? h)
    unfold okT at this
    simp; omega

theorem sz_shed {c : Cfg} (hg : Good c) {b : Int} {p : Sit} {x : Stp} {t : Seat} (h : Sz c b p.seats p.bk) (hb : b ≤ 999999999000000) : Sz c (b + 262144) (shedF c p x t).seats (shedF c p x t).bk := by
  have hl := ten_ld hg x.tenant
  refine ⟨by simp [shedF, h.n], by simp [shedF, addAt_len, h.k], fun y hy => ?_, by omega⟩
  have := addAt_bd (d := 65536) (addAt_bd (d := 65536) h.bd (i := t.home) (n := -ldOf c x.tenant) (by omega)) (i := t.target) (n := -ldOf c x.tenant) (by omega) y hy
  omega

theorem sz_move {c : Cfg} (hg : Good c) {b : Int} {p : Sit} {x : Stp} {t : Seat} (h : Sz c b p.seats p.bk) (hb : b ≤ 999999999000000) : Sz c (b + 262144) (moveF c p x t).seats (moveF c p x t).bk := by
  have hl := ten_ld hg x.tenant
  refine ⟨by simp [moveF, h.n], by simp [moveF, addAt_len, h.k], fun y hy => ?_, by omega⟩
  have h1 := addAt_bd (d := 65536) (addAt_bd (d := 65536) h.bd (i := t.home) (n := -ldOf c x.tenant) (by omega)) (i := t.target) (n := -ldOf c x.tenant) (by omega)
  have h2 := addAt_bd (d := 65536) (addAt_bd (d := 65536) h1 (i := t.next) (n := -shOf c x.tenant) (by omega)) (i := x.cell) (n := ldOf c x.tenant - shOf c x.tenant) (by omega)
  have := h2 y hy
  omega

theorem take_sz {c : Cfg} (hg : Good c) {s : St} {b : Int} {p q : Sit} {x : Stp} (h : Sz c b p.seats p.bk) (hb : b ≤ 999999999000000) (hq : takeF c s p x = some q) : Sz c (b + 262144) q.seats q.bk := by
  unfold takeF at hq
  split at hq
  · split at hq
    · cases hq
    · rename_i t ht
      split at hq
      · split at hq
        · split at hq
          · cases hq; exact sz_shed hg h hb
          · cases hq
        · split at hq
          · split at hq
            · cases hq; exact sz_move hg h hb
            · cases hq
          · cases hq
      · cases hq
  · cases hq

theorem r1_addAt {l : List Int} {i n x : Int} (h0 : 0 ≤ i) (h1 : i < l.length) (hx : l[i.toNat]? = some x) : (r1 l).set i.toNat [i64 (x + n)] = r1 (addAt l i n) := by
  have : addAt l i n = l.set i.toNat (x + n) := by unfold addAt; rw [if_pos ⟨h0, h1⟩]; simp [hx]
  rw [this, r1_set']

theorem sz_add {c : Cfg} {b : Int} {se : List Seat} {bk : List Int} (h : Sz c b se bk) {k n : Int} (hn : -65536 ≤ n ∧ n ≤ 65536) (hb : b ≤ 999999999900000) : Sz c (b + 65536) se (addAt bk k n) :=
  ⟨h.n, by rw [addAt_len]; exact h.k, addAt_bd h.bd hn, by omega⟩

theorem sSe {l : List Seat} {i : Nat} {r : List (List D)} {x : Seat} {d : List D} (h : ∀ y, r.set i y = (rSe l).set i y) (hd : d = seD x) : r.set i d = rSe (l.set i x) := by
  rw [h, hd, rSe_set]

theorem takeF_in (c : Cfg) (s : St) {se : List Seat} {bk : List Int} {kind ten cell : Int} {t : Seat} (h0 : 0 ≤ ten) (hc : 0 ≤ cell ∧ cell < bk.length) (ht : se[ten.toNat]? = some t) : takeF c s ⟨se, bk⟩ ⟨kind, ten, cell⟩ =
    if t.active = true then
      if kind = 1 then (if t.home = cell then some (shedF c ⟨se, bk⟩ ⟨kind, ten, cell⟩ t) else none)
      else if kind = 2 then (if t.standby = cell ∧ usableP c s cell = true then some (moveF c ⟨se, bk⟩ ⟨kind, ten, cell⟩ t) else none)
      else none
    else none := by
  unfold takeF
  rw [if_pos ⟨⟨h0, hc.1⟩, hc.2⟩]
  dsimp only
  rw [ht]

set_option maxRecDepth 100000 in
theorem addPl_c (c : Cfg) (s : St) {b : Int} {se : List Seat} {bk : List Int} (k n : Int) (h : Sz c b se bk) (hn : -65536 ≤ n ∧ n ≤ 65536) : CallsH Tryz.prog 86 [.c (.ptr 0 0 0), I k, I n] (sitH c s 138 se bk) (.tup []) (sitH c s 138 se (addAt bk k n)) := by
  have l1 := r1_len bk
  have hle := h.le
  by_cases hk : 0 ≤ k ∧ k < bk.length
  · obtain ⟨x, hx⟩ := get_int (l := bk) hk.1 (by omega)
    have hb := h.bd x (List.mem_of_getElem? hx)
    have e := r1_addAt (n := n) hk.1 hk.2 hx
    refine callsR_of tab mixed Tryz.func86 rfl (by decide) rfl rfl ?_
    conv => whnf
    refine spD (fun h1 => ?_) (fun h1 => ?_) <;> conv => whnf
    · refine spD (fun h2 => ?_) (fun h2 => ?_) <;> conv => whnf
      · refine ⟨by omega, by omega, ?_⟩
        conv => whnf
        refine ⟨_, r1_get hx, ?_⟩
        conv => whnf
        refine gv (by first | omega | (simp only []; omega) | (simp; omega)) (by first | omega | (simp only []; omega) | (simp; omega)) ?_
        conv => whnf
        refine ⟨by omega, by omega, ?_⟩
        conv => whnf
        refine ⟨_, r1_get hx, ?_⟩
        conv => whnf
        refine ⟨[(0, some 0), (1, some 1), (2, some 2)], ?_⟩
        repeat' (first | exact trivial | rfl | refine And.intro ?_ ?_)
        all_goals (conv => whnf)
        repeat' (first | exact trivial | rfl | refine And.intro ?_ ?_)
        exact e.symm
      · omega
    · omega
  · rw [addAt_out hk]
    refine callsR_of tab mixed Tryz.func86 rfl (by decide) rfl rfl ?_
    conv => whnf
    repeat' (first | (refine gv (by omega) (by omega) ?_; conv => whnf) | (refine ⟨by kernel_rfl, ?_⟩; conv => whnf) | (refine spD (fun _ => ?_) (fun _ => ?_) <;> conv => whnf) | (refine spN (fun _ => ?_) (fun _ => ?_) <;> conv => whnf) | (refine spE (fun _ => ?_) (fun _ => ?_) <;> conv => whnf) | (refine spNe (fun _ => ?_) (fun _ => ?_) <;> conv => whnf) | (refine gvu (by omega) (by omega) ?_; conv => whnf))
    all_goals first | (exfalso; omega) | (refine ⟨[(0, some 0), (1, some 1), (2, some 2)], ?_⟩; (repeat' (first | exact trivial | rfl | refine And.intro ?_ ?_)); (all_goals (conv => whnf)); (repeat' (first | exact trivial | rfl | refine And.intro ?_ ?_)))

set_option maxRecDepth 100000 in
theorem addCk_c (c : Cfg) (s : St) {b : Int} {se : List Seat} {bk : List Int} (k n : Int) (h : Sz c b se bk) (hn : -65536 ≤ n ∧ n ≤ 65536) : CallsH Tryz.prog 124 [.c (.ptr 0 0 0), I k, I n] (sitH c s 102 se bk) (.tup []) (sitH c s 102 se (addAt bk k n)) := by
  have l1 := r1_len bk
  have hle := h.le
  by_cases hk : 0 ≤ k ∧ k < bk.length
  · obtain ⟨x, hx⟩ := get_int (l := bk) hk.1 (by omega)
    have hb := h.bd x (List.mem_of_getElem? hx)
    have e := r1_addAt (n := n) hk.1 hk.2 hx
    refine callsR_of tab mixed Tryz.func124 rfl (by decide) rfl rfl ?_
    conv => whnf
    refine spD (fun h1 => ?_) (fun h1 => ?_) <;> conv => whnf
    · refine spD (fun h2 => ?_) (fun h2 => ?_) <;> conv => whnf
      · refine ⟨by omega, by omega, ?_⟩
        conv => whnf
        refine ⟨_, r1_get hx, ?_⟩
        conv => whnf
        refine gv (by first | omega | (simp only []; omega) | (simp; omega)) (by first | omega | (simp only []; omega) | (simp; omega)) ?_
        conv => whnf
        refine ⟨by omega, by omega, ?_⟩
        conv => whnf
        refine ⟨_, r1_get hx, ?_⟩
        conv => whnf
        refine ⟨[(0, some 0), (1, some 1), (2, some 2)], ?_⟩
        repeat' (first | exact trivial | rfl | refine And.intro ?_ ?_)
        all_goals (conv => whnf)
        repeat' (first | exact trivial | rfl | refine And.intro ?_ ?_)
        exact e.symm
      · omega
    · omega
  · rw [addAt_out hk]
    refine callsR_of tab mixed Tryz.func124 rfl (by decide) rfl rfl ?_
    conv => whnf
    repeat' (first | (refine gv (by omega) (by omega) ?_; conv => whnf) | (refine ⟨by kernel_rfl, ?_⟩; conv => whnf) | (refine spD (fun _ => ?_) (fun _ => ?_) <;> conv => whnf) | (refine spN (fun _ => ?_) (fun _ => ?_) <;> conv => whnf) | (refine spE (fun _ => ?_) (fun _ => ?_) <;> conv => whnf) | (refine spNe (fun _ => ?_) (fun _ => ?_) <;> conv => whnf) | (refine gvu (by omega) (by omega) ?_; conv => whnf))
    all_goals first | (exfalso; omega) | (refine ⟨[(0, some 0), (1, some 1), (2, some 2)], ?_⟩; (repeat' (first | exact trivial | rfl | refine And.intro ?_ ?_)); (all_goals (conv => whnf)); (repeat' (first | exact trivial | rfl | refine And.intro ?_ ?_)))

set_option maxRecDepth 100000 in
theorem shedPl_c (c : Cfg) (s : St) {b : Int} {se : List Seat} {bk : List Int} {kind ten cell : Int} {ac : Bool} {ho sb nx tg : Int} (w : WG c) (h : Sz c b se bk) (hb : b ≤ 999999999000000) (h0 : 0 ≤ ten) (ht : se[ten.toNat]? = some ⟨ac, ho, sb, nx, tg⟩) (h1 : 0 ≤ cell ∧ cell < bk.length) (ha : ac = true) (hh : ho = cell) :
    CallsH Tryz.prog 35 [.c (.ptr 0 0 0), .agg [.d (i64 1), .d (i64 ten), .d (i64 cell)]] (sitH c s 138 se bk) (B true) (sitH c s 138 (se.set ten.toNat ⟨false, ho, sb, nx, -1⟩) (addAt (addAt bk ho (-ldOf c ten)) tg (-ldOf c ten))) := by
  have l1 := r1_len bk
  have l2 := rSe_len se
  have l3 := rT_len c.tenants
  have hg := w.good
  have hnn := h.n
  have hkk := h.k
  have hlt := (List.getElem?_eq_some_iff.1 ht).1
  obtain ⟨⟨d1, d2, d3, d4, d5, d6, d7⟩, hd⟩ := get_int (l := c.tenants) h0 (by omega)
  have hdd := hg.ten _ (List.mem_of_getElem? hd)
  unfold okT at hdd
  dsimp only at hdd
  have e1 : -ldOf c ten = 0 - d1 := by simp [ldOf, hd]
  have e2 : -shOf c ten = 0 - d2 := by simp [shOf, hd]
  have e3 : ldOf c ten - shOf c ten = d1 - d2 := by simp [ldOf, shOf, hd]
  subst ha
  rw [e1]
  refine callsR_of tab mixed Tryz.func35 rfl (by decide) rfl rfl ?_
  conv => whnf
  refine ⟨by kernel_rfl, ?_⟩
  conv => whnf
  refine spD (fun q => absurd q (by omega)) (fun _ => ?_)
  conv => whnf
  refine spD (fun q => absurd q (by omega)) (fun _ => ?_)
  conv => whnf
  refine spD (fun q => absurd q (by omega)) (fun _ => ?_)
  conv => whnf
  refine spD (fun q => absurd q (by omega)) (fun _ => ?_)
  conv => whnf
  refine ⟨by kernel_rfl, ?_⟩
  conv => whnf
  refine ⟨h0, _, rT_get hd, ?_⟩
  conv => whnf
  refine ⟨by kernel_rfl, ?_⟩
  conv => whnf
  refine ⟨by omega, by omega, ?_⟩
  conv => whnf
  refine spE (fun _ => ?_) (fun q => absurd rfl q)
  conv => whnf
  refine ⟨by kernel_rfl, ?_⟩
  conv => whnf
  refine ⟨_, rSe_get ht, ?_⟩
  conv => whnf
  refine ⟨fun q => (by cases q), fun _ => ?_⟩
  conv => whnf
  refine ⟨_, rSe_get ht, ?_⟩
  conv => whnf
  refine spNe (fun q => absurd hh q) (fun _ => ?_)
  conv => whnf
  refine ⟨by kernel_rfl, ?_⟩
  conv => whnf
  refine ⟨_, rSe_get ht, ?_⟩
  conv => whnf
  refine gv (by first | omega | (simp only []; omega) | (simp; omega)) (by first | omega | (simp only []; omega) | (simp; omega)) ?_
  conv => whnf
  refine ⟨_, _, addPl_c c s ho (0 - d1) h (by omega), ?_⟩
  conv => whnf
  refine ⟨by kernel_rfl, ?_⟩
  conv => whnf
  refine ⟨_, rSe_get ht, ?_⟩
  conv => whnf
  refine gv (by first | omega | (simp only []; omega) | (simp; omega)) (by first | omega | (simp only []; omega) | (simp; omega)) ?_
  conv => whnf
  refine ⟨_, _, addPl_c c s tg (0 - d1) (sz_add h (k := ho) (n := 0 - d1) (by omega) (by omega)) (by omega), ?_⟩
  conv => whnf
  refine ⟨_, rSe_get ht, ?_⟩
  conv => whnf
  refine ⟨_, sg (by omega), ?_⟩
  conv => whnf
  refine ⟨[(0, some 0), (1, some 1), (2, some 2)], ?_⟩
  repeat' (first | exact trivial | rfl | refine And.intro ?_ ?_)
  all_goals (conv => whnf)
  repeat' (first | exact trivial | rfl | refine And.intro ?_ ?_)
  exact (sSe (by first | (intro y; rfl) | (intro y; simp)) rfl).symm

set_option maxHeartbeats 1000000 in
set_option maxRecDepth 100000 in
theorem movePl_c (c : Cfg) (s : St) {b : Int} {se : List Seat} {bk : List Int} {kind ten cell : Int} {ac : Bool} {ho sb nx tg : Int} (w : WG c) (h : Sz c b se bk) (hb : b ≤ 999999999000000) (h0 : 0 ≤ ten) (ht : se[ten.toNat]? = some ⟨ac, ho, sb, nx, tg⟩) (h1 : 0 ≤ cell ∧ cell < bk.length) (hn : s.cs.length = c.cells.length) (ha : ac = true) (hh : sb = cell) (hu : usableP c s sb = true) :
    CallsH Tryz.prog 35 [.c (.ptr 0 0 0), .agg [.d (i64 2), .d (i64 ten), .d (i64 cell)]] (sitH c s 138 se bk) (B true) (sitH c s 138 (se.set ten.toNat ⟨true, cell, -1, -1, -1⟩) (addAt (addAt (addAt (addAt bk ho (-ldOf c ten)) tg (-ldOf c ten)) nx (-shOf c ten)) sb (ldOf c ten - shOf c ten))) := by
  have l1 := r1_len bk
  have l2 := rSe_len se
  have l3 := rT_len c.tenants
  have hg := w.good
  have hnn := h.n
  have hkk := h.k
  have hlt := (List.getElem?_eq_some_iff.1 ht).1
  obtain ⟨⟨d1, d2, d3, d4, d5, d6, d7⟩, hd⟩ := get_int (l := c.tenants) h0 (by omega)
  have hdd := hg.ten _ (List.mem_of_getElem? hd)
  unfold okT at hdd
  dsimp only at hdd
  have e1 : -ldOf c ten = 0 - d1 := by simp [ldOf, hd]
  have e2 : -shOf c ten = 0 - d2 := by simp [shOf, hd]
  have e3 : ldOf c ten - shOf c ten = d1 - d2 := by simp [ldOf, shOf, hd]
  subst ha
  rw [e1, e2, e3]
  have z1 := sz_add h (k := ho) (n := 0 - d1) (by omega) (by omega)
  have z2 := sz_add z1 (k := tg) (n := 0 - d1) (by omega) (by omega)
  have z3 := sz_add z2 (k := nx) (n := 0 - d2) (by omega) (by omega)
  refine callsR_of tab mixed Tryz.func35 rfl (by decide) rfl rfl ?_
  conv => whnf
  refine ⟨by kernel_rfl, ?_⟩
  conv => whnf
  refine spD (fun q => absurd q (by omega)) (fun _ => ?_)
  conv => whnf
  refine spD (fun q => absurd q (by omega)) (fun _ => ?_)
  conv => whnf
  refine spD (fun q => absurd q (by omega)) (fun _ => ?_)
  conv => whnf
  refine spD (fun q => absurd q (by omega)) (fun _ => ?_)
  conv => whnf
  refine ⟨by kernel_rfl, ?_⟩
  conv => whnf
  refine ⟨h0, _, rT_get hd, ?_⟩
  conv => whnf
  refine ⟨by kernel_rfl, ?_⟩
  conv => whnf
  refine ⟨by omega, by omega, ?_⟩
  conv => whnf
  refine spE (fun q => absurd q (by decide)) (fun _ => ?_)
  conv => whnf
  refine spE (fun _ => ?_) (fun q => absurd rfl q)
  conv => whnf
  refine ⟨by kernel_rfl, ?_⟩
  conv => whnf
  refine ⟨_, rSe_get ht, ?_⟩
  conv => whnf
  refine ⟨fun q => (by cases q), fun _ => ?_⟩
  conv => whnf
  refine ⟨_, rSe_get ht, ?_⟩
  conv => whnf
  refine spNe (fun q => absurd hh q) (fun _ => ?_)
  conv => whnf
  refine ⟨_, rSe_get ht, ?_⟩
  conv => whnf
  refine ⟨_, _, usable_e c s sb hg hn, ?_⟩
  conv => whnf
  rw [hu]
  refine ⟨fun q => (by cases q), fun _ => ?_⟩
  conv => whnf
  refine ⟨by kernel_rfl, ?_⟩
  conv => whnf
  refine ⟨_, rSe_get ht, ?_⟩
  conv => whnf
  refine gv (by first | omega | (simp only []; omega) | (simp; omega)) (by first | omega | (simp only []; omega) | (simp; omega)) ?_
  conv => whnf
  refine ⟨_, _, addPl_c c s ho (0 - d1) h (by omega), ?_⟩
  conv => whnf
  refine ⟨by kernel_rfl, ?_⟩
  conv => whnf
  refine ⟨_, rSe_get ht, ?_⟩
  conv => whnf
  refine gv (by first | omega | (simp only []; omega) | (simp; omega)) (by first | omega | (simp only []; omega) | (simp; omega)) ?_
  conv => whnf
  refine ⟨_, _, addPl_c c s tg (0 - d1) z1 (by omega), ?_⟩
  conv => whnf
  refine ⟨by kernel_rfl, ?_⟩
  conv => whnf
  refine ⟨_, rSe_get ht, ?_⟩
  conv => whnf
  refine gv (by first | omega | (simp only []; omega) | (simp; omega)) (by first | omega | (simp only []; omega) | (simp; omega)) ?_
  conv => whnf
  refine ⟨_, _, addPl_c c s nx (0 - d2) z2 (by omega), ?_⟩
  conv => whnf
  refine ⟨by kernel_rfl, ?_⟩
  conv => whnf
  refine ⟨_, rSe_get ht, ?_⟩
  conv => whnf
  refine gv (by first | omega | (simp only []; omega) | (simp; omega)) (by first | omega | (simp only []; omega) | (simp; omega)) ?_
  conv => whnf
  refine ⟨_, _, addPl_c c s sb (d1 - d2) z3 (by omega), ?_⟩
  conv => whnf
  refine ⟨_, rSe_get ht, ?_⟩
  conv => whnf
  refine ⟨[(0, some 0), (1, some 1), (2, some 2)], ?_⟩
  repeat' (first | exact trivial | rfl | refine And.intro ?_ ?_)
  all_goals (conv => whnf)
  repeat' (first | exact trivial | rfl | refine And.intro ?_ ?_)
  exact (sSe (by first | (intro y; rfl) | (intro y; simp)) rfl).symm

set_option maxRecDepth 100000 in
theorem noPl_c (c : Cfg) (s : St) {b : Int} {se : List Seat} {bk : List Int} {kind ten cell : Int} {ac : Bool} {ho sb nx tg : Int} (w : WG c) (h : Sz c b se bk) (hb : b ≤ 999999999000000) (h0 : 0 ≤ ten) (ht : se[ten.toNat]? = some ⟨ac, ho, sb, nx, tg⟩) (h1 : 0 ≤ cell ∧ cell < bk.length) (hn : s.cs.length = c.cells.length) (hno : ac = true → (kind = 1 → ho ≠ cell) ∧ (kind = 2 → sb = cell → usableP c s sb = false)) :
    CallsH Tryz.prog 35 [.c (.ptr 0 0 0), .agg [.d (i64 kind), .d (i64 ten), .d (i64 cell)]] (sitH c s 138 se bk) (B false) (sitH c s 138 se bk) := by
  have l1 := r1_len bk
  have l2 := rSe_len se
  have l3 := rT_len c.tenants
  have hg := w.good
  have hnn := h.n
  have hkk := h.k
  have hlt := (List.getElem?_eq_some_iff.1 ht).1
  obtain ⟨⟨d1, d2, d3, d4, d5, d6, d7⟩, hd⟩ := get_int (l := c.tenants) h0 (by omega)
  have hdd := hg.ten _ (List.mem_of_getElem? hd)
  unfold okT at hdd
  dsimp only at hdd
  have e1 : -ldOf c ten = 0 - d1 := by simp [ldOf, hd]
  have e2 : -shOf c ten = 0 - d2 := by simp [shOf, hd]
  have e3 : ldOf c ten - shOf c ten = d1 - d2 := by simp [ldOf, shOf, hd]
  refine callsR_of tab mixed Tryz.func35 rfl (by decide) rfl rfl ?_
  conv => whnf
  refine ⟨by kernel_rfl, ?_⟩
  conv => whnf
  refine spD (fun q => absurd q (by omega)) (fun _ => ?_)
  conv => whnf
  refine spD (fun q => absurd q (by omega)) (fun _ => ?_)
  conv => whnf
  refine spD (fun q => absurd q (by omega)) (fun _ => ?_)
  conv => whnf
  refine spD (fun q => absurd q (by omega)) (fun _ => ?_)
  conv => whnf
  refine ⟨by kernel_rfl, ?_⟩
  conv => whnf
  refine ⟨h0, _, rT_get hd, ?_⟩
  conv => whnf
  refine ⟨by kernel_rfl, ?_⟩
  conv => whnf
  refine ⟨by omega, by omega, ?_⟩
  conv => whnf
  refine spE (fun k1 => ?_) (fun k1 => ?_) <;> conv => whnf
  · refine ⟨by kernel_rfl, ?_⟩
    conv => whnf
    refine ⟨_, rSe_get ht, ?_⟩
    conv => whnf
    cases ac
    · refine ⟨fun _ => ?_, fun q => (by cases q)⟩
      conv => whnf
      refine ⟨[(0, some 0), (1, some 1), (2, some 2)], ?_⟩
      repeat' (first | exact trivial | rfl | refine And.intro ?_ ?_)
      all_goals (conv => whnf)
      repeat' (first | exact trivial | rfl | refine And.intro ?_ ?_)
    · refine ⟨fun q => (by cases q), fun _ => ?_⟩
      conv => whnf
      refine ⟨_, rSe_get ht, ?_⟩
      conv => whnf
      refine spNe (fun q => ?_) (fun q => ?_) <;> conv => whnf
      · refine ⟨[(0, some 0), (1, some 1), (2, some 2)], ?_⟩
        repeat' (first | exact trivial | rfl | refine And.intro ?_ ?_)
        all_goals (conv => whnf)
        repeat' (first | exact trivial | rfl | refine And.intro ?_ ?_)
      · exact absurd (by simpa using q) ((hno rfl).1 k1)
  refine spE (fun k2 => ?_) (fun k2 => ?_) <;> conv => whnf
  · refine ⟨by kernel_rfl, ?_⟩
    conv => whnf
    refine ⟨_, rSe_get ht, ?_⟩
    conv => whnf
    cases ac
    · refine ⟨fun _ => ?_, fun q => (by cases q)⟩
      conv => whnf
      refine ⟨[(0, some 0), (1, some 1), (2, some 2)], ?_⟩
      repeat' (first | exact trivial | rfl | refine And.intro ?_ ?_)
      all_goals (conv => whnf)
      repeat' (first | exact trivial | rfl | refine And.intro ?_ ?_)
    · refine ⟨fun q => (by cases q), fun _ => ?_⟩
      conv => whnf
      refine ⟨_, rSe_get ht, ?_⟩
      conv => whnf
      refine spNe (fun q => ?_) (fun q => ?_) <;> conv => whnf
      · refine ⟨[(0, some 0), (1, some 1), (2, some 2)], ?_⟩
        repeat' (first | exact trivial | rfl | refine And.intro ?_ ?_)
        all_goals (conv => whnf)
        repeat' (first | exact trivial | rfl | refine And.intro ?_ ?_)
      · refine ⟨_, rSe_get ht, ?_⟩
        conv => whnf
        refine ⟨_, _, usable_e c s sb hg hn, ?_⟩
        conv => whnf
        have hu := (hno rfl).2 k2 (by simpa using q)
        rw [hu]
        refine ⟨fun _ => ?_, fun q => (by cases q)⟩
        conv => whnf
        refine ⟨[(0, some 0), (1, some 1), (2, some 2)], ?_⟩
        repeat' (first | exact trivial | rfl | refine And.intro ?_ ?_)
        all_goals (conv => whnf)
        repeat' (first | exact trivial | rfl | refine And.intro ?_ ?_)
  · refine ⟨[(0, some 0), (1, some 1), (2, some 2)], ?_⟩
    repeat' (first | exact trivial | rfl | refine And.intro ?_ ?_)
    all_goals (conv => whnf)
    repeat' (first | exact trivial | rfl | refine And.intro ?_ ?_)

set_option maxRecDepth 100000 in
theorem outPl_c (c : Cfg) (s : St) {se : List Seat} {bk : List Int} {kind ten cell : Int} (h1 : ¬ ((0 ≤ ten ∧ ten < se.length) ∧ 0 ≤ cell ∧ cell < bk.length)) :
    CallsH Tryz.prog 35 [.c (.ptr 0 0 0), .agg [.d (i64 kind), .d (i64 ten), .d (i64 cell)]] (sitH c s 138 se bk) (B false) (sitH c s 138 se bk) := by
  have l1 := r1_len bk
  have l2 := rSe_len se
  refine callsR_of tab mixed Tryz.func35 rfl (by decide) rfl rfl ?_
  conv => whnf
  refine ⟨by kernel_rfl, ?_⟩
  conv => whnf
  repeat' (first | (refine gv (by omega) (by omega) ?_; conv => whnf) | (refine ⟨by kernel_rfl, ?_⟩; conv => whnf) | (refine spD (fun _ => ?_) (fun _ => ?_) <;> conv => whnf) | (refine spN (fun _ => ?_) (fun _ => ?_) <;> conv => whnf) | (refine spE (fun _ => ?_) (fun _ => ?_) <;> conv => whnf) | (refine spNe (fun _ => ?_) (fun _ => ?_) <;> conv => whnf) | (refine gvu (by omega) (by omega) ?_; conv => whnf))
  all_goals first | (exfalso; omega) | (refine ⟨[(0, some 0), (1, some 1), (2, some 2)], ?_⟩; (repeat' (first | exact trivial | rfl | refine And.intro ?_ ?_)); (all_goals (conv => whnf)); (repeat' (first | exact trivial | rfl | refine And.intro ?_ ?_)))

theorem takePl_c (c : Cfg) (s : St) {b : Int} {se : List Seat} {bk : List Int} (x : Stp) (w : WG c) (hn : s.cs.length = c.cells.length) (h : Sz c b se bk) (hb : b ≤ 999999999000000) : ∃ p', (takeF c s ⟨se, bk⟩ x).getD ⟨se, bk⟩ = p' ∧
    CallsH Tryz.prog 35 [.c (.ptr 0 0 0), stpV x] (sitH c s 138 se bk) (B (takeF c s ⟨se, bk⟩ x).isSome) (sitH c s 138 p'.seats p'.bk) := by
  obtain ⟨kind, ten, cell⟩ := x
  refine ⟨_, rfl, ?_⟩
  by_cases h1 : (0 ≤ ten ∧ ten < se.length) ∧ 0 ≤ cell ∧ cell < bk.length
  · obtain ⟨⟨ac, ho, sb, nx, tg⟩, ht⟩ := get_int (l := se) h1.1.1 (by omega)
    by_cases ha : ac = true
    · by_cases k1 : kind = 1
      · by_cases hh : ho = cell
        · have e : takeF c s ⟨se, bk⟩ ⟨kind, ten, cell⟩ = some (shedF c ⟨se, bk⟩ ⟨kind, ten, cell⟩ ⟨ac, ho, sb, nx, tg⟩) := by rw [takeF_in c s h1.1.1 h1.2 ht]; simp [ha, k1, hh]
          rw [e, k1]
          exact shedPl_c (kind := 1) c s w h hb h1.1.1 ht h1.2 ha hh
        · have e : takeF c s ⟨se, bk⟩ ⟨kind, ten, cell⟩ = none := by rw [takeF_in c s h1.1.1 h1.2 ht]; simp [ha, k1, hh]
          rw [e]
          exact noPl_c c s w h hb h1.1.1 ht h1.2 hn (fun _ => ⟨fun _ => hh, fun q => absurd (k1.symm.trans q) (by decide)⟩)
      · by_cases k2 : kind = 2
        · by_cases hh : sb = cell ∧ usableP c s cell = true
          · have e : takeF c s ⟨se, bk⟩ ⟨kind, ten, cell⟩ = some (moveF c ⟨se, bk⟩ ⟨kind, ten, cell⟩ ⟨ac, ho, sb, nx, tg⟩) := by rw [takeF_in c s h1.1.1 h1.2 ht]; simp [ha, k2, hh]
            rw [e, k2]
            obtain ⟨rfl, hu⟩ := hh
            exact movePl_c (kind := 2) c s w h hb h1.1.1 ht h1.2 hn ha rfl hu
          · have e : takeF c s ⟨se, bk⟩ ⟨kind, ten, cell⟩ = none := by rw [takeF_in c s h1.1.1 h1.2 ht]; simp [ha, k2]; intro h1; simpa [h1] using hh
            rw [e]
            exact noPl_c c s w h hb h1.1.1 ht h1.2 hn (fun _ => ⟨fun q => absurd q (by omega), fun _ q => by subst q; simpa using hh⟩)
        · have e : takeF c s ⟨se, bk⟩ ⟨kind, ten, cell⟩ = none := by rw [takeF_in c s h1.1.1 h1.2 ht]; simp [k1, k2]
          rw [e]
          exact noPl_c c s w h hb h1.1.1 ht h1.2 hn (fun _ => ⟨fun q => absurd q k1, fun q => absurd q k2⟩)
    · have e : takeF c s ⟨se, bk⟩ ⟨kind, ten, cell⟩ = none := by rw [takeF_in c s h1.1.1 h1.2 ht]; simp [ha]
      rw [e]
      exact noPl_c c s w h hb h1.1.1 ht h1.2 hn (fun q => absurd q ha)
  · have e : takeF c s ⟨se, bk⟩ ⟨kind, ten, cell⟩ = none := by
      unfold takeF
      split
      · rename_i q
        dsimp only at q
        rw [List.getElem?_eq_none (by dsimp only; omega)]
      · rfl
    rw [e]
    exact outPl_c c s h1

theorem seated_us {c : Cfg} {s : St} {se : List Seat} {bk : List Int} (hs : Seated s ⟨se, bk⟩) {i cell : Int} {t : Seat} (h0 : 0 ≤ i) (ht : se[i.toNat]? = some t) (ha : t.active = true) (hc : 0 ≤ cell) (he : t.standby = cell) : usableT c s i = usableP c s cell := by
  obtain ⟨x, h1, h2, h3, h4⟩ := hs _ t ht ha
  have : x.standby = cell := by omega
  unfold usableT
  rw [if_pos h0, h1]
  simp [h2, h3, this]

set_option maxRecDepth 100000 in
theorem shedCk_c (c : Cfg) (s : St) {b : Int} {se : List Seat} {bk : List Int} {kind ten cell : Int} {ac : Bool} {ho sb nx tg : Int} (w : WG c) (h : Sz c b se bk) (hb : b ≤ 999999999000000) (h0 : 0 ≤ ten) (ht : se[ten.toNat]? = some ⟨ac, ho, sb, nx, tg⟩) (h1 : 0 ≤ cell ∧ cell < bk.length) (ha : ac = true) (hh : ho = cell) :
    CallsH Tryz.prog 87 [.c (.ptr 0 0 0), .agg [.d (i64 1), .d (i64 ten), .d (i64 cell)]] (sitH c s 102 se bk) (B true) (sitH c s 102 (se.set ten.toNat ⟨false, ho, sb, nx, -1⟩) (addAt (addAt bk ho (-ldOf c ten)) tg (-ldOf c ten))) := by
  have l1 := r1_len bk
  have l2 := rSe_len se
  have l3 := rT_len c.tenants
  have hg := w.good
  have hnn := h.n
  have hkk := h.k
  have hlt := (List.getElem?_eq_some_iff.1 ht).1
  obtain ⟨⟨d1, d2, d3, d4, d5, d6, d7⟩, hd⟩ := get_int (l := c.tenants) h0 (by omega)
  have hdd := hg.ten _ (List.mem_of_getElem? hd)
  unfold okT at hdd
  dsimp only at hdd
  have e1 : -ldOf c ten = 0 - d1 := by simp [ldOf, hd]
  have e2 : -shOf c ten = 0 - d2 := by simp [shOf, hd]
  have e3 : ldOf c ten - shOf c ten = d1 - d2 := by simp [ldOf, shOf, hd]
  subst ha
  rw [e1]
  refine callsR_of tab mixed Tryz.func87 rfl (by decide) rfl rfl ?_
  conv => whnf
  refine ⟨by kernel_rfl, ?_⟩
  conv => whnf
  refine spD (fun q => absurd q (by omega)) (fun _ => ?_)
  conv => whnf
  refine spD (fun q => absurd q (by omega)) (fun _ => ?_)
  conv => whnf
  refine spD (fun q => absurd q (by omega)) (fun _ => ?_)
  conv => whnf
  refine spD (fun q => absurd q (by omega)) (fun _ => ?_)
  conv => whnf
  refine ⟨by kernel_rfl, ?_⟩
  conv => whnf
  refine ⟨h0, _, rT_get hd, ?_⟩
  conv => whnf
  refine ⟨by omega, by omega, ?_⟩
  conv => whnf
  refine ⟨_, rSe_get ht, ?_⟩
  conv => whnf
  refine spE (fun _ => ?_) (fun q => absurd rfl q)
  conv => whnf
  refine ⟨fun q => (by cases q), fun _ => ?_⟩
  conv => whnf
  refine spNe (fun q => absurd hh q) (fun _ => ?_)
  conv => whnf
  refine gv (by first | omega | (simp only []; omega) | (simp; omega)) (by first | omega | (simp only []; omega) | (simp; omega)) ?_
  conv => whnf
  refine ⟨_, _, addCk_c c s ho (0 - d1) h (by omega), ?_⟩
  conv => whnf
  refine gv (by first | omega | (simp only []; omega) | (simp; omega)) (by first | omega | (simp only []; omega) | (simp; omega)) ?_
  conv => whnf
  refine ⟨_, _, addCk_c c s tg (0 - d1) (sz_add h (k := ho) (n := 0 - d1) (by omega) (by omega)) (by omega), ?_⟩
  conv => whnf
  refine ⟨by kernel_rfl, ?_⟩
  conv => whnf
  refine ⟨by omega, by omega, ?_⟩
  conv => whnf
  refine ⟨_, rSe_get ht, ?_⟩
  conv => whnf
  refine ⟨by kernel_rfl, ?_⟩
  conv => whnf
  refine ⟨by omega, by simp; omega, ?_⟩
  conv => whnf
  refine ⟨_, sg (by omega), ?_⟩
  conv => whnf
  refine ⟨[(0, some 0), (1, some 1), (2, some 2)], ?_⟩
  repeat' (first | exact trivial | rfl | refine And.intro ?_ ?_)
  all_goals (conv => whnf)
  repeat' (first | exact trivial | rfl | refine And.intro ?_ ?_)
  exact (sSe (by first | (intro y; rfl) | (intro y; simp)) rfl).symm

set_option maxHeartbeats 1000000 in
set_option maxRecDepth 100000 in
theorem moveCk_c (c : Cfg) (s : St) {b : Int} {se : List Seat} {bk : List Int} {kind ten cell : Int} {ac : Bool} {ho sb nx tg : Int} (w : WG c) (h : Sz c b se bk) (hb : b ≤ 999999999000000) (h0 : 0 ≤ ten) (ht : se[ten.toNat]? = some ⟨ac, ho, sb, nx, tg⟩) (h1 : 0 ≤ cell ∧ cell < bk.length) (hn : s.cs.length = c.cells.length) (ha : ac = true) (hh : sb = cell) (hm : s.ts.length = c.tenants.length) (hu : usableT c s ten = true) :
    CallsH Tryz.prog 87 [.c (.ptr 0 0 0), .agg [.d (i64 2), .d (i64 ten), .d (i64 cell)]] (sitH c s 102 se bk) (B true) (sitH c s 102 (se.set ten.toNat ⟨true, cell, -1, -1, -1⟩) (addAt (addAt (addAt (addAt bk ho (-ldOf c ten)) tg (-ldOf c ten)) nx (-shOf c ten)) cell (ldOf c ten - shOf c ten))) := by
  have l1 := r1_len bk
  have l2 := rSe_len se
  have l3 := rT_len c.tenants
  have hg := w.good
  have hnn := h.n
  have hkk := h.k
  have hlt := (List.getElem?_eq_some_iff.1 ht).1
  obtain ⟨⟨d1, d2, d3, d4, d5, d6, d7⟩, hd⟩ := get_int (l := c.tenants) h0 (by omega)
  have hdd := hg.ten _ (List.mem_of_getElem? hd)
  unfold okT at hdd
  dsimp only at hdd
  have e1 : -ldOf c ten = 0 - d1 := by simp [ldOf, hd]
  have e2 : -shOf c ten = 0 - d2 := by simp [shOf, hd]
  have e3 : ldOf c ten - shOf c ten = d1 - d2 := by simp [ldOf, shOf, hd]
  subst ha
  rw [e1, e2, e3]
  have z1 := sz_add h (k := ho) (n := 0 - d1) (by omega) (by omega)
  have z2 := sz_add z1 (k := tg) (n := 0 - d1) (by omega) (by omega)
  have z3 := sz_add z2 (k := nx) (n := 0 - d2) (by omega) (by omega)
  refine callsR_of tab mixed Tryz.func87 rfl (by decide) rfl rfl ?_
  conv => whnf
  refine ⟨by kernel_rfl, ?_⟩
  conv => whnf
  refine spD (fun q => absurd q (by omega)) (fun _ => ?_)
  conv => whnf
  refine spD (fun q => absurd q (by omega)) (fun _ => ?_)
  conv => whnf
  refine spD (fun q => absurd q (by omega)) (fun _ => ?_)
  conv => whnf
  refine spD (fun q => absurd q (by omega)) (fun _ => ?_)
  conv => whnf
  refine ⟨by kernel_rfl, ?_⟩
  conv => whnf
  refine ⟨h0, _, rT_get hd, ?_⟩
  conv => whnf
  refine ⟨by omega, by omega, ?_⟩
  conv => whnf
  refine ⟨_, rSe_get ht, ?_⟩
  conv => whnf
  refine spE (fun q => absurd q (by decide)) (fun _ => ?_)
  conv => whnf
  refine spE (fun _ => ?_) (fun q => absurd rfl q)
  conv => whnf
  refine ⟨by kernel_rfl, ?_⟩
  conv => whnf
  refine ⟨fun q => (by cases q), fun _ => ?_⟩
  conv => whnf
  refine spNe (fun q => absurd hh q) (fun _ => ?_)
  conv => whnf
  refine ⟨_, _, usableT_e c s ten hg hn hm, ?_⟩
  conv => whnf
  rw [hu]
  refine ⟨fun q => (by cases q), fun _ => ?_⟩
  conv => whnf
  refine gv (by first | omega | (simp only []; omega) | (simp; omega)) (by first | omega | (simp only []; omega) | (simp; omega)) ?_
  conv => whnf
  refine ⟨_, _, addCk_c c s ho (0 - d1) h (by omega), ?_⟩
  conv => whnf
  refine gv (by first | omega | (simp only []; omega) | (simp; omega)) (by first | omega | (simp only []; omega) | (simp; omega)) ?_
  conv => whnf
  refine ⟨_, _, addCk_c c s tg (0 - d1) z1 (by omega), ?_⟩
  conv => whnf
  refine gv (by first | omega | (simp only []; omega) | (simp; omega)) (by first | omega | (simp only []; omega) | (simp; omega)) ?_
  conv => whnf
  refine ⟨_, _, addCk_c c s nx (0 - d2) z2 (by omega), ?_⟩
  conv => whnf
  refine gv (by first | omega | (simp only []; omega) | (simp; omega)) (by first | omega | (simp only []; omega) | (simp; omega)) ?_
  conv => whnf
  refine ⟨_, _, addCk_c c s cell (d1 - d2) z3 (by omega), ?_⟩
  conv => whnf
  refine ⟨by kernel_rfl, ?_⟩
  conv => whnf
  refine ⟨by omega, by omega, ?_⟩
  conv => whnf
  refine ⟨_, rSe_get ht, ?_⟩
  conv => whnf
  refine ⟨[(0, some 0), (1, some 1), (2, some 2)], ?_⟩
  repeat' (first | exact trivial | rfl | refine And.intro ?_ ?_)
  all_goals (conv => whnf)
  repeat' (first | exact trivial | rfl | refine And.intro ?_ ?_)
  exact (sSe (by first | (intro y; rfl) | (intro y; simp)) rfl).symm

set_option maxRecDepth 100000 in
theorem noCk_c (c : Cfg) (s : St) {b : Int} {se : List Seat} {bk : List Int} {kind ten cell : Int} {ac : Bool} {ho sb nx tg : Int} (w : WG c) (h : Sz c b se bk) (hb : b ≤ 999999999000000) (h0 : 0 ≤ ten) (ht : se[ten.toNat]? = some ⟨ac, ho, sb, nx, tg⟩) (h1 : 0 ≤ cell ∧ cell < bk.length) (hn : s.cs.length = c.cells.length) (hm : s.ts.length = c.tenants.length) (hno : ac = true → (kind = 1 → ho ≠ cell) ∧ (kind = 2 → sb = cell → usableT c s ten = false)) :
    CallsH Tryz.prog 87 [.c (.ptr 0 0 0), .agg [.d (i64 kind), .d (i64 ten), .d (i64 cell)]] (sitH c s 102 se bk) (B false) (sitH c s 102 se bk) := by
  have l1 := r1_len bk
  have l2 := rSe_len se
  have l3 := rT_len c.tenants
  have hg := w.good
  have hnn := h.n
  have hkk := h.k
  have hlt := (List.getElem?_eq_some_iff.1 ht).1
  obtain ⟨⟨d1, d2, d3, d4, d5, d6, d7⟩, hd⟩ := get_int (l := c.tenants) h0 (by omega)
  have hdd := hg.ten _ (List.mem_of_getElem? hd)
  unfold okT at hdd
  dsimp only at hdd
  have e1 : -ldOf c ten = 0 - d1 := by simp [ldOf, hd]
  have e2 : -shOf c ten = 0 - d2 := by simp [shOf, hd]
  have e3 : ldOf c ten - shOf c ten = d1 - d2 := by simp [ldOf, shOf, hd]
  refine callsR_of tab mixed Tryz.func87 rfl (by decide) rfl rfl ?_
  conv => whnf
  refine ⟨by kernel_rfl, ?_⟩
  conv => whnf
  refine spD (fun q => absurd q (by omega)) (fun _ => ?_)
  conv => whnf
  refine spD (fun q => absurd q (by omega)) (fun _ => ?_)
  conv => whnf
  refine spD (fun q => absurd q (by omega)) (fun _ => ?_)
  conv => whnf
  refine spD (fun q => absurd q (by omega)) (fun _ => ?_)
  conv => whnf
  refine ⟨by kernel_rfl, ?_⟩
  conv => whnf
  refine ⟨h0, _, rT_get hd, ?_⟩
  conv => whnf
  refine ⟨by omega, by omega, ?_⟩
  conv => whnf
  refine ⟨_, rSe_get ht, ?_⟩
  conv => whnf
  refine spE (fun k1 => ?_) (fun k1 => ?_) <;> conv => whnf
  · cases ac
    · refine ⟨fun _ => ?_, fun q => (by cases q)⟩
      conv => whnf
      refine ⟨[(0, some 0), (1, some 1), (2, some 2)], ?_⟩
      repeat' (first | exact trivial | rfl | refine And.intro ?_ ?_)
      all_goals (conv => whnf)
      repeat' (first | exact trivial | rfl | refine And.intro ?_ ?_)
    · refine ⟨fun q => (by cases q), fun _ => ?_⟩
      conv => whnf
      refine spNe (fun q => ?_) (fun q => ?_) <;> conv => whnf
      · refine ⟨[(0, some 0), (1, some 1), (2, some 2)], ?_⟩
        repeat' (first | exact trivial | rfl | refine And.intro ?_ ?_)
        all_goals (conv => whnf)
        repeat' (first | exact trivial | rfl | refine And.intro ?_ ?_)
      · exact absurd (by simpa using q) ((hno rfl).1 k1)
  refine spE (fun k2 => ?_) (fun k2 => ?_) <;> conv => whnf
  · refine ⟨by kernel_rfl, ?_⟩
    conv => whnf
    cases ac
    · refine ⟨fun _ => ?_, fun q => (by cases q)⟩
      conv => whnf
      refine ⟨[(0, some 0), (1, some 1), (2, some 2)], ?_⟩
      repeat' (first | exact trivial | rfl | refine And.intro ?_ ?_)
      all_goals (conv => whnf)
      repeat' (first | exact trivial | rfl | refine And.intro ?_ ?_)
    · refine ⟨fun q => (by cases q), fun _ => ?_⟩
      conv => whnf
      refine spNe (fun q => ?_) (fun q => ?_) <;> conv => whnf
      · refine ⟨[(0, some 0), (1, some 1), (2, some 2)], ?_⟩
        repeat' (first | exact trivial | rfl | refine And.intro ?_ ?_)
        all_goals (conv => whnf)
        repeat' (first | exact trivial | rfl | refine And.intro ?_ ?_)
      · refine ⟨_, _, usableT_e c s ten hg hn hm, ?_⟩
        conv => whnf
        have hu := (hno rfl).2 k2 (by simpa using q)
        rw [hu]
        refine ⟨fun _ => ?_, fun q => (by cases q)⟩
        conv => whnf
        refine ⟨[(0, some 0), (1, some 1), (2, some 2)], ?_⟩
        repeat' (first | exact trivial | rfl | refine And.intro ?_ ?_)
        all_goals (conv => whnf)
        repeat' (first | exact trivial | rfl | refine And.intro ?_ ?_)
  · refine ⟨[(0, some 0), (1, some 1), (2, some 2)], ?_⟩
    repeat' (first | exact trivial | rfl | refine And.intro ?_ ?_)
    all_goals (conv => whnf)
    repeat' (first | exact trivial | rfl | refine And.intro ?_ ?_)

set_option maxRecDepth 100000 in
theorem outCk_c (c : Cfg) (s : St) {se : List Seat} {bk : List Int} {kind ten cell : Int} (h1 : ¬ ((0 ≤ ten ∧ ten < se.length) ∧ 0 ≤ cell ∧ cell < bk.length)) :
    CallsH Tryz.prog 87 [.c (.ptr 0 0 0), .agg [.d (i64 kind), .d (i64 ten), .d (i64 cell)]] (sitH c s 102 se bk) (B false) (sitH c s 102 se bk) := by
  have l1 := r1_len bk
  have l2 := rSe_len se
  refine callsR_of tab mixed Tryz.func87 rfl (by decide) rfl rfl ?_
  conv => whnf
  refine ⟨by kernel_rfl, ?_⟩
  conv => whnf
  repeat' (first | (refine gv (by omega) (by omega) ?_; conv => whnf) | (refine ⟨by kernel_rfl, ?_⟩; conv => whnf) | (refine spD (fun _ => ?_) (fun _ => ?_) <;> conv => whnf) | (refine spN (fun _ => ?_) (fun _ => ?_) <;> conv => whnf) | (refine spE (fun _ => ?_) (fun _ => ?_) <;> conv => whnf) | (refine spNe (fun _ => ?_) (fun _ => ?_) <;> conv => whnf) | (refine gvu (by omega) (by omega) ?_; conv => whnf))
  all_goals first | (exfalso; omega) | (refine ⟨[(0, some 0), (1, some 1), (2, some 2)], ?_⟩; (repeat' (first | exact trivial | rfl | refine And.intro ?_ ?_)); (all_goals (conv => whnf)); (repeat' (first | exact trivial | rfl | refine And.intro ?_ ?_)))

theorem takeCk_c (c : Cfg) (s : St) {b : Int} {se : List Seat} {bk : List Int} (x : Stp) (w : WG c) (hn : s.cs.length = c.cells.length) (hm : s.ts.length = c.tenants.length) (hse : Seated s ⟨se, bk⟩) (h : Sz c b se bk) (hb : b ≤ 999999999000000) : ∃ p', (takeF c s ⟨se, bk⟩ x).getD ⟨se, bk⟩ = p' ∧
    CallsH Tryz.prog 87 [.c (.ptr 0 0 0), stpV x] (sitH c s 102 se bk) (B (takeF c s ⟨se, bk⟩ x).isSome) (sitH c s 102 p'.seats p'.bk) := by
  obtain ⟨kind, ten, cell⟩ := x
  refine ⟨_, rfl, ?_⟩
  by_cases h1 : (0 ≤ ten ∧ ten < se.length) ∧ 0 ≤ cell ∧ cell < bk.length
  · obtain ⟨⟨ac, ho, sb, nx, tg⟩, ht⟩ := get_int (l := se) h1.1.1 (by omega)
    by_cases ha : ac = true
    · by_cases k1 : kind = 1
      · by_cases hh : ho = cell
        · have e : takeF c s ⟨se, bk⟩ ⟨kind, ten, cell⟩ = some (shedF c ⟨se, bk⟩ ⟨kind, ten, cell⟩ ⟨ac, ho, sb, nx, tg⟩) := by rw [takeF_in c s h1.1.1 h1.2 ht]; simp [ha, k1, hh]
          rw [e, k1]
          exact shedCk_c (kind := 1) c s w h hb h1.1.1 ht h1.2 ha hh
        · have e : takeF c s ⟨se, bk⟩ ⟨kind, ten, cell⟩ = none := by rw [takeF_in c s h1.1.1 h1.2 ht]; simp [ha, k1, hh]
          rw [e]
          exact noCk_c c s w h hb h1.1.1 ht h1.2 hn hm (fun _ => ⟨fun _ => hh, fun q => absurd (k1.symm.trans q) (by decide)⟩)
      · by_cases k2 : kind = 2
        · by_cases hh : sb = cell ∧ usableP c s cell = true
          · have e : takeF c s ⟨se, bk⟩ ⟨kind, ten, cell⟩ = some (moveF c ⟨se, bk⟩ ⟨kind, ten, cell⟩ ⟨ac, ho, sb, nx, tg⟩) := by rw [takeF_in c s h1.1.1 h1.2 ht]; simp [ha, k2, hh]
            rw [e, k2]
            obtain ⟨rfl, hu⟩ := hh
            exact moveCk_c (kind := 2) c s w h hb h1.1.1 ht h1.2 hn ha rfl hm (by rw [seated_us hse h1.1.1 ht ha h1.2.1 rfl]; exact hu)
          · have e : takeF c s ⟨se, bk⟩ ⟨kind, ten, cell⟩ = none := by rw [takeF_in c s h1.1.1 h1.2 ht]; simp [ha, k2]; intro h1; simpa [h1] using hh
            rw [e]
            exact noCk_c c s w h hb h1.1.1 ht h1.2 hn hm (fun _ => ⟨fun q => absurd q (by omega), fun _ q => by rw [seated_us hse h1.1.1 ht ha h1.2.1 q]; subst q; simpa using hh⟩)
        · have e : takeF c s ⟨se, bk⟩ ⟨kind, ten, cell⟩ = none := by rw [takeF_in c s h1.1.1 h1.2 ht]; simp [k1, k2]
          rw [e]
          exact noCk_c c s w h hb h1.1.1 ht h1.2 hn hm (fun _ => ⟨fun q => absurd q k1, fun q => absurd q k2⟩)
    · have e : takeF c s ⟨se, bk⟩ ⟨kind, ten, cell⟩ = none := by rw [takeF_in c s h1.1.1 h1.2 ht]; simp [ha]
      rw [e]
      exact noCk_c c s w h hb h1.1.1 ht h1.2 hn hm (fun q => absurd q ha)
  · have e : takeF c s ⟨se, bk⟩ ⟨kind, ten, cell⟩ = none := by
      unfold takeF
      split
      · rename_i q
        dsimp only at q
        rw [List.getElem?_eq_none (by dsimp only; omega)]
      · rfl
    rw [e]
    exact outCk_c c s h1

end Go.Proofs.YtncckpieemmmfaaGreat
