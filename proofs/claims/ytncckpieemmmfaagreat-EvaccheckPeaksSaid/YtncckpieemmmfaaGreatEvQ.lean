/- Plain laws: the plan that is made is accepted. No program in sight. Conditions: those ahead of each theorem. -/
import Derived.Test.YtncckpieemmmfaaGreatEvC
namespace Go.Proofs.YtncckpieemmmfaaGreat
open Go Go.Cpl

/-- takes steps one after the other -/
def runF (c : Cfg) (s : St) : Sit → List Stp → Option Sit
  | p, [] => some p
  | p, x :: r => match takeF c s p x with
    | none => none
    | some q => runF c s q r

theorem runF_app (c : Cfg) (s : St) : ∀ (l m : List Stp) (p : Sit), runF c s p (l ++ m) = (runF c s p l).bind fun q => runF c s q m
  | [], _, _ => rfl
  | x :: l, m, p => by
    simp only [List.cons_append, runF]
    cases takeF c s p x with
    | none => rfl
    | some q => exact runF_app c s l m q

theorem runF_one (c : Cfg) (s : St) (p : Sit) (x : Stp) : runF c s p [x] = takeF c s p x := by
  simp only [runF]; cases takeF c s p x <;> rfl

theorem runF_take {c : Cfg} {s : St} {p q : Sit} {l : List Stp} (h : runF c s p l = some q) (i : Nat) : ∃ r, runF c s p (l.take i) = some r := by
  rw [← List.take_append_drop i l, runF_app] at h
  cases e : runF c s p (l.take i) with
  | none => rw [e] at h; cases h
  | some r => exact ⟨r, rfl⟩

theorem runF_succ {c : Cfg} {s : St} {p q : Sit} {l : List Stp} {i : Nat} {x : Stp} (hx : l[i]? = some x) (h : runF c s p (l.take i) = some q) : runF c s p (l.take (i + 1)) = takeF c s q x := by
  rw [take_succ_of hx, runF_app, h]
  exact runF_one c s q x

def atI (l : List Int) (k : Int) : Int := (l[k.toNat]?).getD 0

theorem atI_get {l : List Int} {k : Int} {x : Int} (h : l[k.toNat]? = some x) : atI l k = x := by simp [atI, h]

theorem atI_add (l : List Int) (i n k : Int) (hk : 0 ≤ k) : atI (addAt l i n) k = atI l k + if i = k ∧ k < l.length then n else 0 := by
  unfold atI addAt
  split
  · rename_i h
    by_cases e : i = k
    · subst e
      rw [List.getElem?_set_self (by omega)]
      simp [h]
    · rw [List.getElem?_set_ne (by omega)]
      simp [e]
  · rename_i h
    rw [if_neg (by omega)]; simp

def overF (c : Cfg) (bk : List Int) : Bool := (List.range bk.length).any fun k => decide (capOf c k < atI bk k)

theorem overF_no {c : Cfg} {bk : List Int} (h : ∀ k : Nat, k < bk.length → atI bk k ≤ capOf c k) : overF c bk = false := by
  unfold overF
  rw [List.any_eq_false]
  intro k hk
  have := h k (by simpa using hk)
  simp; omega

theorem overF_yes {c : Cfg} {bk : List Int} (k : Nat) (hk : k < bk.length) (h : capOf c k < atI bk k) : overF c bk = true := by
  unfold overF
  rw [List.any_eq_true]
  exact ⟨k, by simpa using hk, by simpa using h⟩

/-! what is known of situations -/

structure SitOk (c : Cfg) (p : Sit) : Prop where
  n : p.seats.length = c.tenants.length
  k : p.bk.length = c.cells.length
  home : ∀ (i : Nat) (t : Seat), p.seats[i]? = some t → t.active = true → 0 ≤ t.home ∧ t.home < c.cells.length
  apart : ∀ (i : Nat) (t : Seat), p.seats[i]? = some t → t.active = true → t.target = -1 ∨ t.target ≠ t.home

theorem sit0_ok {c : Cfg} {s : St} (h : StOk c s) : SitOk c (sit0 c s) := by
  refine ⟨by simp [sit0, h.pre.nt], cl_len _ _, fun i t ht ha => ?_, fun i t ht ha => ?_⟩
  all_goals
    simp only [sit0, List.getElem?_map, Option.map_eq_some_iff] at ht
    obtain ⟨x, hx, rfl⟩ := ht
    simp only [seatOf, Bool.and_eq_true, Bool.not_eq_true'] at ha
    have hx := h.pre.t x (List.mem_of_getElem? hx)
    have h1 := hx.home
    unfold Cel at h1
  · exact ⟨hx.placed ha.1, h1.2⟩
  · exact hx.apart

/-- the ways in which a step is taken -/
inductive TakeV (c : Cfg) (s : St) (p : Sit) (x : Stp) (q : Sit) : Prop
  | shed (t : Seat) (h0 : 0 ≤ x.tenant) (hc : 0 ≤ x.cell ∧ x.cell < p.bk.length) (ht : p.seats[x.tenant.toNat]? = some t) (ha : t.active = true) (hk : x.kind = 1) (hh : t.home = x.cell) (e : q = shedF c p x t)
  | move (t : Seat) (h0 : 0 ≤ x.tenant) (hc : 0 ≤ x.cell ∧ x.cell < p.bk.length) (ht : p.seats[x.tenant.toNat]? = some t) (ha : t.active = true) (hk : x.kind = 2) (hh : t.standby = x.cell) (hu : usableP c s x.cell = true) (e : q = moveF c p x t)

theorem take_view {c : Cfg} {s : St} {p q : Sit} {x : Stp} (hq : takeF c s p x = some q) : TakeV c s p x q := by
  unfold takeF at hq
  split at hq
  · rename_i h0
    split at hq
    · cases hq
    · rename_i t ht
      split at hq
      · rename_i ha
        split at hq
        · rename_i hk
          split at hq
          · rename_i hh
            cases hq; exact .shed t h0.1.1 ⟨h0.1.2, h0.2⟩ ht ha hk hh rfl
          · cases hq
        · split at hq
          · rename_i hk
            split at hq
            · rename_i hh
              cases hq; exact .move t h0.1.1 ⟨h0.1.2, h0.2⟩ ht ha hk hh.1 hh.2 rfl
            · cases hq
          · cases hq
      · cases hq
  · cases hq

theorem shedF_len (c : Cfg) (p : Sit) (x : Stp) (t : Seat) : (shedF c p x t).seats.length = p.seats.length ∧ (shedF c p x t).bk.length = p.bk.length := by
  simp [shedF, addAt_len]

theorem moveF_len (c : Cfg) (p : Sit) (x : Stp) (t : Seat) : (moveF c p x t).seats.length = p.seats.length ∧ (moveF c p x t).bk.length = p.bk.length := by
  simp [moveF, addAt_len]

theorem set_some {α : Type} {l : List α} {i j : Nat} {x y : α} (h : (l.set i x)[j]? = some y) : (i = j ∧ y = x) ∨ (i ≠ j ∧ l[j]? = some y) := by
  rw [List.getElem?_set] at h
  split at h
  · split at h
    · cases h; exact .inl ⟨by assumption, rfl⟩
    · cases h
  · exact .inr ⟨by assumption, h⟩

theorem take_ok {c : Cfg} {s : St} {p q : Sit} {x : Stp} (h : SitOk c p) (hq : takeF c s p x = some q) : SitOk c q := by
  cases take_view hq with
  | shed t h0 hc ht ha hk hh e =>
    subst e
    have hl := shedF_len c p x t
    refine ⟨by rw [hl.1, h.n], by rw [hl.2, h.k], fun i u hu hua => ?_, fun i u hu hua => ?_⟩
    · rcases set_some hu with ⟨_, rfl⟩ | ⟨_, hu⟩
      · cases hua
      · exact h.home i u hu hua
    · rcases set_some hu with ⟨_, rfl⟩ | ⟨_, hu⟩
      · cases hua
      · exact h.apart i u hu hua
  | move t h0 hc ht ha hk hh hus e =>
    subst e
    have hl := moveF_len c p x t
    refine ⟨by rw [hl.1, h.n], by rw [hl.2, h.k], fun i u hu hua => ?_, fun i u hu hua => ?_⟩
    · rcases set_some hu with ⟨_, rfl⟩ | ⟨_, hu⟩
      · have := h.k; dsimp only; omega
      · exact h.home i u hu hua
    · rcases set_some hu with ⟨_, rfl⟩ | ⟨_, hu⟩
      · exact .inl rfl
      · exact h.apart i u hu hua

theorem run_ok {c : Cfg} {s : St} : ∀ (l : List Stp) {p q : Sit}, SitOk c p → runF c s p l = some q → SitOk c q
  | [], _, _, h, hq => by cases hq; exact h
  | x :: l, p, q, h, hq => by
    simp only [runF] at hq
    cases e : takeF c s p x with
    | none => rw [e] at hq; cases hq
    | some r => rw [e] at hq; exact run_ok l (take_ok h e) hq

theorem run_seated {c : Cfg} {s : St} : ∀ (l : List Stp) {p q : Sit}, Seated s p → runF c s p l = some q → Seated s q
  | [], _, _, h, hq => by cases hq; exact h
  | x :: l, p, q, h, hq => by
    simp only [runF] at hq
    cases e : takeF c s p x with
    | none => rw [e] at hq; cases hq
    | some r => rw [e] at hq; exact run_seated l (take_seated h e) hq

theorem run_sz {c : Cfg} (hg : Good c) {s : St} : ∀ (l : List Stp) {b : Int} {p q : Sit}, Sz c b p.seats p.bk → b + 262144 * (l.length : Int) ≤ 999999999000000 → runF c s p l = some q → Sz c (b + 262144 * (l.length : Int)) q.seats q.bk
  | [], b, _, _, h, hb, hq => by cases hq; simpa using h
  | x :: l, b, p, q, h, hb, hq => by
    simp only [runF] at hq
    simp only [List.length_cons] at hb ⊢
    cases e : takeF c s p x with
    | none => rw [e] at hq; cases hq
    | some r =>
      rw [e] at hq
      have := run_sz hg l (take_sz hg h (by omega) e) (by omega) hq
      have e2 : b + 262144 + 262144 * (l.length : Int) = b + 262144 * ((l.length + 1 : Nat) : Int) := by omega
      rwa [e2] at this

/-! which steps move a tenant -/

def lowP (c : Cfg) (se : List Seat) (cell prio : Int) (i : Nat) : Bool := match se[i]? with
  | some t => t.active && (decide (t.home = cell) && decide (prioOf c i < prio))
  | none => false

def lowL (c : Cfg) (se : List Seat) (cell prio : Int) : List Int := upto (lowP c se cell prio) se.length

def sumL (c : Cfg) : List Int → Int
  | [] => 0
  | y :: r => ldOf c y + sumL c r

/-- the order in which tenants are shed -/
def cmpS (c : Cfg) (a b : Int) : Int := orV [cmpV (prioOf c a) (prioOf c b), cmpV (loadAt c b) (loadAt c a), cmpV a b]

def befS (c : Cfg) (a b : Int) : Bool := decide (cmpS c a b < 0)

theorem befS_iff (c : Cfg) (a b : Int) : befS c a b = true ↔ prioOf c a < prioOf c b ∨ (prioOf c a = prioOf c b ∧ (loadAt c b < loadAt c a ∨ (loadAt c b = loadAt c a ∧ a < b))) := by
  unfold befS
  rw [decide_eq_true_iff]
  simp only [cmpS, orV, cmpV]
  repeat' split
  all_goals omega

theorem befS_trans (c : Cfg) (x y z : Int) (h1 : befS c x y = true) (h2 : befS c y z = true) : befS c x z = true := by
  rw [befS_iff] at *; omega

theorem befS_total (c : Cfg) {x y : Int} (h : x ≠ y) : befS c x y = true ∨ befS c y x = true := by
  rw [befS_iff, befS_iff]; omega

theorem befS_irr (c : Cfg) {x y : Int} (h : befS c x y = true) : x ≠ y := by
  rw [befS_iff] at h; intro e; subst e; omega

def sOrd (c : Cfg) (l : List Int) : List Int := isort (befS c) l (l.length - 1)

theorem upto_lt (p : Nat → Bool) : ∀ n, (upto p n).Pairwise (· < ·)
  | 0 => by simp [upto]
  | n + 1 => by
    rw [upto]
    split
    · rw [List.pairwise_append]
      refine ⟨upto_lt p n, by simp, fun a ha b hb => ?_⟩
      obtain ⟨i, hi, rfl, _⟩ := upto_mem ha
      rw [List.mem_singleton] at hb
      omega
    · exact upto_lt p n

theorem upto_in {p : Nat → Bool} {i n : Nat} (hi : i < n) (h : p i = true) : (i : Int) ∈ upto p n := by
  induction n with
  | zero => omega
  | succ n ih =>
    by_cases e : i = n
    · subst e; rw [upto_yes h]; simp
    · have := ih (by omega)
      rw [upto]
      split
      · simp [this]
      · exact this

theorem sOrd_ok (c : Cfg) {l : List Int} (h : l.Pairwise (· ≠ ·)) : (sOrd c l).Pairwise (fun a b => befS c a b = true) ∧ ∀ z, z ∈ sOrd c l ↔ z ∈ l := by
  have ht : l.Pairwise fun a b => befS c a b = true ∨ befS c b a = true := h.imp fun h => befS_total c h
  exact isort_all (befS_trans c) ht (k := l.length - 1) (by omega) (by omega)

theorem lowL_ne (c : Cfg) (se : List Seat) (cell prio : Int) : (lowL c se cell prio).Pairwise (· ≠ ·) := (upto_lt _ _).imp fun h => by omega

theorem sumL_perm (c : Cfg) {l m : List Int} (h : l.Perm m) : sumL c l = sumL c m := by
  induction h with
  | nil => rfl
  | cons x _ ih => simp [sumL, ih]
  | swap x y l => simp only [sumL]; omega
  | trans _ _ h1 h2 => rw [h1, h2]

theorem sOrd_perm (c : Cfg) {l : List Int} (h : l.Pairwise (· ≠ ·)) : (sOrd c l).Perm l := by
  have ho := sOrd_ok c h
  exact (List.perm_ext_iff_of_nodup (ho.1.imp fun h => befS_irr c h) h).2 ho.2

def pick (c : Cfg) : Int → List Int → List Int × Int
  | m, [] => ([], m)
  | m, y :: r => if m ≤ 0 then ([], m) else (y :: (pick c (m - ldOf c y) r).1, (pick c (m - ldOf c y) r).2)

def missF (c : Cfg) (p : Sit) (x : Int) (t : Seat) : Int := ldOf c x - shOf c x - (capOf c t.standby - atI p.bk t.standby)

def pickOf (c : Cfg) (p : Sit) (x : Int) (t : Seat) : List Int × Int := pick c (missF c p x t) (sOrd c (lowL c p.seats t.standby (prioOf c x)))

def stepsF (c : Cfg) (s : St) (p : Sit) (x : Int) : List Stp :=
  match p.seats[x.toNat]? with
  | none => []
  | some t => if t.active = true ∧ usableP c s t.standby = true then
      (if 0 < (pickOf c p x t).2 then [] else (pickOf c p x t).1.map (fun y => ⟨1, y, t.standby⟩) ++ [⟨2, x, t.standby⟩])
    else []

theorem pickM_pos {c : Cfg} : ∀ (l : List Int) (m : Int), 0 < (pick c m l).2 → (pick c m l).2 = m - sumL c l
  | [], m, _ => by simp [pick, sumL]
  | y :: r, m, h => by
    simp only [pick] at h ⊢
    split at h
    · rename_i hm; dsimp only at h; omega
    · rename_i hm
      rw [if_neg hm]
      have := pickM_pos r _ h
      simp only [sumL]
      (try dsimp only at this ⊢)
      omega

theorem pickM_sub {c : Cfg} : ∀ (l : List Int) (m : Int), (pick c m l).1.Sublist l
  | [], m => by simp [pick]
  | y :: r, m => by
    simp only [pick]
    split
    · exact List.nil_sublist _
    · exact (pickM_sub r _).cons_cons y

theorem usable_in {c : Cfg} {s : St} {k : Int} (h : usableP c s k = true) : 0 ≤ k ∧ k < c.cells.length := by
  unfold usableP at h
  split at h
  · assumption
  · cases h

end Go.Proofs.YtncckpieemmmfaaGreat

namespace Go.Proofs.YtncckpieemmmfaaGreat
open Go Go.Cpl

abbrev shS (cell y : Int) : Stp := ⟨1, y, cell⟩

theorem shedF_at {c : Cfg} (p : Sit) (x : Stp) (t : Seat) (k : Int) (hk : 0 ≤ k ∧ k < p.bk.length) : atI (shedF c p x t).bk k = atI p.bk k - (if t.home = k then ldOf c x.tenant else 0) - (if t.target = k then ldOf c x.tenant else 0) := by
  simp only [shedF, atI_add _ _ _ _ hk.1, addAt_len, hk.2, and_true]
  repeat' split
  all_goals omega

theorem take_shed {c : Cfg} {s : St} {p : Sit} {y cell : Int} {t : Seat} (h0 : 0 ≤ y) (hc : 0 ≤ cell ∧ cell < p.bk.length) (ht : p.seats[y.toNat]? = some t) (ha : t.active = true) (hh : t.home = cell) : takeF c s p (shS cell y) = some (shedF c p (shS cell y) t) := by
  obtain ⟨se, bk⟩ := p
  rw [takeF_in c s h0 hc ht]
  simp [ha, hh]

theorem take_move {c : Cfg} {s : St} {p : Sit} {y cell : Int} {t : Seat} (h0 : 0 ≤ y) (hc : 0 ≤ cell ∧ cell < p.bk.length) (ht : p.seats[y.toNat]? = some t) (ha : t.active = true) (hh : t.standby = cell) (hu : usableP c s cell = true) : takeF c s p ⟨2, y, cell⟩ = some (moveF c p ⟨2, y, cell⟩ t) := by
  obtain ⟨se, bk⟩ := p
  rw [takeF_in c s h0 hc ht]
  simp [ha, hh, hu]

/-- the tenants that are shed for another one -/
theorem pickM_run {c : Cfg} (hg : Good c) (s : St) {cell : Int} : ∀ (L : List Int) (m : Int) (p : Sit), SitOk c p → (0 ≤ cell ∧ cell < c.cells.length) → L.Pairwise (· ≠ ·) → (∀ y ∈ L, 0 ≤ y ∧ ∃ t, p.seats[y.toNat]? = some t ∧ t.active = true ∧ t.home = cell) →
    ∃ p', runF c s p ((pick c m L).1.map (shS cell)) = some p' ∧ (∀ k : Int, (0 ≤ k ∧ k < p.bk.length) → atI p'.bk k ≤ atI p.bk k) ∧ atI p'.bk cell = atI p.bk cell - (m - (pick c m L).2) ∧ (∀ i : Int, 0 ≤ i → i ∉ L → p'.seats[i.toNat]? = p.seats[i.toNat]?) ∧
      ∀ j, j < (pick c m L).1.length → ∃ pj, runF c s p (((pick c m L).1.map (shS cell)).take j) = some pj ∧ 0 < m - (atI p.bk cell - atI pj.bk cell)
  | [], m, p, _, _, _, _ => ⟨p, rfl, fun _ _ => by omega, by simp [pick], fun _ _ _ => rfl, fun j hj => by simp [pick] at hj⟩
  | y :: r, m, p, ok, hc, hp, hL => by
    rw [List.pairwise_cons] at hp
    by_cases hm : m ≤ 0
    · have e : pick c m (y :: r) = ([], m) := by simp [pick, hm]
      rw [e]
      exact ⟨p, rfl, fun _ _ => by omega, by simp, fun _ _ _ => rfl, fun j hj => by simp at hj⟩
    · have e : pick c m (y :: r) = (y :: (pick c (m - ldOf c y) r).1, (pick c (m - ldOf c y) r).2) := by simp [pick, hm]
      rw [e]
      obtain ⟨h0, t, ht, ha, hh⟩ := hL y (by simp)
      have hk := ok.k
      have ht1 := take_shed (c := c) (s := s) h0 (by omega) ht ha hh
      have ok1 := take_ok ok ht1
      have hq := ten_ld hg y
      have hap := ok.apart _ t ht ha
      have hat := fun k hk => shedF_at (c := c) p (shS cell y) t k hk
      obtain ⟨p', h1, h2, h3, h4, h5⟩ := pickM_run hg s r (m - ldOf c y) (shedF c p (shS cell y) t) ok1 hc hp.2 (fun z hz => by
        obtain ⟨z0, u, hu, hua, huh⟩ := hL z (by simp [hz])
        refine ⟨z0, u, ?_, hua, huh⟩
        have := hp.1 z hz
        simp only [shedF]
        rw [List.getElem?_set_ne (by omega)]
        exact hu)
      have hlen := (shedF_len c p (shS cell y) t).2
      have hcell := hat cell (by omega)
      have hcell' : atI (shedF c p (shS cell y) t).bk cell = atI p.bk cell - ldOf c y := by
        rw [hcell, if_pos hh, if_neg (by omega)]; simp
      refine ⟨p', by simp only [List.map_cons, runF, ht1]; exact h1, fun k hk => ?_, ?_, fun i hi hin => ?_, fun j hj => ?_⟩
      · have a := h2 k (by omega)
        have b := hat k hk
        (try dsimp only at b); (repeat' split at b) <;> omega
      · dsimp only; omega
      · rw [h4 i hi (fun h => hin (by simp [h]))]
        have : i ≠ y := fun h => hin (by simp [h])
        simp only [shedF]
        rw [List.getElem?_set_ne (by omega)]
      · cases j with
        | zero => exact ⟨p, rfl, by omega⟩
        | succ j =>
          obtain ⟨pj, hj1, hj2⟩ := h5 j (by simpa using hj)
          refine ⟨pj, by simp only [List.map_cons, List.take_succ_cons, runF, ht1]; exact hj1, by omega⟩

theorem take_le {c : Cfg} (hg : Good c) {s : St} {p q : Sit} {x : Stp} (hk : x.kind = 1) (hq : takeF c s p x = some q) (k : Int) (hk' : 0 ≤ k ∧ k < p.bk.length) : atI q.bk k ≤ atI p.bk k := by
  cases take_view hq with
  | shed t h0 hc ht ha hk hh e =>
    subst e
    have b := shedF_at (c := c) p x t k hk'
    have := ten_ld hg x.tenant
    (repeat' split at b) <;> omega
  | move t h0 hc ht ha hk2 hh hus e => omega

theorem take_blen {c : Cfg} {s : St} {p q : Sit} {x : Stp} (hq : takeF c s p x = some q) : q.bk.length = p.bk.length := by
  cases take_view hq with
  | shed t h0 hc ht ha hk hh e => subst e; exact (shedF_len c p x t).2
  | move t h0 hc ht ha hk hh hus e => subst e; exact (moveF_len c p x t).2

theorem runs_le {c : Cfg} (hg : Good c) {s : St} : ∀ (l : List Stp) {p q : Sit}, (∀ x ∈ l, x.kind = 1) → runF c s p l = some q → ∀ k : Int, (0 ≤ k ∧ k < p.bk.length) → atI q.bk k ≤ atI p.bk k
  | [], p, q, _, hq, k, _ => by cases hq; omega
  | x :: l, p, q, hl, hq, k, hk => by
    simp only [runF] at hq
    cases e : takeF c s p x with
    | none => rw [e] at hq; cases hq
    | some r =>
      rw [e] at hq
      have h1 := take_le hg (hl x (by simp)) e k hk
      have hb := take_blen e
      have := runs_le hg l (fun y hy => hl y (by simp [hy])) hq k (by omega)
      omega

def CapOk (c : Cfg) (p : Sit) : Prop := ∀ k : Int, (0 ≤ k ∧ k < p.bk.length) → atI p.bk k ≤ capOf c k

theorem CapOk.over {c : Cfg} {p : Sit} (h : CapOk c p) : overF c p.bk = false := overF_no fun k hk => h k (by omega)

theorem sit0_cap {c : Cfg} {s : St} (h : StOk c s) : CapOk c (sit0 c s) := by
  intro k hk
  have hl : (sit0 c s).bk.length = c.cells.length := cl_len _ _
  have h1 := h.cap k.toNat (by omega)
  have e : atI (sit0 c s).bk k = bkF c s.ts s.ts.length k := by
    unfold atI sit0 bkd bkL
    dsimp only
    rw [cl_get (by omega)]
    simp only [Option.getD_some]
    rw [show ((k.toNat : Nat) : Int) = k by omega]
  rw [e]
  rwa [show ((k.toNat : Nat) : Int) = k by omega] at h1

/-- what makes a step that sheds needed -/
def SWit (c : Cfg) (s : St) (full : List Stp) (i : Nat) (x : Stp) : Prop :=
  ∃ (en : Nat) (y : Stp), i < en ∧ full[en]? = some y ∧ y.kind = 2 ∧ y.cell = x.cell ∧ (0 ≤ y.tenant ∧ y.tenant < c.tenants.length) ∧ (∀ j, i ≤ j → j < en → ∃ z, full[j]? = some z ∧ z.kind = 1 ∧ z.cell = x.cell) ∧ prioOf c x.tenant < prioOf c y.tenant ∧
    (i + 1 < en ∨ ∃ p, runF c s (sit0 c s) (full.take i) = some p ∧ capOf c x.cell < atI p.bk x.cell + ldOf c y.tenant - shOf c y.tenant)

theorem SWit.app {c : Cfg} {s : St} {full : List Stp} {i : Nat} {x : Stp} (h : SWit c s full i x) (more : List Stp) : SWit c s (full ++ more) i x := by
  obtain ⟨en, y, h1, h2, h3, h4, h5, h6, h7, h8⟩ := h
  have hl := (List.getElem?_eq_some_iff.1 h2).1
  refine ⟨en, y, h1, by rw [List.getElem?_append_left hl]; exact h2, h3, h4, h5, fun j hj hj' => ?_, h7, ?_⟩
  · obtain ⟨z, hz, hz'⟩ := h6 j hj hj'
    exact ⟨z, by rw [List.getElem?_append_left (by omega)]; exact hz, hz'⟩
  · rcases h8 with h8 | ⟨p, hp, hp'⟩
    · exact .inl h8
    · exact .inr ⟨p, by rw [List.take_append_of_le_length (by omega)]; exact hp, hp'⟩

structure GoodPlan (c : Cfg) (s : St) (cands : List Int) (full : List Stp) (p : Sit) : Prop where
  run : runF c s (sit0 c s) full = some p
  mv : ∀ (i : Nat) (x : Stp), full[i]? = some x → x.kind = 2 → x.tenant ∈ cands
  cap : ∀ (i : Nat) (q : Sit), runF c s (sit0 c s) (full.take i) = some q → CapOk c q
  need : ∀ (i : Nat) (x : Stp), full[i]? = some x → x.kind = 1 → SWit c s full i x

theorem good_nil {c : Cfg} {s : St} (h : StOk c s) (cands : List Int) : GoodPlan c s cands [] (sit0 c s) :=
  ⟨rfl, fun i x hx => by simp at hx, fun i q hq => by simp [runF] at hq; subst hq; exact sit0_cap h, fun i x hx => by simp at hx⟩

theorem GoodPlan.capp {c : Cfg} {s : St} {cands : List Int} {full : List Stp} {p : Sit} (h : GoodPlan c s cands full p) : CapOk c p := h.cap full.length p (by rw [List.take_length]; exact h.run)

theorem low_facts {c : Cfg} {se : List Seat} {cell prio y : Int} (h : y ∈ lowL c se cell prio) : (0 ≤ y ∧ y < se.length) ∧ prioOf c y < prio ∧ ∃ t, se[y.toNat]? = some t ∧ t.active = true ∧ t.home = cell := by
  obtain ⟨i, hi, rfl, hp⟩ := upto_mem h
  unfold lowP at hp
  split at hp
  · rename_i t ht
    simp only [Bool.and_eq_true, decide_eq_true_eq] at hp
    exact ⟨by omega, hp.2.2, t, by simpa using ht, hp.1, hp.2.1⟩
  · cases hp

theorem stepsF_view {c : Cfg} {s : St} {p : Sit} {x : Int} (h : stepsF c s p x ≠ []) : ∃ t, p.seats[x.toNat]? = some t ∧ t.active = true ∧ usableP c s t.standby = true ∧ (pickOf c p x t).2 ≤ 0 ∧ stepsF c s p x = (pickOf c p x t).1.map (shS t.standby) ++ [⟨2, x, t.standby⟩] := by
  unfold stepsF at *
  split at h
  · exact absurd rfl h
  · rename_i t ht
    split at h
    · rename_i h1
      split at h
      · exact absurd rfl h
      · rename_i h2
        refine ⟨t, ht, h1.1, h1.2, by omega, ?_⟩
        rw [if_pos h1, if_neg h2]
    · exact absurd rfl h

theorem map_mem_kind {ys : List Int} {cell : Int} : ∀ x ∈ ys.map (shS cell), x.kind = 1 := by
  intro x hx
  obtain ⟨y, _, rfl⟩ := List.mem_map.1 hx
  rfl

theorem moveF_at {c : Cfg} (hg : Good c) (p : Sit) (x : Stp) (t : Seat) (k : Int) (hk : 0 ≤ k ∧ k < p.bk.length) : atI (moveF c p x t).bk k ≤ atI p.bk k + (if x.cell = k then ldOf c x.tenant - shOf c x.tenant else 0) := by
  have := ten_ld hg x.tenant
  simp only [moveF, atI_add _ _ _ _ hk.1, addAt_len, hk.2, and_true]
  repeat' split
  all_goals omega

/-- the steps that move a tenant are taken, and the plan with them is good -/
theorem good_app {c : Cfg} (hg : Good c) {s : St} (hs : StOk c s) {cands : List Int} {full : List Stp} {p : Sit} {x : Int} (h : GoodPlan c s cands full p) (hx : x ∈ cands) (hxr : 0 ≤ x ∧ x < c.tenants.length) (hne : stepsF c s p x ≠ []) :
    ∃ p', runF c s p (stepsF c s p x) = some p' ∧ GoodPlan c s cands (full ++ stepsF c s p x) p' := by
  obtain ⟨t, ht, ha, hu, hle, e⟩ := stepsF_view hne
  have ok := run_ok full (sit0_ok hs) h.run
  have hcap := h.capp
  have hci := usable_in hu
  have hbk := ok.k
  have hso := sOrd_ok c (lowL_ne c p.seats t.standby (prioOf c x))
  have hnd : (sOrd c (lowL c p.seats t.standby (prioOf c x))).Pairwise (· ≠ ·) := hso.1.imp fun h => befS_irr c h
  have hL : ∀ y ∈ sOrd c (lowL c p.seats t.standby (prioOf c x)), 0 ≤ y ∧ ∃ u, p.seats[y.toNat]? = some u ∧ u.active = true ∧ u.home = t.standby := fun y hy => by
    obtain ⟨h1, _, h3⟩ := low_facts ((hso.2 y).1 hy)
    exact ⟨h1.1, h3⟩
  obtain ⟨p1, r1, r2, r3, r4, r5⟩ := pickM_run hg s (cell := t.standby) _ (missF c p x t) p ok hci hnd hL
  have hsub := pickM_sub (c := c) (sOrd c (lowL c p.seats t.standby (prioOf c x))) (missF c p x t)
  have hpr : ∀ y ∈ (pickOf c p x t).1, prioOf c y < prioOf c x := fun y hy => (low_facts ((hso.2 y).1 (hsub.subset hy))).2.1
  change runF c s p ((pickOf c p x t).1.map (shS t.standby)) = some p1 at r1
  change atI p1.bk t.standby = atI p.bk t.standby - (missF c p x t - (pickOf c p x t).2) at r3
  change ∀ j, j < (pickOf c p x t).1.length → ∃ pj, runF c s p (((pickOf c p x t).1.map (shS t.standby)).take j) = some pj ∧ 0 < missF c p x t - (atI p.bk t.standby - atI pj.bk t.standby) at r5
  generalize (pickOf c p x t).1 = ys at *
  generalize (pickOf c p x t).2 = m' at *
  have ok1 := run_ok _ ok r1
  have hx1 : p1.seats[x.toNat]? = some t := by
    rw [r4 x hxr.1 (fun hin => by have := (low_facts ((hso.2 x).1 hin)).2.1; omega)]; exact ht
  have hbk1 := ok1.k
  have hmv := take_move (c := c) (s := s) hxr.1 (by omega : 0 ≤ t.standby ∧ t.standby < p1.bk.length) hx1 ha rfl hu
  have hrun : runF c s p (ys.map (shS t.standby) ++ [⟨2, x, t.standby⟩]) = some (moveF c p1 ⟨2, x, t.standby⟩ t) := by
    rw [runF_app, r1]; simp only [Option.bind_some, runF_one]; exact hmv
  rw [e]
  have hcap1 : CapOk c p1 := fun k hk => by
    have := r2 k (by omega)
    have := hcap k (by omega)
    omega
  have hcap2 : CapOk c (moveF c p1 ⟨2, x, t.standby⟩ t) := fun k hk => by
    have hl := (moveF_len c p1 ⟨2, x, t.standby⟩ t).2
    have h1 := moveF_at hg p1 ⟨2, x, t.standby⟩ t k (by omega)
    have h2 := hcap1 k (by omega)
    dsimp only at h1
    split at h1
    · rename_i ek
      subst ek
      unfold missF at r3
      omega
    · omega
  have hfull : runF c s (sit0 c s) (full ++ (ys.map (shS t.standby) ++ [⟨2, x, t.standby⟩])) = some (moveF c p1 ⟨2, x, t.standby⟩ t) := by
    rw [runF_app, h.run]; exact hrun
  have hlen : (ys.map (shS t.standby)).length = ys.length := by simp
  refine ⟨_, hrun, hfull, fun i z hz hk => ?_, fun i q hq => ?_, fun i z hz hk => ?_⟩
  · rcases Nat.lt_or_ge i full.length with hi | hi
    · rw [List.getElem?_append_left hi] at hz
      exact h.mv i z hz hk
    · rw [List.getElem?_append_right hi] at hz
      rcases Nat.lt_or_ge (i - full.length) ys.length with hj | hj
      · rw [List.getElem?_append_left (by omega)] at hz
        have := map_mem_kind z (List.mem_of_getElem? hz)
        omega
      · rw [List.getElem?_append_right (by omega)] at hz
        have := List.mem_singleton.1 (List.mem_of_getElem? hz)
        subst this
        exact hx
  · rcases Nat.lt_or_ge i (full.length + 1) with hi | hi
    · rw [List.take_append_of_le_length (by omega)] at hq
      exact h.cap i q hq
    · rw [List.take_append, runF_app, List.take_of_length_le (by omega), h.run] at hq
      simp only [Option.bind_some] at hq
      rcases Nat.lt_or_ge (i - full.length) (ys.length + 1) with hj | hj
      · rw [List.take_append_of_le_length (by omega)] at hq
        intro k hk
        have hb := run_ok _ ok hq
        have hb' := hb.k
        have := runs_le hg _ (fun y hy => map_mem_kind y (List.mem_of_mem_take hy)) hq k (by omega)
        have := hcap k (by omega)
        omega
      · rw [List.take_of_length_le (by simp; omega), hrun] at hq
        cases hq
        exact hcap2
  · rcases Nat.lt_or_ge i full.length with hi | hi
    · rw [List.getElem?_append_left hi] at hz
      exact (h.need i z hz hk).app _
    · rw [List.getElem?_append_right hi] at hz
      rcases Nat.lt_or_ge (i - full.length) ys.length with hj | hj
      · rw [List.getElem?_append_left (by omega)] at hz
        obtain ⟨y, hy⟩ := get_of hj
        have ez : z = shS t.standby y := by simp [hy] at hz; exact hz.symm
        subst ez
        refine ⟨full.length + ys.length, ⟨2, x, t.standby⟩, by omega, ?_, rfl, rfl, hxr, fun j hj1 hj2 => ?_, hpr y (List.mem_of_getElem? hy), ?_⟩
        · rw [List.getElem?_append_right (by omega), List.getElem?_append_right (by omega)]
          simp
        · obtain ⟨w, hw⟩ := get_of (l := ys) (i := j - full.length) (by omega)
          refine ⟨shS t.standby w, ?_, rfl, rfl⟩
          rw [List.getElem?_append_right (by omega), List.getElem?_append_left (by omega)]
          simp [hw]
        · right
          obtain ⟨pj, hp1, hp2⟩ := r5 _ hj
          refine ⟨pj, ?_, ?_⟩
          · rw [List.take_append, runF_app, List.take_of_length_le hi, h.run]
            simp only [Option.bind_some]
            rw [List.take_append_of_le_length (by omega)]
            exact hp1
          · unfold missF at hp2
            dsimp only
            omega
      · rw [List.getElem?_append_right (by omega)] at hz
        have := List.mem_singleton.1 (List.mem_of_getElem? hz)
        subst this
        dsimp only at hk
        omega

end Go.Proofs.YtncckpieemmmfaaGreat
