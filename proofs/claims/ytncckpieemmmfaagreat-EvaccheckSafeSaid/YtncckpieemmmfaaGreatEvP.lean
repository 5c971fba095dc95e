/- Plain laws: plans of evacuations. No program in sight. Conditions: those ahead of each theorem. -/
import Derived.Test.YtncckpieemmmfaaGreatEvC
namespace Go.Proofs.YtncckpieemmmfaaGreat
open Go Go.Cpl

/-- takes steps one after the other -/
def runF (c : Cfg) (s : St) : Sit → List Stp → Option Sit
  | p, [] => some p
  | p, x :: r => match takeF c s p x with
    | none => none
    | some q => runF c s q r

theorem runF_app (c : Cfg) (s : St) : ∀ (l m : List Stp) (p : Sit), runF c s p (l ++ m) = (runF c s p l).bind fun q => runF c s q m
  | [], _, _ => rfl
  | x :: l, m, p => by
    simp only [List.cons_append, runF]
    cases takeF c s p x with
    | none => rfl
    | some q => exact runF_app c s l m q

theorem runF_one (c : Cfg) (s : St) (p : Sit) (x : Stp) : runF c s p [x] = takeF c s p x := by
  simp only [runF]; cases takeF c s p x <;> rfl

theorem runF_take {c : Cfg} {s : St} {p q : Sit} {l : List Stp} (h : runF c s p l = some q) (i : Nat) : ∃ r, runF c s p (l.take i) = some r := by
  rw [← List.take_append_drop i l, runF_app] at h
  cases e : runF c s p (l.take i) with
  | none => rw [e] at h; cases h
  | some r => exact ⟨r, rfl⟩

theorem runF_succ {c : Cfg} {s : St} {p q : Sit} {l : List Stp} {i : Nat} {x : Stp} (hx : l[i]? = some x) (h : runF c s p (l.take i) = some q) : runF c s p (l.take (i + 1)) = takeF c s q x := by
  rw [take_succ_of hx, runF_app, h]
  exact runF_one c s q x

def atI (l : List Int) (k : Int) : Int := (l[k.toNat]?).getD 0

theorem atI_get {l : List Int} {k : Int} {x : Int} (h : l[k.toNat]? = some x) : atI l k = x := by simp [atI, h]

theorem atI_add (l : List Int) (i n k : Int) (hk : 0 ≤ k) : atI (addAt l i n) k = atI l k + if i = k ∧ k < l.length then n else 0 := by
  unfold atI addAt
  split
  · rename_i h
    by_cases e : i = k
    · subst e
      rw [List.getElem?_set_self (by omega)]
      simp [h]
    · rw [List.getElem?_set_ne (by omega)]
      simp [e]
  · rename_i h
    rw [if_neg (by omega)]; simp

def overF (c : Cfg) (bk : List Int) : Bool := (List.range bk.length).any fun k => decide (capOf c k < atI bk k)

theorem overF_no {c : Cfg} {bk : List Int} (h : ∀ k : Nat, k < bk.length → atI bk k ≤ capOf c k) : overF c bk = false := by
  unfold overF
  rw [List.any_eq_false]
  intro k hk
  have := h k (by simpa using hk)
  simp; omega

theorem overF_no' {c : Cfg} {bk : List Int} (h : overF c bk = false) (k : Nat) (hk : k < bk.length) : atI bk k ≤ capOf c k := by
  unfold overF at h
  rw [List.any_eq_false] at h
  have := h k (by simpa using hk)
  simpa using this

theorem overF_yes {c : Cfg} {bk : List Int} (k : Nat) (hk : k < bk.length) (h : capOf c k < atI bk k) : overF c bk = true := by
  unfold overF
  rw [List.any_eq_true]
  exact ⟨k, by simpa using hk, by simpa using h⟩

/-! what is known of situations -/

structure SitOk (c : Cfg) (p : Sit) : Prop where
  n : p.seats.length = c.tenants.length
  k : p.bk.length = c.cells.length
  home : ∀ (i : Nat) (t : Seat), p.seats[i]? = some t → t.active = true → 0 ≤ t.home ∧ t.home < c.cells.length
  apart : ∀ (i : Nat) (t : Seat), p.seats[i]? = some t → t.active = true → t.target = -1 ∨ t.target ≠ t.home

theorem sit0_ok {c : Cfg} {s : St} (h : StOk c s) : SitOk c (sit0 c s) := by
  refine ⟨by simp [sit0, h.pre.nt], cl_len _ _, fun i t ht ha => ?_, fun i t ht ha => ?_⟩
  all_goals
    simp only [sit0, List.getElem?_map, Option.map_eq_some_iff] at ht
    obtain ⟨x, hx, rfl⟩ := ht
    simp only [seatOf, Bool.and_eq_true, Bool.not_eq_true'] at ha
    have hx := h.pre.t x (List.mem_of_getElem? hx)
    have h1 := hx.home
    unfold Cel at h1
  · exact ⟨hx.placed ha.1, h1.2⟩
  · exact hx.apart

/-- the ways in which a step is taken -/
inductive TakeV (c : Cfg) (s : St) (p : Sit) (x : Stp) (q : Sit) : Prop
  | shed (t : Seat) (h0 : 0 ≤ x.tenant) (hc : 0 ≤ x.cell ∧ x.cell < p.bk.length) (ht : p.seats[x.tenant.toNat]? = some t) (ha : t.active = true) (hk : x.kind = 1) (hh : t.home = x.cell) (e : q = shedF c p x t)
  | move (t : Seat) (h0 : 0 ≤ x.tenant) (hc : 0 ≤ x.cell ∧ x.cell < p.bk.length) (ht : p.seats[x.tenant.toNat]? = some t) (ha : t.active = true) (hk : x.kind = 2) (hh : t.standby = x.cell) (hu : usableP c s x.cell = true) (e : q = moveF c p x t)

theorem take_view {c : Cfg} {s : St} {p q : Sit} {x : Stp} (hq : takeF c s p x = some q) : TakeV c s p x q := by
  unfold takeF at hq
  split at hq
  · rename_i h0
    split at hq
    · cases hq
    · rename_i t ht
      split at hq
      · rename_i ha
        split at hq
        · rename_i hk
          split at hq
          · rename_i hh
            cases hq; exact .shed t h0.1.1 ⟨h0.1.2, h0.2⟩ ht ha hk hh rfl
          · cases hq
        · split at hq
          · rename_i hk
            split at hq
            · rename_i hh
              cases hq; exact .move t h0.1.1 ⟨h0.1.2, h0.2⟩ ht ha hk hh.1 hh.2 rfl
            · cases hq
          · cases hq
      · cases hq
  · cases hq

theorem shedF_len (c : Cfg) (p : Sit) (x : Stp) (t : Seat) : (shedF c p x t).seats.length = p.seats.length ∧ (shedF c p x t).bk.length = p.bk.length := by
  simp [shedF, addAt_len]

theorem moveF_len (c : Cfg) (p : Sit) (x : Stp) (t : Seat) : (moveF c p x t).seats.length = p.seats.length ∧ (moveF c p x t).bk.length = p.bk.length := by
  simp [moveF, addAt_len]

theorem set_some {α : Type} {l : List α} {i j : Nat} {x y : α} (h : (l.set i x)[j]? = some y) : (i = j ∧ y = x) ∨ (i ≠ j ∧ l[j]? = some y) := by
  rw [List.getElem?_set] at h
  split at h
  · split at h
    · cases h; exact .inl ⟨by assumption, rfl⟩
    · cases h
  · exact .inr ⟨by assumption, h⟩

theorem take_ok {c : Cfg} {s : St} {p q : Sit} {x : Stp} (h : SitOk c p) (hq : takeF c s p x = some q) : SitOk c q := by
  cases take_view hq with
  | shed t h0 hc ht ha hk hh e =>
    subst e
    have hl := shedF_len c p x t
    refine ⟨by rw [hl.1, h.n], by rw [hl.2, h.k], fun i u hu hua => ?_, fun i u hu hua => ?_⟩
    · rcases set_some hu with ⟨_, rfl⟩ | ⟨_, hu⟩
      · cases hua
      · exact h.home i u hu hua
    · rcases set_some hu with ⟨_, rfl⟩ | ⟨_, hu⟩
      · cases hua
      · exact h.apart i u hu hua
  | move t h0 hc ht ha hk hh hus e =>
    subst e
    have hl := moveF_len c p x t
    refine ⟨by rw [hl.1, h.n], by rw [hl.2, h.k], fun i u hu hua => ?_, fun i u hu hua => ?_⟩
    · rcases set_some hu with ⟨_, rfl⟩ | ⟨_, hu⟩
      · have := h.k; dsimp only; omega
      · exact h.home i u hu hua
    · rcases set_some hu with ⟨_, rfl⟩ | ⟨_, hu⟩
      · exact .inl rfl
      · exact h.apart i u hu hua

theorem run_ok {c : Cfg} {s : St} : ∀ (l : List Stp) {p q : Sit}, SitOk c p → runF c s p l = some q → SitOk c q
  | [], _, _, h, hq => by cases hq; exact h
  | x :: l, p, q, h, hq => by
    simp only [runF] at hq
    cases e : takeF c s p x with
    | none => rw [e] at hq; cases hq
    | some r => rw [e] at hq; exact run_ok l (take_ok h e) hq

theorem run_seated {c : Cfg} {s : St} : ∀ (l : List Stp) {p q : Sit}, Seated s p → runF c s p l = some q → Seated s q
  | [], _, _, h, hq => by cases hq; exact h
  | x :: l, p, q, h, hq => by
    simp only [runF] at hq
    cases e : takeF c s p x with
    | none => rw [e] at hq; cases hq
    | some r => rw [e] at hq; exact run_seated l (take_seated h e) hq

theorem run_sz {c : Cfg} (hg : Good c) {s : St} : ∀ (l : List Stp) {b : Int} {p q : Sit}, Sz c b p.seats p.bk → b + 262144 * (l.length : Int) ≤ 999999999000000 → runF c s p l = some q → Sz c (b + 262144 * (l.length : Int)) q.seats q.bk
  | [], b, _, _, h, hb, hq => by cases hq; simpa using h
  | x :: l, b, p, q, h, hb, hq => by
    simp only [runF] at hq
    simp only [List.length_cons] at hb ⊢
    cases e : takeF c s p x with
    | none => rw [e] at hq; cases hq
    | some r =>
      rw [e] at hq
      have := run_sz hg l (take_sz hg h (by omega) e) (by omega) hq
      have e2 : b + 262144 + 262144 * (l.length : Int) = b + 262144 * ((l.length + 1 : Nat) : Int) := by omega
      rwa [e2] at this

/-! which steps move a tenant -/

def lowP (c : Cfg) (se : List Seat) (cell prio : Int) (i : Nat) : Bool := match se[i]? with
  | some t => t.active && (decide (t.home = cell) && decide (prioOf c i < prio))
  | none => false

def lowL (c : Cfg) (se : List Seat) (cell prio : Int) : List Int := upto (lowP c se cell prio) se.length

def sumL (c : Cfg) : List Int → Int
  | [] => 0
  | y :: r => ldOf c y + sumL c r

/-- the order in which tenants are shed -/
def cmpS (c : Cfg) (a b : Int) : Int := orV [cmpV (prioOf c a) (prioOf c b), cmpV (loadAt c b) (loadAt c a), cmpV a b]

def befS (c : Cfg) (a b : Int) : Bool := decide (cmpS c a b < 0)

theorem befS_iff (c : Cfg) (a b : Int) : befS c a b = true ↔ prioOf c a < prioOf c b ∨ (prioOf c a = prioOf c b ∧ (loadAt c b < loadAt c a ∨ (loadAt c b = loadAt c a ∧ a < b))) := by
  unfold befS
  rw [decide_eq_true_iff]
  simp only [cmpS, orV, cmpV]
  repeat' split
  all_goals omega

theorem befS_trans (c : Cfg) (x y z : Int) (h1 : befS c x y = true) (h2 : befS c y z = true) : befS c x z = true := by
  rw [befS_iff] at *; omega

theorem befS_total (c : Cfg) {x y : Int} (h : x ≠ y) : befS c x y = true ∨ befS c y x = true := by
  rw [befS_iff, befS_iff]; omega

theorem befS_irr (c : Cfg) {x y : Int} (h : befS c x y = true) : x ≠ y := by
  rw [befS_iff] at h; intro e; subst e; omega

def sOrd (c : Cfg) (l : List Int) : List Int := isort (befS c) l (l.length - 1)

theorem upto_lt (p : Nat → Bool) : ∀ n, (upto p n).Pairwise (· < ·)
  | 0 => by simp [upto]
  | n + 1 => by
    rw [upto]
    split
    · rw [List.pairwise_append]
      refine ⟨upto_lt p n, by simp, fun a ha b hb => ?_⟩
      obtain ⟨i, hi, rfl, _⟩ := upto_mem ha
      rw [List.mem_singleton] at hb
      omega
    · exact upto_lt p n

theorem upto_in {p : Nat → Bool} {i n : Nat} (hi : i < n) (h : p i = true) : (i : Int) ∈ upto p n := by
  induction n with
  | zero => omega
  | succ n ih =>
    by_cases e : i = n
    · subst e; rw [upto_yes h]; simp
    · have := ih (by omega)
      rw [upto]
      split
      · simp [this]
      · exact this

theorem sOrd_ok (c : Cfg) {l : List Int} (h : l.Pairwise (· ≠ ·)) : (sOrd c l).Pairwise (fun a b => befS c a b = true) ∧ ∀ z, z ∈ sOrd c l ↔ z ∈ l := by
  have ht : l.Pairwise fun a b => befS c a b = true ∨ befS c b a = true := h.imp fun h => befS_total c h
  exact isort_all (befS_trans c) ht (k := l.length - 1) (by omega) (by omega)

theorem lowL_ne (c : Cfg) (se : List Seat) (cell prio : Int) : (lowL c se cell prio).Pairwise (· ≠ ·) := (upto_lt _ _).imp fun h => by omega

theorem sumL_perm (c : Cfg) {l m : List Int} (h : l.Perm m) : sumL c l = sumL c m := by
  induction h with
  | nil => rfl
  | cons x _ ih => simp [sumL, ih]
  | swap x y l => simp only [sumL]; omega
  | trans _ _ h1 h2 => rw [h1, h2]

theorem sOrd_perm (c : Cfg) {l : List Int} (h : l.Pairwise (· ≠ ·)) : (sOrd c l).Perm l := by
  have ho := sOrd_ok c h
  exact (List.perm_ext_iff_of_nodup (ho.1.imp fun h => befS_irr c h) h).2 ho.2

def pick (c : Cfg) : Int → List Int → List Int × Int
  | m, [] => ([], m)
  | m, y :: r => if m ≤ 0 then ([], m) else (y :: (pick c (m - ldOf c y) r).1, (pick c (m - ldOf c y) r).2)

def missF (c : Cfg) (p : Sit) (x : Int) (t : Seat) : Int := ldOf c x - shOf c x - (capOf c t.standby - atI p.bk t.standby)

def pickOf (c : Cfg) (p : Sit) (x : Int) (t : Seat) : List Int × Int := pick c (missF c p x t) (sOrd c (lowL c p.seats t.standby (prioOf c x)))

def stepsF (c : Cfg) (s : St) (p : Sit) (x : Int) : List Stp :=
  match p.seats[x.toNat]? with
  | none => []
  | some t => if t.active = true ∧ usableP c s t.standby = true then
      (if 0 < (pickOf c p x t).2 then [] else (pickOf c p x t).1.map (fun y => ⟨1, y, t.standby⟩) ++ [⟨2, x, t.standby⟩])
    else []

theorem pickM_pos {c : Cfg} : ∀ (l : List Int) (m : Int), 0 < (pick c m l).2 → (pick c m l).2 = m - sumL c l
  | [], m, _ => by simp [pick, sumL]
  | y :: r, m, h => by
    simp only [pick] at h ⊢
    split at h
    · rename_i hm; dsimp only at h; omega
    · rename_i hm
      rw [if_neg hm]
      have := pickM_pos r _ h
      simp only [sumL]
      (try dsimp only at this ⊢)
      omega

theorem sumL_nn {c : Cfg} (hg : Good c) : ∀ l : List Int, 0 ≤ sumL c l
  | [] => by simp [sumL]
  | y :: r => by
    have := sumL_nn hg r
    have := (ten_ld hg y).1
    simp only [sumL]; omega

theorem pickM_le {c : Cfg} (hg : Good c) : ∀ (l : List Int) (m : Int), m - sumL c l ≤ (pick c m l).2
  | [], m => by simp [pick, sumL]
  | y :: r, m => by
    simp only [pick]
    split
    · have := sumL_nn hg (y :: r); dsimp only; omega
    · have := pickM_le hg r (m - ldOf c y)
      simp only [sumL]
      (try dsimp only at this ⊢)
      omega

theorem pickM_sub {c : Cfg} : ∀ (l : List Int) (m : Int), (pick c m l).1.Sublist l
  | [], m => by simp [pick]
  | y :: r, m => by
    simp only [pick]
    split
    · exact List.nil_sublist _
    · exact (pickM_sub r _).cons_cons y

theorem usable_in {c : Cfg} {s : St} {k : Int} (h : usableP c s k = true) : 0 ≤ k ∧ k < c.cells.length := by
  unfold usableP at h
  split at h
  · assumption
  · cases h

end Go.Proofs.YtncckpieemmmfaaGreat
