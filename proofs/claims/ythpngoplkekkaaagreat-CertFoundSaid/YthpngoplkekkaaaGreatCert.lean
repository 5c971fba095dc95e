/- Contracts: how cert reads a refutation. Conditions: those ahead of each theorem. -/
import Derived.Test.YthpngoplkekkaaaGreatMono
import Derived.Test.YthpngoplkekkaaaGreatBound
import Derived.Test.YthpngoplkekkaaaGreatCplZ
namespace Go.Proofs.YthpngoplkekkaaaGreat
open Go Go.Cpl

structure Nd where
  kind : Int
  var : Int
  set : Int
  brk : Brk
deriving DecidableEq

abbrev brk0 : Brk := ⟨0, 0, 0, 0, 0⟩

def rN (l : List Nd) : List (List D) := l.map fun x => [i64 x.kind, i64 x.var, i64 x.set, i64 x.brk.rule, i64 x.brk.tenant, i64 x.brk.other, i64 x.brk.cell, i64 x.brk.region]

theorem rN_len (l : List Nd) : (rN l).length = l.length := by simp [rN]

theorem rN_get {l : List Nd} {i : Nat} {x : Nd} (h : l[i]? = some x) : (rN l)[i]? = some [i64 x.kind, i64 x.var, i64 x.set, i64 x.brk.rule, i64 x.brk.tenant, i64 x.brk.other, i64 x.brk.cell, i64 x.brk.region] := by simp [rN, h]

theorem eqB5 (a b : Brk) : eqB [i64 a.rule, i64 a.tenant, i64 a.other, i64 a.cell, i64 a.region] [i64 b.rule, i64 b.tenant, i64 b.other, i64 b.cell, i64 b.region] = decide (a = b) := by
  obtain ⟨a1, a2, a3, a4, a5⟩ := a; obtain ⟨b1, b2, b3, b4, b5⟩ := b
  rw [Bool.eq_iff_iff]
  simp [eqB]

abbrev brkV (b : Brk) : AV := .agg [.d (i64 b.rule), .d (i64 b.tenant), .d (i64 b.other), .d (i64 b.cell), .d (i64 b.region)]

/-- the first place of an element, or -1 -/
def IdxB (l : List Brk) (b : Brk) (k : Int) : Prop := (k = -1 ∧ b ∉ l) ∨ ∃ n : Nat, k = n ∧ l[n]? = some b ∧ ∀ j, j < n → l[j]? ≠ some b

theorem idxB_ex (b : Brk) : ∀ l : List Brk, ∃ k, IdxB l b k
  | [] => ⟨-1, .inl ⟨rfl, by simp⟩⟩
  | x :: r => by
    by_cases h : x = b
    · exact ⟨0, .inr ⟨0, rfl, by simp [h], fun j hj => absurd hj (Nat.not_lt_zero j)⟩⟩
    obtain ⟨k, hk⟩ := idxB_ex b r
    rcases hk with ⟨rfl, hk⟩ | ⟨n, rfl, h1, h2⟩
    · exact ⟨-1, .inl ⟨rfl, by simp [hk, Ne.symm h]⟩⟩
    · refine ⟨n + 1, .inr ⟨n + 1, by simp, by simpa using h1, fun j hj hh => ?_⟩⟩
      cases j with
      | zero => simp at hh; exact h hh
      | succ j => exact h2 j (by omega) (by simpa using hh)

theorem idxB_iff {l : List Brk} {b : Brk} {k : Int} (h : IdxB l b k) : 0 ≤ k ↔ b ∈ l := by
  rcases h with ⟨rfl, h⟩ | ⟨n, rfl, h1, _⟩
  · simp [h]
  · simp [List.mem_of_getElem? h1]

theorem indexB_c (l : List Brk) (b : Brk) (hl : l.length ≤ 1000000) {k : Int} (hk : IdxB l b k) : CallsH Tryz.prog 111 [.c (.d (.sl (rB l))), brkV b] [] (I k) [] := by
  refine callsR_of tab mixed Tryz.func111 rfl (by decide) rfl rfl ?_
  conv => whnf
  have hla := rB_len l
  refine loopN tab mixed (fun i => i ≤ l.length ∧ ∀ j, j < i → l[j]? ≠ some b) l.length (fun i => [(8, I i)]) (fun _ => []) 51 [] ⟨by omega, fun j hj => absurd hj (Nat.not_lt_zero j)⟩ ?_
  conv => whnf
  refine ⟨?_, fun i ⟨hi, hj⟩ => ?_⟩
  · repeat' (first | exact trivial | rfl | refine And.intro ?_ ?_)
    all_goals (conv => whnf)
    repeat' (first | exact trivial | rfl | refine And.intro ?_ ?_)
  conv => whnf
  refine spD (fun h => ?_) (fun h => ?_) <;> conv => whnf
  · have hi' : i < l.length := by omega
    obtain ⟨x, hx⟩ := get_of hi'
    refine ⟨by kernel_rfl, ?_⟩
    conv => whnf
    refine ⟨by omega, _, rB_get hx, ?_⟩
    conv => whnf
    refine ⟨by kernel_rfl, ?_⟩
    conv => whnf
    rw [show eqB _ _ = _ from eqB5 b x]
    refine spD (fun hp => ?_) (fun hp => ?_) <;> conv => whnf
    · have hki : k = (i : Int) := by
        rcases hk with ⟨_, hk⟩ | ⟨n, rfl, h1, h2⟩
        · exact absurd (by rw [hp]; exact List.mem_of_getElem? hx) hk
        · rcases Nat.lt_trichotomy n i with g | g | g
          · exact absurd h1 (hj n g)
          · rw [g]
          · exact absurd (by rw [hp]; exact hx) (h2 i g)
      rw [hki]
      exact ⟨[], rfl, ⟨rfl, rfl⟩, trivial⟩
    · refine gv (by first | omega | (simp only []; omega) | (simp; omega)) (by first | omega | (simp only []; omega) | (simp; omega)) ?_
      conv => whnf
      refine ⟨⟨hi', hi', fun j h1 h2 => ?_⟩, [], ?_⟩
      · rcases Nat.lt_or_ge j i with g | g
        · exact hj j g h2
        · have : j = i := by omega
          subst this; rw [h2] at hx; simp at hx; exact hp hx
      · repeat' (first | exact trivial | rfl | refine And.intro ?_ ?_)
        all_goals (conv => whnf)
        repeat' (first | exact trivial | rfl | refine And.intro ?_ ?_)
  · have hki : k = -1 := by
      rcases hk with ⟨hk, _⟩ | ⟨n, rfl, h1, h2⟩
      · exact hk
      · have := (List.getElem?_eq_some_iff.1 h1).1
        exact absurd h1 (hj n (by omega))
    rw [hki]
    exact ⟨[], rfl, ⟨rfl, rfl⟩, trivial⟩

theorem containsB_c (l : List Brk) (b : Brk) (hl : l.length ≤ 1000000) : CallsH Tryz.prog 71 [.c (.d (.sl (rB l))), brkV b] [] (B (decide (b ∈ l))) [] := by
  obtain ⟨k, hk⟩ := idxB_ex b l
  refine callsR_of tab mixed Tryz.func71 rfl (by decide) rfl rfl ?_
  conv => whnf
  refine ⟨_, _, indexB_c l b hl hk, ?_⟩
  conv => whnf
  exact ⟨[], rfl, by simp [mtV, Cpl.valOf, mtC, eqD, idxB_iff hk], trivial⟩

/-! ### variables of a placement -/

def getV (l : List (Int × Int)) (v : Int) : Int := if v % 2 = 1 then ((l[(v / 2).toNat]?).getD (0, 0)).2 else ((l[(v / 2).toNat]?).getD (0, 0)).1

def setV (l : List (Int × Int)) (v x : Int) : List (Int × Int) := if v % 2 = 1 then l.set (v / 2).toNat (((l[(v / 2).toNat]?).getD (0, 0)).1, x) else l.set (v / 2).toNat (x, ((l[(v / 2).toNat]?).getD (0, 0)).2)

def openV (c : Cfg) (l : List (Int × Int)) (v : Int) : Bool := decide (0 ≤ v ∧ v / 2 < l.length ∧ getV l v = -1) && !(decide (v % 2 = 1) && single c (v / 2))

theorem setV_len (l : List (Int × Int)) (v x : Int) : (setV l v x).length = l.length := by unfold setV; split <;> simp

def op1 (p : Int × Int) : Nat := (if p.1 = -1 then 1 else 0) + (if p.2 = -1 then 1 else 0)

/-- how many places are open -/
def opens : List (Int × Int) → Nat
  | [] => 0
  | p :: r => op1 p + opens r

theorem opens_set : ∀ {l : List (Int × Int)} {i : Nat} {p : Int × Int} (q : Int × Int), l[i]? = some p → opens (l.set i q) + op1 p = opens l + op1 q
  | x :: l, 0, p, q, h => by simp at h; subst h; simp only [List.set_cons_zero, opens]; omega
  | x :: l, i + 1, p, q, h => by
    have := opens_set (l := l) (i := i) q (by simpa using h)
    simp only [List.set_cons_succ, opens]; omega
  | [], _, _, _, h => by simp at h

theorem opens_setV {c : Cfg} {l : List (Int × Int)} {v : Int} (h : openV c l v = true) {x : Int} (hx : 0 ≤ x) : opens (setV l v x) + 1 = opens l := by
  simp only [openV, Bool.and_eq_true, decide_eq_true_eq] at h
  obtain ⟨⟨h0, h1, h2⟩, _⟩ := h
  obtain ⟨p, hp⟩ := get_of (l := l) (i := (v / 2).toNat) (by omega)
  unfold getV at h2
  unfold setV
  rw [hp] at h2 ⊢
  simp only [Option.getD_some] at h2 ⊢
  split at h2
  · rename_i hm
    rw [if_pos hm]
    have := opens_set (p.1, x) hp
    unfold op1 at this
    simp only [h2] at this
    rw [if_neg (show ¬ x = -1 by omega)] at this
    simp at this; omega
  · rename_i hm
    rw [if_neg hm]
    have := opens_set (x, p.2) hp
    unfold op1 at this
    simp only [h2] at this
    rw [if_neg (show ¬ x = -1 by omega)] at this
    simp at this; omega

theorem fit_setV {c : Cfg} {l : List (Int × Int)} {v x : Int} (hf : Fit c l) (hx : -1 ≤ x ∧ x < c.cells.length) : Fit c (setV l v x) := by
  refine ⟨hf.val, by rw [setV_len]; exact hf.len, fun p hp => ?_⟩
  unfold setV at hp
  by_cases hlt : (v / 2).toNat < l.length
  · obtain ⟨q, hq⟩ := get_of hlt
    have hqr := hf.rng q (List.mem_of_getElem? hq)
    rw [hq] at hp
    simp only [Option.getD_some] at hp
    split at hp
    · rcases List.mem_or_eq_of_mem_set hp with hp | rfl
      · exact hf.rng p hp
      · exact ⟨hqr.1, hx⟩
    · rcases List.mem_or_eq_of_mem_set hp with hp | rfl
      · exact hf.rng p hp
      · exact ⟨hx, hqr.2⟩
  · split at hp
    · rw [List.set_eq_of_length_le (by omega)] at hp; exact hf.rng p hp
    · rw [List.set_eq_of_length_le (by omega)] at hp; exact hf.rng p hp

/-! ### reading a refutation -/

def rdC (f : Nat → Nat → Bool × Nat) : List Nat → Nat → Bool × Nat
  | [], n => (true, n)
  | i :: r, n => match f i n with
    | (true, n') => rdC f r n'
    | (false, n') => (false, n')

def usK (u : Int) (k : Nat) : List Nat := (List.range k).filter fun i => bit u i

def nodeB (c : Cfg) (u : Int) (hd : Bool) (l : List (Int × Int)) (x : Nd) : Bool := decide (x.var = 0 ∧ x.set = 0 ∧ x.brk ∈ partialL c u hd l)

def nodeX (c : Cfg) (u : Int) (l : List (Int × Int)) (x : Nd) : Bool := decide (x.var = 0 ∧ x.brk = brk0 ∧ 1 ≤ x.set ∧ x.set < 2 ^ c.regions.toNat ∧ room c u l x.set < need c u l x.set)

/-- read from a node on: whether it is right, and the next node -/
def rdN (c : Cfg) (u : Int) (hd : Bool) (tree : List Nd) : Nat → List (Int × Int) → Nat → Bool × Nat
  | fuel, l, n => match tree[n]? with
    | none => (false, n)
    | some x => if x.kind = 2 then (nodeB c u hd l x, n + 1) else if x.kind = 3 then (nodeX c u l x, n + 1)
      else if x.kind = 1 ∧ x.set = 0 ∧ x.brk = brk0 ∧ openV c l x.var = true then match fuel with
        | 0 => (false, n + 1)
        | fuel + 1 => rdC (fun i n => rdN c u hd tree fuel (setV l x.var i) n) (usK u c.cells.length) (n + 1)
      else (false, n + 1)

theorem rdC_app (f : Nat → Nat → Bool × Nat) : ∀ (l m : List Nat) (n : Nat), rdC f (l ++ m) n = match rdC f l n with
    | (true, n') => rdC f m n'
    | (false, n') => (false, n')
  | [], m, n => rfl
  | i :: r, m, n => by
    simp only [List.cons_append, rdC]
    split
    · rename_i n' _; exact rdC_app f r m n'
    · rfl

theorem usK_succ (u : Int) (k : Nat) : usK u (k + 1) = usK u k ++ if bit u k = true then [k] else [] := by
  unfold usK
  rw [List.range_succ, List.filter_append]
  congr 1
  simp [List.filter_cons]

theorem usK_split (u : Int) : ∀ {k n : Nat}, k ≤ n → ∃ r, usK u n = usK u k ++ r
  | k, 0, h => ⟨[], by rw [show k = 0 by omega]; simp⟩
  | k, n + 1, h => by
    rcases Nat.lt_or_ge n k with h' | h'
    · exact ⟨[], by rw [show k = n + 1 by omega]; simp⟩
    · obtain ⟨r, hr⟩ := usK_split u h'
      exact ⟨r ++ if bit u n = true then [n] else [], by rw [usK_succ, hr]; simp⟩

theorem rdC_stop {f : Nat → Nat → Bool × Nat} {u : Int} {k n a b e : Nat} (hk : k < n) (hb : bit u k = true) (h1 : rdC f (usK u k) a = (true, b)) (h2 : f k b = (false, e)) : rdC f (usK u n) a = (false, e) := by
  obtain ⟨r, hr⟩ := usK_split u (k := k + 1) (n := n) hk
  rw [hr, usK_succ, if_pos hb, rdC_app, rdC_app, h1]
  simp [rdC, h2]

theorem rdC_step {f : Nat → Nat → Bool × Nat} {u : Int} {k a b e : Nat} (hb : bit u k = true) (h1 : rdC f (usK u k) a = (true, b)) (h2 : f k b = (true, e)) : rdC f (usK u (k + 1)) a = (true, e) := by
  rw [usK_succ, if_pos hb, rdC_app, h1]
  simp [rdC, h2]

theorem rdC_skip {f : Nat → Nat → Bool × Nat} {u : Int} {k a b : Nat} (hb : bit u k = false) (h1 : rdC f (usK u k) a = (true, b)) : rdC f (usK u (k + 1)) a = (true, b) := by
  rw [usK_succ, hb]
  simpa using h1

end Go.Proofs.YthpngoplkekkaaaGreat
