/- Contract: moves.Order, with what it makes. Conditions: those ahead of each theorem. -/
import Derived.Test.YtipabdkgidmjnaaMovesC
namespace Go.Proofs.Ytipabdkgidmjnaa
open Go Go.Cpl

/-! ### how many changes a tenant needs at most -/

def m1 (c : Cfg) (a b : Int × Int) : Nat := if a = b then 0 else if a.1 = b.1 then 1 else if b.1 ≠ -1 ∧ a.2 ≠ -1 ∧ apart c b.1 a.2 = false then 3 else 2

theorem m1_le (c : Cfg) (a b : Int × Int) : m1 c a b ≤ 3 := by
  unfold m1; repeat' split
  all_goals omega

theorem next_t {c : Cfg} {t : Nat} {a b : Int × Int} {x : Re} (h : x ∈ nextOf c t a b) : x.t = t := by
  unfold nextOf at h
  repeat' split at h
  all_goals simp at h
  all_goals rw [h]

theorem m1_step {c : Cfg} {t : Nat} {a b : Int × Int} {x : Re} (h : x ∈ nextOf c t a b) : m1 c (x.h, x.s) b < m1 c a b := by
  obtain ⟨a1, a2⟩ := a
  obtain ⟨b1, b2⟩ := b
  unfold nextOf at h
  split at h
  · simp at h
  rename_i hab
  split at h
  · rename_i h1
    split at h
    · rename_i h2
      simp at h
      subst h
      have e1 : m1 c (a1, a2) (b1, b2) = 3 := by unfold m1; rw [if_neg hab, if_neg h1, if_pos h2]
      have e2 : m1 c (a1, -1) (b1, b2) ≤ 2 := by
        unfold m1
        split
        · omega
        · split
          · rename_i h
            first | omega | exact absurd rfl h.2.1
          · first | omega | (split <;> rename_i h <;> first | omega | exact absurd rfl h.2.1)
      show m1 c (a1, -1) (b1, b2) < _
      omega
    · rename_i h2
      simp at h
      subst h
      have e1 : m1 c (a1, a2) (b1, b2) = 2 := by unfold m1; rw [if_neg hab, if_neg h1, if_neg h2]
      have e2 : m1 c (b1, a2) (b1, b2) ≤ 1 := by
        unfold m1
        split
        · omega
        · rw [if_pos rfl]; omega
      show m1 c (b1, a2) (b1, b2) < _
      omega
  · rename_i h1
    simp at h
    subst h
    have h1' : a1 = b1 := by simpa using h1
    subst h1'
    have e1 : m1 c (a1, a2) (a1, b2) = 1 := by unfold m1; rw [if_neg hab, if_pos rfl]
    show m1 c (a1, b2) (a1, b2) < _
    rw [e1]
    simp [m1]

def mz (c : Cfg) : List (Int × Int) → List (Int × Int) → Nat
  | a :: l, b :: m => m1 c a b + mz c l m
  | _, _ => 0

theorem mz_le (c : Cfg) : ∀ l m : List (Int × Int), mz c l m ≤ 3 * l.length
  | [], _ => by simp [mz]
  | a :: l, [] => by simp [mz]
  | a :: l, b :: m => by
    have := mz_le c l m
    have := m1_le c a b
    simp only [mz, List.length_cons]; omega

theorem mz_set (c : Cfg) : ∀ {l m : List (Int × Int)} {i : Nat} {a a' b : Int × Int}, l[i]? = some a → m[i]? = some b → mz c (l.set i a') m + m1 c a b = mz c l m + m1 c a' b
  | x :: l, y :: m, 0, a, a', b, h1, h2 => by
    simp at h1 h2; subst h1; subst h2
    simp only [List.set_cons_zero, mz]; omega
  | x :: l, y :: m, i + 1, a, a', b, h1, h2 => by
    have := mz_set c (l := l) (m := m) (i := i) (a := a) (a' := a') (b := b) (by simpa using h1) (by simpa using h2)
    simp only [List.set_cons_succ, mz]; omega
  | [], _, _, _, _, _, h1, _ => by simp at h1
  | _ :: _, [], _, _, _, _, _, h2 => by simp at h2

theorem blk_mem {c : Cfg} {l m : List (Int × Int)} {x : Re} : ∀ {k : Nat}, x ∈ blk c l m k → ∃ (i : Nat) (a b : Int × Int), i < k ∧ l[i]? = some a ∧ m[i]? = some b ∧ x ∈ nextOf c i a b
  | 0, h => by simp [blk] at h
  | k + 1, h => by
    simp only [blk] at h
    split at h
    · rename_i a b ha hb
      rcases List.mem_append.1 h with h | h
      · obtain ⟨i, a', b', h1, h2⟩ := blk_mem h; exact ⟨i, a', b', by omega, h2⟩
      · exact ⟨k, a, b, by omega, ha, hb, h⟩
    · obtain ⟨i, a', b', h1, h2⟩ := blk_mem h; exact ⟨i, a', b', by omega, h2⟩

theorem mem_blk {c : Cfg} {l m : List (Int × Int)} {x : Re} {i : Nat} {a b : Int × Int} (ha : l[i]? = some a) (hb : m[i]? = some b) (hx : x ∈ nextOf c i a b) : ∀ {k : Nat}, i < k → x ∈ blk c l m k
  | k + 1, h => by
    simp only [blk]
    split
    · rename_i a' b' ha' hb'
      rcases Nat.lt_or_ge i k with h' | h'
      · exact List.mem_append_left _ (mem_blk ha hb hx h')
      · have : i = k := by omega
        subst this
        rw [ha] at ha'; rw [hb] at hb'
        simp at ha' hb'
        rw [← ha', ← hb']
        exact List.mem_append_right _ hx
    · rename_i hno
      rcases Nat.lt_or_ge i k with h' | h'
      · exact mem_blk ha hb hx h'
      · have : i = k := by omega
        subst this
        exact absurd hb (hno _ _ ha)

theorem next_ne {c : Cfg} {t : Nat} {a b : Int × Int} (h : a ≠ b) : nextOf c t a b ≠ [] := by
  unfold nextOf
  rw [if_neg h]
  repeat' split
  all_goals simp

/-! ### the turns of Order -/

abbrev OS := List (Int × Int) × List Re

def ordStep (c : Cfg) (to_ : List (Int × Int)) (s : OS) : Option OS :=
  match (blocked c s.1 to_).find? (fun x => decide (fitsP c s.1 x)) with
  | none => none
  | some x => some (putP s.1 x, s.2 ++ [x])

theorem fit_put {c : Cfg} {l : List (Int × Int)} {x : Re} (h : fitsP c l x) : Fit c (putP l x) := by
  obtain ⟨hf, ht, hh, hs, _⟩ := h
  refine ⟨hf.val, by rw [putP_len]; exact hf.len, fun p hp => ?_⟩
  rcases List.mem_or_eq_of_mem_set hp with hp | rfl
  · exact hf.rng p hp
  · exact ⟨hh, hs⟩

theorem first_none {c : Cfg} {l : List (Int × Int)} {xs : List Re} (h : xs.find? (fun x => decide (fitsP c l x)) = none) : FirstFit c l xs (-1) :=
  .inl ⟨rfl, fun x hx => by simpa using List.find?_eq_none.1 h x hx⟩

theorem first_some' {c : Cfg} {l : List (Int × Int)} {xs : List Re} {x : Re} (h : xs.find? (fun x => decide (fitsP c l x)) = some x) : ∃ n : Nat, FirstFit c l xs n ∧ xs[n]? = some x ∧ fitsP c l x ∧ x ∈ xs := by
  obtain ⟨h1, us, vs, rfl, h2⟩ := List.find?_eq_some_iff_append.1 h
  have hx : (us ++ x :: vs)[us.length]? = some x := by simp
  refine ⟨us.length, .inr ⟨us.length, x, rfl, hx, by simpa using h1, fun j y hj hy => ?_⟩, hx, by simpa using h1, by simp⟩
  rw [List.getElem?_append_left hj] at hy
  have := h2 y (List.mem_of_getElem? hy)
  simpa using this

/-- what holds at each turn -/
structure OrdJ (c : Cfg) (l to_ : List (Int × Int)) (s : OS) : Prop where
  fit : Fit c s.1
  fitting : Fitting c l s.2 s.2.length
  at_ : s.1 = atN l s.2 s.2.length
  len : s.2.length + mz c s.1 to_ ≤ mz c l to_
  ten : ∀ x ∈ s.2, 0 ≤ x.t ∧ x.t < l.length
  cnt : ∀ (t : Nat) (a0 a b : Int × Int), l[t]? = some a0 → s.1[t]? = some a → to_[t]? = some b → s.2.countP (fun x => decide (x.t = (t : Int))) + m1 c a b ≤ m1 c a0 b

theorem take_app_le {α : Type} {l r : List α} {i : Nat} (h : i ≤ l.length) : (l ++ r).take i = l.take i := by
  rw [List.take_append_of_le_length h]

theorem atN_app {l : List (Int × Int)} {xs : List Re} {x : Re} : atN l (xs ++ [x]) (xs ++ [x]).length = putP (atN l xs xs.length) x := by
  unfold atN
  rw [List.take_length, List.take_length, List.foldl_append]; rfl

theorem ord_next {c : Cfg} {l to_ : List (Int × Int)} (hf2 : Fit c to_) {s s' : OS} (hJ : OrdJ c l to_ s) (hs : ordStep c to_ s = some s') : OrdJ c l to_ s' ∧ mz c s'.1 to_ < mz c s.1 to_ := by
  unfold ordStep at hs
  split at hs
  · cases hs
  rename_i x hx
  simp only [Option.some.injEq] at hs
  subst hs
  obtain ⟨n, _, hn, hfit, hmem⟩ := first_some' hx
  have hbl : blocked c s.1 to_ = blk c s.1 to_ s.1.length := if_pos ⟨hJ.fit, hf2⟩
  rw [hbl] at hmem
  obtain ⟨i, a, b, hi, ha, hb, hnx⟩ := blk_mem hmem
  have ht := next_t hnx
  have hst := m1_step hnx
  have hset : putP s.1 x = s.1.set i (x.h, x.s) := by unfold putP; rw [ht]; rfl
  have hmz := mz_set c (a' := (x.h, x.s)) ha hb
  rw [← hset] at hmz
  have hlen0 : s.1.length = l.length := by rw [hJ.at_, atN_len]
  refine ⟨⟨fit_put hfit, ?_, ?_, ?_, ?_, ?_⟩, by simp only; omega⟩
  · intro j y hj hy
    simp only [List.length_append, List.length_cons, List.length_nil] at hj
    rcases Nat.lt_or_ge j s.2.length with g | g
    · rw [List.getElem?_append_left g] at hy
      have := hJ.fitting j y g hy
      unfold atN at this ⊢
      rw [take_app_le (by omega)]; exact this
    · have e : j = s.2.length := by omega
      subst e
      simp at hy
      subst hy
      have e2 : atN l (s.2 ++ [x]) s.2.length = s.1 := by
        rw [hJ.at_]; unfold atN; rw [take_app_le (Nat.le_refl _)]
      rw [e2]; exact hfit
  · rw [atN_app, ← hJ.at_]
  · have := hJ.len
    simp only [List.length_append, List.length_cons, List.length_nil]; omega
  · intro y hy
    rcases List.mem_append.1 hy with hy | hy
    · exact hJ.ten y hy
    · simp at hy; subst hy
      rw [ht]; omega
  · intro t a0 a' b' h0 h1 h2
    rw [List.countP_append]
    have h1' : (putP s.1 x)[t]? = some a' := h1
    rw [hset] at h1'
    by_cases he : i = t
    · subst he
      rw [List.getElem?_set_self (by omega)] at h1'
      simp at h1'
      subst h1'
      rw [hb] at h2; simp at h2; subst h2
      have := hJ.cnt i a0 a b h0 ha hb
      simp only [List.countP_cons, List.countP_nil, ht]
      simp
      omega
    · rw [List.getElem?_set_ne he] at h1'
      have := hJ.cnt t a0 a' b' h0 h1' h2
      have hne : ¬ ((i : Int) = (t : Int)) := by omega
      simp only [List.countP_cons, List.countP_nil, ht]
      simp [hne]
      omega

/-- what Order makes -/
structure OrdP (c : Cfg) (l to_ : List (Int × Int)) (N : Nat) (s : Nat → OS) : Prop where
  first : s 0 = (l, [])
  step : ∀ i, i < N → ordStep c to_ (s i) = some (s (i + 1))
  last : ordStep c to_ (s N) = none
  inv : ∀ i, i ≤ N → OrdJ c l to_ (s i)

theorem ord_made {c : Cfg} {l to_ : List (Int × Int)} (hf : Fit c l) (hf2 : Fit c to_) : ∃ N s, OrdP c l to_ N s := by
  have hJ : OrdJ c l to_ (l, []) := ⟨hf, fun j y hj => absurd hj (Nat.not_lt_zero j), rfl, by simp, by simp, fun t a0 a b h0 h1 h2 => by
    simp only at h1
    rw [h0] at h1; simp at h1; subst h1; simp⟩
  obtain ⟨N, s, h1, h2, h3, h4⟩ := turns (ordStep c to_) (fun s => mz c s.1 to_) (OrdJ c l to_) (fun s s' hJ hs => ord_next hf2 hJ hs) (mz c l to_) (l, []) (Nat.le_refl _) hJ
  exact ⟨N, s, h1, h2, h3, h4⟩

abbrev ordV (ok : Bool) : AV := .tup [.inl (.gs 0), .inl (.d (.bool ok))]

set_option maxHeartbeats 4000000 in
theorem order21_c (c : Cfg) (l to_ : List (Int × Int)) (hf : Fit c l) (hf2 : Fit c to_) {N : Nat} {s : Nat → OS} (hP : OrdP c l to_ N s) :
    CallsH Try.prog 29 [cfgV c, plV l, plV to_] [] (ordV (decide ((s N).1 = to_))) [.arr 25 (rR (s N).2)] := by
  have hg := good_of hf.val
  have hc : c.cells.length ≤ 20 := by have := hg.cells; omega
  have hT := hg.tenants
  have hlen := hf.len
  have hml := mz_le c l to_
  refine callsR_of tab mixed Try.func29 rfl (by decide) rfl rfl ?_
  conv => whnf
  refine ⟨_, _, whole_c c hc, ?_⟩
  conv => whnf
  refine ⟨_, _, fit_c c (wholeU c) false l, ?_⟩
  conv => whnf
  refine spN (fun h => absurd hf h) (fun _ => ?_)
  conv => whnf
  refine ⟨_, _, whole_c c hc, ?_⟩
  conv => whnf
  refine ⟨_, _, fit_c c (wholeU c) false to_, ?_⟩
  conv => whnf
  refine spN (fun h => absurd hf2 h) (fun _ => ?_)
  conv => whnf
  refine ⟨_, _, clone_c l (by omega), ?_⟩
  conv => whnf
  refine loopR tab mixed (ι := { i : Nat // i ≤ N }) (fun i => [(9, .c (.gs 50))]) (fun i => [(1, .arr 39 (r2 (s i.1).1)), (50, .arr 25 (rR (s i.1).2))]) 51 (fun i => N - i.1) ⟨0, Nat.zero_le _⟩ [(1, some 1), (50, none)] ?_
  conv => whnf
  refine ⟨?_, fun ⟨i, hi⟩ => ?_⟩
  · repeat' (first | exact trivial | rfl | refine And.intro ?_ ?_)
    all_goals (conv => whnf)
    repeat' (first | exact trivial | rfl | refine And.intro ?_ ?_)
    all_goals rw [hP.first]
    all_goals rfl
  conv => whnf
  have hJ := hP.inv i hi
  have hbl : (blocked c (s i).1 to_).length ≤ 1000 := by
    rw [show blocked c (s i).1 to_ = blk c (s i).1 to_ (s i).1.length from if_pos ⟨hJ.fit, hf2⟩]
    have := blk_len c (s i).1 to_ (s i).1.length
    have := hJ.fit.len
    omega
  have hal : (s i).1.length = l.length := by rw [hJ.at_, atN_len]
  have hdl : (s i).2.length ≤ 1000 := by have := hJ.len; omega
  have hr2 := r2_len (s i).1
  have hrR := rR_len (s i).2
  have hrB := rR_len (blocked c (s i).1 to_)
  refine ⟨_, _, blocked_c c (s i).1 to_ hc, ?_⟩
  conv => whnf
  cases hstep : (blocked c (s i).1 to_).find? (fun x => decide (fitsP c (s i).1 x)) with
  | none =>
    refine ⟨_, _, index_c c (s i).1 (blocked c (s i).1 to_) hc hbl (-1) (first_none hstep), ?_⟩
    conv => whnf
    have hN : i = N := at_last hP.step hi (by unfold ordStep; rw [hstep])
    subst hN
    refine spE (fun _ => ?_) (fun h => absurd rfl h)
    conv => whnf
    refine ⟨_, _, equalPl_c (s i).1 to_ (by omega), ?_⟩
    conv => whnf
    refine ⟨[(0, some 50)], rfl, ?_⟩
    repeat' (first | exact trivial | rfl | refine And.intro ?_ ?_)
    all_goals (conv => whnf)
    repeat' (first | exact trivial | rfl | refine And.intro ?_ ?_)
  | some x =>
    obtain ⟨n, hff, hn, hfit, hmem⟩ := first_some' hstep
    refine ⟨_, _, index_c c (s i).1 (blocked c (s i).1 to_) hc hbl n hff, ?_⟩
    conv => whnf
    obtain ⟨hiN, hs'⟩ := not_last hP.step hP.last hi (s' := (putP (s i).1 x, (s i).2 ++ [x])) (by unfold ordStep; rw [hstep])
    have hnl := (List.getElem?_eq_some_iff.1 hn).1
    obtain ⟨_, ht, _⟩ := hfit
    obtain ⟨p, hpp⟩ := get_of (l := (s i).1) (i := x.t.toNat) (by omega)
    refine spE (fun h => by omega) (fun _ => ?_)
    conv => whnf
    refine ⟨by kernel_rfl, ?_⟩
    conv => whnf
    refine ⟨by omega, by omega, ?_⟩
    conv => whnf
    refine ⟨_, rR_get hn, ?_⟩
    conv => whnf
    refine ⟨by omega, by omega, ?_⟩
    conv => whnf
    refine ⟨_, rR_get hn, ?_⟩
    conv => whnf
    refine ⟨by omega, by omega, ?_⟩
    conv => whnf
    refine ⟨_, rR_get hn, ?_⟩
    conv => whnf
    refine ⟨by omega, by omega, ?_⟩
    conv => whnf
    refine ⟨_, r2_get hpp, ?_⟩
    conv => whnf
    refine ⟨by omega, by omega, ?_⟩
    conv => whnf
    refine ⟨_, rR_get hn, ?_⟩
    conv => whnf
    refine ⟨row3 _ _ _, ⟨by simp; omega⟩, ?_⟩
    conv => whnf
    refine ⟨⟨i + 1, hiN⟩, [(1, some 1), (50, some 53)], ?_, by show N - (i + 1) < N - i; omega⟩
    repeat' (first | exact trivial | rfl | refine And.intro ?_ ?_)
    all_goals (conv => whnf)
    repeat' (first | exact trivial | rfl | refine And.intro ?_ ?_)
    · rw [hs', putP, r2_set]
    · rw [hs']; exact (rR_app _ _ _ _).symm

end Go.Proofs.Ytipabdkgidmjnaa
