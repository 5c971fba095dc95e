/- Contracts: slices.Equal, slices.IndexFunc, moves.Check, its reference, moves.Order. Conditions: those ahead of each theorem. -/
import Derived.Test.YtipabdkgidmjnaaClone
namespace Go.Proofs.Ytipabdkgidmjnaa
open Go Go.Cpl

theorem equalPl_c (a b : List (Int × Int)) (ha : a.length ≤ 1000000) : CallsH Try.prog 71 [plV a, plV b] [] (B (decide (a = b))) [] := by
  refine callsR_of tab mixed Try.func71 rfl (by decide) rfl rfl ?_
  conv => whnf
  have hla := r2_len a
  have hlb := r2_len b
  refine spNe (fun h => ?_) (fun h => ?_) <;> conv => whnf
  · refine ⟨[], rfl, ?_, trivial⟩
    have : a ≠ b := fun e => h (by rw [e])
    simp [mtV, Cpl.valOf, mtC, eqD, this]
  have hab : a.length = b.length := by omega
  refine loopN tab mixed (fun i => i ≤ a.length ∧ a.take i = b.take i) a.length (fun i => [(13, I i)]) (fun _ => []) 51 [] ⟨by omega, by simp⟩ ?_
  conv => whnf
  refine ⟨?_, fun i ⟨hi, hj⟩ => ?_⟩
  · repeat' (first | exact trivial | rfl | refine And.intro ?_ ?_)
    all_goals (conv => whnf)
    repeat' (first | exact trivial | rfl | refine And.intro ?_ ?_)
  conv => whnf
  refine spD (fun h => ?_) (fun h => ?_) <;> conv => whnf
  · have hi' : i < a.length := by omega
    obtain ⟨x, hx⟩ := get_of hi'
    obtain ⟨y, hy⟩ := get_of (l := b) (i := i) (by omega)
    refine ⟨by kernel_rfl, ?_⟩
    conv => whnf
    refine ⟨by omega, _, r2_get hx, ?_⟩
    conv => whnf
    refine ⟨by omega, _, r2_get hy, ?_⟩
    conv => whnf
    refine ⟨by kernel_rfl, ?_⟩
    conv => whnf
    rw [show eqB _ _ = _ from eqB2 x y]
    refine spN (fun hp => ?_) (fun hp => ?_) <;> conv => whnf
    · refine ⟨[], rfl, ?_, trivial⟩
      have : a ≠ b := fun e => hp (by rw [e, hy] at hx; simpa using hx.symm)
      simp [mtV, Cpl.valOf, mtC, eqD, this]
    · refine gv (by first | omega | (simp only []; omega) | (simp; omega)) (by first | omega | (simp only []; omega) | (simp; omega)) ?_
      conv => whnf
      refine ⟨⟨hi', hi', ?_⟩, [], ?_⟩
      · rw [take_succ_of hx, take_succ_of hy, hj, hp]
      · repeat' (first | exact trivial | rfl | refine And.intro ?_ ?_)
        all_goals (conv => whnf)
        repeat' (first | exact trivial | rfl | refine And.intro ?_ ?_)
  · refine ⟨[], rfl, ?_, trivial⟩
    have hi' : i = a.length := by omega
    rw [hi', List.take_length, hab, List.take_length] at hj
    simp [mtV, Cpl.valOf, mtC, eqD, hj]

abbrev ordH (c : Cfg) (l : List (Int × Int)) : List HObj := [.box (cfgC c), .box [.gs 2], .arr 39 (r2 l)]

theorem orderFn_c (c : Cfg) (l : List (Int × Int)) (x : Re) (hc : c.cells.length ≤ 20) :
    CallsH Try.prog 70 [reV x, .c (.ptr 0 0 0), .c (.ptr 1 0 0)] (ordH c l) (B (decide (fitsP c l x))) (ordH c l) := by
  refine callsR_of tab mixed Try.func70 rfl (by decide) rfl rfl ?_
  conv => whnf
  refine ⟨_, _, fits_c c l x hc, ?_⟩
  conv => whnf
  refine ⟨[(0, some 0), (1, some 1), (2, some 2)], rfl, ?_⟩
  repeat' (first | exact trivial | rfl | refine And.intro ?_ ?_)
  all_goals (conv => whnf)
  repeat' (first | exact trivial | rfl | refine And.intro ?_ ?_)

/-- the first change that fits, or -1 -/
def FirstFit (c : Cfg) (l : List (Int × Int)) (xs : List Re) (k : Int) : Prop :=
  (k = -1 ∧ ∀ x ∈ xs, ¬ fitsP c l x) ∨ (∃ (n : Nat) (x : Re), k = n ∧ xs[n]? = some x ∧ fitsP c l x ∧ ∀ (j : Nat) (y : Re), j < n → xs[j]? = some y → ¬ fitsP c l y)

theorem firstFit_ex (c : Cfg) (l : List (Int × Int)) : ∀ xs : List Re, ∃ k, FirstFit c l xs k
  | [] => ⟨-1, .inl ⟨rfl, by simp⟩⟩
  | x :: r => by
    by_cases h : fitsP c l x
    · exact ⟨0, .inr ⟨0, x, rfl, by simp, h, fun j y hj => absurd hj (Nat.not_lt_zero j)⟩⟩
    obtain ⟨k, hk⟩ := firstFit_ex c l r
    rcases hk with ⟨rfl, hk⟩ | ⟨n, y, rfl, h1, h2, h3⟩
    · exact ⟨-1, .inl ⟨rfl, fun y hy => by
        rcases List.mem_cons.1 hy with rfl | hy
        · exact h
        · exact hk y hy⟩⟩
    · refine ⟨n + 1, .inr ⟨n + 1, y, by simp, by simpa using h1, h2, fun j z hj hz => ?_⟩⟩
      cases j with
      | zero => simp at hz; rw [← hz]; exact h
      | succ j => exact h3 j z (by omega) (by simpa using hz)

abbrev idxH (c : Cfg) (l : List (Int × Int)) (xs : List Re) : List HObj := [.arr 25 (rR xs), .box (cfgC c), .box [.gs 3], .arr 39 (r2 l)]

theorem index_c (c : Cfg) (l : List (Int × Int)) (xs : List Re) (hc : c.cells.length ≤ 20) (hx : xs.length ≤ 1000) (k : Int) (hk : FirstFit c l xs k) :
    CallsH Try.prog 69 [.c (.gs 0), .fn 70 [.ptr 1 0 0, .ptr 2 0 0]] (idxH c l xs) (I k) (idxH c l xs) := by
  refine callsR_of tab mixed Try.func69 rfl (by decide) rfl rfl ?_
  conv => whnf
  have hla := rR_len xs
  refine loopN tab mixed (fun i => i ≤ xs.length ∧ ∀ (j : Nat) (y : Re), j < i → xs[j]? = some y → ¬ fitsP c l y) xs.length (fun i => [(8, I i)]) (fun _ => []) 51 [] ⟨by omega, fun j y hj => absurd hj (Nat.not_lt_zero j)⟩ ?_
  conv => whnf
  refine ⟨?_, fun i ⟨hi, hj⟩ => ?_⟩
  · repeat' (first | exact trivial | rfl | refine And.intro ?_ ?_)
    all_goals (conv => whnf)
    repeat' (first | exact trivial | rfl | refine And.intro ?_ ?_)
  conv => whnf
  refine spD (fun h => ?_) (fun h => ?_) <;> conv => whnf
  · have hi' : i < xs.length := by omega
    obtain ⟨x, hx⟩ := get_of hi'
    refine ⟨by omega, by omega, ?_⟩
    conv => whnf
    refine ⟨_, rR_get hx, ?_⟩
    conv => whnf
    refine ⟨_, _, orderFn_c c l x hc, ?_⟩
    conv => whnf
    refine spD (fun hp => ?_) (fun hp => ?_) <;> conv => whnf
    · have hki : k = (i : Int) := by
        rcases hk with ⟨_, hk⟩ | ⟨n, y, rfl, h1, h2, h3⟩
        · exact absurd hp (hk x (List.mem_of_getElem? hx))
        · rcases Nat.lt_trichotomy n i with g | g | g
          · exact absurd h2 (hj n y g h1)
          · rw [g]
          · exact absurd hp (h3 i x g hx)
      refine ⟨[(0, some 0), (1, some 1), (2, some 2), (3, some 3)], rfl, ?_⟩
      rw [hki]
      repeat' (first | exact trivial | rfl | refine And.intro ?_ ?_)
      all_goals (conv => whnf)
      repeat' (first | exact trivial | rfl | refine And.intro ?_ ?_)
    · refine gv (by first | omega | (simp only []; omega) | (simp; omega)) (by first | omega | (simp only []; omega) | (simp; omega)) ?_
      conv => whnf
      refine ⟨⟨hi', hi', fun j y h1 h2 => ?_⟩, [], ?_⟩
      · rcases Nat.lt_or_ge j i with g | g
        · exact hj j y g h2
        · have : j = i := by omega
          subst this; rw [h2] at hx; simp at hx; rw [hx]; exact hp
      · repeat' (first | exact trivial | rfl | refine And.intro ?_ ?_)
        all_goals (conv => whnf)
        repeat' (first | exact trivial | rfl | refine And.intro ?_ ?_)
  · have hki : k = -1 := by
      rcases hk with ⟨hk, _⟩ | ⟨n, y, rfl, h1, h2, h3⟩
      · exact hk
      · have := (List.getElem?_eq_some_iff.1 h1).1
        exact absurd h2 (hj n y (by omega) h1)
    refine ⟨[(0, some 0), (1, some 1), (2, some 2), (3, some 3)], rfl, ?_⟩
    rw [hki]
    repeat' (first | exact trivial | rfl | refine And.intro ?_ ?_)
    all_goals (conv => whnf)
    repeat' (first | exact trivial | rfl | refine And.intro ?_ ?_)

/-! ### a list of changes -/

def putP (l : List (Int × Int)) (x : Re) : List (Int × Int) := l.set x.t.toNat (x.h, x.s)

def atN (l : List (Int × Int)) (xs : List Re) (i : Nat) : List (Int × Int) := (xs.take i).foldl putP l

theorem putP_len (l : List (Int × Int)) (x : Re) : (putP l x).length = l.length := by simp [putP]

theorem atN_succ {l : List (Int × Int)} {xs : List Re} {i : Nat} {x : Re} (h : xs[i]? = some x) : atN l xs (i + 1) = putP (atN l xs i) x := by
  unfold atN
  rw [take_succ_of h, List.foldl_append]; rfl

theorem foldl_len (xs : List Re) : ∀ l : List (Int × Int), (xs.foldl putP l).length = l.length := by
  induction xs with
  | nil => simp
  | cons x r ih => intro l; rw [List.foldl_cons, ih, putP_len]

theorem atN_len (l : List (Int × Int)) (xs : List Re) (i : Nat) : (atN l xs i).length = l.length := foldl_len _ _

def chk (c : Cfg) : List (Int × Int) → List Re → Nat → List (Int × Int) × Nat × Bool
  | l, [], n => (l, n, true)
  | l, x :: r, n => if fitsP c l x then chk c (putP l x) r (n + 1) else (l, n, false)

def check (c : Cfg) (l : List (Int × Int)) (xs : List Re) : List (Int × Int) × Nat × Bool := if Fit c l then chk c l xs 0 else ([], 0, false)

theorem drop_of {α : Type} {l : List α} {i : Nat} {x : α} (h : l[i]? = some x) : l.drop i = x :: l.drop (i + 1) := by
  obtain ⟨h1, h2⟩ := List.getElem?_eq_some_iff.1 h
  rw [List.drop_eq_getElem_cons h1, h2]

def Fitting (c : Cfg) (l : List (Int × Int)) (xs : List Re) (i : Nat) : Prop := ∀ (j : Nat) (x : Re), j < i → xs[j]? = some x → fitsP c (atN l xs j) x

theorem Fitting.succ {c : Cfg} {l : List (Int × Int)} {xs : List Re} {i : Nat} {x : Re} (h : Fitting c l xs i) (hx : xs[i]? = some x) (hf : fitsP c (atN l xs i) x) : Fitting c l xs (i + 1) := fun j y hj hy => by
  rcases Nat.lt_or_ge j i with g | g
  · exact h j y g hy
  · have : j = i := by omega
    subst this; rw [hx] at hy; simp at hy; rw [← hy]; exact hf

theorem chk_at {c : Cfg} {l : List (Int × Int)} {xs : List Re} : ∀ {i : Nat}, i ≤ xs.length → Fitting c l xs i → chk c l xs 0 = chk c (atN l xs i) (xs.drop i) i
  | 0, _, _ => by simp [atN]
  | i + 1, hi, h => by
    obtain ⟨x, hx⟩ := get_of (l := xs) (i := i) (by omega)
    rw [chk_at (i := i) (by omega) (fun j y hj hy => h j y (by omega) hy), drop_of hx, chk, if_pos (h i x (by omega) hx), atN_succ hx]

theorem chk_end {c : Cfg} {l : List (Int × Int)} {xs : List Re} (h : Fitting c l xs xs.length) : chk c l xs 0 = (atN l xs xs.length, xs.length, true) := by
  rw [chk_at (Nat.le_refl _) h, List.drop_length, chk]

theorem chk_stop {c : Cfg} {l : List (Int × Int)} {xs : List Re} {i : Nat} {x : Re} (hi : i ≤ xs.length) (h : Fitting c l xs i) (hx : xs[i]? = some x) (hn : ¬ fitsP c (atN l xs i) x) : chk c l xs 0 = (atN l xs i, i, false) := by
  rw [chk_at hi h, drop_of hx, chk, if_neg hn]

abbrev chkV (r : List (Int × Int) × Nat × Bool) : AV := .tup [.inl (.gs 0), .inl (.d (i64 r.2.1)), .inl (.d (.bool r.2.2))]

theorem r2_set (l : List (Int × Int)) (i : Nat) (x y : Int) : r2 (l.set i (x, y)) = (r2 l).set i [i64 x, i64 y] := by simp [r2, List.map_set]

theorem check_c (c : Cfg) (l : List (Int × Int)) (xs : List Re) (hc : c.cells.length ≤ 20) (hx : xs.length ≤ 1000) :
    CallsH Try.prog 26 [cfgV c, plV l, .c (.d (.sl (rR xs)))] [] (chkV (check c l xs)) [.arr 39 (r2 (check c l xs).1)] := by
  have hlx := rR_len xs
  refine callsR_of tab mixed Try.func26 rfl (by decide) rfl rfl ?_
  conv => whnf
  refine ⟨_, _, whole_c c hc, ?_⟩
  conv => whnf
  refine ⟨_, _, fit_c c (wholeU c) false l, ?_⟩
  conv => whnf
  refine spN (fun h => ?_) (fun hf => ?_) <;> conv => whnf
  · rw [show check c l xs = ([], 0, false) from if_neg h]
    refine ⟨[(0, none)], rfl, ?_⟩
    repeat' (first | exact trivial | rfl | refine And.intro ?_ ?_)
    all_goals (conv => whnf)
    repeat' (first | exact trivial | rfl | refine And.intro ?_ ?_)
  rw [show check c l xs = chk c l xs 0 from if_pos hf]
  have hlen := hf.len
  have hT := (good_of hf.val).tenants
  refine ⟨_, _, clone_c l (by omega), ?_⟩
  conv => whnf
  refine loopN tab mixed (fun i => i ≤ xs.length ∧ Fitting c l xs i) xs.length (fun i => [(21, I i)]) (fun i => [(1, .arr 39 (r2 (atN l xs i)))]) 51 [(1, some 1)] ⟨by omega, fun j y hj => absurd hj (Nat.not_lt_zero j)⟩ ?_
  conv => whnf
  refine ⟨?_, fun i ⟨hi, hj⟩ => ?_⟩
  · repeat' (first | exact trivial | rfl | refine And.intro ?_ ?_)
    all_goals (conv => whnf)
    repeat' (first | exact trivial | rfl | refine And.intro ?_ ?_)
  conv => whnf
  refine spD (fun h => ?_) (fun h => ?_) <;> conv => whnf
  · have hi' : i < xs.length := by omega
    obtain ⟨x, hx⟩ := get_of hi'
    have hal := atN_len l xs i
    have har := r2_len (atN l xs i)
    refine ⟨by omega, _, rR_get hx, ?_⟩
    conv => whnf
    refine ⟨_, _, fits_c c (atN l xs i) x hc, ?_⟩
    conv => whnf
    refine spN (fun hp => ?_) (fun hp => ?_) <;> conv => whnf
    · rw [chk_stop hi hj hx hp]
      refine ⟨[(0, some 1)], rfl, ?_⟩
      repeat' (first | exact trivial | rfl | refine And.intro ?_ ?_)
      all_goals (conv => whnf)
      repeat' (first | exact trivial | rfl | refine And.intro ?_ ?_)
    · have hp' := hp
      obtain ⟨_, ht, _⟩ := hp'
      obtain ⟨p, hpp⟩ := get_of (l := atN l xs i) (i := x.t.toNat) (by omega)
      refine ⟨by omega, by omega, ?_⟩
      conv => whnf
      refine ⟨_, r2_get hpp, ?_⟩
      conv => whnf
      refine gv (by first | omega | (simp only []; omega) | (simp; omega)) (by first | omega | (simp only []; omega) | (simp; omega)) ?_
      conv => whnf
      refine ⟨⟨hi', hi', hj.succ hx hp⟩, [(1, some 1)], ?_⟩
      repeat' (first | exact trivial | rfl | refine And.intro ?_ ?_)
      all_goals (conv => whnf)
      repeat' (first | exact trivial | rfl | refine And.intro ?_ ?_)
      rw [atN_succ hx, putP, r2_set]
  · have hi' : i = xs.length := by omega
    subst hi'
    rw [chk_end hj, ← hlx]
    refine ⟨[(0, some 1)], rfl, ?_⟩
    repeat' (first | exact trivial | rfl | refine And.intro ?_ ?_)
    all_goals (conv => whnf)
    repeat' (first | exact trivial | rfl | refine And.intro ?_ ?_)

theorem made_c (l : List (Int × Int)) (x : Re) (hl : l.length ≤ 1000) (hx : 0 ≤ x.t ∧ x.t < l.length) :
    CallsH Try.prog 67 [plV l, reV x] [] (.c (.gs 0)) [.arr 39 (r2 (putP l x))] := by
  have hla := r2_len l
  refine callsR_of tab mixed Try.func67 rfl (by decide) rfl rfl ?_
  conv => whnf
  refine ⟨fun r hr => by obtain ⟨x, _, rfl⟩ := List.mem_map.1 hr; simp [D.scalar], ⟨by simp; omega⟩, ?_⟩
  conv => whnf
  obtain ⟨p, hpp⟩ := get_of (l := l) (i := x.t.toNat) (by omega)
  refine ⟨by omega, by simp; omega, ?_⟩
  conv => whnf
  refine ⟨_, by simpa using r2_get hpp, ?_⟩
  conv => whnf
  refine ⟨[(0, some 2)], rfl, ?_⟩
  repeat' (first | exact trivial | rfl | refine And.intro ?_ ?_)
  all_goals (conv => whnf)
  repeat' (first | exact trivial | rfl | refine And.intro ?_ ?_)
  simp [putP, r2_set]

theorem refCheck_c (c : Cfg) (l : List (Int × Int)) (xs : List Re) (hx : xs.length ≤ 1000) :
    CallsH Try.prog 25 [cfgV c, plV l, .c (.d (.sl (rR xs)))] [] (chkV (check c l xs)) [.arr 39 (r2 (check c l xs).1)] := by
  have hlx := rR_len xs
  have hla := r2_len l
  refine callsR_of tab mixed Try.func25 rfl (by decide) rfl rfl ?_
  conv => whnf
  refine ⟨_, _, refValid21_c c l, ?_⟩
  conv => whnf
  refine spN (fun h => ?_) (fun hf => ?_) <;> conv => whnf
  · rw [show check c l xs = ([], 0, false) from if_neg h]
    refine ⟨[(0, none)], rfl, ?_⟩
    repeat' (first | exact trivial | rfl | refine And.intro ?_ ?_)
    all_goals (conv => whnf)
    repeat' (first | exact trivial | rfl | refine And.intro ?_ ?_)
  rw [show check c l xs = chk c l xs 0 from if_pos hf]
  have hlen := hf.len
  have hT := (good_of hf.val).tenants
  refine ⟨fun r hr => by obtain ⟨x, _, rfl⟩ := List.mem_map.1 hr; simp [D.scalar], ⟨by simp; omega⟩, ?_⟩
  conv => whnf
  refine loopN tab mixed (fun i => i ≤ xs.length ∧ Fitting c l xs i) xs.length (fun i => [(10, I i), (9, .c (.gs 2)), (17, .top)]) (fun i => [(2, .arr 39 (r2 (atN l xs i)))]) 51 [(2, some 2)] ⟨by omega, fun j y hj => absurd hj (Nat.not_lt_zero j)⟩ ?_
  conv => whnf
  refine ⟨?_, fun i ⟨hi, hj⟩ => ?_⟩
  · repeat' (first | exact trivial | rfl | refine And.intro ?_ ?_)
    all_goals (conv => whnf)
    repeat' (first | exact trivial | rfl | refine And.intro ?_ ?_)
  conv => whnf
  refine spD (fun h => ?_) (fun h => ?_) <;> conv => whnf
  · have hi' : i < xs.length := by omega
    obtain ⟨x, hx⟩ := get_of hi'
    have hal := atN_len l xs i
    have har := r2_len (atN l xs i)
    refine ⟨by kernel_rfl, ?_⟩
    conv => whnf
    refine ⟨by omega, _, rR_get hx, ?_⟩
    conv => whnf
    refine ⟨_, _, refFits_c c (atN l xs i) x, ?_⟩
    conv => whnf
    refine spN (fun hp => ?_) (fun hp => ?_) <;> conv => whnf
    · rw [chk_stop hi hj hx hp]
      refine ⟨[(0, some 2)], rfl, ?_⟩
      repeat' (first | exact trivial | rfl | refine And.intro ?_ ?_)
      all_goals (conv => whnf)
      repeat' (first | exact trivial | rfl | refine And.intro ?_ ?_)
    · have hp' := hp
      obtain ⟨_, ht, _⟩ := hp'
      refine ⟨by omega, _, rR_get hx, ?_⟩
      conv => whnf
      refine ⟨_, _, made_c (atN l xs i) x (by omega) ht, ?_⟩
      conv => whnf
      refine gv (by first | omega | (simp only []; omega) | (simp; omega)) (by first | omega | (simp only []; omega) | (simp; omega)) ?_
      conv => whnf
      refine ⟨⟨hi', hi', hj.succ hx hp⟩, [(2, some 51)], ?_⟩
      repeat' (first | exact trivial | rfl | refine And.intro ?_ ?_)
      all_goals (conv => whnf)
      repeat' (first | exact trivial | rfl | refine And.intro ?_ ?_)
      rw [atN_succ hx]
  · have hi' : i = xs.length := by omega
    subst hi'
    rw [chk_end hj, ← hlx]
    refine ⟨[(0, some 2)], rfl, ?_⟩
    repeat' (first | exact trivial | rfl | refine And.intro ?_ ?_)
    all_goals (conv => whnf)
    repeat' (first | exact trivial | rfl | refine And.intro ?_ ?_)

end Go.Proofs.Ytipabdkgidmjnaa
