/- Contracts: solve.Vars; the plain search. Conditions: those ahead of each theorem. -/
import Derived.Test.YtelnligfebjjiaaGreatCertF
import Derived.Test.YtelnligfebjjiaaGreatOrd
namespace Go.Proofs.YtelnligfebjjiaaGreat
open Go Go.Cpl

def varsT (c : Cfg) (t : Int) : List Int := if single c t = true then [2 * t] else [2 * t, 2 * t + 1]

def varsOf (c : Cfg) : List Int → List Int
  | [] => []
  | t :: r => varsT c t ++ varsOf c r

def vars (c : Cfg) : List Int := varsOf c (order c)

theorem varsOf_app (c : Cfg) : ∀ (l : List Int) (t : Int), varsOf c (l ++ [t]) = varsOf c l ++ varsT c t
  | [], t => by simp [varsOf]
  | x :: l, t => by simp [varsOf, varsOf_app c l t]

theorem varsOf_len (c : Cfg) : ∀ l : List Int, (varsOf c l).length ≤ 2 * l.length
  | [] => by simp [varsOf]
  | t :: r => by
    have := varsOf_len c r
    have h : (varsT c t).length ≤ 2 := by unfold varsT; split <;> simp
    simp only [varsOf, List.length_append, List.length_cons]; omega

theorem varsOf_mem {c : Cfg} {v : Int} : ∀ {l : List Int}, v ∈ varsOf c l ↔ ∃ t ∈ l, v ∈ varsT c t
  | [] => by simp [varsOf]
  | t :: r => by simp [varsOf, varsOf_mem (l := r)]

theorem varsT_mem {c : Cfg} {v t : Int} : v ∈ varsT c t ↔ v = 2 * t ∨ (single c t = false ∧ v = 2 * t + 1) := by
  unfold varsT
  split
  · rename_i h; simp [h]
  · rename_i h
    have : single c t = false := by simpa using h
    simp [this]

theorem vars_rng {c : Cfg} {v : Int} (h : v ∈ vars c) : 0 ≤ v ∧ v / 2 < c.tenants.length := by
  obtain ⟨t, ht, hv⟩ := varsOf_mem.1 h
  have := ((order_ok c).2.2 t).1 ht
  rcases varsT_mem.1 hv with rfl | ⟨_, rfl⟩ <;> omega

set_option maxRecDepth 100000 in
theorem vars_c (c : Cfg) (u : Int) (hd : Bool) (hv : valid5 c = 0) (hT : c.tenants.length ≤ 12) : CallsH Tryz.prog 34 [probV c u hd] [] (.c (.gs 0)) [.arr 3 (r1 (vars c))] := by
  have hg := good_of hv
  have hol := (order_ok c).1
  have hor := r1_len (order c)
  refine callsR_of tab mixed Tryz.func34 rfl (by decide) rfl rfl ?_
  conv => whnf
  refine ⟨_, _, tenValid_c c, ?_⟩
  conv => whnf
  refine spNe (fun h => absurd hv h) (fun _ => ?_)
  conv => whnf
  refine ⟨_, _, (order_c c hT).frozen, ?_⟩
  conv => whnf
  refine loopN tab mixed (fun i => i ≤ (order c).length) (order c).length (fun i => [(14, I i), (3, .c (.gs 50))]) (fun i => [(50, .arr 3 (r1 (varsOf c ((order c).take i))))]) 51 [(50, none)] (by omega) ?_
  conv => whnf
  refine ⟨?_, fun i hi => ?_⟩
  · repeat' (first | exact trivial | rfl | refine And.intro ?_ ?_)
    all_goals (conv => whnf)
    repeat' (first | exact trivial | rfl | refine And.intro ?_ ?_)
  conv => whnf
  have hvl := varsOf_len c ((order c).take i)
  have hvr := r1_len (varsOf c ((order c).take i))
  have htl : ((order c).take i).length ≤ 12 := by simp; omega
  refine spD (fun h => ?_) (fun h => ?_) <;> conv => whnf
  · have hi' : i < (order c).length := by omega
    obtain ⟨t, ht⟩ := get_of hi'
    have htr := ((order_ok c).2.2 t).1 (List.mem_of_getElem? ht)
    have hst : varsOf c ((order c).take (i + 1)) = varsOf c ((order c).take i) ++ varsT c t := by rw [take_succ_of ht, varsOf_app]
    refine ⟨by omega, _, r1_get ht, ?_⟩
    conv => whnf
    refine gv (by first | omega | (simp only []; omega) | (simp; omega)) (by first | omega | (simp only []; omega) | (simp; omega)) ?_
    conv => whnf
    refine ⟨row1 _ rfl, ⟨by simp; omega⟩, ?_⟩
    conv => whnf
    refine ⟨_, _, single_c c u hd t hg, ?_⟩
    conv => whnf
    rcases hs : single c t with _ | _
    · refine ⟨fun _ => ?_, fun h => (by cases h)⟩
      conv => whnf
      refine gv (by first | omega | (simp only []; omega) | (simp; omega)) (by first | omega | (simp only []; omega) | (simp; omega)) ?_
      conv => whnf
      refine gv (by first | omega | (simp only []; omega) | (simp; omega)) (by first | omega | (simp only []; omega) | (simp; omega)) ?_
      conv => whnf
      refine ⟨row1 _ rfl, ⟨by simp; omega⟩, ?_⟩
      conv => whnf
      refine gv (by first | omega | (simp only []; omega) | (simp; omega)) (by first | omega | (simp only []; omega) | (simp; omega)) ?_
      conv => whnf
      refine ⟨⟨hi', hi'⟩, [(50, some 54)], ?_⟩
      repeat' (first | exact trivial | rfl | refine And.intro ?_ ?_)
      all_goals (conv => whnf)
      repeat' (first | exact trivial | rfl | refine And.intro ?_ ?_)
      rw [hst]
      simp [varsT, hs, r1]
    · refine ⟨fun h => (by cases h), fun _ => ?_⟩
      conv => whnf
      refine gv (by first | omega | (simp only []; omega) | (simp; omega)) (by first | omega | (simp only []; omega) | (simp; omega)) ?_
      conv => whnf
      refine ⟨⟨hi', hi'⟩, [(50, some 52)], ?_⟩
      repeat' (first | exact trivial | rfl | refine And.intro ?_ ?_)
      all_goals (conv => whnf)
      repeat' (first | exact trivial | rfl | refine And.intro ?_ ?_)
      rw [hst]
      simp [varsT, hs, r1]
  · have hi' : i = (order c).length := by omega
    refine ⟨[(0, some 50)], rfl, ?_⟩
    rw [show vars c = varsOf c ((order c).take i) by rw [hi', List.take_length]; rfl]
    repeat' (first | exact trivial | rfl | refine And.intro ?_ ?_)
    all_goals (conv => whnf)
    repeat' (first | exact trivial | rfl | refine And.intro ?_ ?_)

/-! ### the search -/

structure SR where
  code : Nat
  l : List (Int × Int)
  tree : List Nd
  cnt : Nat

def runC (f : Nat → List Nd → Nat → SR) (l : List (Int × Int)) : List Nat → List Nd → Nat → SR
  | [], tree, cnt => ⟨1, l, tree, cnt⟩
  | i :: r, tree, cnt => if (f i tree cnt).code = 1 then runC f l r (f i tree cnt).tree (f i tree cnt).cnt else f i tree cnt

def runN (c : Cfg) (u : Int) (hd : Bool) : Nat → List (Int × Int) → List Nd → Nat → SR
  | fuel, l, tree, cnt => if 2048 < cnt + 1 then ⟨2, l, tree, cnt + 1⟩ else match partialL c u hd l with
    | b :: _ => ⟨1, l, tree ++ [⟨2, 0, 0, b⟩], cnt + 1⟩
    | [] => match exc c u l with
      | some s => ⟨1, l, tree ++ [⟨3, 0, s, brk0⟩], cnt + 1⟩
      | none => match fuel with
        | 0 => ⟨0, l, tree, cnt + 1⟩
        | fuel + 1 => runC (fun i tree cnt => runN c u hd fuel (setV l (((vars c)[(vars c).length - (fuel + 1)]?).getD 0) i) tree cnt) l (usK u c.cells.length) (tree ++ [⟨1, ((vars c)[(vars c).length - (fuel + 1)]?).getD 0, 0, brk0⟩]) (cnt + 1)

theorem runC_app (f : Nat → List Nd → Nat → SR) (l : List (Int × Int)) : ∀ (a b : List Nat) (tree : List Nd) (cnt : Nat), runC f l (a ++ b) tree cnt = if (runC f l a tree cnt).code = 1 then runC f l b (runC f l a tree cnt).tree (runC f l a tree cnt).cnt else runC f l a tree cnt
  | [], b, tree, cnt => by simp [runC]
  | i :: r, b, tree, cnt => by
    simp only [List.cons_append, runC]
    split
    · exact runC_app f l r b _ _
    · rfl

/-- what is known of each result: the count is at most 2049, the tree no longer than the count -/
structure SRok (c : Cfg) (l0 : List (Int × Int)) (t0 : List Nd) (n0 : Nat) (s : SR) : Prop where
  code : s.code = 0 ∨ s.code = 1 ∨ s.code = 2
  cnt : n0 < s.cnt
  tree : s.tree.length + n0 ≤ t0.length + s.cnt
  le : s.cnt ≤ 2049
  lim : s.code ≠ 2 → s.cnt ≤ 2048
  back : s.code = 1 → s.l = l0
  fit : Fit c s.l

theorem runC_ok {c : Cfg} {f : Nat → List Nd → Nat → SR} {l : List (Int × Int)} (hf : Fit c l) (hF : ∀ i tree cnt, cnt ≤ 2048 → i < c.cells.length → ∃ l', SRok c l' tree cnt (f i tree cnt)) : ∀ (a : List Nat) (tree : List Nd) (cnt : Nat), (∀ i ∈ a, i < c.cells.length) → cnt ≤ 2048 →
    (runC f l a tree cnt).code ≤ 2 ∧ cnt ≤ (runC f l a tree cnt).cnt ∧ (runC f l a tree cnt).tree.length + cnt ≤ tree.length + (runC f l a tree cnt).cnt ∧ (runC f l a tree cnt).cnt ≤ 2049 ∧ ((runC f l a tree cnt).code ≠ 2 → (runC f l a tree cnt).cnt ≤ 2048) ∧ ((runC f l a tree cnt).code = 1 → (runC f l a tree cnt).l = l) ∧ Fit c (runC f l a tree cnt).l
  | [], tree, cnt, _, hc => ⟨by simp [runC], by simp [runC], by simp [runC], by simp [runC]; omega, fun _ => by simpa [runC] using hc, fun _ => rfl, hf⟩
  | i :: r, tree, cnt, ha, hc => by
    obtain ⟨l', h⟩ := hF i tree cnt hc (ha i (by simp))
    rw [runC]
    have h1 := h.cnt
    have h2 := h.tree
    have h3 := h.le
    split
    · rename_i h1
      have ih := runC_ok hf hF r (f i tree cnt).tree (f i tree cnt).cnt (fun j hj => ha j (by simp [hj])) (h.lim (by omega))
      obtain ⟨i1, i2, i3, i4, i5, i6, i7⟩ := ih
      exact ⟨i1, by omega, by omega, i4, i5, i6, i7⟩
    · rename_i hne
      refine ⟨?_, by omega, by omega, h3, h.lim, fun he => absurd he hne, h.fit⟩
      rcases h.code with h | h | h <;> omega

theorem usK_lt {u : Int} {k i : Nat} (h : i ∈ usK u k) : i < k := by
  unfold usK at h
  simp at h; exact h.1

theorem runN_ok {c : Cfg} (u : Int) (hd : Bool) : ∀ (fuel : Nat) (l : List (Int × Int)) (tree : List Nd) (cnt : Nat), Fit c l → cnt ≤ 2048 → SRok c l tree cnt (runN c u hd fuel l tree cnt)
  | fuel, l, tree, cnt, hf, hc => by
    unfold runN
    split
    · rename_i h
      exact ⟨.inr (.inr rfl), by simp, by simp, by simp; omega, fun h => absurd rfl h, fun h => by simp at h, hf⟩
    rename_i hle
    split
    · exact ⟨.inr (.inl rfl), by simp, by simp; omega, by simp; omega, fun _ => by simp; omega, fun _ => rfl, hf⟩
    split
    · exact ⟨.inr (.inl rfl), by simp, by simp; omega, by simp; omega, fun _ => by simp; omega, fun _ => rfl, hf⟩
    split
    · exact ⟨.inl rfl, by simp, by simp, by simp; omega, fun _ => by simp; omega, fun h => by simp at h, hf⟩
    · rename_i fuel'
      have := runC_ok (c := c) (f := fun i tree cnt => runN c u hd fuel' (setV l (((vars c)[(vars c).length - (fuel' + 1)]?).getD 0) i) tree cnt) (l := l) hf (fun i tree cnt hc hi => ⟨_, runN_ok u hd fuel' _ tree cnt (fit_setV hf ⟨by omega, by omega⟩) hc⟩) (usK u c.cells.length) (tree ++ [⟨1, ((vars c)[(vars c).length - (fuel' + 1)]?).getD 0, 0, brk0⟩]) (cnt + 1) (fun i hi => usK_lt hi) (by omega)
      obtain ⟨i1, i2, i3, i4, i5, i6, i7⟩ := this
      simp only [List.length_append, List.length_cons, List.length_nil] at i3
      exact ⟨by omega, by omega, by omega, i4, i5, i6, i7⟩

theorem varsOf_nodup (c : Cfg) : ∀ {l : List Int}, l.Nodup → (varsOf c l).Nodup
  | [], _ => by simp [varsOf]
  | t :: r, h => by
    obtain ⟨h1, h2⟩ := List.nodup_cons.1 h
    rw [varsOf]
    refine List.nodup_append.2 ⟨?_, varsOf_nodup c h2, fun a ha b hb hab => ?_⟩
    · unfold varsT
      split
      · simp
      · simp; omega
    · subst hab
      obtain ⟨t', ht', hb⟩ := varsOf_mem.1 hb
      have e1 : a / 2 = t := by rcases varsT_mem.1 ha with rfl | ⟨_, rfl⟩ <;> omega
      have e2 : a / 2 = t' := by rcases varsT_mem.1 hb with rfl | ⟨_, rfl⟩ <;> omega
      exact h1 (by rw [← e1, e2]; exact ht')

theorem vars_nodup (c : Cfg) : (vars c).Nodup := by
  refine varsOf_nodup c ?_
  have := (order_ok c).2.1
  refine List.Pairwise.imp (fun {a b} h => ?_) this
  rintro rfl
  have := (bef_iff c a a).1 h
  omega

theorem vars_ne {c : Cfg} {i j : Nat} {v w : Int} (hv : (vars c)[i]? = some v) (hw : (vars c)[j]? = some w) (h : i ≠ j) : v ≠ w := fun e => by
  subst e
  exact h (by
    have h1 := (List.getElem?_eq_some_iff.1 hv).1
    exact (List.getElem?_inj h1 (vars_nodup c)).1 (by rw [hv, hw]))

theorem getV_setV_ne {l : List (Int × Int)} {v w x : Int} (hv : 0 ≤ v) (hw : 0 ≤ w) (h : v ≠ w) : getV (setV l v x) w = getV l w := by
  by_cases hd : (v / 2).toNat = (w / 2).toNat
  · have hvw : v / 2 = w / 2 := by omega
    unfold getV setV
    by_cases hlt : (v / 2).toNat < l.length
    · obtain ⟨p, hp⟩ := get_of hlt
      rw [hd] at hp hlt
      by_cases h1 : v % 2 = 1 <;> by_cases h2 : w % 2 = 1
      · omega
      · rw [if_pos h1, if_neg h2, if_neg h2, hd, List.getElem?_set_self hlt]; simp
      · rw [if_neg h1, if_pos h2, if_pos h2, hd, List.getElem?_set_self hlt]; simp
      · omega
    · by_cases h1 : v % 2 = 1
      · rw [if_pos h1, List.set_eq_of_length_le (by omega)]
      · rw [if_neg h1, List.set_eq_of_length_le (by omega)]
  · unfold getV setV
    by_cases h1 : v % 2 = 1
    · rw [if_pos h1, List.getElem?_set_ne hd]
    · rw [if_neg h1, List.getElem?_set_ne hd]

/-- the variables from a place on are open -/
def OpnV (c : Cfg) (l : List (Int × Int)) (fuel : Nat) : Prop := ∀ (j : Nat) (w : Int), (vars c).length - fuel ≤ j → (vars c)[j]? = some w → getV l w = -1

theorem OpnV.next {c : Cfg} {l : List (Int × Int)} {fuel : Nat} (h : OpnV c l (fuel + 1)) (hf : fuel + 1 ≤ (vars c).length) {v : Int} (hv : (vars c)[(vars c).length - (fuel + 1)]? = some v) (x : Int) : OpnV c (setV l v x) fuel := fun j w hj hw => by
  rw [getV_setV_ne (vars_rng (List.mem_of_getElem? hv)).1 (vars_rng (List.mem_of_getElem? hw)).1 (vars_ne hv hw (by omega))]
  exact h j w (by omega) hw

theorem runC_skip {f : Nat → List Nd → Nat → SR} {l : List (Int × Int)} {u : Int} {k : Nat} {t : List Nd} {n : Nat} (hb : bit u k = false) : runC f l (usK u (k + 1)) t n = runC f l (usK u k) t n := by
  rw [usK_succ, hb]; simp

theorem runC_step {f : Nat → List Nd → Nat → SR} {l : List (Int × Int)} {u : Int} {k : Nat} {t : List Nd} {n : Nat} (hb : bit u k = true) (h1 : (runC f l (usK u k) t n).code = 1) (h2 : (f k (runC f l (usK u k) t n).tree (runC f l (usK u k) t n).cnt).code = 1) :
    runC f l (usK u (k + 1)) t n = ⟨1, l, (f k (runC f l (usK u k) t n).tree (runC f l (usK u k) t n).cnt).tree, (f k (runC f l (usK u k) t n).tree (runC f l (usK u k) t n).cnt).cnt⟩ := by
  rw [usK_succ, if_pos hb, runC_app, if_pos h1, runC, if_pos h2, runC]

theorem runC_stop {f : Nat → List Nd → Nat → SR} {l : List (Int × Int)} {u : Int} {k m : Nat} {t : List Nd} {n : Nat} (hk : k < m) (hb : bit u k = true) (h1 : (runC f l (usK u k) t n).code = 1) (h2 : (f k (runC f l (usK u k) t n).tree (runC f l (usK u k) t n).cnt).code ≠ 1) :
    runC f l (usK u m) t n = f k (runC f l (usK u k) t n).tree (runC f l (usK u k) t n).cnt := by
  obtain ⟨r, hr⟩ := usK_split u (k := k + 1) (n := m) hk
  have e : runC f l (usK u (k + 1)) t n = f k (runC f l (usK u k) t n).tree (runC f l (usK u k) t n).cnt := by
    rw [usK_succ, if_pos hb, runC_app, if_pos h1, runC, if_neg h2]
  rw [hr, runC_app, e, if_neg h2]

end Go.Proofs.YtelnligfebjjiaaGreat
