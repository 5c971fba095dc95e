/- Contracts: MovesStuck, MovesNothing return true at every input. No conditions. -/
import Derived.Test.YtipabdkgidmjnaaLaw21
namespace Go.Proofs.Ytipabdkgidmjnaa
open Go Go.Cpl

theorem blk_nil_of {c : Cfg} {l : List (Int × Int)} : ∀ k, blk c l l k = []
  | 0 => rfl
  | k + 1 => by
    simp only [blk]
    split
    · rename_i a b ha hb
      rw [ha] at hb; simp at hb; subst hb
      rw [blk_nil_of k]; simp [nextOf]
    · exact blk_nil_of k

theorem blocked_same {c : Cfg} {l : List (Int × Int)} : blocked c l l = [] := by
  unfold blocked
  split
  · exact blk_nil_of _
  · rfl

theorem blocked_nil {c : Cfg} {l m : List (Int × Int)} (hf : Fit c l) (hf2 : Fit c m) : l = m ↔ blocked c l m = [] := by
  constructor
  · rintro rfl; exact blocked_same
  · intro h
    rw [show blocked c l m = blk c l m l.length from if_pos ⟨hf, hf2⟩] at h
    apply List.ext_getElem?
    intro i
    have hll : l.length = m.length := by rw [hf.len, hf2.len]
    rcases Nat.lt_or_ge i l.length with hi | hi
    · obtain ⟨a, ha⟩ := get_of hi
      obtain ⟨b, hb⟩ := get_of (l := m) (i := i) (by omega)
      by_cases hab : a = b
      · rw [ha, hb, hab]
      · exfalso
        have hne := next_ne (c := c) (t := i) hab
        obtain ⟨x, hx⟩ := List.exists_mem_of_ne_nil _ hne
        have := mem_blk (k := l.length) ha hb hx hi
        rw [h] at this; cases this
    · rw [List.getElem?_eq_none hi, List.getElem?_eq_none (by omega)]

theorem OrdP.chk {c : Cfg} {l to_ : List (Int × Int)} {N : Nat} {s : Nat → OS} (hf : Fit c l) (hP : OrdP c l to_ N s) : check c l (s N).2 = ((s N).1, (s N).2.length, true) := by
  have hJ := hP.inv N (Nat.le_refl _)
  rw [show check c l (s N).2 = Go.Proofs.Ytipabdkgidmjnaa.chk c l (s N).2 0 from if_pos hf, chk_end hJ.fitting, ← hJ.at_]

theorem OrdP.stuck {c : Cfg} {l to_ : List (Int × Int)} {N : Nat} {s : Nat → OS} (hP : OrdP c l to_ N s) : ∀ x ∈ blocked c (s N).1 to_, ¬ fitsP c (s N).1 x := by
  have h := hP.last
  unfold ordStep at h
  split at h
  · rename_i hn
    intro x hx
    simpa using List.find?_eq_none.1 hn x hx
  · cases h

theorem OrdP.le {c : Cfg} {l to_ : List (Int × Int)} {N : Nat} {s : Nat → OS} (hf : Fit c l) (hP : OrdP c l to_ N s) : (s N).2.length ≤ 96 := by
  have hJ := hP.inv N (Nat.le_refl _)
  have h1 := hJ.len
  have h2 := mz_le c l to_
  have h3 := (good_of hf.val).tenants
  have h4 := hf.len
  omega

set_option maxRecDepth 100000 in
set_option maxHeartbeats 4000000 in
theorem movesStuck_c (l a b : List Int) : CallsH Try.prog 6 [.c (.d (.sl (r1 l))), .c (.d (.sl (r1 a))), .c (.d (.sl (r1 b)))] [] (B true) [] := by
  obtain ⟨c, hm, hconf⟩ := config_c l
  have hf := hm.fit21 a
  have hpl := hm.places21 a
  generalize pl a c c.tenants.length = from_ at hf hpl
  have hf2 := hm.fit21 b
  have hpl2 := hm.places21 b
  generalize pl b c c.tenants.length = to_ at hf2 hpl2
  have hg := good_of hf.val
  have hc : c.cells.length ≤ 20 := by have := hg.cells; omega
  have hT := hg.tenants
  obtain ⟨N, s, hP⟩ := ord_made hf hf2
  have hle := hP.le hf
  have hJ := hP.inv N (Nat.le_refl _)
  have e1 := frozenT rfl (order21_c c from_ to_ hf hf2 hP)
  have e2 := check_c c from_ (s N).2 hc (by omega)
  rw [hP.chk hf] at e2
  have e2 := frozenT rfl e2
  have e3 := (blocked_c c (s N).1 to_ hc).frozen
  have hst := hP.stuck
  have hbn := blocked_nil hJ.fit hf2
  have hbl : (blocked c (s N).1 to_).length ≤ 1000 := by
    rw [show blocked c (s N).1 to_ = blk c (s N).1 to_ (s N).1.length from if_pos ⟨hJ.fit, hf2⟩]
    have := blk_len c (s N).1 to_ (s N).1.length
    have := hJ.fit.len
    omega
  simp only at e2
  generalize blocked c (s N).1 to_ = left at e3 hst hbn hbl
  generalize hat : (s N).1 = at_ at *
  generalize hdn : (s N).2 = done at *
  have hrd := rR_len done
  have hrl := rR_len left
  refine callsR_of tab mixed Try.func6 rfl (by decide) rfl rfl ?_
  conv => whnf
  refine ⟨_, _, light_c l, ?_⟩
  conv => whnf
  refine spN (fun h => ?_) (fun h => ?_) <;> conv => whnf
  · refine ⟨_, _, awake21_c, ?_⟩
    conv => whnf
    exact ⟨[], rfl, rfl, trivial⟩
  refine ⟨_, _, light_c a, ?_⟩
  conv => whnf
  refine spN (fun h => ?_) (fun h => ?_) <;> conv => whnf
  · refine ⟨_, _, awake21_c, ?_⟩
    conv => whnf
    exact ⟨[], rfl, rfl, trivial⟩
  refine ⟨_, _, light_c b, ?_⟩
  conv => whnf
  refine spN (fun h => ?_) (fun h => ?_) <;> conv => whnf
  · refine ⟨_, _, awake21_c, ?_⟩
    conv => whnf
    exact ⟨[], rfl, rfl, trivial⟩
  refine ⟨_, _, hconf, ?_⟩
  conv => whnf
  refine ⟨by kernel_rfl, ?_⟩
  conv => whnf
  refine ⟨_, _, hpl, ?_⟩
  conv => whnf
  refine ⟨_, _, hpl2, ?_⟩
  conv => whnf
  refine ⟨_, _, e1, ?_⟩
  conv => whnf
  refine ⟨_, _, e2, ?_⟩
  conv => whnf
  refine spNe (fun h => by omega) (fun _ => ?_)
  conv => whnf
  refine ⟨fun h => absurd h (by decide), fun _ => ?_⟩
  conv => whnf
  refine ⟨_, _, e3, ?_⟩
  conv => whnf
  refine loopN tab mixed (fun i => i ≤ left.length) left.length (fun i => [(16, I i)]) (fun _ => []) 51 [] (by omega) ?_
  conv => whnf
  refine ⟨?_, fun i hi => ?_⟩
  · repeat' (first | exact trivial | rfl | refine And.intro ?_ ?_)
    all_goals (conv => whnf)
    repeat' (first | exact trivial | rfl | refine And.intro ?_ ?_)
  conv => whnf
  refine spD (fun h => ?_) (fun h => ?_) <;> conv => whnf
  · have hi' : i < left.length := by omega
    obtain ⟨x, hx⟩ := get_of hi'
    refine ⟨by kernel_rfl, ?_⟩
    conv => whnf
    refine ⟨by omega, _, rR_get hx, ?_⟩
    conv => whnf
    refine ⟨_, _, fits_c c at_ x hc, ?_⟩
    conv => whnf
    refine spD (fun hp => absurd hp (hst x (List.mem_of_getElem? hx))) (fun _ => ?_)
    conv => whnf
    refine gv (by first | omega | (simp only []; omega) | (simp; omega)) (by first | omega | (simp only []; omega) | (simp; omega)) ?_
    conv => whnf
    refine ⟨⟨hi', hi'⟩, [], ?_⟩
    repeat' (first | exact trivial | rfl | refine And.intro ?_ ?_)
    all_goals (conv => whnf)
    repeat' (first | exact trivial | rfl | refine And.intro ?_ ?_)
  · refine ⟨_, _, awake21_c, ?_⟩
    conv => whnf
    refine ⟨fun _ => ?_, fun h => by cases h⟩
    conv => whnf
    refine ⟨[], rfl, ?_, trivial⟩
    have e : (((rR left).length : Int) == 0) = decide (at_ = to_) := by
      rw [Bool.eq_iff_iff, decide_eq_true_iff, hbn, beq_iff_eq]
      constructor
      · intro h; exact List.length_eq_zero_iff.1 (by omega)
      · intro h; rw [h]; rfl
    rw [e]
    simp [mtV, Cpl.valOf, mtC, eqD]

/-! ### how often each tenant is changed -/

def cnL (n : Nat) (xs : List Re) : List Int := (List.range n).map fun (t : Nat) => ((xs.countP (fun x => decide (x.t = (t : Int))) : Nat) : Int)

theorem cnL_len (n : Nat) (xs : List Re) : (cnL n xs).length = n := by simp [cnL]

theorem cnL_get {n t : Nat} (xs : List Re) (h : t < n) : (cnL n xs)[t]? = some ((xs.countP (fun x => decide (x.t = (t : Int))) : Nat) : Int) := by
  simp [cnL, h]

theorem cnL_nil (n : Nat) : r1 (cnL n []) = List.replicate n [i64 0] := by
  apply List.ext_getElem?
  intro i
  rcases Nat.lt_or_ge i n with h | h
  · rw [r1_get (cnL_get [] h)]; simp [h]
  · rw [List.getElem?_eq_none (by rw [r1_len, cnL_len]; exact h), List.getElem?_eq_none (by simpa using h)]

theorem cnL_step {n : Nat} {xs : List Re} {x : Re} {t : Nat} (ht : x.t = t) : (cnL n xs).set t (((xs.countP (fun x => decide (x.t = (t : Int))) : Nat) : Int) + 1) = cnL n (xs ++ [x]) := by
  apply List.ext_getElem?
  intro i
  rcases Nat.lt_or_ge i n with h | h
  · rw [cnL_get _ h]
    by_cases he : t = i
    · subst he
      rw [List.getElem?_set_self (by rw [cnL_len]; exact h), List.countP_append]
      simp [ht]
    · rw [List.getElem?_set_ne he, cnL_get _ h, List.countP_append]
      have : ¬ ((t : Int) = (i : Int)) := by omega
      simp [ht, this]
  · rw [List.getElem?_eq_none (by rw [List.length_set, cnL_len]; exact h), List.getElem?_eq_none (by rw [cnL_len]; exact h)]

theorem OrdP.cnt {c : Cfg} {l to_ : List (Int × Int)} {N : Nat} {s : Nat → OS} (hf : Fit c l) (hf2 : Fit c to_) (hP : OrdP c l to_ N s) {t : Nat} (ht : t < l.length) : (s N).2.countP (fun x => decide (x.t = (t : Int))) ≤ 3 := by
  have hJ := hP.inv N (Nat.le_refl _)
  have hal : (s N).1.length = l.length := by rw [hJ.at_, atN_len]
  have h1 := hf.len
  have h2 := hf2.len
  obtain ⟨a0, h3⟩ := get_of (l := l) ht
  obtain ⟨a, h4⟩ := get_of (l := (s N).1) (i := t) (by omega)
  obtain ⟨b, h5⟩ := get_of (l := to_) (i := t) (by omega)
  have := hJ.cnt t a0 a b h3 h4 h5
  have := m1_le c a0 b
  omega

theorem countP_take_le {α : Type} (p : α → Bool) (l : List α) (i : Nat) : (l.take i).countP p ≤ l.countP p := by
  conv => rhs; rw [← List.take_append_drop i l, List.countP_append]
  omega

set_option maxRecDepth 100000 in
set_option maxHeartbeats 4000000 in
theorem movesNothing_c (l a b : List Int) : CallsH Try.prog 7 [.c (.d (.sl (r1 l))), .c (.d (.sl (r1 a))), .c (.d (.sl (r1 b)))] [] (B true) [] := by
  obtain ⟨c, hm, hconf⟩ := config_c l
  have hf := hm.fit21 a
  have hpl := hm.places21 a
  generalize pl a c c.tenants.length = from_ at hf hpl
  have hf2 := hm.fit21 b
  have hpl2 := hm.places21 b
  generalize pl b c c.tenants.length = to_ at hf2 hpl2
  have hg := good_of hf.val
  have hT := hg.tenants
  have hlen := hf.len
  obtain ⟨N, s, hP⟩ := ord_made hf hf2
  have hP0 : OrdP c from_ from_ 0 (fun _ => (from_, [])) := ord_inv hf hf rfl (fun i hi => absurd hi (Nat.not_lt_zero i)) (by unfold ordStep; rw [blocked_same]; rfl)
  have e0 := frozenT rfl (order21_c c from_ from_ hf hf hP0)
  rw [decide_eq_true rfl] at e0
  have e1 := frozenT rfl (order21_c c from_ to_ hf hf2 hP)
  have hle := hP.le hf
  have hcn : ∀ t, t < from_.length → (s N).2.countP (fun x => decide (x.t = (t : Int))) ≤ 3 := fun t ht => hP.cnt hf hf2 ht
  have hten := (hP.inv N (Nat.le_refl _)).ten
  generalize hdn : (s N).2 = done at *
  have hrd := rR_len done
  have hrT := rT_len c.tenants
  have hni := cnL_nil c.tenants.length
  refine callsR_of tab mixed Try.func7 rfl (by decide) rfl rfl ?_
  conv => whnf
  refine ⟨_, _, light_c l, ?_⟩
  conv => whnf
  refine spN (fun h => ?_) (fun h => ?_) <;> conv => whnf
  · refine ⟨_, _, awake21_c, ?_⟩
    conv => whnf
    exact ⟨[], rfl, rfl, trivial⟩
  refine ⟨_, _, light_c a, ?_⟩
  conv => whnf
  refine spN (fun h => ?_) (fun h => ?_) <;> conv => whnf
  · refine ⟨_, _, awake21_c, ?_⟩
    conv => whnf
    exact ⟨[], rfl, rfl, trivial⟩
  refine ⟨_, _, light_c b, ?_⟩
  conv => whnf
  refine spN (fun h => ?_) (fun h => ?_) <;> conv => whnf
  · refine ⟨_, _, awake21_c, ?_⟩
    conv => whnf
    exact ⟨[], rfl, rfl, trivial⟩
  refine ⟨_, _, hconf, ?_⟩
  conv => whnf
  refine ⟨by kernel_rfl, ?_⟩
  conv => whnf
  refine ⟨_, _, hpl, ?_⟩
  conv => whnf
  refine ⟨_, _, hpl2, ?_⟩
  conv => whnf
  refine ⟨_, _, e0, ?_⟩
  conv => whnf
  refine ⟨_, _, e1, ?_⟩
  conv => whnf
  refine ⟨by omega, by omega, ⟨by omega⟩, ?_⟩
  conv => whnf
  rw [show ((rT c.tenants).length : Int).toNat = c.tenants.length by omega, ← hni]
  refine loopN tab mixed (fun i => i ≤ done.length) done.length (fun i => [(15, I i)]) (fun i => [(1, .arr 3 (r1 (cnL c.tenants.length (done.take i))))]) 51 [(1, some 1)] (by omega) ?_
  conv => whnf
  refine ⟨?_, fun i hi => ?_⟩
  · repeat' (first | exact trivial | rfl | refine And.intro ?_ ?_)
    all_goals (conv => whnf)
    repeat' (first | exact trivial | rfl | refine And.intro ?_ ?_)
  conv => whnf
  have hcl := cnL_len c.tenants.length (done.take i)
  have hcr := r1_len (cnL c.tenants.length (done.take i))
  refine spD (fun h => ?_) (fun h => ?_) <;> conv => whnf
  · have hi' : i < done.length := by omega
    obtain ⟨x, hx⟩ := get_of hi'
    have hxt := hten x (List.mem_of_getElem? hx)
    obtain ⟨t, ht⟩ : ∃ t : Nat, x.t = t := ⟨x.t.toNat, by omega⟩
    have htn : t < c.tenants.length := by omega
    have hg0 := cnL_get (done.take i) htn
    have hcle := countP_take_le (fun x => decide (x.t = (t : Int))) done (i + 1)
    have hc3 := hcn t (by omega)
    rw [take_succ_of hx, List.countP_append] at hcle
    simp [ht] at hcle
    have hst := cnL_step (n := c.tenants.length) (xs := done.take i) ht
    generalize hq : (done.take i).countP (fun x => decide (x.t = (t : Int))) = q at *
    refine ⟨by omega, _, rR_get hx, ?_⟩
    conv => whnf
    refine spD (fun h => by omega) (fun _ => ?_)
    conv => whnf
    refine ⟨by omega, _, rR_get hx, ?_⟩
    conv => whnf
    refine spD (fun h => by omega) (fun _ => ?_)
    conv => whnf
    refine ⟨by omega, _, rR_get hx, ?_⟩
    conv => whnf
    refine ⟨by omega, by omega, ?_⟩
    conv => whnf
    have hrow : (r1 (cnL c.tenants.length (done.take i)))[x.t.toNat]? = some [i64 q] := by rw [ht]; exact r1_get hg0
    refine ⟨_, hrow, ?_⟩
    conv => whnf
    refine gv (by first | omega | (simp only []; omega) | (simp; omega)) (by first | omega | (simp only []; omega) | (simp; omega)) ?_
    conv => whnf
    refine ⟨by omega, by omega, ?_⟩
    conv => whnf
    refine ⟨_, hrow, ?_⟩
    conv => whnf
    have hset : (r1 (cnL c.tenants.length (done.take i))).set x.t.toNat [i64 ((q : Int) + 1)] = r1 (cnL c.tenants.length (done.take (i + 1))) := by
      rw [← r1_set, ht, take_succ_of hx, ← hst]; rfl
    rw [hset]
    have hrow2 : (r1 (cnL c.tenants.length (done.take (i + 1))))[x.t.toNat]? = some [i64 ((q : Int) + 1)] := by
      rw [← hset, List.getElem?_set_self (by omega)]
    have hcr2 := r1_len (cnL c.tenants.length (done.take (i + 1)))
    have hcl2 := cnL_len c.tenants.length (done.take (i + 1))
    refine ⟨by omega, _, rR_get hx, ?_⟩
    conv => whnf
    refine ⟨by omega, by omega, ?_⟩
    conv => whnf
    refine ⟨_, hrow2, ?_⟩
    conv => whnf
    refine spD (fun h => by omega) (fun _ => ?_)
    conv => whnf
    refine gv (by first | omega | (simp only []; omega) | (simp; omega)) (by first | omega | (simp only []; omega) | (simp; omega)) ?_
    conv => whnf
    refine ⟨⟨hi', hi'⟩, [(1, some 1)], ?_⟩
    repeat' (first | exact trivial | rfl | refine And.intro ?_ ?_)
    all_goals (conv => whnf)
    repeat' (first | exact trivial | rfl | refine And.intro ?_ ?_)
  · refine ⟨_, _, awake21_c, ?_⟩
    conv => whnf
    refine ⟨fun _ => ?_, fun h => by cases h⟩
    conv => whnf
    refine ⟨fun _ => ?_, fun h => by cases h⟩
    conv => whnf
    exact ⟨[], rfl, rfl, trivial⟩

end Go.Proofs.Ytipabdkgidmjnaa
