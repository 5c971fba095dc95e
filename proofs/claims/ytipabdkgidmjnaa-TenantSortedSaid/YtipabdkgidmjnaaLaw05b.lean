/- Contracts: more laws of chapter 05 return true at every input. No conditions. -/
import Derived.Test.YtipabdkgidmjnaaLaw05
namespace Go.Proofs.Ytipabdkgidmjnaa
open Go Go.Cpl

def sumTo (f : Nat → Int) : Nat → Int
  | 0 => 0
  | k + 1 => sumTo f k + f k

theorem sumTo_congr {f g : Nat → Int} : ∀ {n : Nat}, (∀ i, i < n → f i = g i) → sumTo f n = sumTo g n
  | 0, _ => rfl
  | n + 1, h => by simp only [sumTo]; rw [sumTo_congr (n := n) fun i hi => h i (by omega), h n (by omega)]

theorem sumTo_add (f g : Nat → Int) : ∀ n, sumTo (fun i => f i + g i) n = sumTo f n + sumTo g n
  | 0 => rfl
  | n + 1 => by simp only [sumTo, sumTo_add f g n]; omega

theorem sumTo_one : ∀ n : Nat, sumTo (fun _ => 1) n = n
  | 0 => rfl
  | n + 1 => by simp only [sumTo, sumTo_one n]; omega

theorem sumTo_ind (b : Nat → Bool) (v w : Int) (hv : 0 ≤ v) : ∀ K : Nat, sumTo (fun r => if b r then (if v = (r : Int) then w else 0) else 0) K = if v < K then (if b v.toNat then w else 0) else 0
  | 0 => by simp [sumTo]; omega
  | K + 1 => by
    simp only [sumTo, sumTo_ind b v w hv K]
    by_cases h1 : v < K
    · have h2 : v ≠ K := by omega
      have h3 : v < (K + 1 : Nat) := by omega
      rw [if_pos h1, if_pos h3, if_neg h2]
      simp
    · by_cases h2 : v = K
      · have h3 : v < ((K + 1 : Nat) : Int) := by omega
        rw [if_neg h1, if_pos h3, if_pos h2, h2]
        simp
      · have h3 : ¬ v < ((K + 1 : Nat) : Int) := by omega
        simp only [if_neg h1, if_neg h2, if_neg h3]
        split <;> rfl

theorem sumTo_part (R N : Nat) (v w : Nat → Int) (b : Nat → Bool) (F : Nat → Nat → Int) (h0 : ∀ r, F r 0 = 0) (hs : ∀ r n, n < N → F r (n + 1) = F r n + if v n = (r : Int) then w n else 0) (hv : ∀ n, n < N → 0 ≤ v n ∧ v n < R) :
    ∀ n, n ≤ N → sumTo (fun r => if b r then F r n else 0) R = sumTo (fun i => if b (v i).toNat then w i else 0) n
  | 0, _ => by
    have : ∀ R, sumTo (fun r => if b r then F r 0 else 0) R = 0 := fun R => by
      induction R with
      | zero => rfl
      | succ R ih => rw [sumTo, ih, h0]; simp
    simp [this, sumTo]
  | n + 1, hn => by
    have ih := sumTo_part R N v w b F h0 hs hv n (by omega)
    have hvn := hv n (by omega)
    have e : sumTo (fun r => if b r then F r (n + 1) else 0) R = sumTo (fun r => (if b r then F r n else 0) + (if b r then (if v n = (r : Int) then w n else 0) else 0)) R := sumTo_congr fun r _ => by
      simp only [hs r n (by omega)]
      split <;> rfl
    rw [e, sumTo_add, ih, sumTo_ind b (v n) (w n) hvn.1 R, if_pos hvn.2]
    rfl

theorem upto_len (p : Nat → Bool) (n : Nat) : ((upto p (n + 1)).length : Int) = (upto p n).length + if p n then 1 else 0 := by
  rw [upto]; split <;> simp

theorem upto_sum (p : Nat → Bool) : ∀ n : Nat, ((upto p n).length : Int) = sumTo (fun i => if p i then 1 else 0) n
  | 0 => rfl
  | n + 1 => by rw [upto_len, upto_sum p n]; rfl

theorem Made.zone_in {c : Cfg} (hm : Made c) {i : Nat} (hi : i < c.cells.length) : 0 ≤ zoneOf c i ∧ zoneOf c i < c.zones.length := by
  obtain ⟨x, hx⟩ := get_of hi
  rw [zoneOf_nat hx]
  exact hm.laid.cell x (List.mem_of_getElem? hx)

theorem Made.region_in {c : Cfg} (hm : Made c) {i : Nat} (hi : i < c.cells.length) : 0 ≤ regionOf c i ∧ regionOf c i < c.regions := by
  have h := hm.zone_in hi
  obtain ⟨y, hy⟩ := get_int (l := c.zones) h.1 (by omega)
  unfold regionOf regionOfZone
  rw [if_pos h.1, hy]
  exact hm.laid.zone y (List.mem_of_getElem? hy)

theorem region_len {c : Cfg} (hm : Made c) (r : Int) : ((inRegion c r).length : Int) ≤ 7 := by
  have := upto_le (fun i => decide (regionOf c i = r)) c.cells.length
  have := hm.cells
  unfold inRegion
  omega

/-- bits of a natural number -/
theorem bit_nat (n i : Nat) (hi : i < 62) : bit (n : Int) (i : Int) = n.testBit i := by
  have e : ((n : Int).fdiv (2 ^ i)) = ((n / 2 ^ i : Nat) : Int) := by
    rw [Int.fdiv_eq_ediv_of_nonneg _ (by have := Int.pow_pos (n := 2) (m := i) (by omega); omega)]
    norm_cast
  simp only [bit, Int.toNat_natCast, e]
  rw [Nat.testBit_eq_decide_div_mod_eq]
  congr 1
  apply propext
  constructor
  · rintro ⟨_, _, h⟩; omega
  · intro h; refine ⟨by omega, by omega, by omega⟩

theorem toNat_ofInt_nat {n : Nat} (h : n < 18446744073709551616) : (BitVec.ofInt IntKind.i64.bits (n : Int)).toNat = n := by
  rw [BitVec.toNat_ofInt]
  simp only [IntKind.bits]
  omega

theorem or_nat {a b : Nat} (ha : a < 1024) (hb : b < 1024) : IntKind.i64.wrap ((BitVec.ofInt IntKind.i64.bits (a : Int) ||| BitVec.ofInt IntKind.i64.bits (b : Int)).toNat : Int) = ((a ||| b : Nat) : Int) := by
  have h1 : a ||| b < 2 ^ 10 := Nat.or_lt_two_pow ha hb
  rw [BitVec.toNat_or, toNat_ofInt_nat (by omega), toNat_ofInt_nat (by omega)]
  exact wr (by omega) (by omega)

theorem sumTo_rng {f : Nat → Int} (h : ∀ i, 0 ≤ f i ∧ f i ≤ 7) : ∀ n : Nat, 0 ≤ sumTo f n ∧ sumTo f n ≤ 7 * (n : Int)
  | 0 => by simp [sumTo]
  | n + 1 => by
    have := sumTo_rng h n
    have := h n
    simp only [sumTo]; omega

def regF (c : Cfg) (A : Int) (r : Nat) : Int := if bit A r then ((inRegion c r).length : Int) else 0

theorem Made.homes_sum {c : Cfg} (hm : Made c) (t : Int) : ((homes c t).length : Int) = sumTo (regF c (allowedOf c t)) c.regions.toNat := by
  have hR := hm.regions
  have h1 := sumTo_part c.regions.toNat c.cells.length (fun i => regionOf c i) (fun _ => 1) (fun r => bit (allowedOf c t) r) (fun r n => ((upto (fun i => decide (regionOf c i = r)) n).length : Int)) (fun r => rfl) (fun r n _ => by rw [upto_len]; simp) (fun n hn => by have := hm.region_in hn; omega) c.cells.length (Nat.le_refl _)
  have h2 := upto_sum (fun i => may c t i) c.cells.length
  unfold homes
  rw [h2, show sumTo (regF c (allowedOf c t)) c.regions.toNat = _ from h1]
  refine sumTo_congr fun i hi => ?_
  have := hm.region_in hi
  rw [show ((regionOf c i).toNat : Int) = regionOf c i by omega]; rfl

set_option maxRecDepth 100000 in
theorem tenantRegions_c (l : List Int) (t : Int) : CallsH Try.prog 14 [.c (.d (.sl (r1 l))), I t] [] (B true) [] := by
  obtain ⟨c, hm, hcfg⟩ := config_c l
  have hL := hm.laid
  have hT5 := hm.tenants
  have hT : c.tenants.length ≤ 1000 := by omega
  have hR := hm.regions
  have hl := rT_len c.tenants
  refine callsR_of tab mixed Try.func14 rfl (by decide) rfl rfl ?_
  conv => whnf
  refine ⟨_, _, light_c l, ?_⟩
  conv => whnf
  refine spN (fun h => ?_) (fun h => ?_) <;> conv => whnf
  · refine ⟨_, _, awake05_c, ?_⟩
    conv => whnf
    exact ⟨[], rfl, rfl, trivial⟩
  refine ⟨_, _, hcfg, ?_⟩
  conv => whnf
  refine spE (fun h0 => ?_) (fun h0 => ?_) <;> conv => whnf
  · have hn : c.tenants = [] := List.length_eq_zero_iff.1 (by omega)
    have hh : ∀ n, upto (fun i => may c 0 i) n = [] := fun n => by
      induction n with
      | zero => rfl
      | succ n ih => rw [upto_no (by simp [may, allowedOf, hn, bit_zero]), ih]
    have e2 := (homes_c c 0 hL hT).frozen
    rw [show homes c 0 = [] from hh _] at e2
    refine ⟨_, _, awake05_c, ?_⟩
    conv => whnf
    refine ⟨fun _ => ?_, fun h => by cases h⟩
    conv => whnf
    refine ⟨_, _, e2, ?_⟩
    conv => whnf
    exact ⟨[], rfl, rfl, trivial⟩
  have m1 := Int.emod_nonneg t (b := c.tenants.length) (by omega)
  have m2 := Int.emod_lt_of_pos t (b := c.tenants.length) (by omega)
  have hmod := mod_c t c.tenants.length (by omega) (by omega)
  rw [hl]
  generalize t % (c.tenants.length : Int) = k at *
  obtain ⟨x, hx⟩ := get_int (l := c.tenants) m1 (by omega)
  have ha : allowedOf c k = x.allowed := by simp [allowedOf, m1, hx]
  have hsum := hm.homes_sum k
  rw [ha] at hsum
  have hrg := sumTo_rng (f := regF c x.allowed) fun i => by
    have := region_len hm i
    unfold regF; split <;> omega
  refine ⟨_, _, hmod, ?_⟩
  conv => whnf
  refine loopN tab mixed (fun i => i ≤ c.regions.toNat) c.regions.toNat (fun i => [(7, I i), (6, I (sumTo (regF c x.allowed) i))]) (fun _ => []) 51 [] (by omega) ?_
  conv => whnf
  refine ⟨?_, fun i hi => ?_⟩
  · repeat' (first | exact trivial | rfl | refine And.intro ?_ ?_)
    all_goals (conv => whnf)
    repeat' (first | exact trivial | rfl | refine And.intro ?_ ?_)
  conv => whnf
  have hri := hrg i
  refine spD (fun h => ?_) (fun h => ?_) <;> conv => whnf
  · have hi' : i < c.regions.toNat := by omega
    have hrl := region_len hm i
    have hr1 := r1_len (inRegion c i)
    have htm := tmod2 (x.allowed.fdiv (2 ^ i))
    refine ⟨m1, _, rT_get hx, ?_⟩
    conv => whnf
    refine gvu (by omega) (by omega) ?_
    conv => whnf
    refine ⟨by omega, shr_eq (by omega) (by omega) ?_⟩
    conv => whnf
    refine ⟨by omega, gg ?_⟩
    conv => whnf
    refine spNe (fun h3 => ?_) (fun h3 => ?_) <;> conv => whnf
    · have hb : bit x.allowed i = true := by
        have h3' : (x.allowed.fdiv (2 ^ i)).tmod 2 ≠ 0 := h3
        simp only [bit, Int.toNat_natCast, decide_eq_true_eq]
        exact ⟨by omega, by omega, htm.1 h3'⟩
      refine ⟨_, _, (inRegion_c c i hL).frozen, ?_⟩
      conv => whnf
      refine gv (by first | omega | (simp only []; omega) | (simp; omega)) (by first | omega | (simp only []; omega) | (simp; omega)) ?_
      conv => whnf
      refine gv (by first | omega | (simp only []; omega) | (simp; omega)) (by first | omega | (simp only []; omega) | (simp; omega)) ?_
      conv => whnf
      refine ⟨⟨hi', hi'⟩, [], ?_⟩
      repeat' (first | exact trivial | rfl | refine And.intro ?_ ?_)
      all_goals (conv => whnf)
      repeat' (first | exact trivial | rfl | refine And.intro ?_ ?_)
      simp only [sumTo, regF, hb, if_true, hr1]
    · have hb : bit x.allowed i = false := by
        have h3' : (x.allowed.fdiv (2 ^ i)).tmod 2 = 0 := h3
        simp only [bit, Int.toNat_natCast, decide_eq_false_iff_not]
        rintro ⟨_, _, h⟩
        exact (htm.2 h) h3'
      refine gv (by first | omega | (simp only []; omega) | (simp; omega)) (by first | omega | (simp only []; omega) | (simp; omega)) ?_
      conv => whnf
      refine ⟨⟨hi', hi'⟩, [], ?_⟩
      repeat' (first | exact trivial | rfl | refine And.intro ?_ ?_)
      all_goals (conv => whnf)
      repeat' (first | exact trivial | rfl | refine And.intro ?_ ?_)
      simp [sumTo, regF, hb]
  · have hi' : i = c.regions.toNat := by omega
    subst hi'
    have hh1 := r1_len (homes c k)
    refine ⟨_, _, awake05_c, ?_⟩
    conv => whnf
    refine ⟨fun _ => ?_, fun h => by cases h⟩
    conv => whnf
    refine ⟨_, _, (homes_c c k hL hT).frozen, ?_⟩
    conv => whnf
    refine ⟨[], rfl, ?_, trivial⟩
    simp only [mtV, Cpl.valOf, mtC, eqD, hh1, hsum]
    simp

/-! the order -/

def seenN (o : List Int) : Nat → Nat
  | 0 => 0
  | i + 1 => match o[i]? with
    | some x => seenN o i ||| 2 ^ x.toNat
    | none => seenN o i

theorem seen_lt {o : List Int} (h : ∀ x ∈ o, 0 ≤ x ∧ x < 5) : ∀ i, seenN o i < 2 ^ 5
  | 0 => by simp [seenN]
  | i + 1 => by
    have ih := seen_lt h i
    simp only [seenN]
    split
    · rename_i x hx
      have := h x (List.mem_of_getElem? hx)
      exact Nat.or_lt_two_pow ih (Nat.pow_lt_pow_right (by omega) (by omega))
    · exact ih

theorem seen_mem {o : List Int} (h : ∀ x ∈ o, 0 ≤ x) {k : Nat} : ∀ i, (seenN o i).testBit k = true → (k : Int) ∈ o.take i
  | 0, hb => by simp [seenN] at hb
  | i + 1, hb => by
    have ih := seen_mem h (k := k) i
    rw [List.take_add_one]
    simp only [seenN] at hb
    split at hb
    · rename_i x hx
      rw [Nat.testBit_or, Nat.testBit_two_pow, Bool.or_eq_true, decide_eq_true_iff] at hb
      rw [hx]
      rcases hb with hb | hb
      · simp [ih hb]
      · have := h x (List.mem_of_getElem? hx)
        simp only [Option.toList_some, List.mem_append, List.mem_singleton]
        right; omega
    · simp [ih hb]

theorem pair_get {α : Type} {R : α → α → Prop} {l : List α} (h : l.Pairwise R) {i j : Nat} {x y : α} (hij : i < j) (hx : l[i]? = some x) (hy : l[j]? = some y) : R x y := by
  rw [List.pairwise_iff_getElem] at h
  obtain ⟨h1, e1⟩ := List.getElem?_eq_some_iff.1 hx
  obtain ⟨h2, e2⟩ := List.getElem?_eq_some_iff.1 hy
  have := h i j h1 h2 hij
  rwa [e1, e2] at this

theorem bef_irr (c : Cfg) (x : Int) : bef c x x = false := by
  cases h : bef c x x
  · rfl
  · rw [bef_iff] at h; omega

theorem natpow' (r : Nat) : (2 : Int) ^ r = ((2 ^ r : Nat) : Int) := by norm_cast

set_option maxRecDepth 100000 in
set_option maxHeartbeats 2000000 in
theorem tenantSorted_c (l : List Int) : CallsH Try.prog 11 [.c (.d (.sl (r1 l)))] [] (B true) [] := by
  obtain ⟨c, hm, hcfg⟩ := config_c l
  have hT := hm.tenants
  have hl := rT_len c.tenants
  obtain ⟨o1, o2, o3⟩ := order_ok c
  have hord := (order_c c (by omega)).frozen
  generalize order c = o at o1 o2 o3 hord
  have hl1 := r1_len o
  have h5 : ∀ x ∈ o, 0 ≤ x ∧ x < 5 := fun x hx => by have := (o3 x).1 hx; omega
  have hslt := seen_lt h5
  refine callsR_of tab mixed Try.func11 rfl (by decide) rfl rfl ?_
  conv => whnf
  refine ⟨_, _, light_c l, ?_⟩
  conv => whnf
  refine spN (fun h => ?_) (fun h => ?_) <;> conv => whnf
  · refine ⟨_, _, awake05_c, ?_⟩
    conv => whnf
    exact ⟨[], rfl, rfl, trivial⟩
  refine ⟨_, _, hcfg, ?_⟩
  conv => whnf
  refine ⟨_, _, hord, ?_⟩
  conv => whnf
  refine ⟨_, _, awake05_c, ?_⟩
  conv => whnf
  refine ⟨fun h => (by cases h), fun _ => ?_⟩
  conv => whnf
  refine spNe (fun h => absurd (by omega) h) (fun _ => ?_)
  conv => whnf
  refine loopN tab mixed (fun i => i ≤ o.length) o.length (fun i => [(6, I i), (5, I (seenN o i : Nat))]) (fun _ => []) 51 [] (by omega) ?_
  conv => whnf
  refine ⟨?_, fun i hi => ?_⟩
  · repeat' (first | exact trivial | rfl | refine And.intro ?_ ?_)
    all_goals (conv => whnf)
    repeat' (first | exact trivial | rfl | refine And.intro ?_ ?_)
  conv => whnf
  refine spD (fun h => ?_) (fun h => ?_) <;> conv => whnf
  · have hi' : i < o.length := by omega
    obtain ⟨x, hx⟩ := get_of hi'
    have hxr := (o3 x).1 (List.mem_of_getElem? hx)
    have hsl := hslt i
    have hpow : 2 ^ x.toNat < 1024 := Nat.lt_of_le_of_lt (Nat.pow_le_pow_right (n := 2) (by omega) (show x.toNat ≤ 5 by omega)) (by decide)
    have hs1 : seenN o (i + 1) = seenN o i ||| 2 ^ x.toNat := by simp [seenN, hx]
    have hbit : bit (seenN o i : Int) x = false := by
      cases hb : bit (seenN o i : Int) x
      · rfl
      · rw [show x = ((x.toNat : Nat) : Int) by omega, bit_nat _ _ (by omega)] at hb
        have hmem := seen_mem (fun y hy => (h5 y hy).1) i hb
        rw [show ((x.toNat : Nat) : Int) = x by omega] at hmem
        obtain ⟨j, hj⟩ := List.getElem?_of_mem hmem
        have hji : j < i := by
          have := (List.getElem?_eq_some_iff.1 hj).1
          rw [List.length_take] at this; omega
        rw [List.getElem?_take, if_pos hji] at hj
        have := pair_get o2 hji hj hx
        rw [bef_irr] at this; cases this
    have hhas := has_c (seenN o i : Int) x
    rw [hbit] at hhas
    have hsh := shlc (n := x) (by omega)
    refine ⟨by kernel_rfl, ?_⟩
    conv => whnf
    refine ⟨by omega, _, r1_get hx, ?_⟩
    conv => whnf
    refine spD (fun h1 => by omega) (fun _ => ?_)
    conv => whnf
    refine ⟨by omega, _, r1_get hx, ?_⟩
    conv => whnf
    refine spD (fun h1 => by omega) (fun _ => ?_)
    conv => whnf
    refine ⟨by omega, _, r1_get hx, ?_⟩
    conv => whnf
    refine ⟨_, _, hhas, ?_⟩
    conv => whnf
    refine ⟨fun h => (by cases h), fun _ => ?_⟩
    conv => whnf
    refine ⟨by omega, _, r1_get hx, ?_⟩
    conv => whnf
    refine gvu (by omega) (by omega) ?_
    conv => whnf
    refine ⟨by omega, .intro _ hsh.1 ?_⟩
    conv => whnf
    rw [natpow']
    refine .intro _ (or_nat (by omega) hpow) ?_
    conv => whnf
    rw [← hs1]
    refine spE (fun h2 => ?_) (fun h2 => ?_) <;> conv => whnf
    · refine gv (by first | omega | (simp only []; omega) | (simp; omega)) (by first | omega | (simp only []; omega) | (simp; omega)) ?_
      conv => whnf
      refine ⟨⟨hi', hi'⟩, [], ?_⟩
      repeat' (first | exact trivial | rfl | refine And.intro ?_ ?_)
      all_goals (conv => whnf)
      repeat' (first | exact trivial | rfl | refine And.intro ?_ ?_)
    · obtain ⟨j, rfl⟩ : ∃ j, i = j + 1 := ⟨i - 1, by omega⟩
      obtain ⟨y, hy⟩ := get_of (l := o) (i := j) (by omega)
      have hyr := (o3 y).1 (List.mem_of_getElem? hy)
      have hbf := pair_get o2 (Nat.lt_succ_self j) hy hx
      rw [bef_iff] at hbf
      obtain ⟨tx, htx⟩ := get_int (l := c.tenants) hxr.1 (by omega)
      obtain ⟨ty, hty⟩ := get_int (l := c.tenants) hyr.1 (by omega)
      simp only [prioOf, loadAt, htx, hty, Option.map_some, Option.getD_some] at hbf
      have e1 : ((j + 1 : Nat) : Int) - 1 = (j : Int) := by omega
      refine ⟨by kernel_rfl, ?_⟩
      conv => whnf
      refine gv (by first | omega | (simp only []; omega) | (simp; omega)) (by first | omega | (simp only []; omega) | (simp; omega)) ?_
      conv => whnf
      rw [e1]
      refine ⟨by omega, _, r1_get hy, ?_⟩
      conv => whnf
      refine ⟨by omega, _, rT_get hty, ?_⟩
      conv => whnf
      refine ⟨by omega, _, r1_get hx, ?_⟩
      conv => whnf
      refine ⟨by omega, _, rT_get htx, ?_⟩
      conv => whnf
      refine ⟨by kernel_rfl, ?_⟩
      conv => whnf
      refine spD (fun h3 => by omega) (fun h3 => ?_)
      conv => whnf
      refine spE (fun h4 => ?_) (fun h4 => ?_) <;> conv => whnf
      · refine spD (fun h5 => by omega) (fun h5 => ?_)
        conv => whnf
        refine spE (fun h6 => ?_) (fun h6 => absurd h4 h6)
        conv => whnf
        refine spE (fun h7 => ?_) (fun h7 => ?_) <;> conv => whnf
        · refine gv (by first | omega | (simp only []; omega) | (simp; omega)) (by first | omega | (simp only []; omega) | (simp; omega)) ?_
          conv => whnf
          rw [e1]
          refine ⟨by omega, _, r1_get hy, ?_⟩
          conv => whnf
          refine ⟨by omega, _, r1_get hx, ?_⟩
          conv => whnf
          refine spD (fun h8 => by omega) (fun _ => ?_)
          conv => whnf
          refine gv (by first | omega | (simp only []; omega) | (simp; omega)) (by first | omega | (simp only []; omega) | (simp; omega)) ?_
          conv => whnf
          refine ⟨⟨hi', hi'⟩, [], ?_⟩
          repeat' (first | exact trivial | rfl | refine And.intro ?_ ?_)
          all_goals (conv => whnf)
          repeat' (first | exact trivial | rfl | refine And.intro ?_ ?_)
        · refine gv (by first | omega | (simp only []; omega) | (simp; omega)) (by first | omega | (simp only []; omega) | (simp; omega)) ?_
          conv => whnf
          refine ⟨⟨hi', hi'⟩, [], ?_⟩
          repeat' (first | exact trivial | rfl | refine And.intro ?_ ?_)
          all_goals (conv => whnf)
          repeat' (first | exact trivial | rfl | refine And.intro ?_ ?_)
      · refine spE (fun h6 => absurd h6 h4) (fun h6 => ?_)
        conv => whnf
        refine gv (by first | omega | (simp only []; omega) | (simp; omega)) (by first | omega | (simp only []; omega) | (simp; omega)) ?_
        conv => whnf
        refine ⟨⟨hi', hi'⟩, [], ?_⟩
        repeat' (first | exact trivial | rfl | refine And.intro ?_ ?_)
        all_goals (conv => whnf)
        repeat' (first | exact trivial | rfl | refine And.intro ?_ ?_)
  · exact ⟨[], rfl, rfl, trivial⟩

end Go.Proofs.Ytipabdkgidmjnaa
