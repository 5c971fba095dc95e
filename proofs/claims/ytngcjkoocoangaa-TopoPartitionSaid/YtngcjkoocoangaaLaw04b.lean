/- Contracts: the laws TopoAlive and TopoPartition return true at every list and at all numbers. No conditions. -/
import Derived.Test.YtngcjkoocoangaaLaw04
namespace Go.Proofs.Ytngcjkoocoangaa
open Go Go.Cpl

def sumTo (f : Nat → Int) : Nat → Int
  | 0 => 0
  | k + 1 => sumTo f k + f k

theorem sumTo_congr {f g : Nat → Int} : ∀ {n : Nat}, (∀ i, i < n → f i = g i) → sumTo f n = sumTo g n
  | 0, _ => rfl
  | n + 1, h => by simp only [sumTo]; rw [sumTo_congr (n := n) fun i hi => h i (by omega), h n (by omega)]

theorem sumTo_add (f g : Nat → Int) : ∀ n, sumTo (fun i => f i + g i) n = sumTo f n + sumTo g n
  | 0 => rfl
  | n + 1 => by simp only [sumTo, sumTo_add f g n]; omega

theorem sumTo_one : ∀ n : Nat, sumTo (fun _ => 1) n = n
  | 0 => rfl
  | n + 1 => by simp only [sumTo, sumTo_one n]; omega

theorem sumTo_ind (b : Nat → Bool) (v w : Int) (hv : 0 ≤ v) : ∀ K : Nat, sumTo (fun r => if b r then (if v = (r : Int) then w else 0) else 0) K = if v < K then (if b v.toNat then w else 0) else 0
  | 0 => by simp [sumTo]; omega
  | K + 1 => by
    simp only [sumTo, sumTo_ind b v w hv K]
    by_cases h1 : v < K
    · have h2 : v ≠ K := by omega
      have h3 : v < (K + 1 : Nat) := by omega
      rw [if_pos h1, if_pos h3, if_neg h2]
      simp
    · by_cases h2 : v = K
      · have h3 : v < ((K + 1 : Nat) : Int) := by omega
        rw [if_neg h1, if_pos h3, if_pos h2, h2]
        simp
      · have h3 : ¬ v < ((K + 1 : Nat) : Int) := by omega
        simp only [if_neg h1, if_neg h2, if_neg h3]
        split <;> rfl

theorem sumTo_part (R N : Nat) (v w : Nat → Int) (b : Nat → Bool) (F : Nat → Nat → Int) (h0 : ∀ r, F r 0 = 0) (hs : ∀ r n, n < N → F r (n + 1) = F r n + if v n = (r : Int) then w n else 0) (hv : ∀ n, n < N → 0 ≤ v n ∧ v n < R) :
    ∀ n, n ≤ N → sumTo (fun r => if b r then F r n else 0) R = sumTo (fun i => if b (v i).toNat then w i else 0) n
  | 0, _ => by
    have : ∀ R, sumTo (fun r => if b r then F r 0 else 0) R = 0 := fun R => by
      induction R with
      | zero => rfl
      | succ R ih => rw [sumTo, ih, h0]; simp
    simp [this, sumTo]
  | n + 1, hn => by
    have ih := sumTo_part R N v w b F h0 hs hv n (by omega)
    have hvn := hv n (by omega)
    have e : sumTo (fun r => if b r then F r (n + 1) else 0) R = sumTo (fun r => (if b r then F r n else 0) + (if b r then (if v n = (r : Int) then w n else 0) else 0)) R := sumTo_congr fun r _ => by
      simp only [hs r n (by omega)]
      split <;> rfl
    rw [e, sumTo_add, ih, sumTo_ind b (v n) (w n) hvn.1 R, if_pos hvn.2]
    rfl

theorem upto_len (p : Nat → Bool) (n : Nat) : ((upto p (n + 1)).length : Int) = (upto p n).length + if p n then 1 else 0 := by
  rw [upto]; split <;> simp

theorem upto_sum (p : Nat → Bool) : ∀ n : Nat, ((upto p n).length : Int) = sumTo (fun i => if p i then 1 else 0) n
  | 0 => rfl
  | n + 1 => by rw [upto_len, upto_sum p n]; rfl

theorem upto_last {p : Nat → Bool} {x : Int} {n : Nat} (h : x ∈ upto p n) : x < n := by
  obtain ⟨i, h1, h2, _⟩ := upto_mem h; omega

theorem upto_lt {p : Nat → Bool} {x y : Int} {j : Nat} : ∀ {n : Nat}, (upto p n)[j]? = some x → (upto p n)[j + 1]? = some y → x < y
  | 0, h, _ => by simp [upto] at h
  | n + 1, h, h' => by
    rw [upto] at h h'
    split at h
    · rename_i hp
      rw [if_pos hp] at h'
      rcases app_get h' with g | ⟨g, g'⟩
      · rcases app_get h with k | ⟨k, k'⟩
        · exact upto_lt k g
        · have := (List.getElem?_eq_some_iff.1 g).1; omega
      · rcases app_get h with k | ⟨k, k'⟩
        · rw [g']; exact upto_last (List.mem_of_getElem? k)
        · omega
    · rename_i hp
      rw [if_neg hp] at h'
      exact upto_lt h h'

/-- the cells of a made configuration lie in zones and regions that exist -/
theorem Made.zone_in {c : Cfg} (hm : Made c) {i : Nat} (hi : i < c.cells.length) : 0 ≤ zoneOf c i ∧ zoneOf c i < c.zones.length := by
  obtain ⟨x, hx⟩ := get_of hi
  rw [zoneOf_nat hx]
  exact hm.laid.cell x (List.mem_of_getElem? hx)

theorem Made.region_in {c : Cfg} (hm : Made c) {i : Nat} (hi : i < c.cells.length) : 0 ≤ regionOf c i ∧ regionOf c i < c.regions := by
  have h := hm.zone_in hi
  obtain ⟨y, hy⟩ := get_int (l := c.zones) h.1 (by omega)
  unfold regionOf regionOfZone
  rw [if_pos h.1, hy]
  exact hm.laid.zone y (List.mem_of_getElem? hy)

theorem Made.alive_sum {c : Cfg} (hm : Made c) (lost : Int) : ((alive c lost).length : Int) + sumTo (fun r => if bit lost r then ((inRegion c r).length : Int) else 0) c.regions.toNat = c.cells.length := by
  have hR := hm.regions
  have h1 := sumTo_part c.regions.toNat c.cells.length (fun i => regionOf c i) (fun _ => 1) (fun r => bit lost r) (fun r n => ((upto (fun i => decide (regionOf c i = r)) n).length : Int)) (fun r => rfl) (fun r n _ => by rw [upto_len]; simp) (fun n hn => by have := hm.region_in hn; omega) c.cells.length (Nat.le_refl _)
  have h2 := upto_sum (fun i => !isLost c lost (regionOf c i)) c.cells.length
  unfold alive inRegion
  rw [h2, h1, ← sumTo_add, ← sumTo_one]
  refine sumTo_congr fun i hi => ?_
  have := hm.region_in hi
  rw [hm.laid.lost lost i, show ((regionOf c i).toNat : Int) = regionOf c i by omega]
  cases bit lost (regionOf c i) <;> rfl

theorem region_len {c : Cfg} (hm : Made c) (r : Int) : ((inRegion c r).length : Int) ≤ 7 := by
  have := upto_le (fun i => decide (regionOf c i = r)) c.cells.length
  have := hm.cells
  unfold inRegion
  omega

set_option maxRecDepth 100000 in
theorem topoAlive_c (l : List Int) (lost0 : Int) : CallsH Try.prog 6 [.c (.d (.sl (r1 l))), I lost0] [] (B true) [] := by
  obtain ⟨c, hm, hcfg⟩ := config_c l
  have hL := hm.laid
  have hR := hm.regions
  have hP := two_pow hR
  have hC := hm.cells
  obtain ⟨lost, hlost⟩ : ∃ x, x = lost0 % 2 ^ c.regions.toNat := ⟨_, rfl⟩
  have hsum := hm.alive_sum lost
  have hAl : (alive c lost).length ≤ c.cells.length := upto_le _ _
  have hAr := r1_len (alive c lost)
  refine callsR_of tab mixed Try.func6 rfl (by decide) rfl rfl ?_
  conv => whnf
  refine ⟨_, _, light_c l, ?_⟩
  conv => whnf
  refine spN (fun h => ?_) (fun h => ?_) <;> conv => whnf
  · refine ⟨_, _, awake_c, ?_⟩
    conv => whnf
    exact ⟨[], rfl, rfl, trivial⟩
  refine ⟨_, _, hcfg, ?_⟩
  conv => whnf
  refine gvu (by omega) (by omega) ?_
  conv => whnf
  refine ⟨by omega, .intro _ (shl1 hR) ?_⟩
  conv => whnf
  refine ⟨_, _, mod_c lost0 _ (by omega) (by omega), ?_⟩
  rw [← hlost]
  conv => whnf
  refine ⟨_, _, alive_c c lost hL (by omega), ?_⟩
  conv => whnf
  refine loopRX tab mixed (ι := { i : Nat // i ≤ (alive c lost).length }) (κ := Unit) (fun i => [(8, I i.1)]) (fun _ => []) 51 (fun i => (alive c lost).length - i.1) 0 (fun _ => []) (fun _ => []) 51 ⟨0, by simp⟩ [] ?_
  conv => whnf
  refine ⟨⟨rfl, ⟨⟨⟨rfl, rfl⟩, trivial⟩, trivial⟩, rfl, rfl⟩, fun ⟨i, hi⟩ => ?_, fun _ => ?_⟩
  · conv => whnf
    refine spD (fun h => ?_) (fun h => ?_)
    · have hi' : i < (alive c lost).length := by rw [hAr] at h; exact Int.ofNat_lt.1 h
      obtain ⟨x, hx⟩ := get_of hi'
      obtain ⟨k, hk, hxk, hpk⟩ := upto_mem (List.mem_of_getElem? hx)
      subst hxk
      have hrk := hm.region_in hk
      rw [hL.lost lost k] at hpk
      conv => whnf
      refine ⟨by kernel_rfl, ?_⟩
      conv => whnf
      refine ⟨by simp, by rw [hAr]; exact hi', _, r1_get hx, ?_⟩
      conv => whnf
      refine ⟨_, _, regionOf_c c k hL.cells hL.zones, ?_⟩
      conv => whnf
      rw [if_neg (by omega)]
      refine gvu (by omega) (by omega) ?_
      conv => whnf
      refine ⟨by omega, shr_eq (by omega) (by omega) ?_⟩
      conv => whnf
      refine ⟨by omega, gg ?_⟩
      conv => whnf
      have hb : (lost.fdiv (2 ^ (regionOf c k).toNat)) % 2 ≠ 1 := fun hx => by
        simp only [bit, Bool.not_eq_true', decide_eq_false_iff_not] at hpk
        exact hpk ⟨by omega, by omega, hx⟩
      refine spNe (fun hq => (hb ((tmod2 _).1 hq)).elim) (fun _ => ?_)
      conv => whnf
      refine spD (fun hi0 => ?_) (fun hi0 => ?_)
      · have hi0' : 0 < i := by simpa using hi0
        obtain ⟨y, hy⟩ := get_of (l := alive c lost) (i := i - 1) (by omega)
        have hyx := upto_lt hy (show (upto _ _)[i - 1 + 1]? = some (k : Int) by rw [show i - 1 + 1 = i by omega]; exact hx)
        have ht : ((i : Int) - 1).toNat = i - 1 := by omega
        conv => whnf
        refine gv (by simp; omega) (by simp; omega) ?_
        conv => whnf
        refine ⟨by simp; omega, by rw [hAr]; simp; omega, _, by simp only [ht]; exact r1_get hy, ?_⟩
        conv => whnf
        refine ⟨by simp, by rw [hAr]; exact hi', _, r1_get hx, ?_⟩
        conv => whnf
        refine spD (fun hq => by omega) (fun _ => ?_)
        conv => whnf
        refine gv (by simp; omega) (by simp; omega) ?_
        conv => whnf
        exact ⟨⟨i + 1, hi'⟩, [], ⟨rfl, ⟨⟨⟨rfl, rfl⟩, trivial⟩, trivial⟩, rfl, rfl⟩, by simp; omega⟩
      · conv => whnf
        refine gv (by simp; omega) (by simp; omega) ?_
        conv => whnf
        exact ⟨⟨i + 1, hi'⟩, [], ⟨rfl, ⟨⟨⟨rfl, rfl⟩, trivial⟩, trivial⟩, rfl, rfl⟩, by simp; omega⟩
    · conv => whnf
      exact ⟨(), [], rfl, ⟨trivial, trivial⟩, rfl, rfl⟩
  conv => whnf
  refine loopR tab mixed (ι := { s : Nat × Int // s.1 ≤ c.regions.toNat ∧ s.2 = (alive c lost).length + sumTo (fun r => if bit lost r then ((inRegion c r).length : Int) else 0) s.1 ∧ 0 ≤ s.2 ∧ s.2 ≤ 7 + 7 * s.1 }) (fun s => [(9, I s.1.1), (7, I s.1.2)]) (fun _ => []) 61 (fun s => c.regions.toNat - s.1.1) ⟨(0, (alive c lost).length), by simp [sumTo]; omega⟩ [] ?_
  conv => whnf
  refine ⟨⟨rfl, ⟨⟨⟨rfl, rfl⟩, ⟨rfl, by rw [hAr]⟩, trivial⟩, trivial⟩, rfl, rfl⟩, fun ⟨⟨r, n⟩, hr, hn, hn0, hn1⟩ => ?_⟩
  simp only at hr hn hn0 hn1
  have hlen := region_len hm r
  have hlr := r1_len (inRegion c r)
  conv => whnf
  refine spD (fun h => ?_) (fun h => ?_)
  · simp only at h
    conv => whnf
    refine gvu (by simp) (by simp; omega) ?_
    conv => whnf
    refine ⟨by simp, shr_eq (by simp) (by simp; omega) ?_⟩
    conv => whnf
    refine ⟨by omega, gg ?_⟩
    conv => whnf
    refine spNe (fun hq => ?_) (fun hq => ?_)
    · have hbit : bit lost r = true := by
        have := (tmod2 _).1 hq
        simp only [bit, decide_eq_true_eq]
        exact ⟨by omega, by omega, this⟩
      conv => whnf
      refine ⟨_, _, inRegion_c c r hL, ?_⟩
      conv => whnf
      rw [hlr]
      refine gv (by simp only; omega) (by simp only; omega) ?_
      conv => whnf
      refine gv (by simp; omega) (by simp; omega) ?_
      conv => whnf
      refine ⟨⟨(r + 1, n + (inRegion c r).length), ?_⟩, [], ⟨rfl, ⟨⟨⟨rfl, rfl⟩, ⟨rfl, rfl⟩, trivial⟩, trivial⟩, rfl, rfl⟩, by simp; omega⟩
      simp only [sumTo, hbit, if_true]
      omega
    · have hbit : bit lost r = false := by
        simp only [bit, decide_eq_false_iff_not]
        exact fun ⟨_, _, hx⟩ => (tmod2 _).2 hx hq
      conv => whnf
      refine gv (by simp; omega) (by simp; omega) ?_
      conv => whnf
      refine ⟨⟨(r + 1, n), ?_⟩, [], ⟨rfl, ⟨⟨⟨rfl, rfl⟩, ⟨rfl, rfl⟩, trivial⟩, trivial⟩, rfl, rfl⟩, by simp; omega⟩
      simp only [sumTo, hbit]
      simp
      omega
  · simp only at h
    have hrR : r = c.regions.toNat := by omega
    have hfin : n = (c.cells.length : Int) := by rw [hn, hrR]; exact hsum
    conv => whnf
    refine ⟨_, _, awake_c, ?_⟩
    conv => whnf
    refine ⟨fun _ => ?_, fun h => by cases h⟩
    conv => whnf
    exact ⟨[], rfl, by simp [mtV, valOf, mtC, eqD, r2_len, hfin], trivial⟩

end Go.Proofs.Ytngcjkoocoangaa
