/- Contract: the law TopoPartition returns true at every list. No conditions. -/
import Derived.Test.YtngcjkoocoangaaLaw04b
namespace Go.Proofs.Ytngcjkoocoangaa
open Go Go.Cpl

theorem Made.zone_sum {c : Cfg} (hm : Made c) : sumTo (fun z => ((inZone c z).length : Int)) c.zones.length = c.cells.length := by
  have h1 := sumTo_part c.zones.length c.cells.length (fun i => zoneOf c i) (fun _ => 1) (fun _ => true) (fun r n => ((upto (fun i => decide (zoneOf c i = r)) n).length : Int)) (fun r => rfl) (fun r n _ => by rw [upto_len]; simp) (fun n hn => hm.zone_in hn) c.cells.length (Nat.le_refl _)
  simp only [if_true] at h1
  unfold inZone
  rw [h1, sumTo_one]

theorem Made.region_sum {c : Cfg} (hm : Made c) : sumTo (fun r => ((inRegion c r).length : Int)) c.regions.toNat = c.cells.length := by
  have hR := hm.regions
  have h1 := sumTo_part c.regions.toNat c.cells.length (fun i => regionOf c i) (fun _ => 1) (fun _ => true) (fun r n => ((upto (fun i => decide (regionOf c i = r)) n).length : Int)) (fun r => rfl) (fun r n _ => by rw [upto_len]; simp) (fun n hn => by have := hm.region_in hn; omega) c.cells.length (Nat.le_refl _)
  simp only [if_true] at h1
  unfold inRegion
  rw [h1, sumTo_one]

theorem Made.cap_sum {c : Cfg} (hm : Made c) : sumTo (fun r => capacity c r) c.regions.toNat = sumTo (fun i => capOf c i) c.cells.length := by
  have hR := hm.regions
  have h1 := sumTo_part c.regions.toNat c.cells.length (fun i => regionOf c i) (fun i => capOf c i) (fun _ => true) (fun r n => capSum c (upto (fun i => decide (regionOf c i = r)) n)) (fun r => rfl) (fun r n _ => by
    by_cases h : regionOf c n = r
    · rw [upto_yes (by simpa using h), capSum_app, if_pos h]
    · rw [upto_no (by simpa using h), if_neg h]; simp) (fun n hn => by have := hm.region_in hn; omega) c.cells.length (Nat.le_refl _)
  simp only [if_true] at h1
  unfold capacity inRegion
  exact h1

theorem zone_len {c : Cfg} (hm : Made c) (r : Int) : ((inZone c r).length : Int) ≤ 7 := by
  have := upto_le (fun i => decide (zoneOf c i = r)) c.cells.length
  have := hm.cells
  unfold inZone
  omega

theorem cap_len {c : Cfg} (hm : Made c) (r : Int) : 0 ≤ capacity c r ∧ capacity c r ≤ 29360128 := by
  have h1 := hm.laid.capSum (inRegion c r)
  have := region_len hm r
  unfold capacity
  omega

set_option maxRecDepth 100000 in
set_option maxHeartbeats 8000000 in
theorem topoPartition_c (l : List Int) : CallsH Try.prog 8 [.c (.d (.sl (r1 l)))] [] (B true) [] := by
  obtain ⟨c, hm, hcfg⟩ := config_c l
  have hL := hm.laid
  have hR := hm.regions
  have hC := hm.cells
  have hZ := hm.zones
  have hzl := r1_len c.zones
  have hcl := r2_len c.cells
  refine callsR_of tab mixed Try.func8 rfl (by decide) rfl rfl ?_
  conv => whnf
  refine ⟨_, _, light_c l, ?_⟩
  conv => whnf
  refine spN (fun h => ?_) (fun h => ?_) <;> conv => whnf
  · refine ⟨_, _, awake_c, ?_⟩
    conv => whnf
    exact ⟨[], rfl, rfl, trivial⟩
  refine ⟨_, _, hcfg, ?_⟩
  conv => whnf
  refine loopRX tab mixed (ι := { s : Nat × Int // s.1 ≤ c.zones.length ∧ s.2 = sumTo (fun z => ((inZone c z).length : Int)) s.1 ∧ 0 ≤ s.2 ∧ s.2 ≤ 7 * s.1 }) (κ := Unit) (fun s => [(7, I s.1.1), (4, I s.1.2)]) (fun _ => []) 51 (fun s => c.zones.length - s.1.1) 0 (fun _ => [(4, I c.cells.length)]) (fun _ => []) 51 ⟨(0, 0), by simp [sumTo]⟩ [] ?_
  conv => whnf
  refine ⟨⟨rfl, ⟨⟨⟨rfl, rfl⟩, ⟨rfl, rfl⟩, trivial⟩, trivial⟩, rfl, rfl⟩, fun ⟨⟨z, n⟩, hz, hn, hn0, hn1⟩ => ?_, fun _ => ?_⟩
  · simp only at hz hn hn0 hn1
    have hlen := zone_len hm z
    have hlr := r1_len (inZone c z)
    conv => whnf
    refine spD (fun h => ?_) (fun h => ?_)
    · have hz' : z < c.zones.length := by rw [hzl] at h; exact Int.ofNat_lt.1 h
      conv => whnf
      refine ⟨_, _, inZone_c c z hL, ?_⟩
      conv => whnf
      rw [hlr]
      refine gv (by simp only; omega) (by simp only; omega) ?_
      conv => whnf
      refine loopR tab mixed (ι := { i : Nat // i ≤ (inZone c z).length }) (fun i => [(9, I i.1)]) (fun _ => []) 61 (fun i => (inZone c z).length - i.1) ⟨0, by simp⟩ [] ?_
      conv => whnf
      refine ⟨⟨rfl, ⟨⟨⟨rfl, rfl⟩, trivial⟩, trivial⟩, rfl, rfl⟩, fun ⟨i, hi⟩ => ?_⟩
      conv => whnf
      refine spD (fun h => ?_) (fun h => ?_)
      · have hi' : i < (inZone c z).length := by rw [hlr] at h; exact Int.ofNat_lt.1 h
        obtain ⟨x, hx⟩ := get_of hi'
        obtain ⟨k, hk, hxk, hpk⟩ := upto_mem (List.mem_of_getElem? hx)
        subst hxk
        have hzk : zoneOf c k = z := by simpa using hpk
        obtain ⟨y, hy⟩ := get_of hz'
        have hrk : regionOf c k = y := by simp [regionOf, hzk, regionOfZone, hy]
        have rc := regionOf_c c k hL.cells hL.zones
        rw [hrk] at rc
        have zc := zoneOf_c c k hL.cells
        rw [hzk] at zc
        conv => whnf
        refine ⟨by kernel_rfl, ?_⟩
        conv => whnf
        refine ⟨by simp, by rw [hlr]; exact hi', _, r1_get hx, ?_⟩
        conv => whnf
        refine ⟨_, _, zc, ?_⟩
        conv => whnf
        refine spNe (fun hq => (hq rfl).elim) (fun _ => ?_)
        conv => whnf
        refine ⟨by simp, by rw [hlr]; exact hi', _, r1_get hx, ?_⟩
        conv => whnf
        refine ⟨_, _, rc, ?_⟩
        conv => whnf
        refine ⟨by simp, _, r1_get hy, ?_⟩
        conv => whnf
        refine spNe (fun hq => (hq rfl).elim) (fun _ => ?_)
        conv => whnf
        refine spD (fun hi0 => ?_) (fun hi0 => ?_)
        · have hi0' : 0 < i := by simpa using hi0
          obtain ⟨u, hu⟩ := get_of (l := inZone c z) (i := i - 1) (by omega)
          have hyx := upto_lt hu (show (upto _ _)[i - 1 + 1]? = some (k : Int) by rw [show i - 1 + 1 = i by omega]; exact hx)
          have ht : ((i : Int) - 1).toNat = i - 1 := by omega
          conv => whnf
          refine gv (by simp; omega) (by simp; omega) ?_
          conv => whnf
          refine ⟨by simp; omega, by rw [hlr]; simp; omega, _, by simp only [ht]; exact r1_get hu, ?_⟩
          conv => whnf
          refine ⟨by simp, by rw [hlr]; exact hi', _, r1_get hx, ?_⟩
          conv => whnf
          refine spD (fun hq => by omega) (fun _ => ?_)
          conv => whnf
          refine gv (by simp; omega) (by simp; omega) ?_
          conv => whnf
          exact ⟨⟨i + 1, hi'⟩, [], ⟨rfl, ⟨⟨⟨rfl, rfl⟩, trivial⟩, trivial⟩, rfl, rfl⟩, by simp; omega⟩
        · conv => whnf
          refine gv (by simp; omega) (by simp; omega) ?_
          conv => whnf
          exact ⟨⟨i + 1, hi'⟩, [], ⟨rfl, ⟨⟨⟨rfl, rfl⟩, trivial⟩, trivial⟩, rfl, rfl⟩, by simp; omega⟩
      · conv => whnf
        refine gv (by simp; omega) (by simp; omega) ?_
        conv => whnf
        refine ⟨⟨(z + 1, n + (inZone c z).length), ?_⟩, [], ⟨rfl, ⟨⟨⟨rfl, rfl⟩, ⟨rfl, rfl⟩, trivial⟩, trivial⟩, rfl, rfl⟩, by simp; omega⟩
        simp only [sumTo]
        omega
    · conv => whnf
      have hzz : z = c.zones.length := by rw [hzl] at h; simp at h; omega
      have e : (c.cells.length : Int) = n := by rw [hn, hzz]; exact hm.zone_sum.symm
      exact ⟨(), [], rfl, ⟨⟨⟨rfl, e⟩, trivial⟩, trivial⟩, rfl, rfl⟩
  conv => whnf
  refine loopRX tab mixed (ι := { s : Nat × Int × Int // s.1 ≤ c.regions.toNat ∧ (s.2.1 = sumTo (fun r => ((inRegion c r).length : Int)) s.1 ∧ 0 ≤ s.2.1 ∧ s.2.1 ≤ 7 * s.1) ∧ (s.2.2 = sumTo (fun r => capacity c r) s.1 ∧ 0 ≤ s.2.2 ∧ s.2.2 ≤ 29360128 * s.1) }) (κ := Unit) (fun s => [(10, I s.1.1), (5, I s.1.2.1), (6, I s.1.2.2)]) (fun _ => []) 61 (fun s => c.regions.toNat - s.1.1) 4 (fun _ => [(5, I c.cells.length), (6, I (sumTo (fun i => capOf c i) c.cells.length))]) (fun _ => []) 61 ⟨(0, 0, 0), by simp [sumTo]⟩ [] ?_
  conv => whnf
  refine ⟨⟨rfl, ⟨⟨⟨rfl, rfl⟩, ⟨rfl, rfl⟩, ⟨rfl, rfl⟩, trivial⟩, trivial⟩, rfl, rfl⟩, fun ⟨⟨r, n, s⟩, hr, ⟨hn, hn0, hn1⟩, hs, hs0, hs1⟩ => ?_, fun _ => ?_⟩
  · simp only at hr hn hn0 hn1 hs hs0 hs1
    have hlen := region_len hm r
    have hlr := r1_len (inRegion c r)
    have hcp := cap_len hm r
    conv => whnf
    refine spD (fun h => ?_) (fun h => ?_)
    · simp only at h
      conv => whnf
      refine ⟨_, _, inRegion_c c r hL, ?_⟩
      conv => whnf
      rw [hlr]
      refine gv (by simp only; omega) (by simp only; omega) ?_
      conv => whnf
      refine ⟨_, _, capacity_c c r hL, ?_⟩
      conv => whnf
      refine gv (by simp only; omega) (by simp only; omega) ?_
      conv => whnf
      refine gv (by simp; omega) (by simp; omega) ?_
      conv => whnf
      refine ⟨⟨(r + 1, n + (inRegion c r).length, s + capacity c r), ?_⟩, [], ⟨rfl, ⟨⟨⟨rfl, rfl⟩, ⟨rfl, rfl⟩, ⟨rfl, rfl⟩, trivial⟩, trivial⟩, rfl, rfl⟩, by simp; omega⟩
      simp only [sumTo]
      omega
    · simp only at h
      have hrR : r = c.regions.toNat := by omega
      conv => whnf
      have e1 : (c.cells.length : Int) = n := by rw [hn, hrR]; exact hm.region_sum.symm
      have e2 : sumTo (fun i => capOf c i) c.cells.length = s := by rw [hs, hrR]; exact hm.cap_sum.symm
      exact ⟨(), [], rfl, ⟨⟨⟨rfl, e1⟩, ⟨rfl, e2⟩, trivial⟩, trivial⟩, rfl, rfl⟩
  have hall := hm.cap_sum
  have hcap : ∀ i, 0 ≤ capOf c i ∧ capOf c i ≤ 4194304 := hL.capOf
  have hsb : ∀ k : Nat, 0 ≤ sumTo (fun i => capOf c i) k ∧ sumTo (fun i => capOf c i) k ≤ 4194304 * k := fun k => by
    induction k with
    | zero => simp [sumTo]
    | succ k ih => have := hcap k; simp only [sumTo]; omega
  have hs0 := hsb c.cells.length
  conv => whnf
  refine loopR tab mixed (ι := { i : Nat // i ≤ c.cells.length }) (fun i => [(11, I i.1), (6, I (sumTo (fun i => capOf c i) c.cells.length - sumTo (fun i => capOf c i) i.1))]) (fun _ => []) 71 (fun i => c.cells.length - i.1) ⟨0, by simp⟩ [] ?_
  conv => whnf
  refine ⟨⟨rfl, ⟨⟨⟨rfl, rfl⟩, ⟨rfl, by simp [sumTo]⟩, trivial⟩, trivial⟩, rfl, rfl⟩, fun ⟨i, hi⟩ => ?_⟩
  have hsi := hsb i
  conv => whnf
  refine spD (fun h => ?_) (fun h => ?_)
  · have hi' : i < c.cells.length := by rw [hcl] at h; exact Int.ofNat_lt.1 h
    obtain ⟨x, hx⟩ := get_of hi'
    have hxc : capOf c i = x.2 := by simp [capOf, hx]
    have := hcap i
    conv => whnf
    refine ⟨by simp, _, r2_get hx, ?_⟩
    conv => whnf
    refine gv (by simp only; omega) (by simp only; omega) ?_
    conv => whnf
    refine gv (by simp; omega) (by simp; omega) ?_
    conv => whnf
    refine ⟨⟨i + 1, hi'⟩, [], ⟨rfl, ⟨⟨⟨rfl, rfl⟩, ⟨rfl, ?_⟩, trivial⟩, trivial⟩, rfl, rfl⟩, by simp; omega⟩
    simp only [sumTo]
    omega
  · have hic : i = c.cells.length := by rw [hcl] at h; simp at h; omega
    conv => whnf
    refine ⟨_, _, awake_c, ?_⟩
    conv => whnf
    refine ⟨fun _ => ?_, fun h => by cases h⟩
    conv => whnf
    rw [hcl]
    refine spE (fun _ => ?_) (fun hq => (hq rfl).elim)
    conv => whnf
    rw [hcl]
    refine spE (fun _ => ?_) (fun hq => (hq rfl).elim)
    conv => whnf
    exact ⟨[], rfl, by simp [mtV, valOf, mtC, eqD, hic], trivial⟩

end Go.Proofs.Ytngcjkoocoangaa
