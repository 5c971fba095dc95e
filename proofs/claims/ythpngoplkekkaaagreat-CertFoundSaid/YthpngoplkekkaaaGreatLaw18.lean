/- Contracts: laws of chapter 18 return true at every input. No conditions. -/
import Derived.Test.YthpngoplkekkaaaGreatBoundR
namespace Go.Proofs.YthpngoplkekkaaaGreat
open Go Go.Cpl

def noneC : Cfg := ⟨1, [0], [(0, 9)], [⟨5, 0, 0, 0, 1, 0, false⟩], [(0, 0)], [0], [0], 1, 5, 0⟩

theorem noneF : Fit noneC [(-1, -1)] := by decide

theorem Made.fit {c : Cfg} (hm : Made c) (more : List Int) : Fit c (pl more c c.tenants.length) := by
  have := hm.cells
  have := hm.zones
  have := hm.regions
  exact ⟨hm.valid5, pl_len more c _, pl_rng more c (by omega) _⟩

theorem Made.places {c : Cfg} (hm : Made c) (more : List Int) : CallsH Tryz.prog 22 [.c (.d (.sl (r1 more))), cfgV c] [] (plV (pl more c c.tenants.length)) [] := by
  have := hm.cells
  have := hm.zones
  have := hm.regions
  have := hm.tenants
  exact (mkPlaces_c more c hm.laid (by omega) (by omega)).frozen

/-! greater sets -/

theorem bit_or {a b : Nat} {r : Int} (hr : r < 62) : bit ((a ||| b : Nat) : Int) r = (bit (a : Int) r || bit (b : Int) r) := by
  by_cases h0 : 0 ≤ r
  · obtain ⟨k, rfl⟩ := Int.eq_ofNat_of_zero_le h0
    rw [bit_nat _ k (by omega), bit_nat _ k (by omega), bit_nat _ k (by omega), Nat.testBit_or]
  · simp [bit, h0]

theorem inside_or {rc : Nat} {a b R : Nat} (hR : R ≤ 4) (h : insideB rc (a : Int) R = true) : insideB rc ((a ||| b : Nat) : Int) R = true := by
  rw [insideB_iff] at h ⊢
  intro k hk hb
  rw [bit_or (by omega), h k hk hb]; rfl

theorem rn_or {c : Cfg} (hg : Good c) (u : Int) (l : List (Int × Int)) (a b : Nat) : ∀ k, rn c u l (a : Int) k ≤ rn c u l ((a ||| b : Nat) : Int) k
  | 0 => by simp [rn]
  | k + 1 => by
    have ih := rn_or hg u l a b k
    have hL := hg.load k
    have hR := hg.regions
    simp only [rn]
    by_cases h : (openAt l k && insideB (reach c u k) (a : Int) c.regions.toNat) = true
    · have h' : (openAt l k && insideB (reach c u k) ((a ||| b : Nat) : Int) c.regions.toNat) = true := by
        simp only [Bool.and_eq_true] at h ⊢
        exact ⟨h.1, inside_or (by omega) h.2⟩
      rw [if_pos h, if_pos h']; omega
    · rw [if_neg h]
      split <;> omega

theorem rr_or {c : Cfg} (hg : Good c) (u : Int) {bl : List Int} (a b : Nat) : ∀ k, k ≤ c.cells.length → (∀ i : Nat, i < k → (bl[i]?).getD 0 ≤ capOf c i) → 0 ≤ rr c u bl (a : Int) k ∧ rr c u bl (a : Int) k ≤ rr c u bl ((a ||| b : Nat) : Int) k
  | 0, _, _ => by simp [rr]
  | k + 1, hk, hc => by
    have ih := rr_or hg u (bl := bl) a b k (by omega) (fun i hi => hc i (by omega))
    have hR := hg.regions
    have hreg := hg.region (i := k) (by omega)
    have h1 := hc k (by omega)
    have hb := bit_or (a := a) (b := b) (r := regionOf c k) (by omega)
    simp only [rr]
    by_cases h : (bit u k && bit (a : Int) (regionOf c k)) = true
    · have h' : (bit u k && bit ((a ||| b : Nat) : Int) (regionOf c k)) = true := by
        simp only [Bool.and_eq_true] at h ⊢
        rw [hb, h.2]; exact ⟨h.1, rfl⟩
      rw [if_pos h, if_pos h']; omega
    · rw [if_neg h]
      split <;> omega

/-! all regions -/

theorem bit_all {R k : Nat} (hk : k < R) (hR : R ≤ 4) : bit (((2 ^ R - 1 : Nat)) : Int) k = true := by
  rw [bit_nat _ k (by omega), Nat.testBit_two_pow_sub_one]; simpa using hk

theorem inside_all {rc R : Nat} (hR : R ≤ 4) : insideB rc ((2 ^ R - 1 : Nat) : Int) R = true := by
  rw [insideB_iff]
  exact fun k hk _ => bit_all hk hR

theorem pow_all (c : Cfg) : (2 : Int) ^ c.regions.toNat - 1 = ((2 ^ c.regions.toNat - 1 : Nat) : Int) := by
  have := Nat.one_le_two_pow (n := c.regions.toNat)
  rw [natpow]; omega

theorem rr_none (c : Cfg) (u : Int) (bl : List Int) : ∀ k, rr c u bl 0 k = 0
  | 0 => rfl
  | k + 1 => by simp [rr, bit_zero, rr_none c u bl k]

end Go.Proofs.YthpngoplkekkaaaGreat
