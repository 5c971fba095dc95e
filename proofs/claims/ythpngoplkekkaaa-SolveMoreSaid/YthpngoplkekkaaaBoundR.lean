/- Contracts: what the reference of bound returns: the same as bound, for problems that are valid and placements that fit. Conditions: those ahead of each theorem. -/
import Derived.Test.YthpngoplkekkaaaBound
namespace Go.Proofs.Ythpngoplkekkaaa
open Go Go.Cpl

def insideB (rc : Nat) (set : Int) : Nat → Bool
  | 0 => true
  | k + 1 => insideB rc set k && !(bit (rc : Int) k && !bit set k)

theorem insideB_iff (rc : Nat) (set : Int) : ∀ n, insideB rc set n = true ↔ ∀ k : Nat, k < n → bit (rc : Int) k = true → bit set k = true
  | 0 => by simp [insideB]
  | n + 1 => by
    simp only [insideB, Bool.and_eq_true, insideB_iff rc set n]
    constructor
    · rintro ⟨h1, h2⟩ k hk hb
      by_cases e : k = n
      · subst e; simpa [hb] using h2
      · exact h1 k (by omega) hb
    · intro h
      refine ⟨fun k hk => h k (by omega), ?_⟩
      cases hb : bit (rc : Int) n
      · simp
      · simp [h n (by omega) hb]

theorem bit_small (s : Int) (i : Nat) (hi : i < 4) : (BitVec.ofInt IntKind.i64.bits s).getLsbD i = bit s i := by
  have e : s.fdiv (2 ^ (i : Int).toNat) = s / 2 ^ i := by
    rw [Int.toNat_natCast]
    exact Int.fdiv_eq_ediv_of_nonneg _ (by have := Int.pow_pos (n := 2) (m := i) (by omega); omega)
  rw [← BitVec.testBit_toNat, Nat.testBit_eq_decide_div_mod_eq, BitVec.toNat_ofInt]
  simp only [bit, e, IntKind.bits]
  congr 1
  apply propext
  have h4 : i = 0 ∨ i = 1 ∨ i = 2 ∨ i = 3 := by omega
  rcases h4 with rfl | rfl | rfl | rfl <;> simp <;> omega

theorem andn_iff {n R : Nat} (hR : R ≤ 4) (hn : n < 2 ^ R) (set : Int) : andn (n : Int) set = 0 ↔ insideB n set R = true := by
  have hn16 : n < 16 := Nat.lt_of_lt_of_le hn (Nat.pow_le_pow_right (n := 2) (by omega) hR)
  have hN := toNat_ofInt_nat (n := n) (by omega)
  have hle : (BitVec.ofInt IntKind.i64.bits (n : Int) &&& ~~~BitVec.ofInt IntKind.i64.bits set).toNat ≤ n := by
    rw [BitVec.toNat_and, hN]; exact Nat.and_le_left
  rw [insideB_iff]
  unfold andn
  rw [wr (by omega) (by omega)]
  constructor
  · intro h k hk hb
    have h0 : BitVec.ofInt IntKind.i64.bits (n : Int) &&& ~~~BitVec.ofInt IntKind.i64.bits set = 0#IntKind.i64.bits := BitVec.eq_of_toNat_eq (by simpa using h)
    have h1 := congrArg (fun x => BitVec.getLsbD x k) h0
    simp only [BitVec.getLsbD_and, BitVec.getLsbD_not, BitVec.getLsbD_zero] at h1
    rw [bit_small _ k (by omega), bit_small _ k (by omega), hb] at h1
    have hk64 : k < IntKind.i64.bits := by simp [IntKind.bits]; omega
    simpa [hk64] using h1
  · intro h
    have h0 : BitVec.ofInt IntKind.i64.bits (n : Int) &&& ~~~BitVec.ofInt IntKind.i64.bits set = 0#IntKind.i64.bits := by
      apply BitVec.eq_of_getLsbD_eq
      intro k hk
      simp only [BitVec.getLsbD_and, BitVec.getLsbD_not, BitVec.getLsbD_zero]
      by_cases hkR : k < R
      · rw [bit_small _ k (by omega), bit_small _ k (by omega)]
        cases hb : bit (n : Int) k
        · simp
        · simp [h k hkR hb]
      · have : (BitVec.ofInt IntKind.i64.bits (n : Int)).getLsbD k = false := by
          rw [← BitVec.testBit_toNat, hN]
          exact Nat.testBit_lt_two_pow (Nat.lt_of_lt_of_le hn (Nat.pow_le_pow_right (by omega) (by omega)))
        rw [this, Bool.false_and]
    rw [h0]; rfl

def openAt (l : List (Int × Int)) (k : Nat) : Bool := match l[k]? with
  | some p => decide (p.1 < 0)
  | none => false

def rn (c : Cfg) (u : Int) (l : List (Int × Int)) (set : Int) : Nat → Int
  | 0 => 0
  | k + 1 => rn c u l set k + if openAt l k && insideB (reach c u k) set c.regions.toNat then loadOf c k else 0

theorem rn_rng {c : Cfg} (hg : Good c) (u : Int) (l : List (Int × Int)) (set : Int) : ∀ k : Nat, 0 ≤ rn c u l set k ∧ rn c u l set k ≤ 65536 * (k : Int)
  | 0 => by simp [rn]
  | k + 1 => by
    have := rn_rng hg u l set k
    have := hg.load k
    simp only [rn]
    split <;> omega

theorem rn_need {c : Cfg} (hg : Good c) (u : Int) {l : List (Int × Int)} (hr : ∀ p ∈ l, -1 ≤ p.1) (set : Int) : ∀ k, rn c u l set k = needS set (dm c u l k)
  | 0 => by simp [rn, dm, needS]
  | k + 1 => by
    have ih := rn_need hg u hr set k
    have hR := hg.regions
    have ha := andn_iff (n := reach c u k) (R := c.regions.toNat) (by omega) (reachN_lt hg u k _) set
    rcases hx : l[k]? with _ | p
    · have e1 : rn c u l set (k + 1) = rn c u l set k := by simp [rn, openAt, hx]
      have e2 : dm c u l (k + 1) = dm c u l k := by simp [dm, hx]
      rw [e1, e2, ih]
    · have := hr p (List.mem_of_getElem? hx)
      by_cases h1 : p.1 = -1
      · have h2 : openAt l k = true := by simp [openAt, hx]; omega
        have e2 : dm c u l (k + 1) = dm c u l k ++ [(loadOf c k, ((reach c u k : Nat) : Int))] := by simp [dm, hx, h1]
        rw [e2, needS_app, ← ih]
        simp only [rn, h2, Bool.true_and, ha]
      · have h2 : openAt l k = false := by simp [openAt, hx]; omega
        have e2 : dm c u l (k + 1) = dm c u l k := by simp [dm, hx, h1]
        rw [e2, ← ih]
        simp [rn, h2]

def rr (c : Cfg) (u : Int) (bl : List Int) (set : Int) : Nat → Int
  | 0 => 0
  | k + 1 => rr c u bl set k + if bit u k && bit set (regionOf c k) then capOf c k - (bl[k]?).getD 0 else 0

theorem addAt_get (l : List Int) {i : Int} (n : Int) (k : Nat) (hi : 0 ≤ i ∧ i < l.length) : ((addAt l i n)[k]?).getD 0 = (l[k]?).getD 0 + if (k : Int) = i then n else 0 := by
  unfold addAt
  rw [if_pos hi]
  by_cases h : (k : Int) = i
  · have hk : i.toNat = k := by omega
    have hlt : k < l.length := by omega
    rw [hk, if_pos h]
    simp [hlt]
  · have hk : i.toNat ≠ k := by omega
    rw [if_neg h, List.getElem?_set_ne hk]
    simp

theorem rmS_addAt (set : Int) (l : List Int) {r : Int} (d : Int) (hr : 0 ≤ r ∧ r < l.length) : ∀ n : Nat, rmS set (addAt l r d) n = rmS set l n + if r < n ∧ bit set r = true then d else 0
  | 0 => by
    have : ¬ (r < ((0 : Nat) : Int) ∧ bit set r = true) := by omega
    rw [if_neg this]; simp [rmS]
  | n + 1 => by
    simp only [rmS]
    rw [rmS_addAt set l d hr n, addAt_get l d n hr]
    by_cases h1 : (n : Int) = r
    · subst h1
      have h2 : ¬ ((n : Int) < (n : Int) ∧ bit set (n : Int) = true) := by omega
      rw [if_neg h2]
      cases hb : bit set (n : Int) <;> simp <;> omega
    · by_cases h2 : r < (n : Int)
      · cases hb : bit set r <;> cases hb' : bit set (n : Int) <;> simp [h1, h2] <;> omega
      · have h3 : ¬ r < ((n + 1 : Nat) : Int) := by omega
        have g2 : ¬ (r < (n : Int) ∧ bit set r = true) := fun h => h2 h.1
        have g3 : ¬ (r < ((n + 1 : Nat) : Int) ∧ bit set r = true) := fun h => h3 h.1
        rw [if_neg g2, if_neg g3, if_neg h1]
        simp

theorem Good.region {c : Cfg} (hg : Good c) {i : Nat} (hi : i < c.cells.length) : 0 ≤ regionOf c i ∧ regionOf c i < c.regions := by
  obtain ⟨x, hx⟩ := get_of hi
  obtain ⟨z1, z2⟩ := hg.laid.cell x (List.mem_of_getElem? hx)
  obtain ⟨z, hz⟩ := get_int (l := c.zones) z1 (by omega)
  have := hg.laid.zone z (List.mem_of_getElem? hz)
  have e : regionOf c i = z := by simp [regionOf, zoneOf, hx, regionOfZone, z1, hz]
  omega

theorem rmS_zero (set : Int) (m : Nat) : ∀ n, rmS set (List.replicate m 0) n = 0
  | 0 => rfl
  | n + 1 => by
    simp only [rmS, rmS_zero set m n]
    split
    · rw [List.getElem?_replicate]; split <;> simp
    · simp

theorem rr_room {c : Cfg} (hg : Good c) (u : Int) (bl : List Int) (set : Int) : ∀ k, k ≤ c.cells.length → rr c u bl set k = rmS set (rms c u bl k) c.regions.toNat
  | 0, _ => by simp [rr, rms, rmS_zero]
  | k + 1, hk => by
    have ih := rr_room hg u bl set k (by omega)
    have hreg := hg.region (i := k) (by omega)
    have hl := rms_len c u bl k
    simp only [rr, rms]
    cases hb : bit u k
    · simp [ih]
    · simp only [Bool.true_and, if_true]
      rw [rmS_addAt set _ _ (by omega), ih]
      have e : (regionOf c k < (c.regions.toNat : Int) ∧ bit set (regionOf c k) = true) ↔ bit set (regionOf c k) = true := ⟨fun h => h.2, fun h => ⟨by omega, h⟩⟩
      simp only [e]

theorem rr_rng {c : Cfg} (hg : Good c) (u : Int) {bl : List Int} (hb : ∀ x ∈ bl, 0 ≤ x ∧ x ≤ 4194304) (set : Int) : ∀ k : Nat, -(4194304 * (k : Int)) ≤ rr c u bl set k ∧ rr c u bl set k ≤ 4194304 * (k : Int)
  | 0 => by simp [rr]
  | k + 1 => by
    have := rr_rng hg u hb set k
    have := hg.laid.capOf k
    have hbk : 0 ≤ (bl[k]?).getD 0 ∧ (bl[k]?).getD 0 ≤ 4194304 := by
      cases h : bl[k]? with
      | none => simp
      | some y => have := hb y (List.mem_of_getElem? h); simpa using this
    simp only [rr]
    split <;> omega

end Go.Proofs.Ythpngoplkekkaaa
