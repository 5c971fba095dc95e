/- Contracts: what the reference of bound returns: the same as bound, for problems that are valid and placements that fit. Conditions: those ahead of each theorem. -/
import Derived.Test.YtelnligfebjjiaaGreatBound
namespace Go.Proofs.YtelnligfebjjiaaGreat
open Go Go.Cpl

def insideB (rc : Nat) (set : Int) : Nat → Bool
  | 0 => true
  | k + 1 => insideB rc set k && !(bit (rc : Int) k && !bit set k)

theorem insideB_iff (rc : Nat) (set : Int) : ∀ n, insideB rc set n = true ↔ ∀ k : Nat, k < n → bit (rc : Int) k = true → bit set k = true
  | 0 => by simp [insideB]
  | n + 1 => by
    simp only [insideB, Bool.and_eq_true, insideB_iff rc set n]
    constructor
    · rintro ⟨h1, h2⟩ k hk hb
      by_cases e : k = n
      · subst e; simpa [hb] using h2
      · exact h1 k (by omega) hb
    · intro h
      refine ⟨fun k hk => h k (by omega), ?_⟩
      cases hb : bit (rc : Int) n
      · simp
      · simp [h n (by omega) hb]

theorem bit_small (s : Int) (i : Nat) (hi : i < 4) : (BitVec.ofInt IntKind.i64.bits s).getLsbD i = bit s i := by
  have e : s.fdiv (2 ^ (i : Int).toNat) = s / 2 ^ i := by
    rw [Int.toNat_natCast]
    exact Int.fdiv_eq_ediv_of_nonneg _ (by have := Int.pow_pos (n := 2) (m := i) (by omega); omega)
  rw [← BitVec.testBit_toNat, Nat.testBit_eq_decide_div_mod_eq, BitVec.toNat_ofInt]
  simp only [bit, e, IntKind.bits]
  congr 1
  apply propext
  have h4 : i = 0 ∨ i = 1 ∨ i = 2 ∨ i = 3 := by omega
  rcases h4 with rfl | rfl | rfl | rfl <;> simp <;> omega

theorem andn_iff {n R : Nat} (hR : R ≤ 4) (hn : n < 2 ^ R) (set : Int) : andn (n : Int) set = 0 ↔ insideB n set R = true := by
  have hn16 : n < 16 := Nat.lt_of_lt_of_le hn (Nat.pow_le_pow_right (n := 2) (by omega) hR)
  have hN := toNat_ofInt_nat (n := n) (by omega)
  have hle : (BitVec.ofInt IntKind.i64.bits (n : Int) &&& ~~~BitVec.ofInt IntKind.i64.bits set).toNat ≤ n := by
    rw [BitVec.toNat_and, hN]; exact Nat.and_le_left
  rw [insideB_iff]
  unfold andn
  rw [wr (by omega) (by omega)]
  constructor
  · intro h k hk hb
    have h0 : BitVec.ofInt IntKind.i64.bits (n : Int) &&& ~~~BitVec.ofInt IntKind.i64.bits set = 0#IntKind.i64.bits := BitVec.eq_of_toNat_eq (by simpa using h)
    have h1 := congrArg (fun x => BitVec.getLsbD x k) h0
    simp only [BitVec.getLsbD_and, BitVec.getLsbD_not, BitVec.getLsbD_zero] at h1
    rw [bit_small _ k (by omega), bit_small _ k (by omega), hb] at h1
    have hk64 : k < IntKind.i64.bits := by simp [IntKind.bits]; omega
    simpa [hk64] using h1
  · intro h
    have h0 : BitVec.ofInt IntKind.i64.bits (n : Int) &&& ~~~BitVec.ofInt IntKind.i64.bits set = 0#IntKind.i64.bits := by
      apply BitVec.eq_of_getLsbD_eq
      intro k hk
      simp only [BitVec.getLsbD_and, BitVec.getLsbD_not, BitVec.getLsbD_zero]
      by_cases hkR : k < R
      · rw [bit_small _ k (by omega), bit_small _ k (by omega)]
        cases hb : bit (n : Int) k
        · simp
        · simp [h k hkR hb]
      · have : (BitVec.ofInt IntKind.i64.bits (n : Int)).getLsbD k = false := by
          rw [← BitVec.testBit_toNat, hN]
          exact Nat.testBit_lt_two_pow (Nat.lt_of_lt_of_le hn (Nat.pow_le_pow_right (by omega) (by omega)))
        rw [this, Bool.false_and]
    rw [h0]; rfl

def openAt (l : List (Int × Int)) (k : Nat) : Bool := match l[k]? with
  | some p => decide (p.1 < 0)
  | none => false

def rn (c : Cfg) (u : Int) (l : List (Int × Int)) (set : Int) : Nat → Int
  | 0 => 0
  | k + 1 => rn c u l set k + if openAt l k && insideB (reach c u k) set c.regions.toNat then loadOf c k else 0

theorem rn_rng {c : Cfg} (hg : Good c) (u : Int) (l : List (Int × Int)) (set : Int) : ∀ k : Nat, 0 ≤ rn c u l set k ∧ rn c u l set k ≤ 65536 * (k : Int)
  | 0 => by simp [rn]
  | k + 1 => by
    have := rn_rng hg u l set k
    have := hg.load k
    simp only [rn]
    split <;> omega

theorem rn_need {c : Cfg} (hg : Good c) (u : Int) {l : List (Int × Int)} (hr : ∀ p ∈ l, -1 ≤ p.1) (set : Int) : ∀ k, rn c u l set k = needS set (dm c u l k)
  | 0 => by simp [rn, dm, needS]
  | k + 1 => by
    have ih := rn_need hg u hr set k
    have hR := hg.regions
    have ha := andn_iff (n := reach c u k) (R := c.regions.toNat) (by omega) (reachN_lt hg u k _) set
    rcases hx : l[k]? with _ | p
    · have e1 : rn c u l set (k + 1) = rn c u l set k := by simp [rn, openAt, hx]
      have e2 : dm c u l (k + 1) = dm c u l k := by simp [dm, hx]
      rw [e1, e2, ih]
    · have := hr p (List.mem_of_getElem? hx)
      by_cases h1 : p.1 = -1
      · have h2 : openAt l k = true := by simp [openAt, hx]; omega
        have e2 : dm c u l (k + 1) = dm c u l k ++ [(loadOf c k, ((reach c u k : Nat) : Int))] := by simp [dm, hx, h1]
        rw [e2, needS_app, ← ih]
        simp only [rn, h2, Bool.true_and, ha]
      · have h2 : openAt l k = false := by simp [openAt, hx]; omega
        have e2 : dm c u l (k + 1) = dm c u l k := by simp [dm, hx, h1]
        rw [e2, ← ih]
        simp [rn, h2]

theorem refNeed_c (c : Cfg) (u : Int) (hd : Bool) (l : List (Int × Int)) (set : Int) (hf : Fit c l) : CallsH Tryz.prog 75 [probV c u hd, plV l, I set] [] (I (need c u l set)) [] := by
  have hg := good_of hf.val
  have hlt := rT_len c.tenants
  have hp := r2_len l
  have hT := hg.tenants
  have hR := hg.regions
  have hlen := hf.len
  unfold need
  rw [← rn_need hg u (fun p hp => (hf.rng p hp).1.1)]
  refine callsR_of tab mixed Tryz.func75 rfl (by decide) rfl rfl ?_
  conv => whnf
  refine loopN tab mixed (fun i => i ≤ l.length) l.length (fun i => [(8, I i), (7, I (rn c u l set i))]) (fun _ => []) 51 [] (by omega) ?_
  conv => whnf
  refine ⟨?_, fun i hi => ?_⟩
  · repeat' (first | exact trivial | rfl | refine And.intro ?_ ?_)
    all_goals (conv => whnf)
    repeat' (first | exact trivial | rfl | refine And.intro ?_ ?_)
  conv => whnf
  refine spD (fun h => ?_) (fun h => ?_) <;> conv => whnf
  · have hi' : i < l.length := by omega
    obtain ⟨p, hx⟩ := get_of hi'
    obtain ⟨t, ht⟩ := get_of (l := c.tenants) (i := i) (by omega)
    have hload : loadOf c i = t.load := by simp [loadOf, ht]
    have hop : openAt l i = decide (p.1 < 0) := by simp [openAt, hx]
    have hrn := rn_rng hg u l set i
    have hL := hg.load i
    refine ⟨by omega, _, r2_get hx, ?_⟩
    conv => whnf
    rw [← hop]
    refine loopN tab mixed (fun k => k ≤ c.regions.toNat) c.regions.toNat (fun k => [(10, I k), (9, B (openAt l i && insideB (reach c u i) set k))]) (fun _ => []) 61 [] (by omega) ?_
    conv => whnf
    refine ⟨?_, fun k hk => ?_⟩
    · repeat' (first | exact trivial | rfl | refine And.intro ?_ ?_)
      all_goals (conv => whnf)
      repeat' (first | exact trivial | rfl | refine And.intro ?_ ?_)
      simp [insideB]
    conv => whnf
    refine spD (fun h1 => ?_) (fun h1 => ?_) <;> conv => whnf
    · have hk' : k < c.regions.toNat := by omega
      refine ⟨_, _, refReach_c c u hd i hg, ?_⟩
      conv => whnf
      refine ⟨_, _, has_c _ k, ?_⟩
      conv => whnf
      refine ⟨fun h2 => ?_, fun h2 => ?_⟩ <;> conv => whnf
      · refine ⟨_, _, has_c set k, ?_⟩
        conv => whnf
        refine ⟨fun h3 => ?_, fun h3 => ?_⟩ <;> conv => whnf
        · refine gv (by first | omega | (simp only []; omega) | (simp; omega)) (by first | omega | (simp only []; omega) | (simp; omega)) ?_
          conv => whnf
          refine ⟨⟨hk', hk'⟩, [], ?_⟩
          repeat' (first | exact trivial | rfl | refine And.intro ?_ ?_)
          all_goals (conv => whnf)
          repeat' (first | exact trivial | rfl | refine And.intro ?_ ?_)
          simp [insideB, h2, h3]
        · refine gv (by first | omega | (simp only []; omega) | (simp; omega)) (by first | omega | (simp only []; omega) | (simp; omega)) ?_
          conv => whnf
          refine ⟨⟨hk', hk'⟩, [], ?_⟩
          repeat' (first | exact trivial | rfl | refine And.intro ?_ ?_)
          all_goals (conv => whnf)
          repeat' (first | exact trivial | rfl | refine And.intro ?_ ?_)
          simp [insideB, h2, h3]
      · refine gv (by first | omega | (simp only []; omega) | (simp; omega)) (by first | omega | (simp only []; omega) | (simp; omega)) ?_
        conv => whnf
        refine ⟨⟨hk', hk'⟩, [], ?_⟩
        repeat' (first | exact trivial | rfl | refine And.intro ?_ ?_)
        all_goals (conv => whnf)
        repeat' (first | exact trivial | rfl | refine And.intro ?_ ?_)
        simp [insideB, h2]
    · have hk' : k = c.regions.toNat := by omega
      subst hk'
      refine ⟨fun h2 => ?_, fun h2 => ?_⟩ <;> conv => whnf
      · refine ⟨by omega, _, rT_get ht, ?_⟩
        conv => whnf
        refine gv (by first | omega | (simp only []; omega) | (simp; omega)) (by first | omega | (simp only []; omega) | (simp; omega)) ?_
        conv => whnf
        refine gv (by first | omega | (simp only []; omega) | (simp; omega)) (by first | omega | (simp only []; omega) | (simp; omega)) ?_
        conv => whnf
        refine ⟨⟨hi', hi'⟩, [], ?_⟩
        repeat' (first | exact trivial | rfl | refine And.intro ?_ ?_)
        all_goals (conv => whnf)
        repeat' (first | exact trivial | rfl | refine And.intro ?_ ?_)
        simp [rn, h2, hload]
      · refine gv (by first | omega | (simp only []; omega) | (simp; omega)) (by first | omega | (simp only []; omega) | (simp; omega)) ?_
        conv => whnf
        refine ⟨⟨hi', hi'⟩, [], ?_⟩
        repeat' (first | exact trivial | rfl | refine And.intro ?_ ?_)
        all_goals (conv => whnf)
        repeat' (first | exact trivial | rfl | refine And.intro ?_ ?_)
        simp [rn, h2]
  · refine ⟨[], rfl, ⟨rfl, ?_⟩, trivial⟩
    have hi' : i = l.length := by omega
    simp [hi']

def rr (c : Cfg) (u : Int) (bl : List Int) (set : Int) : Nat → Int
  | 0 => 0
  | k + 1 => rr c u bl set k + if bit u k && bit set (regionOf c k) then capOf c k - (bl[k]?).getD 0 else 0

theorem addAt_get (l : List Int) {i : Int} (n : Int) (k : Nat) (hi : 0 ≤ i ∧ i < l.length) : ((addAt l i n)[k]?).getD 0 = (l[k]?).getD 0 + if (k : Int) = i then n else 0 := by
  unfold addAt
  rw [if_pos hi]
  by_cases h : (k : Int) = i
  · have hk : i.toNat = k := by omega
    have hlt : k < l.length := by omega
    rw [hk, if_pos h]
    simp [hlt]
  · have hk : i.toNat ≠ k := by omega
    rw [if_neg h, List.getElem?_set_ne hk]
    simp

theorem rmS_addAt (set : Int) (l : List Int) {r : Int} (d : Int) (hr : 0 ≤ r ∧ r < l.length) : ∀ n : Nat, rmS set (addAt l r d) n = rmS set l n + if r < n ∧ bit set r = true then d else 0
  | 0 => by
    have : ¬ (r < ((0 : Nat) : Int) ∧ bit set r = true) := by omega
    rw [if_neg this]; simp [rmS]
  | n + 1 => by
    simp only [rmS]
    rw [rmS_addAt set l d hr n, addAt_get l d n hr]
    by_cases h1 : (n : Int) = r
    · subst h1
      have h2 : ¬ ((n : Int) < (n : Int) ∧ bit set (n : Int) = true) := by omega
      rw [if_neg h2]
      cases hb : bit set (n : Int) <;> simp <;> omega
    · by_cases h2 : r < (n : Int)
      · cases hb : bit set r <;> cases hb' : bit set (n : Int) <;> simp [h1, h2] <;> omega
      · have h3 : ¬ r < ((n + 1 : Nat) : Int) := by omega
        have g2 : ¬ (r < (n : Int) ∧ bit set r = true) := fun h => h2 h.1
        have g3 : ¬ (r < ((n + 1 : Nat) : Int) ∧ bit set r = true) := fun h => h3 h.1
        rw [if_neg g2, if_neg g3, if_neg h1]
        simp

theorem Good.region {c : Cfg} (hg : Good c) {i : Nat} (hi : i < c.cells.length) : 0 ≤ regionOf c i ∧ regionOf c i < c.regions := by
  obtain ⟨x, hx⟩ := get_of hi
  obtain ⟨z1, z2⟩ := hg.laid.cell x (List.mem_of_getElem? hx)
  obtain ⟨z, hz⟩ := get_int (l := c.zones) z1 (by omega)
  have := hg.laid.zone z (List.mem_of_getElem? hz)
  have e : regionOf c i = z := by simp [regionOf, zoneOf, hx, regionOfZone, z1, hz]
  omega

theorem rmS_zero (set : Int) (m : Nat) : ∀ n, rmS set (List.replicate m 0) n = 0
  | 0 => rfl
  | n + 1 => by
    simp only [rmS, rmS_zero set m n]
    split
    · rw [List.getElem?_replicate]; split <;> simp
    · simp

theorem rr_room {c : Cfg} (hg : Good c) (u : Int) (bl : List Int) (set : Int) : ∀ k, k ≤ c.cells.length → rr c u bl set k = rmS set (rms c u bl k) c.regions.toNat
  | 0, _ => by simp [rr, rms, rmS_zero]
  | k + 1, hk => by
    have ih := rr_room hg u bl set k (by omega)
    have hreg := hg.region (i := k) (by omega)
    have hl := rms_len c u bl k
    simp only [rr, rms]
    cases hb : bit u k
    · simp [ih]
    · simp only [Bool.true_and, if_true]
      rw [rmS_addAt set _ _ (by omega), ih]
      have e : (regionOf c k < (c.regions.toNat : Int) ∧ bit set (regionOf c k) = true) ↔ bit set (regionOf c k) = true := ⟨fun h => h.2, fun h => ⟨by omega, h⟩⟩
      simp only [e]

theorem rr_rng {c : Cfg} (hg : Good c) (u : Int) {bl : List Int} (hb : ∀ x ∈ bl, 0 ≤ x ∧ x ≤ 4194304) (set : Int) : ∀ k : Nat, -(4194304 * (k : Int)) ≤ rr c u bl set k ∧ rr c u bl set k ≤ 4194304 * (k : Int)
  | 0 => by simp [rr]
  | k + 1 => by
    have := rr_rng hg u hb set k
    have := hg.laid.capOf k
    have hbk : 0 ≤ (bl[k]?).getD 0 ∧ (bl[k]?).getD 0 ≤ 4194304 := by
      cases h : bl[k]? with
      | none => simp
      | some y => have := hb y (List.mem_of_getElem? h); simpa using this
    simp only [rr]
    split <;> omega

theorem refRoom_c (c : Cfg) (u : Int) (hd : Bool) (l : List (Int × Int)) (set : Int) (hf : Fit c l) : CallsH Tryz.prog 76 [probV c u hd, plV l, I set] [] (I (room c u l set)) [] := by
  have hg := good_of hf.val
  have hcl := r2_len c.cells
  have hC := hg.cells
  have hbl : (booked c l).length = c.cells.length := bk_len c l l.length
  have hb1 := r1_len (booked c l)
  have hbr := booked_rng hg hf.len
  unfold room
  rw [← rr_room hg u (booked c l) set _ (Nat.le_refl _)]
  refine callsR_of tab mixed Tryz.func76 rfl (by decide) rfl rfl ?_
  conv => whnf
  refine ⟨_, _, (refBooked_c c u hd l hf).frozen, ?_⟩
  conv => whnf
  refine loopN tab mixed (fun i => i ≤ c.cells.length) c.cells.length (fun i => [(9, I i), (7, I (rr c u (booked c l) set i))]) (fun _ => []) 51 [] (by omega) ?_
  conv => whnf
  refine ⟨?_, fun i hi => ?_⟩
  · repeat' (first | exact trivial | rfl | refine And.intro ?_ ?_)
    all_goals (conv => whnf)
    repeat' (first | exact trivial | rfl | refine And.intro ?_ ?_)
  conv => whnf
  refine spD (fun h2 => ?_) (fun h2 => ?_) <;> conv => whnf
  · have hi' : i < c.cells.length := by omega
    obtain ⟨x, hx⟩ := get_of hi'
    have hcap : capOf c i = x.2 := by simp [capOf, hx]
    have hcr := hg.laid.capOf i
    obtain ⟨y, hy⟩ := get_of (l := booked c l) (i := i) (by omega)
    have hyr := hbr y (List.mem_of_getElem? hy)
    have hrr := rr_rng hg u hbr set i
    refine ⟨_, _, has_c u i, ?_⟩
    conv => whnf
    refine ⟨fun h1 => ?_, fun h1 => ?_⟩ <;> conv => whnf
    · refine ⟨_, _, refRegionOf_c c i hg.laid, ?_⟩
      conv => whnf
      refine ⟨_, _, has_c set _, ?_⟩
      conv => whnf
      refine ⟨fun h3 => ?_, fun h3 => ?_⟩ <;> conv => whnf
      · refine ⟨by kernel_rfl, ?_⟩
        conv => whnf
        refine ⟨by omega, _, r2_get hx, ?_⟩
        conv => whnf
        refine gv (by first | omega | (simp only []; omega) | (simp; omega)) (by first | omega | (simp only []; omega) | (simp; omega)) ?_
        conv => whnf
        refine ⟨by omega, _, r1_get hy, ?_⟩
        conv => whnf
        refine gv (by first | omega | (simp only []; omega) | (simp; omega)) (by first | omega | (simp only []; omega) | (simp; omega)) ?_
        conv => whnf
        refine gv (by first | omega | (simp only []; omega) | (simp; omega)) (by first | omega | (simp only []; omega) | (simp; omega)) ?_
        conv => whnf
        refine ⟨⟨hi', hi'⟩, [], ?_⟩
        repeat' (first | exact trivial | rfl | refine And.intro ?_ ?_)
        all_goals (conv => whnf)
        repeat' (first | exact trivial | rfl | refine And.intro ?_ ?_)
        simp only [rr, h1, h3, hcap, hy, Bool.and_self, if_true, Option.getD_some]; omega
      · refine gv (by first | omega | (simp only []; omega) | (simp; omega)) (by first | omega | (simp only []; omega) | (simp; omega)) ?_
        conv => whnf
        refine ⟨⟨hi', hi'⟩, [], ?_⟩
        repeat' (first | exact trivial | rfl | refine And.intro ?_ ?_)
        all_goals (conv => whnf)
        repeat' (first | exact trivial | rfl | refine And.intro ?_ ?_)
        simp [rr, h3]
    · refine gv (by first | omega | (simp only []; omega) | (simp; omega)) (by first | omega | (simp only []; omega) | (simp; omega)) ?_
      conv => whnf
      refine ⟨⟨hi', hi'⟩, [], ?_⟩
      repeat' (first | exact trivial | rfl | refine And.intro ?_ ?_)
      all_goals (conv => whnf)
      repeat' (first | exact trivial | rfl | refine And.intro ?_ ?_)
      simp [rr, h1]
  · refine ⟨[], rfl, ⟨rfl, ?_⟩, trivial⟩
    have hi' : i = c.cells.length := by omega
    simp [hi']

theorem refExceeded_c (c : Cfg) (u : Int) (hd : Bool) (l : List (Int × Int)) (hf : Fit c l) : CallsH Tryz.prog 83 [probV c u hd, plV l] [] (excV (exc c u l)) [] := by
  have hg := good_of hf.val
  have hR := hg.regions
  have hs := shlc (n := c.regions) (by omega)
  have h16 := two_reg hg
  have hpw := natpow c.regions.toNat
  refine callsR_of tab mixed Tryz.func83 rfl (by decide) rfl rfl ?_
  conv => whnf
  refine loopN tab mixed (fun i => i + 1 ≤ 2 ^ c.regions.toNat ∧ ∀ k : Nat, 1 ≤ k → k < i + 1 → ¬ room c u l k < need c u l k) (2 ^ c.regions.toNat) (fun i => [(6, I (i + 1 : Nat))]) (fun _ => []) 51 [] ⟨Nat.one_le_two_pow, fun k h1 h2 => by omega⟩ ?_
  conv => whnf
  refine ⟨?_, fun i ⟨hi, hJ⟩ => ?_⟩
  · repeat' (first | exact trivial | rfl | refine And.intro ?_ ?_)
    all_goals (conv => whnf)
    repeat' (first | exact trivial | rfl | refine And.intro ?_ ?_)
  conv => whnf
  refine gvu (by first | omega | (simp only []; omega) | (simp; omega)) (by first | omega | (simp only []; omega) | (simp; omega)) ?_
  conv => whnf
  refine ⟨by omega, .intro _ hs.1 ?_⟩
  conv => whnf
  refine spD (fun h => ?_) (fun h => ?_) <;> conv => whnf
  · have hi' : i + 1 < 2 ^ c.regions.toNat := by omega
    refine ⟨by kernel_rfl, ?_⟩
    conv => whnf
    refine ⟨_, _, refNeed_c c u hd l _ hf, ?_⟩
    conv => whnf
    refine ⟨_, _, refRoom_c c u hd l _ hf, ?_⟩
    conv => whnf
    refine spD (fun h4 => ?_) (fun h4 => ?_) <;> conv => whnf
    · have e := exc_some (c := c) (u := u) (l := l) (i := i + 1) (by omega) hi' h4 hJ
      rw [e]
      exact ⟨[], rfl, ⟨⟨rfl, rfl⟩, rfl, trivial⟩, trivial⟩
    · refine gv (by first | omega | (simp only []; omega) | (simp; omega)) (by first | omega | (simp only []; omega) | (simp; omega)) ?_
      conv => whnf
      refine ⟨⟨by omega, hi', fun k hk1 hk2 => ?_⟩, [], ?_⟩
      · by_cases hk : k < i + 1
        · exact hJ k hk1 hk
        · have : k = i + 1 := by omega
          subst this; exact h4
      · repeat' (first | exact trivial | rfl | refine And.intro ?_ ?_)
        all_goals (conv => whnf)
        repeat' (first | exact trivial | rfl | refine And.intro ?_ ?_)
  · have e := exc_none (c := c) (u := u) (l := l) (fun k hk1 hk2 => hJ k hk1 (by omega))
    rw [e]
    exact ⟨[], rfl, ⟨⟨rfl, rfl⟩, rfl, trivial⟩, trivial⟩

end Go.Proofs.YtelnligfebjjiaaGreat
