/- Contracts: laws of chapter 18 return true at every input. No conditions. -/
import Derived.Test.YtlcgeeacgjdnkaaBoundR
namespace Go.Proofs.Ytlcgeeacgjdnkaa
open Go Go.Cpl

def noneC : Cfg := ⟨1, [0], [(0, 9)], [⟨5, 0, 0, 0, 1, 0, false⟩], [(0, 0)], [0], [0], 1, 5, 0⟩

theorem none_c : CallsH Try.prog 47 [] [] (probV noneC 0 false) [] := by
  refine callsR_of tab mixed Try.func47 rfl (by decide) rfl rfl ?_
  conv => whnf
  exact ⟨[], rfl, ⟨⟨rfl, rfl⟩, rfl, rfl, rfl, rfl, rfl, rfl, ⟨rfl, rfl⟩, ⟨rfl, rfl⟩, ⟨rfl, rfl⟩, ⟨rfl, rfl⟩, rfl, trivial⟩, trivial⟩

theorem noneF : Fit noneC [(-1, -1)] := by decide

theorem awake18_c : CallsH Try.prog 16 [] [] (B true) [] := by
  have e1 := Exceeded_c noneC 0 false [(-1, -1)] noneF
  rw [show exc noneC 0 [(-1, -1)] = some 1 by decide] at e1
  have e2 := Exceeded_c noneC 1 false [(-1, -1)] noneF
  rw [show exc noneC 1 [(-1, -1)] = none by decide] at e2
  have e3 := Need_c noneC 1 false [(-1, -1)] 1 noneF
  rw [show need noneC 1 [(-1, -1)] 1 = 5 by decide] at e3
  have e4 := Room_c noneC 1 false [(-1, -1)] 1 noneF
  rw [show room noneC 1 [(-1, -1)] 1 = 9 by decide] at e4
  have e5 := boundReach_c noneC 1 false 0 (good_of noneF.val)
  rw [show reach noneC 1 0 = 1 by decide] at e5
  refine callsR_of tab mixed Try.func16 rfl (by decide) rfl rfl ?_
  conv => whnf
  refine ⟨_, _, none_c, ?_⟩
  conv => whnf
  refine ⟨_, _, e1, ?_⟩
  conv => whnf
  refine ⟨_, _, e2, ?_⟩
  conv => whnf
  refine spE (fun _ => ?_) (fun h => absurd rfl h)
  conv => whnf
  refine ⟨fun _ => ?_, fun h => by cases h⟩
  conv => whnf
  refine ⟨fun _ => ?_, fun h => by cases h⟩
  conv => whnf
  refine ⟨_, _, e3, ?_⟩
  conv => whnf
  refine spE (fun _ => ?_) (fun h => absurd rfl h)
  conv => whnf
  refine ⟨_, _, e4, ?_⟩
  conv => whnf
  refine spE (fun _ => ?_) (fun h => absurd rfl h)
  conv => whnf
  refine ⟨_, _, e5, ?_⟩
  conv => whnf
  exact ⟨[], rfl, rfl, trivial⟩

theorem Made.fit {c : Cfg} (hm : Made c) (more : List Int) : Fit c (pl more c c.tenants.length) := by
  have := hm.cells
  have := hm.zones
  have := hm.regions
  exact ⟨hm.valid5, pl_len more c _, pl_rng more c (by omega) _⟩

theorem Made.places {c : Cfg} (hm : Made c) (more : List Int) : CallsH Try.prog 18 [.c (.d (.sl (r1 more))), cfgV c] [] (plV (pl more c c.tenants.length)) [] := by
  have := hm.cells
  have := hm.zones
  have := hm.regions
  have := hm.tenants
  exact (mkPlaces_c more c hm.laid (by omega) (by omega)).frozen

set_option maxRecDepth 100000 in
theorem boundTells_c (l more : List Int) (cells tenant set : Int) : CallsH Try.prog 3 [.c (.d (.sl (r1 l))), .c (.d (.sl (r1 more))), I cells, I tenant, I set] [] (B true) [] := by
  obtain ⟨c, u, hm, hprob⟩ := problem_c l cells false
  have hg := hm.good
  have hf := hm.fit more
  have hpl := hm.places more
  generalize pl more c c.tenants.length = x at hf hpl
  refine callsR_of tab mixed Try.func3 rfl (by decide) rfl rfl ?_
  conv => whnf
  refine ⟨_, _, light_c l, ?_⟩
  conv => whnf
  refine spN (fun h => ?_) (fun h => ?_) <;> conv => whnf
  · refine ⟨_, _, awake18_c, ?_⟩
    conv => whnf
    exact ⟨[], rfl, rfl, trivial⟩
  refine ⟨_, _, light_c more, ?_⟩
  conv => whnf
  refine spN (fun h => ?_) (fun h => ?_) <;> conv => whnf
  · refine ⟨_, _, awake18_c, ?_⟩
    conv => whnf
    exact ⟨[], rfl, rfl, trivial⟩
  refine ⟨_, _, hprob, ?_⟩
  conv => whnf
  refine ⟨_, _, hpl, ?_⟩
  conv => whnf
  refine ⟨_, _, between_c tenant (-1) 5 (by omega) (by omega) (by omega), ?_⟩
  conv => whnf
  refine ⟨_, _, mod_c set 8 (by omega) (by omega), ?_⟩
  conv => whnf
  refine ⟨by kernel_rfl, ?_⟩
  conv => whnf
  refine ⟨_, _, awake18_c, ?_⟩
  conv => whnf
  refine ⟨fun _ => ?_, fun h => by cases h⟩
  conv => whnf
  refine ⟨_, _, boundReach_c c u false _ hg, ?_⟩
  conv => whnf
  refine ⟨_, _, refReach_c c u false _ hg, ?_⟩
  conv => whnf
  refine spE (fun _ => ?_) (fun h => absurd rfl h)
  conv => whnf
  refine ⟨_, _, boundReach_c c u false _ hg, ?_⟩
  conv => whnf
  refine ⟨_, _, refReach_c c u false _ hg, ?_⟩
  conv => whnf
  refine spE (fun _ => ?_) (fun h => absurd rfl h)
  conv => whnf
  refine ⟨_, _, Need_c c u false x _ hf, ?_⟩
  conv => whnf
  refine ⟨_, _, refNeed_c c u false x _ hf, ?_⟩
  conv => whnf
  refine spE (fun _ => ?_) (fun h => absurd rfl h)
  conv => whnf
  refine ⟨_, _, Need_c c u false x _ hf, ?_⟩
  conv => whnf
  refine ⟨_, _, refNeed_c c u false x _ hf, ?_⟩
  conv => whnf
  refine spE (fun _ => ?_) (fun h => absurd rfl h)
  conv => whnf
  refine ⟨_, _, Room_c c u false x _ hf, ?_⟩
  conv => whnf
  refine ⟨_, _, refRoom_c c u false x _ hf, ?_⟩
  conv => whnf
  refine spE (fun _ => ?_) (fun h => absurd rfl h)
  conv => whnf
  refine ⟨_, _, Room_c c u false x _ hf, ?_⟩
  conv => whnf
  refine ⟨_, _, refRoom_c c u false x _ hf, ?_⟩
  conv => whnf
  exact ⟨[], rfl, by simp [mtV, valOf, mtC, eqD], trivial⟩

set_option maxRecDepth 100000 in
theorem boundExceeded_c (l more : List Int) (cells : Int) : CallsH Try.prog 4 [.c (.d (.sl (r1 l))), .c (.d (.sl (r1 more))), I cells] [] (B true) [] := by
  obtain ⟨c, u, hm, hprob⟩ := problem_c l cells false
  have hf := hm.fit more
  have hpl := hm.places more
  generalize pl more c c.tenants.length = x at hf hpl
  refine callsR_of tab mixed Try.func4 rfl (by decide) rfl rfl ?_
  conv => whnf
  refine ⟨_, _, light_c l, ?_⟩
  conv => whnf
  refine spN (fun h => ?_) (fun h => ?_) <;> conv => whnf
  · refine ⟨_, _, awake18_c, ?_⟩
    conv => whnf
    exact ⟨[], rfl, rfl, trivial⟩
  refine ⟨_, _, light_c more, ?_⟩
  conv => whnf
  refine spN (fun h => ?_) (fun h => ?_) <;> conv => whnf
  · refine ⟨_, _, awake18_c, ?_⟩
    conv => whnf
    exact ⟨[], rfl, rfl, trivial⟩
  refine ⟨_, _, hprob, ?_⟩
  conv => whnf
  refine ⟨_, _, hpl, ?_⟩
  conv => whnf
  refine ⟨_, _, Exceeded_c c u false x hf, ?_⟩
  conv => whnf
  refine ⟨_, _, refExceeded_c c u false x hf, ?_⟩
  conv => whnf
  refine ⟨_, _, awake18_c, ?_⟩
  conv => whnf
  refine ⟨fun _ => ?_, fun h => by cases h⟩
  conv => whnf
  refine spE (fun _ => ?_) (fun h => absurd rfl h)
  conv => whnf
  exact ⟨[], rfl, by simp [mtV, valOf, mtC, eqD], trivial⟩

/-! greater sets -/

theorem bit_or {a b : Nat} {r : Int} (hr : r < 62) : bit ((a ||| b : Nat) : Int) r = (bit (a : Int) r || bit (b : Int) r) := by
  by_cases h0 : 0 ≤ r
  · obtain ⟨k, rfl⟩ := Int.eq_ofNat_of_zero_le h0
    rw [bit_nat _ k (by omega), bit_nat _ k (by omega), bit_nat _ k (by omega), Nat.testBit_or]
  · simp [bit, h0]

theorem inside_or {rc : Nat} {a b R : Nat} (hR : R ≤ 4) (h : insideB rc (a : Int) R = true) : insideB rc ((a ||| b : Nat) : Int) R = true := by
  rw [insideB_iff] at h ⊢
  intro k hk hb
  rw [bit_or (by omega), h k hk hb]; rfl

theorem rn_or {c : Cfg} (hg : Good c) (u : Int) (l : List (Int × Int)) (a b : Nat) : ∀ k, rn c u l (a : Int) k ≤ rn c u l ((a ||| b : Nat) : Int) k
  | 0 => by simp [rn]
  | k + 1 => by
    have ih := rn_or hg u l a b k
    have hL := hg.load k
    have hR := hg.regions
    simp only [rn]
    by_cases h : (openAt l k && insideB (reach c u k) (a : Int) c.regions.toNat) = true
    · have h' : (openAt l k && insideB (reach c u k) ((a ||| b : Nat) : Int) c.regions.toNat) = true := by
        simp only [Bool.and_eq_true] at h ⊢
        exact ⟨h.1, inside_or (by omega) h.2⟩
      rw [if_pos h, if_pos h']; omega
    · rw [if_neg h]
      split <;> omega

theorem rr_or {c : Cfg} (hg : Good c) (u : Int) {bl : List Int} (a b : Nat) : ∀ k, k ≤ c.cells.length → (∀ i : Nat, i < k → (bl[i]?).getD 0 ≤ capOf c i) → 0 ≤ rr c u bl (a : Int) k ∧ rr c u bl (a : Int) k ≤ rr c u bl ((a ||| b : Nat) : Int) k
  | 0, _, _ => by simp [rr]
  | k + 1, hk, hc => by
    have ih := rr_or hg u (bl := bl) a b k (by omega) (fun i hi => hc i (by omega))
    have hR := hg.regions
    have hreg := hg.region (i := k) (by omega)
    have h1 := hc k (by omega)
    have hb := bit_or (a := a) (b := b) (r := regionOf c k) (by omega)
    simp only [rr]
    by_cases h : (bit u k && bit (a : Int) (regionOf c k)) = true
    · have h' : (bit u k && bit ((a ||| b : Nat) : Int) (regionOf c k)) = true := by
        simp only [Bool.and_eq_true] at h ⊢
        rw [hb, h.2]; exact ⟨h.1, rfl⟩
      rw [if_pos h, if_pos h']; omega
    · rw [if_neg h]
      split <;> omega

set_option maxRecDepth 100000 in
theorem boundGrows_c (l more : List Int) (cells a b : Int) : CallsH Try.prog 5 [.c (.d (.sl (r1 l))), .c (.d (.sl (r1 more))), I cells, I a, I b] [] (B true) [] := by
  obtain ⟨c, u, hm, hprob⟩ := problem_c l cells false
  have hg := hm.good
  have hf := hm.fit more
  have hpl := hm.places more
  generalize pl more c c.tenants.length = x at hf hpl
  have hcl := r2_len c.cells
  have hC := hg.cells
  have hbl : (booked c x).length = c.cells.length := bk_len c x x.length
  have hb1 := r1_len (booked c x)
  obtain ⟨a', ha'⟩ := Int.eq_ofNat_of_zero_le (Int.emod_nonneg a (b := 8) (by omega))
  obtain ⟨b', hb'⟩ := Int.eq_ofNat_of_zero_le (Int.emod_nonneg b (b := 8) (by omega))
  have ha8 := Int.emod_lt_of_pos a (b := 8) (by omega)
  have hb8 := Int.emod_lt_of_pos b (b := 8) (by omega)
  have hor := or_nat (a := a') (b := b') (by omega) (by omega)
  refine callsR_of tab mixed Try.func5 rfl (by decide) rfl rfl ?_
  conv => whnf
  refine ⟨_, _, light_c l, ?_⟩
  conv => whnf
  refine spN (fun h => ?_) (fun h => ?_) <;> conv => whnf
  · refine ⟨_, _, awake18_c, ?_⟩
    conv => whnf
    exact ⟨[], rfl, rfl, trivial⟩
  refine ⟨_, _, light_c more, ?_⟩
  conv => whnf
  refine spN (fun h => ?_) (fun h => ?_) <;> conv => whnf
  · refine ⟨_, _, awake18_c, ?_⟩
    conv => whnf
    exact ⟨[], rfl, rfl, trivial⟩
  refine ⟨_, _, hprob, ?_⟩
  conv => whnf
  refine ⟨_, _, hpl, ?_⟩
  conv => whnf
  refine ⟨_, _, (booked_c c u false x hf).frozen, ?_⟩
  conv => whnf
  refine spNe (fun h => (h (by omega)).elim) (fun _ => ?_)
  conv => whnf
  refine loopN tab mixed (fun i => i ≤ c.cells.length ∧ ∀ k : Nat, k < i → ((booked c x)[k]?).getD 0 ≤ capOf c k) c.cells.length (fun i => [(14, I i)]) (fun _ => []) 51 [] ⟨by omega, fun k hk => by omega⟩ ?_
  conv => whnf
  refine ⟨?_, fun i ⟨hi, hJ⟩ => ?_⟩
  · repeat' (first | exact trivial | rfl | refine And.intro ?_ ?_)
    all_goals (conv => whnf)
    repeat' (first | exact trivial | rfl | refine And.intro ?_ ?_)
  conv => whnf
  refine spD (fun h2 => ?_) (fun h2 => ?_) <;> conv => whnf
  · have hi' : i < c.cells.length := by omega
    obtain ⟨y, hy⟩ := get_of hi'
    obtain ⟨z, hz⟩ := get_of (l := booked c x) (i := i) (by omega)
    refine ⟨by kernel_rfl, ?_⟩
    conv => whnf
    refine ⟨by omega, _, r1_get hz, ?_⟩
    conv => whnf
    refine ⟨by omega, _, r2_get hy, ?_⟩
    conv => whnf
    refine spD (fun h3 => ?_) (fun h3 => ?_) <;> conv => whnf
    · refine ⟨_, _, awake18_c, ?_⟩
      conv => whnf
      exact ⟨[], rfl, rfl, trivial⟩
    · refine gv (by first | omega | (simp only []; omega) | (simp; omega)) (by first | omega | (simp only []; omega) | (simp; omega)) ?_
      conv => whnf
      refine ⟨⟨hi', hi', fun k hk => ?_⟩, [], ?_⟩
      · by_cases e : k = i
        · subst e
          simp only [hz, Option.getD_some, capOf, Int.toNat_natCast, hy, Option.map_some]
          omega
        · exact hJ k (by omega)
      · repeat' (first | exact trivial | rfl | refine And.intro ?_ ?_)
        all_goals (conv => whnf)
        repeat' (first | exact trivial | rfl | refine And.intro ?_ ?_)
  · have hi' : i = c.cells.length := by omega
    subst hi'
    have hrn := rn_or hg u x a' b' x.length
    have hrr := rr_or hg u (bl := booked c x) a' b' c.cells.length (Nat.le_refl _) hJ
    have hrn0 := rn_rng hg u x a' x.length
    rw [rn_need hg u (fun p hp => (hf.rng p hp).1.1), rn_need hg u (fun p hp => (hf.rng p hp).1.1)] at hrn
    rw [rn_need hg u (fun p hp => (hf.rng p hp).1.1)] at hrn0
    rw [rr_room hg u _ _ _ (Nat.le_refl _), rr_room hg u _ _ _ (Nat.le_refl _)] at hrr
    refine ⟨_, _, mod_c a 8 (by omega) (by omega), ?_⟩
    conv => whnf
    refine ⟨_, _, mod_c b 8 (by omega) (by omega), ?_⟩
    conv => whnf
    rw [ha', hb']
    refine ⟨by kernel_rfl, ?_⟩
    conv => whnf
    refine ⟨_, _, awake18_c, ?_⟩
    conv => whnf
    refine ⟨fun _ => ?_, fun h => by cases h⟩
    conv => whnf
    refine ⟨_, _, Need_c c u false x _ hf, ?_⟩
    conv => whnf
    refine .intro _ hor ?_
    conv => whnf
    refine ⟨_, _, Need_c c u false x _ hf, ?_⟩
    conv => whnf
    refine spD (fun _ => ?_) (fun h => absurd hrn h)
    conv => whnf
    refine ⟨_, _, Room_c c u false x _ hf, ?_⟩
    conv => whnf
    refine .intro _ hor ?_
    conv => whnf
    refine ⟨_, _, Room_c c u false x _ hf, ?_⟩
    conv => whnf
    refine spD (fun _ => ?_) (fun h => absurd hrr.2 h)
    conv => whnf
    refine ⟨_, _, Need_c c u false x _ hf, ?_⟩
    conv => whnf
    refine spD (fun _ => ?_) (fun h => absurd hrn0.1 h)
    conv => whnf
    refine ⟨_, _, Room_c c u false x _ hf, ?_⟩
    conv => whnf
    refine ⟨[], rfl, ?_, trivial⟩
    have : 0 ≤ room c u x (a' : Int) := hrr.1
    simp [mtV, valOf, mtC, eqD, this]

/-! all regions -/

theorem bit_all {R k : Nat} (hk : k < R) (hR : R ≤ 4) : bit (((2 ^ R - 1 : Nat)) : Int) k = true := by
  rw [bit_nat _ k (by omega), Nat.testBit_two_pow_sub_one]; simpa using hk

theorem inside_all {rc R : Nat} (hR : R ≤ 4) : insideB rc ((2 ^ R - 1 : Nat) : Int) R = true := by
  rw [insideB_iff]
  exact fun k hk _ => bit_all hk hR

theorem pow_all (c : Cfg) : (2 : Int) ^ c.regions.toNat - 1 = ((2 ^ c.regions.toNat - 1 : Nat) : Int) := by
  have := Nat.one_le_two_pow (n := c.regions.toNat)
  rw [natpow]; omega

theorem rr_none (c : Cfg) (u : Int) (bl : List Int) : ∀ k, rr c u bl 0 k = 0
  | 0 => rfl
  | k + 1 => by simp [rr, bit_zero, rr_none c u bl k]

set_option maxRecDepth 100000 in
theorem boundAll_c (l more : List Int) (cells : Int) : CallsH Try.prog 6 [.c (.d (.sl (r1 l))), .c (.d (.sl (r1 more))), I cells] [] (B true) [] := by
  obtain ⟨c, u, hm, hprob⟩ := problem_c l cells false
  have hg := hm.good
  have hf := hm.fit more
  have hpl := hm.places more
  generalize pl more c c.tenants.length = x at hf hpl
  have hcl := r2_len c.cells
  have hC := hg.cells
  have hR := hg.regions
  have hT := hg.tenants
  have hlen := hf.len
  have hp := r2_len x
  have hbl : (booked c x).length = c.cells.length := bk_len c x x.length
  have hb1 := r1_len (booked c x)
  have hbr := booked_rng hg hf.len
  have hs := shlc (n := c.regions) (by omega)
  have hall := pow_all c
  obtain ⟨A, hA⟩ : ∃ A : Nat, A = 2 ^ c.regions.toNat - 1 := ⟨_, rfl⟩
  rw [← hA] at hall
  have hin : ∀ rc, insideB rc (A : Int) c.regions.toNat = true := fun rc => by rw [hA]; exact inside_all (by omega)
  have hba : ∀ k : Nat, k < c.cells.length → bit (A : Int) (regionOf c k) = true := fun k hk => by
    have hreg := hg.region hk
    obtain ⟨r, hr⟩ := Int.eq_ofNat_of_zero_le hreg.1
    rw [hr, hA]
    exact bit_all (by omega) (by omega)
  refine callsR_of tab mixed Try.func6 rfl (by decide) rfl rfl ?_
  conv => whnf
  refine ⟨_, _, light_c l, ?_⟩
  conv => whnf
  refine spN (fun h => ?_) (fun h => ?_) <;> conv => whnf
  · refine ⟨_, _, awake18_c, ?_⟩
    conv => whnf
    exact ⟨[], rfl, rfl, trivial⟩
  refine ⟨_, _, light_c more, ?_⟩
  conv => whnf
  refine spN (fun h => ?_) (fun h => ?_) <;> conv => whnf
  · refine ⟨_, _, awake18_c, ?_⟩
    conv => whnf
    exact ⟨[], rfl, rfl, trivial⟩
  refine ⟨_, _, hprob, ?_⟩
  conv => whnf
  refine ⟨_, _, hpl, ?_⟩
  conv => whnf
  refine gvu (by first | omega | (simp only []; omega) | (simp; omega)) (by first | omega | (simp only []; omega) | (simp; omega)) ?_
  conv => whnf
  refine ⟨by omega, .intro _ hs.1 ?_⟩
  conv => whnf
  refine gv (by first | omega | (simp only []; omega) | (simp; omega)) (by first | omega | (simp only []; omega) | (simp; omega)) ?_
  conv => whnf
  rw [hall]
  refine loopN tab mixed (fun i => i ≤ x.length) x.length (fun i => [(12, I i), (10, I (rn c u x (A : Int) i))]) (fun _ => []) 51 [] (by omega) ?_
  conv => whnf
  refine ⟨?_, fun i hi => ?_⟩
  · repeat' (first | exact trivial | rfl | refine And.intro ?_ ?_)
    all_goals (conv => whnf)
    repeat' (first | exact trivial | rfl | refine And.intro ?_ ?_)
  conv => whnf
  refine spD (fun h2 => ?_) (fun h2 => ?_) <;> conv => whnf
  · have hi' : i < x.length := by omega
    obtain ⟨q, hx⟩ := get_of hi'
    obtain ⟨t, ht⟩ := get_of (l := c.tenants) (i := i) (by omega)
    have hload : loadOf c i = t.load := by simp [loadOf, ht]
    have hrn := rn_rng hg u x (A : Int) i
    have hL := hg.load i
    refine ⟨by omega, _, r2_get hx, ?_⟩
    conv => whnf
    refine spD (fun h3 => ?_) (fun h3 => ?_) <;> conv => whnf
    · refine ⟨by omega, _, rT_get ht, ?_⟩
      conv => whnf
      refine gv (by first | omega | (simp only []; omega) | (simp; omega)) (by first | omega | (simp only []; omega) | (simp; omega)) ?_
      conv => whnf
      refine gv (by first | omega | (simp only []; omega) | (simp; omega)) (by first | omega | (simp only []; omega) | (simp; omega)) ?_
      conv => whnf
      refine ⟨⟨hi', hi'⟩, [], ?_⟩
      repeat' (first | exact trivial | rfl | refine And.intro ?_ ?_)
      all_goals (conv => whnf)
      repeat' (first | exact trivial | rfl | refine And.intro ?_ ?_)
      simp [rn, openAt, hx, h3, hin, hload]
    · refine gv (by first | omega | (simp only []; omega) | (simp; omega)) (by first | omega | (simp only []; omega) | (simp; omega)) ?_
      conv => whnf
      refine ⟨⟨hi', hi'⟩, [], ?_⟩
      repeat' (first | exact trivial | rfl | refine And.intro ?_ ?_)
      all_goals (conv => whnf)
      repeat' (first | exact trivial | rfl | refine And.intro ?_ ?_)
      simp [rn, openAt, hx, h3]
  have hi' : i = x.length := by omega
  subst hi'
  refine ⟨_, _, (booked_c c u false x hf).frozen, ?_⟩
  conv => whnf
  refine loopN tab mixed (fun i => i ≤ c.cells.length) c.cells.length (fun i => [(14, I i), (11, I (rr c u (booked c x) (A : Int) i))]) (fun _ => []) 71 [] (by omega) ?_
  conv => whnf
  refine ⟨?_, fun i hi => ?_⟩
  · repeat' (first | exact trivial | rfl | refine And.intro ?_ ?_)
    all_goals (conv => whnf)
    repeat' (first | exact trivial | rfl | refine And.intro ?_ ?_)
  conv => whnf
  refine spD (fun h3 => ?_) (fun h3 => ?_) <;> conv => whnf
  · have hi' : i < c.cells.length := by omega
    obtain ⟨y, hy⟩ := get_of hi'
    obtain ⟨z, hz⟩ := get_of (l := booked c x) (i := i) (by omega)
    have hcap : capOf c i = y.2 := by simp [capOf, hy]
    have hcr := hg.laid.capOf i
    have hzr := hbr z (List.mem_of_getElem? hz)
    have hrr := rr_rng hg u hbr (A : Int) i
    refine spD (fun _ => ?_) (fun h => by omega)
    conv => whnf
    refine gvu (by first | omega | (simp only []; omega) | (simp; omega)) (by first | omega | (simp only []; omega) | (simp; omega)) ?_
    conv => whnf
    refine ⟨by omega, shr_eq (by omega) (by omega) ?_⟩
    conv => whnf
    refine ⟨by omega, gg ?_⟩
    conv => whnf
    have ht2 := tmod2 (u.fdiv (2 ^ (i : Int).toNat))
    refine spNe (fun h5 => ?_) (fun h5 => ?_) <;> conv => whnf
    · have hbu : bit u i = true := by
        have := ht2.1 h5
        simp only [bit, decide_eq_true_eq]
        exact ⟨by omega, by omega, this⟩
      refine ⟨by kernel_rfl, ?_⟩
      conv => whnf
      refine ⟨by omega, _, r2_get hy, ?_⟩
      conv => whnf
      refine gv (by first | omega | (simp only []; omega) | (simp; omega)) (by first | omega | (simp only []; omega) | (simp; omega)) ?_
      conv => whnf
      refine ⟨by omega, _, r1_get hz, ?_⟩
      conv => whnf
      refine gv (by first | omega | (simp only []; omega) | (simp; omega)) (by first | omega | (simp only []; omega) | (simp; omega)) ?_
      conv => whnf
      refine gv (by first | omega | (simp only []; omega) | (simp; omega)) (by first | omega | (simp only []; omega) | (simp; omega)) ?_
      conv => whnf
      refine ⟨⟨hi', hi'⟩, [], ?_⟩
      repeat' (first | exact trivial | rfl | refine And.intro ?_ ?_)
      all_goals (conv => whnf)
      repeat' (first | exact trivial | rfl | refine And.intro ?_ ?_)
      simp only [rr, hbu, hba i hi', hcap, hz, Bool.and_self, if_true, Option.getD_some]; omega
    · have hbu : bit u i = false := by
        simp only [bit, decide_eq_false_iff_not]
        rintro ⟨_, _, h6⟩
        exact (ht2.2 h6) h5
      refine gv (by first | omega | (simp only []; omega) | (simp; omega)) (by first | omega | (simp only []; omega) | (simp; omega)) ?_
      conv => whnf
      refine ⟨⟨hi', hi'⟩, [], ?_⟩
      repeat' (first | exact trivial | rfl | refine And.intro ?_ ?_)
      all_goals (conv => whnf)
      repeat' (first | exact trivial | rfl | refine And.intro ?_ ?_)
      simp [rr, hbu]
  · have hi' : i = c.cells.length := by omega
    subst hi'
    have hN : need c u x (A : Int) = rn c u x (A : Int) x.length := by rw [rn_need hg u (fun p hp => (hf.rng p hp).1.1)]; rfl
    have hRm : room c u x (A : Int) = rr c u (booked c x) (A : Int) c.cells.length := by rw [rr_room hg u _ _ _ (Nat.le_refl _)]; rfl
    have hR0 : room c u x 0 = 0 := by
      have := rr_room hg u (booked c x) 0 c.cells.length (Nat.le_refl _)
      rw [rr_none] at this
      exact this.symm
    refine ⟨_, _, awake18_c, ?_⟩
    conv => whnf
    refine ⟨fun _ => ?_, fun h => by cases h⟩
    conv => whnf
    refine spE (fun _ => ?_) (fun h => absurd (by omega) h)
    conv => whnf
    refine ⟨_, _, Need_c c u false x _ hf, ?_⟩
    conv => whnf
    refine spE (fun _ => ?_) (fun h => absurd hN h)
    conv => whnf
    refine ⟨_, _, Room_c c u false x _ hf, ?_⟩
    conv => whnf
    refine spE (fun _ => ?_) (fun h => absurd hRm h)
    conv => whnf
    refine ⟨_, _, Room_c c u false x _ hf, ?_⟩
    conv => whnf
    refine ⟨[], rfl, ?_, trivial⟩
    simp [mtV, valOf, mtC, eqD, hR0]

end Go.Proofs.Ytlcgeeacgjdnkaa
