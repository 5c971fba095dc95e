/- Contracts: each law of chapter 4 returns true at every list and at all numbers. No conditions. -/
import Derived.Test.YtngcjkoocoangaaConf
import Derived.Test.YtngcjkoocoangaaValid
namespace Go.Proofs.Ytngcjkoocoangaa
open Go Go.Cpl

theorem Made.laid {c : Cfg} (h : Made c) : Laid c := by
  have h1 := h.zones
  have h2 := h.cells
  have h3 := h.regions
  refine ⟨by omega, by omega, fun x hx => ?_, fun x hx => ?_, fun x hx => ?_, by omega⟩
  · obtain ⟨i, hi⟩ := List.getElem?_of_mem hx
    obtain ⟨e, _⟩ := h.cell i x hi
    rw [e]
    exact ⟨Int.emod_nonneg _ (by omega), Int.emod_lt_of_pos _ (by omega)⟩
  · obtain ⟨i, hi⟩ := List.getElem?_of_mem hx
    rw [h.zone i x hi]
    exact ⟨Int.emod_nonneg _ (by omega), Int.emod_lt_of_pos _ (by omega)⟩
  · obtain ⟨i, hi⟩ := List.getElem?_of_mem hx
    have := (h.cell i x hi).2
    omega

theorem Made.rep {c : Cfg} (h : Made c) : c.replicas.length ≤ 1000 := by have := h.replicas; omega

set_option maxRecDepth 100000 in
theorem topoSurvives_c (l : List Int) (lost : Int) : CallsH Try.prog 4 [.c (.d (.sl (r1 l))), I lost] [] (B true) [] := by
  obtain ⟨c, hm, hcfg⟩ := config_c l
  have hL := hm.laid
  have hR := hm.regions
  refine callsR_of tab mixed Try.func4 rfl (by decide) rfl rfl ?_
  conv => whnf
  refine ⟨_, _, light_c l, ?_⟩
  conv => whnf
  refine spN (fun h => ?_) (fun h => ?_) <;> conv => whnf
  · refine ⟨_, _, awake_c, ?_⟩
    conv => whnf
    exact ⟨[], rfl, rfl, trivial⟩
  refine ⟨_, _, hcfg, ?_⟩
  conv => whnf
  refine ⟨_, _, mod_c lost 16 (by omega) (by omega), ?_⟩
  conv => whnf
  refine ⟨by kernel_rfl, ?_⟩
  conv => whnf
  refine ⟨_, _, awake_c, ?_⟩
  conv => whnf
  refine ⟨fun _ => ?_, fun h => by cases h⟩
  conv => whnf
  refine ⟨_, _, alive_c c lost hL (by omega), ?_⟩
  conv => whnf
  refine ⟨_, _, refAlive_c c lost hL, ?_⟩
  conv => whnf
  refine ⟨_, _, sameInts_c _ _ (by have := upto_le (fun i => !isLost c lost (regionOf c i)) c.cells.length; have := hL.cells; unfold alive; omega), ?_⟩
  conv => whnf
  refine spD (fun _ => ?_) (fun h => (h rfl).elim)
  conv => whnf
  refine ⟨_, _, alive_c c (lost % 16) hL (by omega), ?_⟩
  conv => whnf
  refine ⟨_, _, refAlive_c c (lost % 16) hL, ?_⟩
  conv => whnf
  refine ⟨_, _, sameInts_c _ _ (by have := upto_le (fun i => !isLost c (lost % 16) (regionOf c i)) c.cells.length; have := hL.cells; unfold alive; omega), ?_⟩
  conv => whnf
  refine spD (fun _ => ?_) (fun h => (h rfl).elim)
  conv => whnf
  refine ⟨_, _, majority_c c lost hL (by omega) hm.rep, ?_⟩
  conv => whnf
  refine ⟨_, _, refMajority_c c lost hL hm.rep hm.replica, ?_⟩
  conv => whnf
  refine ⟨fun _ => ?_, fun h => by simp at h⟩
  conv => whnf
  refine ⟨_, _, majority_c c (lost % 16) hL (by omega) hm.rep, ?_⟩
  conv => whnf
  refine ⟨_, _, refMajority_c c (lost % 16) hL hm.rep hm.replica, ?_⟩
  conv => whnf
  exact ⟨[], rfl, by simp [mtV, valOf, mtC, eqD], trivial⟩

theorem upto_small {c : Cfg} (hc : Laid c) (p : Nat → Bool) : (upto p c.cells.length).length ≤ 1000000 := by
  have := upto_le p c.cells.length
  have := hc.cells
  omega

set_option maxRecDepth 100000 in
theorem topoCells_c (l : List Int) (cell zone region : Int) : CallsH Try.prog 7 [.c (.d (.sl (r1 l))), I cell, I zone, I region] [] (B true) [] := by
  obtain ⟨c, hm, hcfg⟩ := config_c l
  have hL := hm.laid
  have hR := hm.regions
  refine callsR_of tab mixed Try.func7 rfl (by decide) rfl rfl ?_
  conv => whnf
  refine ⟨_, _, light_c l, ?_⟩
  conv => whnf
  refine spN (fun h => ?_) (fun h => ?_) <;> conv => whnf
  · refine ⟨_, _, awake_c, ?_⟩
    conv => whnf
    exact ⟨[], rfl, rfl, trivial⟩
  refine ⟨_, _, hcfg, ?_⟩
  conv => whnf
  refine loopR tab mixed (ι := { s : Nat × Int × Int × Int // s.1 ≤ 2 }) (fun s => [(10, I s.1.1), (1, I s.1.2.1), (2, I s.1.2.2.1), (3, I s.1.2.2.2), (8, .top)]) (fun _ => []) 51 (fun s => 2 - s.1.1) ⟨(0, cell, zone, region), by simp⟩ [] ?_
  conv => whnf
  refine ⟨⟨rfl, ⟨⟨⟨rfl, rfl⟩, ⟨rfl, rfl⟩, ⟨rfl, rfl⟩, ⟨rfl, rfl⟩, trivial, trivial⟩, trivial⟩, rfl, rfl⟩, fun ⟨⟨i, x, z, r⟩, hi⟩ => ?_⟩
  conv => whnf
  simp only at hi
  refine spD (fun h => ?_) (fun h => ?_)
  · have hi' : i < 2 := by simp at h; omega
    conv => whnf
    refine ⟨by kernel_rfl, ?_⟩
    conv => whnf
    refine ⟨_, _, zoneOf_c c x hL.cells, ?_⟩
    conv => whnf
    refine ⟨_, _, refZoneOf_c c x, ?_⟩
    conv => whnf
    refine spNe (fun h => (h rfl).elim) (fun _ => ?_)
    conv => whnf
    refine ⟨_, _, regionOf_c c x hL.cells hL.zones, ?_⟩
    conv => whnf
    refine ⟨_, _, refRegionOf_c c x hL, ?_⟩
    conv => whnf
    refine spNe (fun h => (h rfl).elim) (fun _ => ?_)
    conv => whnf
    refine ⟨_, _, inZone_c c z hL, ?_⟩
    conv => whnf
    refine ⟨_, _, refInZone_c c z hL, ?_⟩
    conv => whnf
    refine ⟨_, _, sameInts_c _ _ (upto_small hL _), ?_⟩
    conv => whnf
    refine spN (fun h => (h rfl).elim) (fun _ => ?_)
    conv => whnf
    refine ⟨_, _, inRegion_c c r hL, ?_⟩
    conv => whnf
    refine ⟨_, _, refInRegion_c c r hL, ?_⟩
    conv => whnf
    refine ⟨_, _, sameInts_c _ _ (upto_small hL _), ?_⟩
    conv => whnf
    refine spN (fun h => (h rfl).elim) (fun _ => ?_)
    conv => whnf
    refine ⟨_, _, capacity_c c r hL, ?_⟩
    conv => whnf
    refine ⟨_, _, refCapacity_c c r hL, ?_⟩
    conv => whnf
    refine spNe (fun h => (h rfl).elim) (fun _ => ?_)
    conv => whnf
    refine ⟨_, _, between_c _ _ _ (by omega) (by omega) (by omega), ?_⟩
    conv => whnf
    refine ⟨_, _, between_c _ _ _ (by omega) (by omega) (by omega), ?_⟩
    conv => whnf
    refine ⟨_, _, between_c _ _ _ (by omega) (by omega) (by omega), ?_⟩
    conv => whnf
    refine gv (by simp; omega) (by simp; omega) ?_
    conv => whnf
    exact ⟨⟨(i + 1, _, _, _), hi'⟩, [], ⟨rfl, ⟨⟨⟨rfl, rfl⟩, ⟨rfl, rfl⟩, ⟨rfl, rfl⟩, ⟨rfl, rfl⟩, trivial, trivial⟩, trivial⟩, rfl, rfl⟩, by simp; omega⟩
  · conv => whnf
    refine ⟨_, _, awake_c, ?_⟩
    conv => whnf
    exact ⟨[], rfl, rfl, trivial⟩

theorem cnt_mono {α : Type} {p q : α → Bool} : ∀ {l : List α}, (∀ x ∈ l, p x = true → q x = true) → cnt p l ≤ cnt q l
  | [], _ => Nat.le_refl _
  | x :: r, h => by
    have ih := cnt_mono (l := r) fun y hy => h y (by simp [hy])
    have hx := h x (by simp)
    simp only [cnt]
    cases hp : p x
    · simp; omega
    · simp [hx hp]; omega

theorem cnt_all {α : Type} {p : α → Bool} : ∀ {l : List α}, (∀ x ∈ l, p x = true) → cnt p l = l.length
  | [], _ => rfl
  | x :: r, h => by
    have ih := cnt_all (l := r) fun y hy => h y (by simp [hy])
    simp [cnt, h x (by simp), ih]; omega

theorem cnt_none {α : Type} {p : α → Bool} : ∀ {l : List α}, (∀ x ∈ l, p x = false) → cnt p l = 0
  | [], _ => rfl
  | x :: r, h => by
    have ih := cnt_none (l := r) fun y hy => h y (by simp [hy])
    simp [cnt, h x (by simp), ih]

theorem cnt_not {α : Type} {p q : α → Bool} : ∀ {l : List α}, (∀ x ∈ l, q x = !p x) → cnt p l + cnt q l = l.length
  | [], _ => rfl
  | x :: r, h => by
    have ih := cnt_not (l := r) fun y hy => h y (by simp [hy])
    have hx := h x (by simp)
    simp only [cnt, List.length_cons, hx]
    cases p x <;> simp <;> omega

/-- the regions of the replicas -/
theorem Made.repRegion {c : Cfg} (hm : Made c) {z : Int} (hz : z ∈ c.replicas) : 0 ≤ regionOfZone c z ∧ regionOfZone c z < c.regions := by
  have h1 := hm.replica z hz
  obtain ⟨y, hy⟩ := get_int (l := c.zones) h1.1 (by omega)
  have := hm.laid.zone y (List.mem_of_getElem? hy)
  simp only [regionOfZone, if_pos h1.1, hy, Option.getD_some]
  exact this

theorem bits_all : ∀ R : Fin 4, ∀ a : Fin 8, a.val < 2 ^ R.val → ∀ i : Fin 3, i.val < R.val → bit (((2 : Int) ^ R.val - 1) - (a.val : Int)) (i.val : Int) = !bit (a.val : Int) (i.val : Int) := by decide +kernel
theorem bits_full : ∀ R : Fin 4, ∀ i : Fin 3, i.val < R.val → bit ((2 : Int) ^ R.val - 1) (i.val : Int) = true := by decide +kernel
theorem bits_or : ∀ a m : Fin 8, ∃ b : Fin 8, IntKind.i64.wrap (BitVec.ofInt IntKind.i64.bits (a.val : Int) ||| BitVec.ofInt IntKind.i64.bits (m.val : Int)).toNat = (b.val : Int) ∧ ∀ i : Fin 3, bit (a.val : Int) (i.val : Int) = true → bit (b.val : Int) (i.val : Int) = true := by decide +kernel

theorem fin_of {x : Int} {n : Nat} (h0 : 0 ≤ x) (h1 : x < n) : ∃ k : Fin n, x = (k.val : Int) := ⟨⟨x.toNat, by omega⟩, by simp; omega⟩

theorem bit_zero (i : Int) : bit 0 i = false := by simp [bit]

set_option maxRecDepth 100000 in
theorem topoMajority_c (l : List Int) (lost more : Int) : CallsH Try.prog 5 [.c (.d (.sl (r1 l))), I lost, I more] [] (B true) [] := by
  obtain ⟨c, hm, hcfg⟩ := config_c l
  have hL := hm.laid
  have hR := hm.regions
  have hP := two_pow hR
  obtain ⟨R, hRk⟩ := fin_of (n := 4) (x := c.regions) (by omega) (by omega)
  have hRn : c.regions.toNat = R.val := by omega
  obtain ⟨A, hA⟩ : ∃ A, A = (2 : Int) ^ c.regions.toNat - 1 := ⟨_, rfl⟩
  have ha0 := Int.emod_nonneg lost (b := A + 1) (by omega)
  have ha1 := Int.emod_lt_of_pos lost (b := A + 1) (by omega)
  have hm0 := Int.emod_nonneg more (b := A + 1) (by omega)
  have hm1 := Int.emod_lt_of_pos more (b := A + 1) (by omega)
  obtain ⟨a, ha⟩ := fin_of (n := 8) ha0 (by omega)
  obtain ⟨m, hmm⟩ := fin_of (n := 8) hm0 (by omega)
  obtain ⟨b, hb, hbit⟩ := bits_or a m
  have hlen : 1 ≤ c.replicas.length ∧ c.replicas.length % 2 = 1 := by have := hm.replicas; omega
  have lostb : ∀ s z, z ∈ c.replicas → isLost c s (regionOfZone c z) = bit s (regionOfZone c z) := fun s z _ => hL.lostz s z
  have reg : ∀ z, z ∈ c.replicas → ∃ i : Fin 3, i.val < R.val ∧ regionOfZone c z = (i.val : Int) := fun z hz => by
    have := hm.repRegion hz
    obtain ⟨i, hi⟩ := fin_of (n := 3) this.1 (by omega)
    exact ⟨i, by omega, hi⟩
  have e0 : majority c 0 = true := by
    unfold majority
    rw [cnt_all fun z hz => by simp [lostb 0 z hz, bit_zero]]
    simp; omega
  have e1 : majority c A = false := by
    unfold majority
    rw [cnt_none fun z hz => ?_]
    · simp
    · obtain ⟨i, h1, h2⟩ := reg z hz
      have := bits_full R i h1
      rw [lostb A z hz, h2, hA, hRn, this]; rfl
  have e2 : majority c b.val = true → majority c (lost % (A + 1)) = true := fun h => by
    unfold majority at h ⊢
    simp only [decide_eq_true_eq] at h ⊢
    have : cnt (fun z => !isLost c b.val (regionOfZone c z)) c.replicas ≤ cnt (fun z => !isLost c (lost % (A + 1)) (regionOfZone c z)) c.replicas := cnt_mono fun z hz hp => by
      obtain ⟨i, h1, h2⟩ := reg z hz
      have := hbit i
      rw [lostb _ z hz, h2] at hp ⊢
      rw [ha]
      cases hx : bit (a.val : Int) (i.val : Int)
      · rfl
      · rw [this hx] at hp; exact hp
    omega
  have e3 : majority c (lost % (A + 1)) = !majority c (A - lost % (A + 1)) := by
    have : cnt (fun z => !isLost c (lost % (A + 1)) (regionOfZone c z)) c.replicas + cnt (fun z => !isLost c (A - lost % (A + 1)) (regionOfZone c z)) c.replicas = c.replicas.length := cnt_not fun z hz => by
      obtain ⟨i, h1, h2⟩ := reg z hz
      have hlt : a.val < 2 ^ R.val := by
        have : ((2 ^ R.val : Nat) : Int) = (2 : Int) ^ c.regions.toNat := by rw [hRn]; simp
        omega
      have := bits_all R a hlt i h1
      rw [lostb _ z hz, lostb _ z hz, h2, ha, hA, hRn, this]
    unfold majority
    by_cases hx : (c.replicas.length : Int) < 2 * ((cnt (fun z => !isLost c (lost % (A + 1)) (regionOfZone c z)) c.replicas : Nat) : Int)
    · rw [decide_eq_true hx, decide_eq_false (by omega)]; rfl
    · rw [decide_eq_false hx, decide_eq_true (by omega)]; rfl
  have m0 := majority_c c 0 hL (by omega) hm.rep
  have mA := majority_c c A hL (by omega) hm.rep
  have mb := majority_c c b.val hL (by omega) hm.rep
  have ma := majority_c c (lost % (A + 1)) hL (by omega) hm.rep
  have mc := majority_c c (A - lost % (A + 1)) hL (by omega) hm.rep
  rw [e0] at m0
  rw [e1] at mA
  refine callsR_of tab mixed Try.func5 rfl (by decide) rfl rfl ?_
  conv => whnf
  refine ⟨_, _, light_c l, ?_⟩
  conv => whnf
  refine spN (fun h => ?_) (fun h => ?_) <;> conv => whnf
  · refine ⟨_, _, awake_c, ?_⟩
    conv => whnf
    exact ⟨[], rfl, rfl, trivial⟩
  refine ⟨_, _, hcfg, ?_⟩
  conv => whnf
  refine gvu (by omega) (by omega) ?_
  conv => whnf
  refine ⟨by omega, .intro _ (shl1 hR) ?_⟩
  conv => whnf
  refine .intro A (by rw [wr (by omega) (by omega)]; exact hA.symm) ?_
  conv => whnf
  refine gv (by omega) (by omega) ?_
  conv => whnf
  refine ⟨_, _, mod_c lost _ (by omega) (by omega), ?_⟩
  conv => whnf
  refine gv (by omega) (by omega) ?_
  conv => whnf
  refine ⟨_, _, mod_c more _ (by omega) (by omega), ?_⟩
  conv => whnf
  refine .intro (b.val : Int) (by rw [ha, hmm]; exact hb) ?_
  conv => whnf
  refine ⟨by kernel_rfl, ?_⟩
  conv => whnf
  refine ⟨_, _, awake_c, ?_⟩
  conv => whnf
  refine ⟨fun _ => ?_, fun h => by cases h⟩
  conv => whnf
  refine ⟨_, _, m0, ?_⟩
  conv => whnf
  refine ⟨fun _ => ?_, fun h => by cases h⟩
  conv => whnf
  refine ⟨_, _, mA, ?_⟩
  conv => whnf
  refine ⟨fun _ => ?_, fun h => by cases h⟩
  conv => whnf
  refine ⟨_, _, mb, ?_⟩
  conv => whnf
  have fin : majority c (lost % (A + 1)) = (!majority c (A - lost % (A + 1))) := e3
  refine ⟨fun hb1 => ?_, fun hb1 => ?_⟩
  · conv => whnf
    refine ⟨_, _, ma, ?_⟩
    conv => whnf
    refine gv (by omega) (by omega) ?_
    conv => whnf
    refine ⟨_, _, mc, ?_⟩
    conv => whnf
    exact ⟨[], rfl, by simp [mtV, valOf, mtC, eqD, fin], trivial⟩
  · have hb2 : majority c b.val = true := by simpa using hb1
    have ha2 := e2 hb2
    conv => whnf
    refine ⟨_, _, ma, ?_⟩
    conv => whnf
    refine ⟨fun _ => ?_, fun h => by rw [ha2] at h; cases h⟩
    conv => whnf
    refine ⟨_, _, ma, ?_⟩
    conv => whnf
    refine gv (by omega) (by omega) ?_
    conv => whnf
    refine ⟨_, _, mc, ?_⟩
    conv => whnf
    exact ⟨[], rfl, by simp [mtV, valOf, mtC, eqD, fin], trivial⟩

end Go.Proofs.Ytngcjkoocoangaa
