/- Contracts: what the functions of topo and of its reference return. Conditions: those that stand ahead of each theorem (sizes of lists; for the reference, zones that exist). -/
import Derived.Test.YtelnligfebjjiaaGreatBase
namespace Go.Proofs.YtelnligfebjjiaaGreat
open Go Go.Cpl

theorem within_c (n lo hi : Int) : CallsH Tryz.prog 139 [I n, I lo, I hi] [] (B (decide (lo ≤ n ∧ n ≤ hi))) [] := by
  refine callsR_of tab mixed Tryz.func139 rfl (by decide) rfl rfl ?_
  conv => whnf
  refine spD (fun h => ?_) (fun h => ?_) <;> conv => whnf
  all_goals exact ⟨[], rfl, by simp [mtV, valOf, mtC, eqD, h], trivial⟩

theorem in_c (n lo hi : Int) : CallsH Tryz.prog 101 [I n, I lo, I hi] [] (B (decide (lo ≤ n ∧ n ≤ hi))) [] := by
  refine callsR_of tab mixed Tryz.func101 rfl (by decide) rfl rfl ?_
  conv => whnf
  refine spD (fun h => ?_) (fun h => ?_) <;> conv => whnf
  all_goals exact ⟨[], rfl, by simp [mtV, valOf, mtC, eqD, h], trivial⟩

/-- a bit of a set -/
def bit (s i : Int) : Bool := decide (0 ≤ i ∧ i < 62 ∧ (s.fdiv (2 ^ i.toNat)) % 2 = 1)

theorem shr_eq {s i : Int} {K : Int → Prop} (h0 : 0 ≤ i) (h1 : i < 62) (k : K (s.fdiv (2 ^ i.toNat))) : Gives (s.fdiv (2 ^ (min i.toNat IntKind.i64.bits))) K :=
  .intro _ (by rw [show min i.toNat IntKind.i64.bits = i.toNat by simp [IntKind.bits]; omega]) k

theorem has_c (s i : Int) : CallsH Tryz.prog 78 [I s, I i] [] (B (bit s i)) [] := by
  refine callsR_of tab mixed Tryz.func78 rfl (by decide) rfl rfl ?_
  conv => whnf
  refine spD (fun h0 => ?_) (fun h0 => ?_) <;> conv => whnf
  · refine spD (fun h1 => ?_) (fun h1 => ?_) <;> conv => whnf
    · refine gvu h0 (by omega) ?_
      conv => whnf
      refine ⟨h0, shr_eq h0 h1 ?_⟩
      conv => whnf
      refine ⟨by omega, gg ?_⟩
      conv => whnf
      refine ⟨[], rfl, ?_, trivial⟩
      have := tmod2 (s.fdiv (2 ^ i.toNat))
      simp only [mtV, valOf, mtC, eqD, bit]
      by_cases hx : (s.fdiv (2 ^ i.toNat)).tmod 2 = 0 <;> simp_all <;> omega
    · exact ⟨[], rfl, by simp [mtV, valOf, mtC, eqD, bit, h0, h1], trivial⟩
  · exact ⟨[], rfl, by simp [mtV, valOf, mtC, eqD, bit, h0], trivial⟩

theorem mod_c (v n : Int) (h : 0 < n) (h' : n ≤ 4611686018427387904) : CallsH Tryz.prog 39 [I v, I n] [] (I (v % n)) [] := by
  refine callsR_of tab mixed Tryz.func39 rfl (by decide) rfl rfl ?_
  conv => whnf
  refine ⟨by omega, gg ?_⟩
  conv => whnf
  have h1 := Int.tmod_lt_of_pos v h
  have h2 := Int.lt_tmod_of_pos v h
  refine gv (by omega) (by omega) ?_
  conv => whnf
  refine ⟨by omega, gg ?_⟩
  conv => whnf
  exact ⟨[], rfl, ⟨rfl, (tm_mod v n h).symm⟩, trivial⟩

theorem between_c (v lo hi : Int) (h : lo ≤ hi) (h1 : -1000000 ≤ lo) (h2 : hi ≤ 1000000) : CallsH Tryz.prog 47 [I v, I lo, I hi] [] (I (lo + v % (hi - lo + 1))) [] := by
  refine callsR_of tab mixed Tryz.func47 rfl (by decide) rfl rfl ?_
  conv => whnf
  refine gv (by omega) (by omega) ?_
  conv => whnf
  refine gv (by omega) (by omega) ?_
  conv => whnf
  refine ⟨_, _, mod_c _ _ (by omega) (by omega), ?_⟩
  conv => whnf
  have := Int.emod_nonneg v (b := hi - lo + 1) (by omega)
  have := Int.emod_lt_of_pos v (b := hi - lo + 1) (by omega)
  refine gv (by omega) (by omega) ?_
  conv => whnf
  exact ⟨[], rfl, ⟨rfl, rfl⟩, trivial⟩

theorem light_c (l : List Int) : CallsH Tryz.prog 9 [.c (.d (.sl (r1 l)))] [] (B (decide (l.length ≤ 200))) [] := by
  refine callsR_of tab mixed Tryz.func9 rfl (by decide) rfl rfl ?_
  conv => whnf
  refine ⟨[], rfl, ?_, trivial⟩
  simp only [mtV, valOf, mtC, eqD, r1_len]
  congr 1
  simp
  omega

def zoneOf (c : Cfg) (cell : Int) : Int := if 0 ≤ cell then ((c.cells[cell.toNat]?).map (·.1)).getD (-1) else -1

def regionOfZone (c : Cfg) (z : Int) : Int := if 0 ≤ z then (c.zones[z.toNat]?).getD (-1) else -1

def regionOf (c : Cfg) (cell : Int) : Int := regionOfZone c (zoneOf c cell)

theorem get_int {α : Type} {l : List α} {i : Int} (h0 : 0 ≤ i) (h1 : i ≤ (l.length : Int) - 1) : ∃ x, l[i.toNat]? = some x := get_of (by omega)

theorem get_no {α : Type} {l : List α} {i : Int} (h0 : 0 ≤ i) (h1 : ¬ i ≤ (l.length : Int) - 1) : l[i.toNat]? = none := List.getElem?_eq_none (by omega)

theorem regionOfZone_c (c : Cfg) (z : Int) (hc : c.zones.length ≤ 1000) : CallsH Tryz.prog 153 [cfgV c, I z] [] (I (regionOfZone c z)) [] := by
  refine callsR_of tab mixed Tryz.func153 rfl (by decide) rfl rfl ?_
  conv => whnf
  have := r1_len c.zones
  refine gv (by omega) (by omega) ?_
  conv => whnf
  refine ⟨_, _, within_c _ _ _, ?_⟩
  conv => whnf
  refine spN (fun h => ?_) (fun h => ?_) <;> conv => whnf
  · refine ⟨[], rfl, ⟨rfl, ?_⟩, trivial⟩
    unfold regionOfZone
    split
    · rename_i h0
      simp [get_no (l := c.zones) h0 (by omega)]
    · rfl
  · obtain ⟨x, hx⟩ := get_int (l := c.zones) h.1 (by omega)
    refine ⟨h.1, _, r1_get hx, ?_⟩
    conv => whnf
    exact ⟨[], rfl, ⟨rfl, by simp [regionOfZone, h.1, hx]⟩, trivial⟩

theorem zoneOf_c (c : Cfg) (z : Int) (hc : c.cells.length ≤ 1000) : CallsH Tryz.prog 134 [cfgV c, I z] [] (I (zoneOf c z)) [] := by
  refine callsR_of tab mixed Tryz.func134 rfl (by decide) rfl rfl ?_
  conv => whnf
  have := r2_len c.cells
  refine gv (by omega) (by omega) ?_
  conv => whnf
  refine ⟨_, _, within_c _ _ _, ?_⟩
  conv => whnf
  refine spN (fun h => ?_) (fun h => ?_) <;> conv => whnf
  · refine ⟨[], rfl, ⟨rfl, ?_⟩, trivial⟩
    unfold zoneOf
    split
    · rename_i h0
      simp [get_no (l := c.cells) h0 (by omega)]
    · rfl
  · obtain ⟨x, hx⟩ := get_int (l := c.cells) h.1 (by omega)
    refine ⟨h.1, _, r2_get hx, ?_⟩
    conv => whnf
    exact ⟨[], rfl, ⟨rfl, by simp [zoneOf, h.1, hx]⟩, trivial⟩

theorem regionOf_c (c : Cfg) (z : Int) (hc : c.cells.length ≤ 1000) (hz : c.zones.length ≤ 1000) : CallsH Tryz.prog 137 [cfgV c, I z] [] (I (regionOf c z)) [] := by
  refine callsR_of tab mixed Tryz.func137 rfl (by decide) rfl rfl ?_
  conv => whnf
  refine ⟨by kernel_rfl, ?_⟩
  conv => whnf
  refine ⟨_, _, zoneOf_c c z hc, ?_⟩
  conv => whnf
  refine ⟨_, _, regionOfZone_c c _ hz, ?_⟩
  conv => whnf
  exact ⟨[], rfl, ⟨rfl, rfl⟩, trivial⟩

theorem refZoneOf_c (c : Cfg) (z : Int) : CallsH Tryz.prog 140 [cfgV c, I z] [] (I (zoneOf c z)) [] := by
  refine callsR_of tab mixed Tryz.func140 rfl (by decide) rfl rfl ?_
  conv => whnf
  have := r2_len c.cells
  refine spD (fun h => ?_) (fun h => ?_) <;> conv => whnf
  · exact ⟨[], rfl, ⟨rfl, by simp [zoneOf, Int.not_le.2 h]⟩, trivial⟩
  · refine spD (fun h1 => ?_) (fun h1 => ?_) <;> conv => whnf
    · exact ⟨[], rfl, ⟨rfl, by simp [zoneOf, get_no (l := c.cells) (i := z) (by omega) (by omega)]⟩, trivial⟩
    · obtain ⟨x, hx⟩ := get_int (l := c.cells) (i := z) (by omega) (by omega)
      refine ⟨by omega, _, r2_get hx, ?_⟩
      conv => whnf
      exact ⟨[], rfl, ⟨rfl, by simp [zoneOf, hx]; omega⟩, trivial⟩

/-- the zones of the cells and the regions of the zones exist -/
structure Laid (c : Cfg) : Prop where
  cells : c.cells.length ≤ 1000
  zones : c.zones.length ≤ 1000
  cell : ∀ x ∈ c.cells, 0 ≤ x.1 ∧ x.1 < c.zones.length
  zone : ∀ x ∈ c.zones, 0 ≤ x ∧ x < c.regions
  cap : ∀ x ∈ c.cells, 0 ≤ x.2 ∧ x.2 ≤ 4194304
  regions : c.regions ≤ 4

theorem Laid.zone_of {c : Cfg} (h : Laid c) (i : Int) : zoneOf c i = -1 ∨ (0 ≤ zoneOf c i ∧ zoneOf c i < c.zones.length) := by
  unfold zoneOf
  split
  · cases hx : c.cells[i.toNat]? with
    | none => simp
    | some x => right; simpa using h.cell x (List.mem_of_getElem? hx)
  · simp

theorem refRegionOf_c (c : Cfg) (z : Int) (hc : Laid c) : CallsH Tryz.prog 116 [cfgV c, I z] [] (I (regionOf c z)) [] := by
  refine callsR_of tab mixed Tryz.func116 rfl (by decide) rfl rfl ?_
  conv => whnf
  refine ⟨_, _, refZoneOf_c c z, ?_⟩
  conv => whnf
  have h0 := hc.zone_of z
  refine spD (fun h => ?_) (fun h => ?_) <;> conv => whnf
  · exact ⟨[], rfl, ⟨rfl, by simp [regionOf, regionOfZone, Int.not_le.2 h]⟩, trivial⟩
  · obtain ⟨x, hx⟩ := get_int (l := c.zones) (i := zoneOf c z) (by omega) (by omega)
    refine ⟨by omega, _, r1_get hx, ?_⟩
    conv => whnf
    exact ⟨[], rfl, ⟨rfl, by simp [regionOf, regionOfZone, hx]; omega⟩, trivial⟩

def isLost (c : Cfg) (lost region : Int) : Bool := decide (0 ≤ region ∧ region ≤ c.regions - 1) && bit lost region

theorem Laid.region {c : Cfg} (h : Laid c) (i : Int) : regionOf c i = -1 ∨ (0 ≤ regionOf c i ∧ regionOf c i < c.regions) := by
  unfold regionOf regionOfZone
  split
  · cases hx : c.zones[(zoneOf c i).toNat]? with
    | none => simp
    | some x => right; simpa using h.zone x (List.mem_of_getElem? hx)
  · simp

theorem Laid.lost {c : Cfg} (h : Laid c) (lost i : Int) : isLost c lost (regionOf c i) = bit lost (regionOf c i) := by
  have := h.region i
  have := h.regions
  unfold isLost bit
  by_cases h0 : 0 ≤ regionOf c i
  · simp [h0]; omega
  · simp [h0]

def inRegion (c : Cfg) (region : Int) : List Int := upto (fun i => decide (regionOf c i = region)) c.cells.length

theorem up_fits {p : Nat → Bool} {i n : Nat} (hi : i < n) (hn : n ≤ 1000) (l : List (List D)) (h : l.length = 1) : Fits ((r1 (upto p i)).length + l.length) :=
  ⟨by have := upto_le p i; rw [r1_len]; omega⟩

def capOf (c : Cfg) (i : Int) : Int := ((c.cells[i.toNat]?).map (·.2)).getD 0

def capSum (c : Cfg) : List Int → Int
  | [] => 0
  | i :: r => capOf c i + capSum c r

def capacity (c : Cfg) (region : Int) : Int := capSum c (inRegion c region)

theorem Laid.capOf {c : Cfg} (h : Laid c) (i : Int) : 0 ≤ capOf c i ∧ capOf c i ≤ 4194304 := by
  unfold Go.Proofs.YtelnligfebjjiaaGreat.capOf
  cases hx : c.cells[i.toNat]? with
  | none => simp
  | some x => simpa using h.cap x (List.mem_of_getElem? hx)

theorem Laid.capSum {c : Cfg} (h : Laid c) : ∀ l : List Int, 0 ≤ capSum c l ∧ capSum c l ≤ 4194304 * l.length
  | [] => by simp [Go.Proofs.YtelnligfebjjiaaGreat.capSum]
  | i :: r => by
    have h1 := h.capOf i
    have h2 := Laid.capSum h r
    simp only [Go.Proofs.YtelnligfebjjiaaGreat.capSum, List.length_cons]
    omega

theorem upto_mem {p : Nat → Bool} {x : Int} : ∀ {n : Nat}, x ∈ upto p n → ∃ i : Nat, i < n ∧ x = i ∧ p i = true
  | 0, h => by simp [upto] at h
  | n + 1, h => by
    rw [upto] at h
    split at h
    · rename_i hp
      rcases List.mem_append.1 h with h | h
      · obtain ⟨i, h1, h2⟩ := upto_mem h; exact ⟨i, by omega, h2⟩
      · exact ⟨n, by omega, by simpa using h, hp⟩
    · obtain ⟨i, h1, h2⟩ := upto_mem h; exact ⟨i, by omega, h2⟩

theorem take_succ_of {α : Type} {l : List α} {i : Nat} {x : α} (h : l[i]? = some x) : l.take (i + 1) = l.take i ++ [x] := by
  rw [List.take_add_one, h]; rfl

/-- how many elements have a property -/
def cnt {α : Type} (p : α → Bool) : List α → Nat
  | [] => 0
  | x :: r => (if p x then 1 else 0) + cnt p r

theorem sameInts_c (a b : List Int) (ha : a.length ≤ 1000000) : CallsH Tryz.prog 33 [.c (.d (.sl (r1 a))), .c (.d (.sl (r1 b)))] [] (B (decide (a = b))) [] := by
  refine callsR_of tab mixed Tryz.func33 rfl (by decide) rfl rfl ?_
  conv => whnf
  have hla := r1_len a
  have hlb := r1_len b
  refine spNe (fun h => ?_) (fun h => ?_) <;> conv => whnf
  · refine ⟨[], rfl, ?_, trivial⟩
    have : a ≠ b := fun e => h (by rw [e])
    simp [mtV, valOf, mtC, eqD, this]
  · have hab : a.length = b.length := by omega
    refine loopR tab mixed (ι := { i : Nat // i ≤ a.length ∧ a.take i = b.take i }) (fun i => [(5, I i.1), (4, .top)]) (fun _ => []) 51 (fun i => a.length - i) ⟨0, by simp⟩ [] ?_
    conv => whnf
    refine ⟨⟨rfl, ⟨⟨⟨rfl, rfl⟩, trivial, trivial⟩, trivial⟩, rfl, rfl⟩, fun ⟨i, hi, hj⟩ => ?_⟩
    conv => whnf
    refine spD (fun h => ?_) (fun h => ?_)
    · have hi' : i < a.length := by rw [hla] at h; exact Int.ofNat_lt.1 h
      conv => whnf
      obtain ⟨x, hx⟩ := get_of hi'
      obtain ⟨y, hy⟩ := get_of (l := b) (i := i) (by omega)
      refine ⟨by kernel_rfl, ?_⟩
      conv => whnf
      refine ⟨by simp, _, r1_get hx, ?_⟩
      conv => whnf
      refine ⟨by simp, _, r1_get hy, ?_⟩
      conv => whnf
      refine spNe (fun hp => ?_) (fun hp => ?_) <;> conv => whnf
      · refine ⟨[], rfl, ?_, trivial⟩
        have : a ≠ b := fun e => hp (by rw [e, hy] at hx; simpa using hx.symm)
        simp [mtV, valOf, mtC, eqD, this]
      · refine gv (by simp; omega) (by simp; omega) ?_
        conv => whnf
        refine ⟨⟨i + 1, hi', ?_⟩, [], ⟨rfl, ⟨⟨⟨rfl, rfl⟩, trivial, trivial⟩, trivial⟩, rfl, rfl⟩, ?_⟩
        · rw [take_succ_of hx, take_succ_of hy, hj, hp]
        · simp; omega
    · conv => whnf
      refine ⟨[], rfl, ?_, trivial⟩
      have hi' : i = a.length := by rw [hla] at h; simp at h; omega
      have : a = b := by
        have e := hj
        rw [hi', List.take_length, hab, List.take_length] at e
        exact e
      simp [mtV, valOf, mtC, eqD, this]

end Go.Proofs.YtelnligfebjjiaaGreat
