/- Contracts: which placements fit, and what they book (rules and its reference). Conditions: those ahead of each theorem. -/
import Derived.Test.YtncckpieemmmfaaGreatPlace
namespace Go.Proofs.YtncckpieemmmfaaGreat
open Go Go.Cpl

structure Fit (c : Cfg) (l : List (Int × Int)) : Prop where
  val : valid5 c = 0
  len : l.length = c.tenants.length
  rng : ∀ p ∈ l, (-1 ≤ p.1 ∧ p.1 < c.cells.length) ∧ (-1 ≤ p.2 ∧ p.2 < c.cells.length)

theorem fit_iff (c : Cfg) (l : List (Int × Int)) : Fit c l ↔ (valid5 c = 0 ∧ l.length = c.tenants.length ∧ ∀ p ∈ l, (-1 ≤ p.1 ∧ p.1 < c.cells.length) ∧ (-1 ≤ p.2 ∧ p.2 < c.cells.length)) :=
  ⟨fun h => ⟨h.val, h.len, h.rng⟩, fun h => ⟨h.1, h.2.1, h.2.2⟩⟩

instance (c : Cfg) (l : List (Int × Int)) : Decidable (Fit c l) := decidable_of_iff _ (fit_iff c l).symm

theorem valid5_valid {c : Cfg} (h : valid5 c = 0) : valid c = 0 ∧ ∀ t ∈ c.tenants, okT c.regions t := by
  unfold valid5 at h
  split at h
  · rename_i h1
    split at h
    · rename_i h2; exact ⟨h1, h2⟩
    · omega
  · rename_i h1; exact absurd h h1

theorem valid_laid {c : Cfg} (h : valid c = 0) : Laid c := by
  have hn := valid_num h
  unfold valid at h
  rw [if_pos hn] at h
  split at h
  · rename_i h1
    obtain ⟨_, hp, hv⟩ := h1
    obtain ⟨n1, n2, n3, _⟩ := hn
    refine ⟨by omega, by omega, fun x hx => ?_, fun x hx => ?_, fun x hx => ?_, n1.2⟩
    · have := hp.2.1 x hx; omega
    · have := hp.1 x hx; omega
    · have := hv.1 x hx; omega
  · omega

/-- what is known of a valid configuration -/
structure Good (c : Cfg) : Prop where
  laid : Laid c
  regions : 1 ≤ c.regions ∧ c.regions ≤ 4
  cells : 1 ≤ c.cells.length ∧ c.cells.length ≤ 16
  zones : 1 ≤ c.zones.length ∧ c.zones.length ≤ 8
  tenants : c.tenants.length ≤ 32
  ten : ∀ t ∈ c.tenants, okT c.regions t

theorem good_of {c : Cfg} (h : valid5 c = 0) : Good c := by
  have hv := valid5_valid h
  have hn := valid_num hv.1
  obtain ⟨n1, n2, n3, n4, n5, n6, n7⟩ := hn
  exact ⟨valid_laid hv.1, n1, by omega, by omega, by omega, hv.2⟩

theorem Made.good {c : Cfg} (hm : Made c) : Good c := good_of hm.valid5

/-! what is booked -/

def addAt (l : List Int) (i n : Int) : List Int := if 0 ≤ i ∧ i < l.length then l.set i.toNat ((l[i.toNat]?).getD 0 + n) else l

theorem addAt_len (l : List Int) (i n : Int) : (addAt l i n).length = l.length := by
  unfold addAt; split <;> simp

theorem r1_set (l : List Int) (i : Nat) (x : Int) : r1 (l.set i x) = (r1 l).set i [i64 x] := by simp [r1, List.map_set]

def loadOf (c : Cfg) (t : Nat) : Int := ((c.tenants[t]?).map (·.load)).getD 0

def shadowOf (c : Cfg) (t : Nat) : Int := ((c.tenants[t]?).map (·.shadow)).getD 0

def bk (c : Cfg) (l : List (Int × Int)) : Nat → List Int
  | 0 => List.replicate c.cells.length 0
  | k + 1 => match l[k]? with
    | some p => addAt (addAt (bk c l k) p.1 (loadOf c k)) p.2 (shadowOf c k)
    | none => bk c l k

def booked (c : Cfg) (l : List (Int × Int)) : List Int := bk c l l.length

theorem Good.load {c : Cfg} (h : Good c) (t : Nat) : 0 ≤ loadOf c t ∧ loadOf c t ≤ 65536 := by
  unfold loadOf
  cases hx : c.tenants[t]? with
  | none => simp
  | some x => have := (h.ten x (List.mem_of_getElem? hx)).1; simp; omega

theorem Good.shadow {c : Cfg} (h : Good c) (t : Nat) : 0 ≤ shadowOf c t ∧ shadowOf c t ≤ 65536 ∧ shadowOf c t ≤ loadOf c t := by
  unfold shadowOf loadOf
  cases hx : c.tenants[t]? with
  | none => simp
  | some x => have := h.ten x (List.mem_of_getElem? hx); obtain ⟨h1, h2, _⟩ := this; simp; omega

theorem addAt_out {l : List Int} {i n : Int} (h : ¬ (0 ≤ i ∧ i < l.length)) : addAt l i n = l := by
  simp only [addAt, if_neg h]

end Go.Proofs.YtncckpieemmmfaaGreat
