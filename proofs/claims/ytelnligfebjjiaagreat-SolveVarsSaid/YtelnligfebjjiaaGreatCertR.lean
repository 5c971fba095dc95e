/- Contracts: cert.reader's refutation. Conditions: those ahead of each theorem. -/
import Derived.Test.YtelnligfebjjiaaGreatCert
namespace Go.Proofs.YtelnligfebjjiaaGreat
open Go Go.Cpl

/-- node variables are ints -/
def TreeOK (tree : List Nd) : Prop := tree.length ≤ 1000000 ∧ ∀ x ∈ tree, -9223372036854775808 ≤ x.var ∧ x.var ≤ 9223372036854775807

theorem r2_set'' (l : List (Int × Int)) (i : Nat) (x y : Int) : r2 (l.set i (x, y)) = (r2 l).set i [i64 x, i64 y] := by simp [r2, List.map_set]

section
variable {l : List (Int × Int)} {v : Int} {p : Int × Int}

theorem setV_odd (hm : v % 2 = 1) (hp : l[(v / 2).toNat]? = some p) (y : Int) : setV l v y = l.set (v / 2).toNat (p.1, y) := by unfold setV; rw [if_pos hm, hp]; rfl

theorem setV_even (hm : v % 2 ≠ 1) (hp : l[(v / 2).toNat]? = some p) (y : Int) : setV l v y = l.set (v / 2).toNat (y, p.2) := by unfold setV; rw [if_neg hm, hp]; rfl

theorem setV_row_odd (hm : v % 2 = 1) (hp : l[(v / 2).toNat]? = some p) (y : Int) : (r2 (setV l v y))[(v / 2).toNat]? = some [i64 p.1, i64 y] := by
  have := (List.getElem?_eq_some_iff.1 hp).1
  rw [setV_odd hm hp]; exact r2_get (List.getElem?_set_self this)

theorem setV_row_even (hm : v % 2 ≠ 1) (hp : l[(v / 2).toNat]? = some p) (y : Int) : (r2 (setV l v y))[(v / 2).toNat]? = some [i64 y, i64 p.2] := by
  have := (List.getElem?_eq_some_iff.1 hp).1
  rw [setV_even hm hp]; exact r2_get (List.getElem?_set_self this)

theorem setV_set_odd (hm : v % 2 = 1) (hp : l[(v / 2).toNat]? = some p) (y z : Int) : (r2 (setV l v y)).set (v / 2).toNat [i64 p.1, i64 z] = r2 (setV l v z) := by
  rw [← r2_set'', setV_odd hm hp, setV_odd hm hp, List.set_set]

theorem setV_set_even (hm : v % 2 ≠ 1) (hp : l[(v / 2).toNat]? = some p) (y z : Int) : (r2 (setV l v y)).set (v / 2).toNat [i64 z, i64 p.2] = r2 (setV l v z) := by
  rw [← r2_set'', setV_even hm hp, setV_even hm hp, List.set_set]

theorem set_same {α : Type} {l : List α} {i : Nat} {x : α} (h : l[i]? = some x) : l.set i x = l := by
  apply List.ext_getElem?
  intro j
  by_cases hj : i = j
  · subst hj; rw [List.getElem?_set_self (List.getElem?_eq_some_iff.1 h).1, h]
  · rw [List.getElem?_set_ne hj]

theorem setV_back_odd (hm : v % 2 = 1) (hp : l[(v / 2).toNat]? = some p) (h : p.2 = -1) : setV l v (-1) = l := by
  rw [setV_odd hm hp, ← h]; exact set_same hp

theorem setV_back_even (hm : v % 2 ≠ 1) (hp : l[(v / 2).toNat]? = some p) (h : p.1 = -1) : setV l v (-1) = l := by
  rw [setV_even hm hp, ← h]; exact set_same hp
end

end Go.Proofs.YtelnligfebjjiaaGreat
