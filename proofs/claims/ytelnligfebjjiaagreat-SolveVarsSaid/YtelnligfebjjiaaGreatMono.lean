/- Plain lemmas about placements: a rule that is broken stays broken when open places are filled in. No conditions. -/
import Derived.Test.YtelnligfebjjiaaGreatRules3
namespace Go.Proofs.YtelnligfebjjiaaGreat
open Go Go.Cpl

/-- open places of the first are filled in, in the second -/
structure Le (l l' : List (Int × Int)) : Prop where
  len : l.length = l'.length
  val : ∀ (t : Nat) (p p' : Int × Int), l[t]? = some p → l'[t]? = some p' → (p.1 = -1 ∨ p.1 = p'.1) ∧ (p.2 = -1 ∨ p.2 = p'.2)

theorem Le.get {l l' : List (Int × Int)} (h : Le l l') {t : Nat} {p : Int × Int} (hp : l[t]? = some p) : ∃ p', l'[t]? = some p' ∧ (p.1 = -1 ∨ p.1 = p'.1) ∧ (p.2 = -1 ∨ p.2 = p'.2) := by
  obtain ⟨p', hp'⟩ := get_of (l := l') (i := t) (by rw [← h.len]; exact (List.getElem?_eq_some_iff.1 hp).1)
  exact ⟨p', hp', h.val t p p' hp hp'⟩

end Go.Proofs.YtelnligfebjjiaaGreat
