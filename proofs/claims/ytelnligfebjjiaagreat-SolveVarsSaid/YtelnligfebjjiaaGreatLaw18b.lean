/- Contract: the last law of chapter 18 returns true at every input. No conditions. -/
import Derived.Test.YtelnligfebjjiaaGreatLaw18
import Derived.Test.YtelnligfebjjiaaGreatMono
namespace Go.Proofs.YtelnligfebjjiaaGreat
open Go Go.Cpl

/-- no rule of usable cells, of residency and of capacity is broken -/
structure Kept (c : Cfg) (u : Int) (y : List (Int × Int)) : Prop where
  use : ∀ (t : Nat) (q : Int × Int), y[t]? = some q → q.1 ≠ -1 → bit u q.1 = true
  may : ∀ (t : Nat) (q : Int × Int), y[t]? = some q → q.1 ≠ -1 → may c t q.1 = true
  cap : ∀ i : Nat, i < c.cells.length → ((booked c y)[i]?).getD 0 ≤ capOf c i

end Go.Proofs.YtelnligfebjjiaaGreat
