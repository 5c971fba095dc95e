/-
  No cell of these rows narrows 'for every input' (looked for: loops, veiled, ifaces, maps, wideKeys, modest, calm, conditions, laid).
  DERIVED. THE GIVEN ROWS OF THIS SEAT. 12 by the template 'for every input the law returns true; each argument reads behind the call as it read before'; 0 by the template 'total and deterministic' (their statements: YtlcgeeacgjdnkaaTotals.lean).
  GIVEN WITH THE SEED: the statements are not yours to turn. If you find one false, say at which input.
  Laid BY PROGRAM, IN A SANDBOX (cutbox-rows.mjs): the forced cells as the released guide's own fill.sh prints them over the translation 8c020b01d05985a7… (all of the seat's roots in one cut). By AI agents, Wed Nov 11 2026. No macro, syntax, notation, axiom, sorry.
-/
import Derived.Test.YtlcgeeacgjdnkaaChecked
import GoSem.Claim
import GoSem.ClaimJoined
import GoSem.ClaimMapViews
import Derived.JoinedTies
import Derived.KernelRfl
namespace Go.Proofs.Ytlcgeeacgjdnkaa
/- THE CELL 'sum', in the pinned program and in every row, IS THE sha256 OF THE DUMP (.gsa) THAT YtlcgeeacgjdnkaaProg.lean LOADS. Nothing in Lean hashes anything: it is a label: what it is worth is what the hold of that sum in a sandbox is worth. -/
noncomputable def Try.pinned : Pinned := { name := "ytlcgeeacgjdnkaa", sum := "8c020b01d05985a7126c3d3e2f1eecfecf1d0704e6f860dcefe38d38da5bb8e1", checked := Try.checked }
namespace Rows
def none {H : Type} : Left H := { results := [], args := [] }

/-- 'cellplanelaw18.BoundTells': WHATEVER THE INPUT: true; the input reads as it did. -/
def boundTellsSpec : ChangeSpec := { name := "boundTells", fn := fun _ => fun
  | [d1, d2, d3, d4, d5] => { results := [.lit (.bool true)], args := [d1, d2, d3, d4, d5] }
  | _ => none }
def boundTellsRow : OpenClaim := { program := "ytlcgeeacgjdnkaa", sum := "8c020b01d05985a7126c3d3e2f1eecfecf1d0704e6f860dcefe38d38da5bb8e1", func := "cellplane/cellplanelaw18.BoundTells", spec := "boundTells", apart := false }
def BoundTellsSaid : Prop := boundTellsRow.holds Try.pinned (OpenSpec.ofChange boundTellsSpec)

/-- ITS FALSE NEIGHBOUR: 'it returns false'. Refute it at one input. -/
def boundTellsWrong : ChangeSpec := { name := "boundTells", fn := fun _ => fun
  | [d1, d2, d3, d4, d5] => { results := [.lit (.bool false)], args := [d1, d2, d3, d4, d5] }
  | _ => none }
def BoundTellsWrongFalsely : Prop := boundTellsRow.holds Try.pinned (OpenSpec.ofChange boundTellsWrong)

/-- 'cellplanelaw18.BoundExceeded': WHATEVER THE INPUT: true; the input reads as it did. -/
def boundExceededSpec : ChangeSpec := { name := "boundExceeded", fn := fun _ => fun
  | [d1, d2, d3] => { results := [.lit (.bool true)], args := [d1, d2, d3] }
  | _ => none }
def boundExceededRow : OpenClaim := { program := "ytlcgeeacgjdnkaa", sum := "8c020b01d05985a7126c3d3e2f1eecfecf1d0704e6f860dcefe38d38da5bb8e1", func := "cellplane/cellplanelaw18.BoundExceeded", spec := "boundExceeded", apart := false }
def BoundExceededSaid : Prop := boundExceededRow.holds Try.pinned (OpenSpec.ofChange boundExceededSpec)

/-- ITS FALSE NEIGHBOUR: 'it returns false'. Refute it at one input. -/
def boundExceededWrong : ChangeSpec := { name := "boundExceeded", fn := fun _ => fun
  | [d1, d2, d3] => { results := [.lit (.bool false)], args := [d1, d2, d3] }
  | _ => none }
def BoundExceededWrongFalsely : Prop := boundExceededRow.holds Try.pinned (OpenSpec.ofChange boundExceededWrong)

/-- 'cellplanelaw18.BoundGrows': WHATEVER THE INPUT: true; the input reads as it did. -/
def boundGrowsSpec : ChangeSpec := { name := "boundGrows", fn := fun _ => fun
  | [d1, d2, d3, d4, d5] => { results := [.lit (.bool true)], args := [d1, d2, d3, d4, d5] }
  | _ => none }
def boundGrowsRow : OpenClaim := { program := "ytlcgeeacgjdnkaa", sum := "8c020b01d05985a7126c3d3e2f1eecfecf1d0704e6f860dcefe38d38da5bb8e1", func := "cellplane/cellplanelaw18.BoundGrows", spec := "boundGrows", apart := false }
def BoundGrowsSaid : Prop := boundGrowsRow.holds Try.pinned (OpenSpec.ofChange boundGrowsSpec)

/-- ITS FALSE NEIGHBOUR: 'it returns false'. Refute it at one input. -/
def boundGrowsWrong : ChangeSpec := { name := "boundGrows", fn := fun _ => fun
  | [d1, d2, d3, d4, d5] => { results := [.lit (.bool false)], args := [d1, d2, d3, d4, d5] }
  | _ => none }
def BoundGrowsWrongFalsely : Prop := boundGrowsRow.holds Try.pinned (OpenSpec.ofChange boundGrowsWrong)

/-- 'cellplanelaw18.BoundAll': WHATEVER THE INPUT: true; the input reads as it did. -/
def boundAllSpec : ChangeSpec := { name := "boundAll", fn := fun _ => fun
  | [d1, d2, d3] => { results := [.lit (.bool true)], args := [d1, d2, d3] }
  | _ => none }
def boundAllRow : OpenClaim := { program := "ytlcgeeacgjdnkaa", sum := "8c020b01d05985a7126c3d3e2f1eecfecf1d0704e6f860dcefe38d38da5bb8e1", func := "cellplane/cellplanelaw18.BoundAll", spec := "boundAll", apart := false }
def BoundAllSaid : Prop := boundAllRow.holds Try.pinned (OpenSpec.ofChange boundAllSpec)

/-- ITS FALSE NEIGHBOUR: 'it returns false'. Refute it at one input. -/
def boundAllWrong : ChangeSpec := { name := "boundAll", fn := fun _ => fun
  | [d1, d2, d3] => { results := [.lit (.bool false)], args := [d1, d2, d3] }
  | _ => none }
def BoundAllWrongFalsely : Prop := boundAllRow.holds Try.pinned (OpenSpec.ofChange boundAllWrong)

/-- 'cellplanelaw17.RulesFit': WHATEVER THE INPUT: true; the input reads as it did. -/
def rulesFitSpec : ChangeSpec := { name := "rulesFit", fn := fun _ => fun
  | [d1, d2, d3, d4, d5] => { results := [.lit (.bool true)], args := [d1, d2, d3, d4, d5] }
  | _ => none }
def rulesFitRow : OpenClaim := { program := "ytlcgeeacgjdnkaa", sum := "8c020b01d05985a7126c3d3e2f1eecfecf1d0704e6f860dcefe38d38da5bb8e1", func := "cellplane/cellplanelaw17.RulesFit", spec := "rulesFit", unfollowed := true, recurses := true, apart := false }
def RulesFitSaid : Prop := rulesFitRow.holds Try.pinned (OpenSpec.ofChange rulesFitSpec)

/-- ITS FALSE NEIGHBOUR: 'it returns false'. Refute it at one input. -/
def rulesFitWrong : ChangeSpec := { name := "rulesFit", fn := fun _ => fun
  | [d1, d2, d3, d4, d5] => { results := [.lit (.bool false)], args := [d1, d2, d3, d4, d5] }
  | _ => none }
def RulesFitWrongFalsely : Prop := rulesFitRow.holds Try.pinned (OpenSpec.ofChange rulesFitWrong)

/-- 'cellplanelaw17.RulesBroken': WHATEVER THE INPUT: true; the input reads as it did. -/
def rulesBrokenSpec : ChangeSpec := { name := "rulesBroken", fn := fun _ => fun
  | [d1, d2, d3, d4] => { results := [.lit (.bool true)], args := [d1, d2, d3, d4] }
  | _ => none }
def rulesBrokenRow : OpenClaim := { program := "ytlcgeeacgjdnkaa", sum := "8c020b01d05985a7126c3d3e2f1eecfecf1d0704e6f860dcefe38d38da5bb8e1", func := "cellplane/cellplanelaw17.RulesBroken", spec := "rulesBroken", unfollowed := true, recurses := true, apart := false }
def RulesBrokenSaid : Prop := rulesBrokenRow.holds Try.pinned (OpenSpec.ofChange rulesBrokenSpec)

/-- ITS FALSE NEIGHBOUR: 'it returns false'. Refute it at one input. -/
def rulesBrokenWrong : ChangeSpec := { name := "rulesBroken", fn := fun _ => fun
  | [d1, d2, d3, d4] => { results := [.lit (.bool false)], args := [d1, d2, d3, d4] }
  | _ => none }
def RulesBrokenWrongFalsely : Prop := rulesBrokenRow.holds Try.pinned (OpenSpec.ofChange rulesBrokenWrong)

/-- 'cellplanelaw17.RulesBooked': WHATEVER THE INPUT: true; the input reads as it did. -/
def rulesBookedSpec : ChangeSpec := { name := "rulesBooked", fn := fun _ => fun
  | [d1, d2, d3, d4, d5] => { results := [.lit (.bool true)], args := [d1, d2, d3, d4, d5] }
  | _ => none }
def rulesBookedRow : OpenClaim := { program := "ytlcgeeacgjdnkaa", sum := "8c020b01d05985a7126c3d3e2f1eecfecf1d0704e6f860dcefe38d38da5bb8e1", func := "cellplane/cellplanelaw17.RulesBooked", spec := "rulesBooked", unfollowed := true, recurses := true, apart := false }
def RulesBookedSaid : Prop := rulesBookedRow.holds Try.pinned (OpenSpec.ofChange rulesBookedSpec)

/-- ITS FALSE NEIGHBOUR: 'it returns false'. Refute it at one input. -/
def rulesBookedWrong : ChangeSpec := { name := "rulesBooked", fn := fun _ => fun
  | [d1, d2, d3, d4, d5] => { results := [.lit (.bool false)], args := [d1, d2, d3, d4, d5] }
  | _ => none }
def RulesBookedWrongFalsely : Prop := rulesBookedRow.holds Try.pinned (OpenSpec.ofChange rulesBookedWrong)

/-- 'cellplanelaw17.RulesStay': WHATEVER THE INPUT: true; the input reads as it did. -/
def rulesStaySpec : ChangeSpec := { name := "rulesStay", fn := fun _ => fun
  | [d1, d2, d3, d4, d5] => { results := [.lit (.bool true)], args := [d1, d2, d3, d4, d5] }
  | _ => none }
def rulesStayRow : OpenClaim := { program := "ytlcgeeacgjdnkaa", sum := "8c020b01d05985a7126c3d3e2f1eecfecf1d0704e6f860dcefe38d38da5bb8e1", func := "cellplane/cellplanelaw17.RulesStay", spec := "rulesStay", unfollowed := true, recurses := true, apart := false }
def RulesStaySaid : Prop := rulesStayRow.holds Try.pinned (OpenSpec.ofChange rulesStaySpec)

/-- ITS FALSE NEIGHBOUR: 'it returns false'. Refute it at one input. -/
def rulesStayWrong : ChangeSpec := { name := "rulesStay", fn := fun _ => fun
  | [d1, d2, d3, d4, d5] => { results := [.lit (.bool false)], args := [d1, d2, d3, d4, d5] }
  | _ => none }
def RulesStayWrongFalsely : Prop := rulesStayRow.holds Try.pinned (OpenSpec.ofChange rulesStayWrong)

/-- 'cellplanelaw17.RulesFull': WHATEVER THE INPUT: true; the input reads as it did. -/
def rulesFullSpec : ChangeSpec := { name := "rulesFull", fn := fun _ => fun
  | [d1, d2, d3, d4] => { results := [.lit (.bool true)], args := [d1, d2, d3, d4] }
  | _ => none }
def rulesFullRow : OpenClaim := { program := "ytlcgeeacgjdnkaa", sum := "8c020b01d05985a7126c3d3e2f1eecfecf1d0704e6f860dcefe38d38da5bb8e1", func := "cellplane/cellplanelaw17.RulesFull", spec := "rulesFull", unfollowed := true, recurses := true, apart := false }
def RulesFullSaid : Prop := rulesFullRow.holds Try.pinned (OpenSpec.ofChange rulesFullSpec)

/-- ITS FALSE NEIGHBOUR: 'it returns false'. Refute it at one input. -/
def rulesFullWrong : ChangeSpec := { name := "rulesFull", fn := fun _ => fun
  | [d1, d2, d3, d4] => { results := [.lit (.bool false)], args := [d1, d2, d3, d4] }
  | _ => none }
def RulesFullWrongFalsely : Prop := rulesFullRow.holds Try.pinned (OpenSpec.ofChange rulesFullWrong)

/-- 'cellplanelaw17.RulesLess': WHATEVER THE INPUT: true; the input reads as it did. -/
def rulesLessSpec : ChangeSpec := { name := "rulesLess", fn := fun _ => fun
  | [d1, d2, d3, d4] => { results := [.lit (.bool true)], args := [d1, d2, d3, d4] }
  | _ => none }
def rulesLessRow : OpenClaim := { program := "ytlcgeeacgjdnkaa", sum := "8c020b01d05985a7126c3d3e2f1eecfecf1d0704e6f860dcefe38d38da5bb8e1", func := "cellplane/cellplanelaw17.RulesLess", spec := "rulesLess", unfollowed := true, recurses := true, apart := false }
def RulesLessSaid : Prop := rulesLessRow.holds Try.pinned (OpenSpec.ofChange rulesLessSpec)

/-- ITS FALSE NEIGHBOUR: 'it returns false'. Refute it at one input. -/
def rulesLessWrong : ChangeSpec := { name := "rulesLess", fn := fun _ => fun
  | [d1, d2, d3, d4] => { results := [.lit (.bool false)], args := [d1, d2, d3, d4] }
  | _ => none }
def RulesLessWrongFalsely : Prop := rulesLessRow.holds Try.pinned (OpenSpec.ofChange rulesLessWrong)

/-- 'cellplanelaw17.RulesCapacity': WHATEVER THE INPUT: true; the input reads as it did. -/
def rulesCapacitySpec : ChangeSpec := { name := "rulesCapacity", fn := fun _ => fun
  | [d1, d2, d3] => { results := [.lit (.bool true)], args := [d1, d2, d3] }
  | _ => none }
def rulesCapacityRow : OpenClaim := { program := "ytlcgeeacgjdnkaa", sum := "8c020b01d05985a7126c3d3e2f1eecfecf1d0704e6f860dcefe38d38da5bb8e1", func := "cellplane/cellplanelaw17.RulesCapacity", spec := "rulesCapacity", unfollowed := true, recurses := true, apart := false }
def RulesCapacitySaid : Prop := rulesCapacityRow.holds Try.pinned (OpenSpec.ofChange rulesCapacitySpec)

/-- ITS FALSE NEIGHBOUR: 'it returns false'. Refute it at one input. -/
def rulesCapacityWrong : ChangeSpec := { name := "rulesCapacity", fn := fun _ => fun
  | [d1, d2, d3] => { results := [.lit (.bool false)], args := [d1, d2, d3] }
  | _ => none }
def RulesCapacityWrongFalsely : Prop := rulesCapacityRow.holds Try.pinned (OpenSpec.ofChange rulesCapacityWrong)

/-- 'cellplanelaw18.BoundSound': WHATEVER THE INPUT: true; the input reads as it did. -/
def boundSoundSpec : ChangeSpec := { name := "boundSound", fn := fun _ => fun
  | [d1, d2, d3, d4] => { results := [.lit (.bool true)], args := [d1, d2, d3, d4] }
  | _ => none }
def boundSoundRow : OpenClaim := { program := "ytlcgeeacgjdnkaa", sum := "8c020b01d05985a7126c3d3e2f1eecfecf1d0704e6f860dcefe38d38da5bb8e1", func := "cellplane/cellplanelaw18.BoundSound", spec := "boundSound", unfollowed := true, recurses := true, apart := false }
def BoundSoundSaid : Prop := boundSoundRow.holds Try.pinned (OpenSpec.ofChange boundSoundSpec)

/-- ITS FALSE NEIGHBOUR: 'it returns false'. Refute it at one input. -/
def boundSoundWrong : ChangeSpec := { name := "boundSound", fn := fun _ => fun
  | [d1, d2, d3, d4] => { results := [.lit (.bool false)], args := [d1, d2, d3, d4] }
  | _ => none }
def BoundSoundWrongFalsely : Prop := boundSoundRow.holds Try.pinned (OpenSpec.ofChange boundSoundWrong)

/- THE SECOND FORM. 'bulk': how many values and letters a reading holds, each counted each time it is reached (what is shared counts as often as it is met; a slice's spare places count too). A statement '..UptoSaid' is the law's where the arguments, and the package variables that the reading takes, are together of bulk at most 1048576: NARROWER than '..Said'. Prove '..Said' where nothing that the law and all that it calls make is longer than what came in: it says more and counts as full. Else prove '..UptoSaid'. A law counts once. -/
mutual
def uptoBulk {H : Type} : DataW H → Nat
  | .lit (.string bytes) => bytes.length + 1
  | .lit _ => 1
  | .nil => 1
  | .ptr d => uptoBulk d + 1
  | .slice elems spare => uptoBulkAll elems + uptoBulkAll spare + 1
  | .agg parts => uptoBulkAll parts + 1
  | .iface _ d => uptoBulk d + 1
  | .map entries => uptoBulkEntries entries + 1
  | .held _ => 1
def uptoBulkAll {H : Type} : List (DataW H) → Nat
  | [] => 0
  | d :: r => uptoBulk d + uptoBulkAll r
def uptoBulkEntries {H : Type} : List (Lit × DataW H) → Nat
  | [] => 0
  | x :: r => uptoBulkEntry x + uptoBulkEntries r
def uptoBulkEntry {H : Type} : Lit × DataW H → Nat
  | (.string bytes, d) => bytes.length + uptoBulk d + 1
  | (_, d) => uptoBulk d + 1
 end
def uptoSmall : (H : Type) → List (DataW H) → Bool := fun _ ds => decide (uptoBulkAll ds ≤ 1048576)
def OpenSpec.upto (s : _root_.Go.ChangeSpec) : _root_.Go.OpenSpec := { _root_.Go.OpenSpec.ofChange s with cond := some uptoSmall }

/-- 'cellplanelaw18.BoundTells', WHERE WHAT IT READS IS OF BULK AT MOST 1048576: true; the input reads as it did. -/
def boundTellsUptoRow : OpenClaim := { program := "ytlcgeeacgjdnkaa", sum := "8c020b01d05985a7126c3d3e2f1eecfecf1d0704e6f860dcefe38d38da5bb8e1", func := "cellplane/cellplanelaw18.BoundTells", spec := "boundTells", apart := false, narrowed := true }
def BoundTellsUptoSaid : Prop := boundTellsUptoRow.holds Try.pinned (OpenSpec.upto boundTellsSpec)

/-- 'cellplanelaw18.BoundExceeded', WHERE WHAT IT READS IS OF BULK AT MOST 1048576: true; the input reads as it did. -/
def boundExceededUptoRow : OpenClaim := { program := "ytlcgeeacgjdnkaa", sum := "8c020b01d05985a7126c3d3e2f1eecfecf1d0704e6f860dcefe38d38da5bb8e1", func := "cellplane/cellplanelaw18.BoundExceeded", spec := "boundExceeded", apart := false, narrowed := true }
def BoundExceededUptoSaid : Prop := boundExceededUptoRow.holds Try.pinned (OpenSpec.upto boundExceededSpec)

/-- 'cellplanelaw18.BoundGrows', WHERE WHAT IT READS IS OF BULK AT MOST 1048576: true; the input reads as it did. -/
def boundGrowsUptoRow : OpenClaim := { program := "ytlcgeeacgjdnkaa", sum := "8c020b01d05985a7126c3d3e2f1eecfecf1d0704e6f860dcefe38d38da5bb8e1", func := "cellplane/cellplanelaw18.BoundGrows", spec := "boundGrows", apart := false, narrowed := true }
def BoundGrowsUptoSaid : Prop := boundGrowsUptoRow.holds Try.pinned (OpenSpec.upto boundGrowsSpec)

/-- 'cellplanelaw18.BoundAll', WHERE WHAT IT READS IS OF BULK AT MOST 1048576: true; the input reads as it did. -/
def boundAllUptoRow : OpenClaim := { program := "ytlcgeeacgjdnkaa", sum := "8c020b01d05985a7126c3d3e2f1eecfecf1d0704e6f860dcefe38d38da5bb8e1", func := "cellplane/cellplanelaw18.BoundAll", spec := "boundAll", apart := false, narrowed := true }
def BoundAllUptoSaid : Prop := boundAllUptoRow.holds Try.pinned (OpenSpec.upto boundAllSpec)

/-- 'cellplanelaw17.RulesFit', WHERE WHAT IT READS IS OF BULK AT MOST 1048576: true; the input reads as it did. -/
def rulesFitUptoRow : OpenClaim := { program := "ytlcgeeacgjdnkaa", sum := "8c020b01d05985a7126c3d3e2f1eecfecf1d0704e6f860dcefe38d38da5bb8e1", func := "cellplane/cellplanelaw17.RulesFit", spec := "rulesFit", unfollowed := true, recurses := true, apart := false, narrowed := true }
def RulesFitUptoSaid : Prop := rulesFitUptoRow.holds Try.pinned (OpenSpec.upto rulesFitSpec)

/-- 'cellplanelaw17.RulesBroken', WHERE WHAT IT READS IS OF BULK AT MOST 1048576: true; the input reads as it did. -/
def rulesBrokenUptoRow : OpenClaim := { program := "ytlcgeeacgjdnkaa", sum := "8c020b01d05985a7126c3d3e2f1eecfecf1d0704e6f860dcefe38d38da5bb8e1", func := "cellplane/cellplanelaw17.RulesBroken", spec := "rulesBroken", unfollowed := true, recurses := true, apart := false, narrowed := true }
def RulesBrokenUptoSaid : Prop := rulesBrokenUptoRow.holds Try.pinned (OpenSpec.upto rulesBrokenSpec)

/-- 'cellplanelaw17.RulesBooked', WHERE WHAT IT READS IS OF BULK AT MOST 1048576: true; the input reads as it did. -/
def rulesBookedUptoRow : OpenClaim := { program := "ytlcgeeacgjdnkaa", sum := "8c020b01d05985a7126c3d3e2f1eecfecf1d0704e6f860dcefe38d38da5bb8e1", func := "cellplane/cellplanelaw17.RulesBooked", spec := "rulesBooked", unfollowed := true, recurses := true, apart := false, narrowed := true }
def RulesBookedUptoSaid : Prop := rulesBookedUptoRow.holds Try.pinned (OpenSpec.upto rulesBookedSpec)

/-- 'cellplanelaw17.RulesStay', WHERE WHAT IT READS IS OF BULK AT MOST 1048576: true; the input reads as it did. -/
def rulesStayUptoRow : OpenClaim := { program := "ytlcgeeacgjdnkaa", sum := "8c020b01d05985a7126c3d3e2f1eecfecf1d0704e6f860dcefe38d38da5bb8e1", func := "cellplane/cellplanelaw17.RulesStay", spec := "rulesStay", unfollowed := true, recurses := true, apart := false, narrowed := true }
def RulesStayUptoSaid : Prop := rulesStayUptoRow.holds Try.pinned (OpenSpec.upto rulesStaySpec)

/-- 'cellplanelaw17.RulesFull', WHERE WHAT IT READS IS OF BULK AT MOST 1048576: true; the input reads as it did. -/
def rulesFullUptoRow : OpenClaim := { program := "ytlcgeeacgjdnkaa", sum := "8c020b01d05985a7126c3d3e2f1eecfecf1d0704e6f860dcefe38d38da5bb8e1", func := "cellplane/cellplanelaw17.RulesFull", spec := "rulesFull", unfollowed := true, recurses := true, apart := false, narrowed := true }
def RulesFullUptoSaid : Prop := rulesFullUptoRow.holds Try.pinned (OpenSpec.upto rulesFullSpec)

/-- 'cellplanelaw17.RulesLess', WHERE WHAT IT READS IS OF BULK AT MOST 1048576: true; the input reads as it did. -/
def rulesLessUptoRow : OpenClaim := { program := "ytlcgeeacgjdnkaa", sum := "8c020b01d05985a7126c3d3e2f1eecfecf1d0704e6f860dcefe38d38da5bb8e1", func := "cellplane/cellplanelaw17.RulesLess", spec := "rulesLess", unfollowed := true, recurses := true, apart := false, narrowed := true }
def RulesLessUptoSaid : Prop := rulesLessUptoRow.holds Try.pinned (OpenSpec.upto rulesLessSpec)

/-- 'cellplanelaw17.RulesCapacity', WHERE WHAT IT READS IS OF BULK AT MOST 1048576: true; the input reads as it did. -/
def rulesCapacityUptoRow : OpenClaim := { program := "ytlcgeeacgjdnkaa", sum := "8c020b01d05985a7126c3d3e2f1eecfecf1d0704e6f860dcefe38d38da5bb8e1", func := "cellplane/cellplanelaw17.RulesCapacity", spec := "rulesCapacity", unfollowed := true, recurses := true, apart := false, narrowed := true }
def RulesCapacityUptoSaid : Prop := rulesCapacityUptoRow.holds Try.pinned (OpenSpec.upto rulesCapacitySpec)

/-- 'cellplanelaw18.BoundSound', WHERE WHAT IT READS IS OF BULK AT MOST 1048576: true; the input reads as it did. -/
def boundSoundUptoRow : OpenClaim := { program := "ytlcgeeacgjdnkaa", sum := "8c020b01d05985a7126c3d3e2f1eecfecf1d0704e6f860dcefe38d38da5bb8e1", func := "cellplane/cellplanelaw18.BoundSound", spec := "boundSound", unfollowed := true, recurses := true, apart := false, narrowed := true }
def BoundSoundUptoSaid : Prop := boundSoundUptoRow.holds Try.pinned (OpenSpec.upto boundSoundSpec)

end Rows
end Go.Proofs.Ytlcgeeacgjdnkaa
