/-
  No cell of these rows narrows 'for every input' (looked for: loops, veiled, ifaces, maps, wideKeys, modest, calm, conditions, laid).
  DERIVED. THE GIVEN ROWS OF THIS SEAT. 7 by the template 'for every input the law returns true; each argument reads behind the call as it read before'; 0 by the template 'total and deterministic' (their statements: YtncckpieemmmfaaGreatTotals.lean).
  GIVEN WITH THE SEED: the statements are not yours to turn. If you find one false, say at which input.
  Laid BY PROGRAM, IN A SANDBOX (cutbox-rows.mjs): the forced cells as the released guide's own fill.sh prints them over the translation 650ada17ff4951db… (all of the seat's roots in one cut). By AI agents, Wed Nov 11 2026. No macro, syntax, notation, axiom, sorry.
-/
import Derived.Test.YtncckpieemmmfaaGreatChecked
import GoSem.Claim
import GoSem.ClaimJoined
import GoSem.ClaimMapViews
import Derived.JoinedTies
import Derived.KernelRfl
namespace Go.Proofs.YtncckpieemmmfaaGreat
/- THE CELL 'sum', in the pinned program and in every row, IS THE sha256 OF THE DUMP (.gsa) THAT YtncckpieemmmfaaGreatProg.lean LOADS. Nothing in Lean hashes anything: it is a label: what it is worth is what the hold of that sum in a sandbox is worth. -/
noncomputable def Tryz.pinned : Pinned := { name := "ytncckpieemmmfaagreat", sum := "650ada17ff4951db58302f520f0e934fcd2679e049fbf289f572a487477695a6", checked := Tryz.checked }
namespace Rows
def none {H : Type} : Left H := { results := [], args := [] }

/-- 'cellplanelaw35.EvaccheckAccepts': WHATEVER THE INPUT: true; the input reads as it did. -/
def evaccheckAcceptsSpec : ChangeSpec := { name := "evaccheckAccepts", fn := fun _ => fun
  | [d1, d2, d3, d4] => { results := [.lit (.bool true)], args := [d1, d2, d3, d4] }
  | _ => none }
def evaccheckAcceptsRow : OpenClaim := { program := "ytncckpieemmmfaagreat", sum := "650ada17ff4951db58302f520f0e934fcd2679e049fbf289f572a487477695a6", func := "cellplane/cellplanelaw35.EvaccheckAccepts", spec := "evaccheckAccepts", unfollowed := true, recurses := true, apart := false }
def EvaccheckAcceptsSaid : Prop := evaccheckAcceptsRow.holds Tryz.pinned (OpenSpec.ofChange evaccheckAcceptsSpec)

/-- ITS FALSE NEIGHBOUR: 'it returns false'. Refute it at one input. -/
def evaccheckAcceptsWrong : ChangeSpec := { name := "evaccheckAccepts", fn := fun _ => fun
  | [d1, d2, d3, d4] => { results := [.lit (.bool false)], args := [d1, d2, d3, d4] }
  | _ => none }
def EvaccheckAcceptsWrongFalsely : Prop := evaccheckAcceptsRow.holds Tryz.pinned (OpenSpec.ofChange evaccheckAcceptsWrong)

/-- 'cellplanelaw35.EvaccheckChecks': WHATEVER THE INPUT: true; the input reads as it did. -/
def evaccheckChecksSpec : ChangeSpec := { name := "evaccheckChecks", fn := fun _ => fun
  | [d1, d2, d3, d4, d5, d6] => { results := [.lit (.bool true)], args := [d1, d2, d3, d4, d5, d6] }
  | _ => none }
def evaccheckChecksRow : OpenClaim := { program := "ytncckpieemmmfaagreat", sum := "650ada17ff4951db58302f520f0e934fcd2679e049fbf289f572a487477695a6", func := "cellplane/cellplanelaw35.EvaccheckChecks", spec := "evaccheckChecks", unfollowed := true, recurses := true, apart := false }
def EvaccheckChecksSaid : Prop := evaccheckChecksRow.holds Tryz.pinned (OpenSpec.ofChange evaccheckChecksSpec)

/-- ITS FALSE NEIGHBOUR: 'it returns false'. Refute it at one input. -/
def evaccheckChecksWrong : ChangeSpec := { name := "evaccheckChecks", fn := fun _ => fun
  | [d1, d2, d3, d4, d5, d6] => { results := [.lit (.bool false)], args := [d1, d2, d3, d4, d5, d6] }
  | _ => none }
def EvaccheckChecksWrongFalsely : Prop := evaccheckChecksRow.holds Tryz.pinned (OpenSpec.ofChange evaccheckChecksWrong)

/-- 'cellplanelaw35.EvaccheckNeeds': WHATEVER THE INPUT: true; the input reads as it did. -/
def evaccheckNeedsSpec : ChangeSpec := { name := "evaccheckNeeds", fn := fun _ => fun
  | [d1, d2, d3, d4, d5, d6, d7] => { results := [.lit (.bool true)], args := [d1, d2, d3, d4, d5, d6, d7] }
  | _ => none }
def evaccheckNeedsRow : OpenClaim := { program := "ytncckpieemmmfaagreat", sum := "650ada17ff4951db58302f520f0e934fcd2679e049fbf289f572a487477695a6", func := "cellplane/cellplanelaw35.EvaccheckNeeds", spec := "evaccheckNeeds", unfollowed := true, recurses := true, apart := false }
def EvaccheckNeedsSaid : Prop := evaccheckNeedsRow.holds Tryz.pinned (OpenSpec.ofChange evaccheckNeedsSpec)

/-- ITS FALSE NEIGHBOUR: 'it returns false'. Refute it at one input. -/
def evaccheckNeedsWrong : ChangeSpec := { name := "evaccheckNeeds", fn := fun _ => fun
  | [d1, d2, d3, d4, d5, d6, d7] => { results := [.lit (.bool false)], args := [d1, d2, d3, d4, d5, d6, d7] }
  | _ => none }
def EvaccheckNeedsWrongFalsely : Prop := evaccheckNeedsRow.holds Tryz.pinned (OpenSpec.ofChange evaccheckNeedsWrong)

/-- 'cellplanelaw35.EvaccheckWhole': WHATEVER THE INPUT: true; the input reads as it did. -/
def evaccheckWholeSpec : ChangeSpec := { name := "evaccheckWhole", fn := fun _ => fun
  | [d1, d2, d3, d4, d5] => { results := [.lit (.bool true)], args := [d1, d2, d3, d4, d5] }
  | _ => none }
def evaccheckWholeRow : OpenClaim := { program := "ytncckpieemmmfaagreat", sum := "650ada17ff4951db58302f520f0e934fcd2679e049fbf289f572a487477695a6", func := "cellplane/cellplanelaw35.EvaccheckWhole", spec := "evaccheckWhole", unfollowed := true, recurses := true, apart := false }
def EvaccheckWholeSaid : Prop := evaccheckWholeRow.holds Tryz.pinned (OpenSpec.ofChange evaccheckWholeSpec)

/-- ITS FALSE NEIGHBOUR: 'it returns false'. Refute it at one input. -/
def evaccheckWholeWrong : ChangeSpec := { name := "evaccheckWhole", fn := fun _ => fun
  | [d1, d2, d3, d4, d5] => { results := [.lit (.bool false)], args := [d1, d2, d3, d4, d5] }
  | _ => none }
def EvaccheckWholeWrongFalsely : Prop := evaccheckWholeRow.holds Tryz.pinned (OpenSpec.ofChange evaccheckWholeWrong)

/-- 'cellplanelaw35.EvaccheckLost': WHATEVER THE INPUT: true; the input reads as it did. -/
def evaccheckLostSpec : ChangeSpec := { name := "evaccheckLost", fn := fun _ => fun
  | [d1, d2, d3, d4] => { results := [.lit (.bool true)], args := [d1, d2, d3, d4] }
  | _ => none }
def evaccheckLostRow : OpenClaim := { program := "ytncckpieemmmfaagreat", sum := "650ada17ff4951db58302f520f0e934fcd2679e049fbf289f572a487477695a6", func := "cellplane/cellplanelaw35.EvaccheckLost", spec := "evaccheckLost", unfollowed := true, recurses := true, apart := false }
def EvaccheckLostSaid : Prop := evaccheckLostRow.holds Tryz.pinned (OpenSpec.ofChange evaccheckLostSpec)

/-- ITS FALSE NEIGHBOUR: 'it returns false'. Refute it at one input. -/
def evaccheckLostWrong : ChangeSpec := { name := "evaccheckLost", fn := fun _ => fun
  | [d1, d2, d3, d4] => { results := [.lit (.bool false)], args := [d1, d2, d3, d4] }
  | _ => none }
def EvaccheckLostWrongFalsely : Prop := evaccheckLostRow.holds Tryz.pinned (OpenSpec.ofChange evaccheckLostWrong)

/-- 'cellplanelaw35.EvaccheckPeaks': WHATEVER THE INPUT: true; the input reads as it did. -/
def evaccheckPeaksSpec : ChangeSpec := { name := "evaccheckPeaks", fn := fun _ => fun
  | [d1, d2, d3, d4, d5, d6] => { results := [.lit (.bool true)], args := [d1, d2, d3, d4, d5, d6] }
  | _ => none }
def evaccheckPeaksRow : OpenClaim := { program := "ytncckpieemmmfaagreat", sum := "650ada17ff4951db58302f520f0e934fcd2679e049fbf289f572a487477695a6", func := "cellplane/cellplanelaw35.EvaccheckPeaks", spec := "evaccheckPeaks", unfollowed := true, recurses := true, apart := false }
def EvaccheckPeaksSaid : Prop := evaccheckPeaksRow.holds Tryz.pinned (OpenSpec.ofChange evaccheckPeaksSpec)

/-- ITS FALSE NEIGHBOUR: 'it returns false'. Refute it at one input. -/
def evaccheckPeaksWrong : ChangeSpec := { name := "evaccheckPeaks", fn := fun _ => fun
  | [d1, d2, d3, d4, d5, d6] => { results := [.lit (.bool false)], args := [d1, d2, d3, d4, d5, d6] }
  | _ => none }
def EvaccheckPeaksWrongFalsely : Prop := evaccheckPeaksRow.holds Tryz.pinned (OpenSpec.ofChange evaccheckPeaksWrong)

/-- 'cellplanelaw35.EvaccheckSafe': WHATEVER THE INPUT: true; the input reads as it did. -/
def evaccheckSafeSpec : ChangeSpec := { name := "evaccheckSafe", fn := fun _ => fun
  | [d1, d2, d3, d4, d5] => { results := [.lit (.bool true)], args := [d1, d2, d3, d4, d5] }
  | _ => none }
def evaccheckSafeRow : OpenClaim := { program := "ytncckpieemmmfaagreat", sum := "650ada17ff4951db58302f520f0e934fcd2679e049fbf289f572a487477695a6", func := "cellplane/cellplanelaw35.EvaccheckSafe", spec := "evaccheckSafe", unfollowed := true, recurses := true, apart := false }
def EvaccheckSafeSaid : Prop := evaccheckSafeRow.holds Tryz.pinned (OpenSpec.ofChange evaccheckSafeSpec)

/-- ITS FALSE NEIGHBOUR: 'it returns false'. Refute it at one input. -/
def evaccheckSafeWrong : ChangeSpec := { name := "evaccheckSafe", fn := fun _ => fun
  | [d1, d2, d3, d4, d5] => { results := [.lit (.bool false)], args := [d1, d2, d3, d4, d5] }
  | _ => none }
def EvaccheckSafeWrongFalsely : Prop := evaccheckSafeRow.holds Tryz.pinned (OpenSpec.ofChange evaccheckSafeWrong)

/- THE SECOND FORM. 'bulk': how many values and letters a reading holds, each counted each time it is reached (what is shared counts as often as it is met; a slice's spare places count too). A statement '..UptoSaid' is the law's where the arguments, and the package variables that the reading takes, are together of bulk at most 1048576: NARROWER than '..Said'. Prove '..Said' where nothing that the law and all that it calls make is longer than what came in: it says more and counts as full. Else prove '..UptoSaid'. A law counts once. -/
mutual
def uptoBulk {H : Type} : DataW H → Nat
  | .lit (.string bytes) => bytes.length + 1
  | .lit _ => 1
  | .nil => 1
  | .ptr d => uptoBulk d + 1
  | .slice elems spare => uptoBulkAll elems + uptoBulkAll spare + 1
  | .agg parts => uptoBulkAll parts + 1
  | .iface _ d => uptoBulk d + 1
  | .map entries => uptoBulkEntries entries + 1
  | .held _ => 1
def uptoBulkAll {H : Type} : List (DataW H) → Nat
  | [] => 0
  | d :: r => uptoBulk d + uptoBulkAll r
def uptoBulkEntries {H : Type} : List (Lit × DataW H) → Nat
  | [] => 0
  | x :: r => uptoBulkEntry x + uptoBulkEntries r
def uptoBulkEntry {H : Type} : Lit × DataW H → Nat
  | (.string bytes, d) => bytes.length + uptoBulk d + 1
  | (_, d) => uptoBulk d + 1
 end
def uptoSmall : (H : Type) → List (DataW H) → Bool := fun _ ds => decide (uptoBulkAll ds ≤ 1048576)
def OpenSpec.upto (s : _root_.Go.ChangeSpec) : _root_.Go.OpenSpec := { _root_.Go.OpenSpec.ofChange s with cond := some uptoSmall }

/-- 'cellplanelaw35.EvaccheckAccepts', WHERE WHAT IT READS IS OF BULK AT MOST 1048576: true; the input reads as it did. -/
def evaccheckAcceptsUptoRow : OpenClaim := { program := "ytncckpieemmmfaagreat", sum := "650ada17ff4951db58302f520f0e934fcd2679e049fbf289f572a487477695a6", func := "cellplane/cellplanelaw35.EvaccheckAccepts", spec := "evaccheckAccepts", unfollowed := true, recurses := true, apart := false, narrowed := true }
def EvaccheckAcceptsUptoSaid : Prop := evaccheckAcceptsUptoRow.holds Tryz.pinned (OpenSpec.upto evaccheckAcceptsSpec)

/-- 'cellplanelaw35.EvaccheckChecks', WHERE WHAT IT READS IS OF BULK AT MOST 1048576: true; the input reads as it did. -/
def evaccheckChecksUptoRow : OpenClaim := { program := "ytncckpieemmmfaagreat", sum := "650ada17ff4951db58302f520f0e934fcd2679e049fbf289f572a487477695a6", func := "cellplane/cellplanelaw35.EvaccheckChecks", spec := "evaccheckChecks", unfollowed := true, recurses := true, apart := false, narrowed := true }
def EvaccheckChecksUptoSaid : Prop := evaccheckChecksUptoRow.holds Tryz.pinned (OpenSpec.upto evaccheckChecksSpec)

/-- 'cellplanelaw35.EvaccheckNeeds', WHERE WHAT IT READS IS OF BULK AT MOST 1048576: true; the input reads as it did. -/
def evaccheckNeedsUptoRow : OpenClaim := { program := "ytncckpieemmmfaagreat", sum := "650ada17ff4951db58302f520f0e934fcd2679e049fbf289f572a487477695a6", func := "cellplane/cellplanelaw35.EvaccheckNeeds", spec := "evaccheckNeeds", unfollowed := true, recurses := true, apart := false, narrowed := true }
def EvaccheckNeedsUptoSaid : Prop := evaccheckNeedsUptoRow.holds Tryz.pinned (OpenSpec.upto evaccheckNeedsSpec)

/-- 'cellplanelaw35.EvaccheckWhole', WHERE WHAT IT READS IS OF BULK AT MOST 1048576: true; the input reads as it did. -/
def evaccheckWholeUptoRow : OpenClaim := { program := "ytncckpieemmmfaagreat", sum := "650ada17ff4951db58302f520f0e934fcd2679e049fbf289f572a487477695a6", func := "cellplane/cellplanelaw35.EvaccheckWhole", spec := "evaccheckWhole", unfollowed := true, recurses := true, apart := false, narrowed := true }
def EvaccheckWholeUptoSaid : Prop := evaccheckWholeUptoRow.holds Tryz.pinned (OpenSpec.upto evaccheckWholeSpec)

/-- 'cellplanelaw35.EvaccheckLost', WHERE WHAT IT READS IS OF BULK AT MOST 1048576: true; the input reads as it did. -/
def evaccheckLostUptoRow : OpenClaim := { program := "ytncckpieemmmfaagreat", sum := "650ada17ff4951db58302f520f0e934fcd2679e049fbf289f572a487477695a6", func := "cellplane/cellplanelaw35.EvaccheckLost", spec := "evaccheckLost", unfollowed := true, recurses := true, apart := false, narrowed := true }
def EvaccheckLostUptoSaid : Prop := evaccheckLostUptoRow.holds Tryz.pinned (OpenSpec.upto evaccheckLostSpec)

/-- 'cellplanelaw35.EvaccheckPeaks', WHERE WHAT IT READS IS OF BULK AT MOST 1048576: true; the input reads as it did. -/
def evaccheckPeaksUptoRow : OpenClaim := { program := "ytncckpieemmmfaagreat", sum := "650ada17ff4951db58302f520f0e934fcd2679e049fbf289f572a487477695a6", func := "cellplane/cellplanelaw35.EvaccheckPeaks", spec := "evaccheckPeaks", unfollowed := true, recurses := true, apart := false, narrowed := true }
def EvaccheckPeaksUptoSaid : Prop := evaccheckPeaksUptoRow.holds Tryz.pinned (OpenSpec.upto evaccheckPeaksSpec)

/-- 'cellplanelaw35.EvaccheckSafe', WHERE WHAT IT READS IS OF BULK AT MOST 1048576: true; the input reads as it did. -/
def evaccheckSafeUptoRow : OpenClaim := { program := "ytncckpieemmmfaagreat", sum := "650ada17ff4951db58302f520f0e934fcd2679e049fbf289f572a487477695a6", func := "cellplane/cellplanelaw35.EvaccheckSafe", spec := "evaccheckSafe", unfollowed := true, recurses := true, apart := false, narrowed := true }
def EvaccheckSafeUptoSaid : Prop := evaccheckSafeUptoRow.holds Tryz.pinned (OpenSpec.upto evaccheckSafeSpec)

end Rows
end Go.Proofs.YtncckpieemmmfaaGreat
