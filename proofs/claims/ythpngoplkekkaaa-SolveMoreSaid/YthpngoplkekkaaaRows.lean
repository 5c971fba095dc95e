/-
  No cell of these rows narrows 'for every input' (looked for: loops, veiled, ifaces, maps, wideKeys, modest, calm, conditions, laid).
  DERIVED. THE GIVEN ROWS OF THIS SEAT. 4 by the template 'for every input the law returns true; each argument reads behind the call as it read before'; 0 by the template 'total and deterministic' (their statements: YthpngoplkekkaaaTotals.lean).
  GIVEN WITH THE SEED: the statements are not yours to turn. If you find one false, say at which input.
  Laid BY PROGRAM, IN A SANDBOX (cutbox-rows.mjs): the forced cells as the released guide's own fill.sh prints them over the translation dafb3fbeb9096f08… (all of the seat's roots in one cut). By AI agents, Wed Nov 11 2026. No macro, syntax, notation, axiom, sorry.
-/
import Derived.Test.YthpngoplkekkaaaChecked
import GoSem.Claim
import GoSem.ClaimJoined
import GoSem.ClaimMapViews
import Derived.JoinedTies
import Derived.KernelRfl
namespace Go.Proofs.Ythpngoplkekkaaa
/- THE CELL 'sum', in the pinned program and in every row, IS THE sha256 OF THE DUMP (.gsa) THAT YthpngoplkekkaaaProg.lean LOADS. Nothing in Lean hashes anything: it is a label: what it is worth is what the hold of that sum in a sandbox is worth. -/
noncomputable def Try.pinned : Pinned := { name := "ythpngoplkekkaaa", sum := "dafb3fbeb9096f083bc370a78aac7572a0e1b89778b51a9dc5d3cd2a10da2065", checked := Try.checked }
namespace Rows
def none {H : Type} : Left H := { results := [], args := [] }

/-- 'cellplanelaw19.CertPlacement': WHATEVER THE INPUT: true; the input reads as it did. -/
def certPlacementSpec : ChangeSpec := { name := "certPlacement", fn := fun _ => fun
  | [d1, d2, d3, d4] => { results := [.lit (.bool true)], args := [d1, d2, d3, d4] }
  | _ => none }
def certPlacementRow : OpenClaim := { program := "ythpngoplkekkaaa", sum := "dafb3fbeb9096f083bc370a78aac7572a0e1b89778b51a9dc5d3cd2a10da2065", func := "cellplane/cellplanelaw19.CertPlacement", spec := "certPlacement", unfollowed := true, recurses := true, apart := false }
def CertPlacementSaid : Prop := certPlacementRow.holds Try.pinned (OpenSpec.ofChange certPlacementSpec)

/-- ITS FALSE NEIGHBOUR: 'it returns false'. Refute it at one input. -/
def certPlacementWrong : ChangeSpec := { name := "certPlacement", fn := fun _ => fun
  | [d1, d2, d3, d4] => { results := [.lit (.bool false)], args := [d1, d2, d3, d4] }
  | _ => none }
def CertPlacementWrongFalsely : Prop := certPlacementRow.holds Try.pinned (OpenSpec.ofChange certPlacementWrong)

/-- 'cellplanelaw20.SolveMore': WHATEVER THE INPUT: true; the input reads as it did. -/
def solveMoreSpec : ChangeSpec := { name := "solveMore", fn := fun _ => fun
  | [d1, d2, d3] => { results := [.lit (.bool true)], args := [d1, d2, d3] }
  | _ => none }
def solveMoreRow : OpenClaim := { program := "ythpngoplkekkaaa", sum := "dafb3fbeb9096f083bc370a78aac7572a0e1b89778b51a9dc5d3cd2a10da2065", func := "cellplane/cellplanelaw20.SolveMore", spec := "solveMore", unfollowed := true, recurses := true, apart := false }
def SolveMoreSaid : Prop := solveMoreRow.holds Try.pinned (OpenSpec.ofChange solveMoreSpec)

/-- ITS FALSE NEIGHBOUR: 'it returns false'. Refute it at one input. -/
def solveMoreWrong : ChangeSpec := { name := "solveMore", fn := fun _ => fun
  | [d1, d2, d3] => { results := [.lit (.bool false)], args := [d1, d2, d3] }
  | _ => none }
def SolveMoreWrongFalsely : Prop := solveMoreRow.holds Try.pinned (OpenSpec.ofChange solveMoreWrong)

/-- 'cellplanelaw20.SolveCertified': WHATEVER THE INPUT: true; the input reads as it did. -/
def solveCertifiedSpec : ChangeSpec := { name := "solveCertified", fn := fun _ => fun
  | [d1, d2, d3] => { results := [.lit (.bool true)], args := [d1, d2, d3] }
  | _ => none }
def solveCertifiedRow : OpenClaim := { program := "ythpngoplkekkaaa", sum := "dafb3fbeb9096f083bc370a78aac7572a0e1b89778b51a9dc5d3cd2a10da2065", func := "cellplane/cellplanelaw20.SolveCertified", spec := "solveCertified", unfollowed := true, recurses := true, apart := false }
def SolveCertifiedSaid : Prop := solveCertifiedRow.holds Try.pinned (OpenSpec.ofChange solveCertifiedSpec)

/-- ITS FALSE NEIGHBOUR: 'it returns false'. Refute it at one input. -/
def solveCertifiedWrong : ChangeSpec := { name := "solveCertified", fn := fun _ => fun
  | [d1, d2, d3] => { results := [.lit (.bool false)], args := [d1, d2, d3] }
  | _ => none }
def SolveCertifiedWrongFalsely : Prop := solveCertifiedRow.holds Try.pinned (OpenSpec.ofChange solveCertifiedWrong)

/-- 'cellplanelaw20.SolveComplete': WHATEVER THE INPUT: true; the input reads as it did. -/
def solveCompleteSpec : ChangeSpec := { name := "solveComplete", fn := fun _ => fun
  | [d1, d2, d3, d4] => { results := [.lit (.bool true)], args := [d1, d2, d3, d4] }
  | _ => none }
def solveCompleteRow : OpenClaim := { program := "ythpngoplkekkaaa", sum := "dafb3fbeb9096f083bc370a78aac7572a0e1b89778b51a9dc5d3cd2a10da2065", func := "cellplane/cellplanelaw20.SolveComplete", spec := "solveComplete", unfollowed := true, recurses := true, apart := false }
def SolveCompleteSaid : Prop := solveCompleteRow.holds Try.pinned (OpenSpec.ofChange solveCompleteSpec)

/-- ITS FALSE NEIGHBOUR: 'it returns false'. Refute it at one input. -/
def solveCompleteWrong : ChangeSpec := { name := "solveComplete", fn := fun _ => fun
  | [d1, d2, d3, d4] => { results := [.lit (.bool false)], args := [d1, d2, d3, d4] }
  | _ => none }
def SolveCompleteWrongFalsely : Prop := solveCompleteRow.holds Try.pinned (OpenSpec.ofChange solveCompleteWrong)

/- THE SECOND FORM. 'bulk': how many values and letters a reading holds, each counted each time it is reached (what is shared counts as often as it is met; a slice's spare places count too). A statement '..UptoSaid' is the law's where the arguments, and the package variables that the reading takes, are together of bulk at most 1048576: NARROWER than '..Said'. Prove '..Said' where nothing that the law and all that it calls make is longer than what came in: it says more and counts as full. Else prove '..UptoSaid'. A law counts once. -/
mutual
def uptoBulk {H : Type} : DataW H → Nat
  | .lit (.string bytes) => bytes.length + 1
  | .lit _ => 1
  | .nil => 1
  | .ptr d => uptoBulk d + 1
  | .slice elems spare => uptoBulkAll elems + uptoBulkAll spare + 1
  | .agg parts => uptoBulkAll parts + 1
  | .iface _ d => uptoBulk d + 1
  | .map entries => uptoBulkEntries entries + 1
  | .held _ => 1
def uptoBulkAll {H : Type} : List (DataW H) → Nat
  | [] => 0
  | d :: r => uptoBulk d + uptoBulkAll r
def uptoBulkEntries {H : Type} : List (Lit × DataW H) → Nat
  | [] => 0
  | x :: r => uptoBulkEntry x + uptoBulkEntries r
def uptoBulkEntry {H : Type} : Lit × DataW H → Nat
  | (.string bytes, d) => bytes.length + uptoBulk d + 1
  | (_, d) => uptoBulk d + 1
 end
def uptoSmall : (H : Type) → List (DataW H) → Bool := fun _ ds => decide (uptoBulkAll ds ≤ 1048576)
def OpenSpec.upto (s : _root_.Go.ChangeSpec) : _root_.Go.OpenSpec := { _root_.Go.OpenSpec.ofChange s with cond := some uptoSmall }

/-- 'cellplanelaw19.CertPlacement', WHERE WHAT IT READS IS OF BULK AT MOST 1048576: true; the input reads as it did. -/
def certPlacementUptoRow : OpenClaim := { program := "ythpngoplkekkaaa", sum := "dafb3fbeb9096f083bc370a78aac7572a0e1b89778b51a9dc5d3cd2a10da2065", func := "cellplane/cellplanelaw19.CertPlacement", spec := "certPlacement", unfollowed := true, recurses := true, apart := false, narrowed := true }
def CertPlacementUptoSaid : Prop := certPlacementUptoRow.holds Try.pinned (OpenSpec.upto certPlacementSpec)

/-- 'cellplanelaw20.SolveMore', WHERE WHAT IT READS IS OF BULK AT MOST 1048576: true; the input reads as it did. -/
def solveMoreUptoRow : OpenClaim := { program := "ythpngoplkekkaaa", sum := "dafb3fbeb9096f083bc370a78aac7572a0e1b89778b51a9dc5d3cd2a10da2065", func := "cellplane/cellplanelaw20.SolveMore", spec := "solveMore", unfollowed := true, recurses := true, apart := false, narrowed := true }
def SolveMoreUptoSaid : Prop := solveMoreUptoRow.holds Try.pinned (OpenSpec.upto solveMoreSpec)

/-- 'cellplanelaw20.SolveCertified', WHERE WHAT IT READS IS OF BULK AT MOST 1048576: true; the input reads as it did. -/
def solveCertifiedUptoRow : OpenClaim := { program := "ythpngoplkekkaaa", sum := "dafb3fbeb9096f083bc370a78aac7572a0e1b89778b51a9dc5d3cd2a10da2065", func := "cellplane/cellplanelaw20.SolveCertified", spec := "solveCertified", unfollowed := true, recurses := true, apart := false, narrowed := true }
def SolveCertifiedUptoSaid : Prop := solveCertifiedUptoRow.holds Try.pinned (OpenSpec.upto solveCertifiedSpec)

/-- 'cellplanelaw20.SolveComplete', WHERE WHAT IT READS IS OF BULK AT MOST 1048576: true; the input reads as it did. -/
def solveCompleteUptoRow : OpenClaim := { program := "ythpngoplkekkaaa", sum := "dafb3fbeb9096f083bc370a78aac7572a0e1b89778b51a9dc5d3cd2a10da2065", func := "cellplane/cellplanelaw20.SolveComplete", spec := "solveComplete", unfollowed := true, recurses := true, apart := false, narrowed := true }
def SolveCompleteUptoSaid : Prop := solveCompleteUptoRow.holds Try.pinned (OpenSpec.upto solveCompleteSpec)

end Rows
end Go.Proofs.Ythpngoplkekkaaa
