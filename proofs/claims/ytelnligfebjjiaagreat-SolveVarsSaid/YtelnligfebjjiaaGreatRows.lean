/-
  No cell of these rows narrows 'for every input' (looked for: loops, veiled, ifaces, maps, wideKeys, modest, calm, conditions, laid).
  DERIVED. THE GIVEN ROWS OF THIS SEAT. 6 by the template 'for every input the law returns true; each argument reads behind the call as it read before'; 0 by the template 'total and deterministic' (their statements: YtelnligfebjjiaaGreatTotals.lean).
  GIVEN WITH THE SEED: the statements are not yours to turn. If you find one false, say at which input.
  Laid BY PROGRAM, IN A SANDBOX (cutbox-rows.mjs): the forced cells as the released guide's own fill.sh prints them over the translation c4d7a72b45dc0d1a… (all of the seat's roots in one cut). By AI agents, Wed Nov 11 2026. No macro, syntax, notation, axiom, sorry.
-/
import Derived.Test.YtelnligfebjjiaaGreatChecked
import GoSem.Claim
import GoSem.ClaimJoined
import GoSem.ClaimMapViews
import Derived.JoinedTies
import Derived.KernelRfl
namespace Go.Proofs.YtelnligfebjjiaaGreat
/- THE CELL 'sum', in the pinned program and in every row, IS THE sha256 OF THE DUMP (.gsa) THAT YtelnligfebjjiaaGreatProg.lean LOADS. Nothing in Lean hashes anything: it is a label: what it is worth is what the hold of that sum in a sandbox is worth. -/
noncomputable def Tryz.pinned : Pinned := { name := "ytelnligfebjjiaagreat", sum := "c4d7a72b45dc0d1af9682d201e74e45ceb6c45bd5e609e077f3bfde11c0b0f1e", checked := Tryz.checked }
namespace Rows
def none {H : Type} : Left H := { results := [], args := [] }

/-- 'cellplanelaw19.CertTells': WHATEVER THE INPUT: true; the input reads as it did. -/
def certTellsSpec : ChangeSpec := { name := "certTells", fn := fun _ => fun
  | [d1, d2, d3, d4] => { results := [.lit (.bool true)], args := [d1, d2, d3, d4] }
  | _ => none }
def certTellsRow : OpenClaim := { program := "ytelnligfebjjiaagreat", sum := "c4d7a72b45dc0d1af9682d201e74e45ceb6c45bd5e609e077f3bfde11c0b0f1e", func := "cellplane/cellplanelaw19.CertTells", spec := "certTells", unfollowed := true, recurses := true, apart := false }
def CertTellsSaid : Prop := certTellsRow.holds Tryz.pinned (OpenSpec.ofChange certTellsSpec)

/-- ITS FALSE NEIGHBOUR: 'it returns false'. Refute it at one input. -/
def certTellsWrong : ChangeSpec := { name := "certTells", fn := fun _ => fun
  | [d1, d2, d3, d4] => { results := [.lit (.bool false)], args := [d1, d2, d3, d4] }
  | _ => none }
def CertTellsWrongFalsely : Prop := certTellsRow.holds Tryz.pinned (OpenSpec.ofChange certTellsWrong)

/-- 'cellplanelaw19.CertFound': WHATEVER THE INPUT: true; the input reads as it did. -/
def certFoundSpec : ChangeSpec := { name := "certFound", fn := fun _ => fun
  | [d1, d2, d3, d4, d5, d6] => { results := [.lit (.bool true)], args := [d1, d2, d3, d4, d5, d6] }
  | _ => none }
def certFoundRow : OpenClaim := { program := "ytelnligfebjjiaagreat", sum := "c4d7a72b45dc0d1af9682d201e74e45ceb6c45bd5e609e077f3bfde11c0b0f1e", func := "cellplane/cellplanelaw19.CertFound", spec := "certFound", unfollowed := true, recurses := true, apart := false }
def CertFoundSaid : Prop := certFoundRow.holds Tryz.pinned (OpenSpec.ofChange certFoundSpec)

/-- ITS FALSE NEIGHBOUR: 'it returns false'. Refute it at one input. -/
def certFoundWrong : ChangeSpec := { name := "certFound", fn := fun _ => fun
  | [d1, d2, d3, d4, d5, d6] => { results := [.lit (.bool false)], args := [d1, d2, d3, d4, d5, d6] }
  | _ => none }
def CertFoundWrongFalsely : Prop := certFoundRow.holds Tryz.pinned (OpenSpec.ofChange certFoundWrong)

/-- 'cellplanelaw19.CertOne': WHATEVER THE INPUT: true; the input reads as it did. -/
def certOneSpec : ChangeSpec := { name := "certOne", fn := fun _ => fun
  | [d1, d2, d3, d4, d5] => { results := [.lit (.bool true)], args := [d1, d2, d3, d4, d5] }
  | _ => none }
def certOneRow : OpenClaim := { program := "ytelnligfebjjiaagreat", sum := "c4d7a72b45dc0d1af9682d201e74e45ceb6c45bd5e609e077f3bfde11c0b0f1e", func := "cellplane/cellplanelaw19.CertOne", spec := "certOne", unfollowed := true, recurses := true, apart := false }
def CertOneSaid : Prop := certOneRow.holds Tryz.pinned (OpenSpec.ofChange certOneSpec)

/-- ITS FALSE NEIGHBOUR: 'it returns false'. Refute it at one input. -/
def certOneWrong : ChangeSpec := { name := "certOne", fn := fun _ => fun
  | [d1, d2, d3, d4, d5] => { results := [.lit (.bool false)], args := [d1, d2, d3, d4, d5] }
  | _ => none }
def CertOneWrongFalsely : Prop := certOneRow.holds Tryz.pinned (OpenSpec.ofChange certOneWrong)

/-- 'cellplanelaw19.CertInvalid': WHATEVER THE INPUT: true; the input reads as it did. -/
def certInvalidSpec : ChangeSpec := { name := "certInvalid", fn := fun _ => fun
  | [d1, d2, d3, d4, d5] => { results := [.lit (.bool true)], args := [d1, d2, d3, d4, d5] }
  | _ => none }
def certInvalidRow : OpenClaim := { program := "ytelnligfebjjiaagreat", sum := "c4d7a72b45dc0d1af9682d201e74e45ceb6c45bd5e609e077f3bfde11c0b0f1e", func := "cellplane/cellplanelaw19.CertInvalid", spec := "certInvalid", unfollowed := true, recurses := true, apart := false }
def CertInvalidSaid : Prop := certInvalidRow.holds Tryz.pinned (OpenSpec.ofChange certInvalidSpec)

/-- ITS FALSE NEIGHBOUR: 'it returns false'. Refute it at one input. -/
def certInvalidWrong : ChangeSpec := { name := "certInvalid", fn := fun _ => fun
  | [d1, d2, d3, d4, d5] => { results := [.lit (.bool false)], args := [d1, d2, d3, d4, d5] }
  | _ => none }
def CertInvalidWrongFalsely : Prop := certInvalidRow.holds Tryz.pinned (OpenSpec.ofChange certInvalidWrong)

/-- 'cellplanelaw20.SolveFinds': WHATEVER THE INPUT: true; the input reads as it did. -/
def solveFindsSpec : ChangeSpec := { name := "solveFinds", fn := fun _ => fun
  | [d1, d2, d3] => { results := [.lit (.bool true)], args := [d1, d2, d3] }
  | _ => none }
def solveFindsRow : OpenClaim := { program := "ytelnligfebjjiaagreat", sum := "c4d7a72b45dc0d1af9682d201e74e45ceb6c45bd5e609e077f3bfde11c0b0f1e", func := "cellplane/cellplanelaw20.SolveFinds", spec := "solveFinds", unfollowed := true, recurses := true, apart := false }
def SolveFindsSaid : Prop := solveFindsRow.holds Tryz.pinned (OpenSpec.ofChange solveFindsSpec)

/-- ITS FALSE NEIGHBOUR: 'it returns false'. Refute it at one input. -/
def solveFindsWrong : ChangeSpec := { name := "solveFinds", fn := fun _ => fun
  | [d1, d2, d3] => { results := [.lit (.bool false)], args := [d1, d2, d3] }
  | _ => none }
def SolveFindsWrongFalsely : Prop := solveFindsRow.holds Tryz.pinned (OpenSpec.ofChange solveFindsWrong)

/-- 'cellplanelaw20.SolveVars': WHATEVER THE INPUT: true; the input reads as it did. -/
def solveVarsSpec : ChangeSpec := { name := "solveVars", fn := fun _ => fun
  | [d1, d2, d3, d4, d5, d6] => { results := [.lit (.bool true)], args := [d1, d2, d3, d4, d5, d6] }
  | _ => none }
def solveVarsRow : OpenClaim := { program := "ytelnligfebjjiaagreat", sum := "c4d7a72b45dc0d1af9682d201e74e45ceb6c45bd5e609e077f3bfde11c0b0f1e", func := "cellplane/cellplanelaw20.SolveVars", spec := "solveVars", unfollowed := true, recurses := true, apart := false }
def SolveVarsSaid : Prop := solveVarsRow.holds Tryz.pinned (OpenSpec.ofChange solveVarsSpec)

/-- ITS FALSE NEIGHBOUR: 'it returns false'. Refute it at one input. -/
def solveVarsWrong : ChangeSpec := { name := "solveVars", fn := fun _ => fun
  | [d1, d2, d3, d4, d5, d6] => { results := [.lit (.bool false)], args := [d1, d2, d3, d4, d5, d6] }
  | _ => none }
def SolveVarsWrongFalsely : Prop := solveVarsRow.holds Tryz.pinned (OpenSpec.ofChange solveVarsWrong)

/- THE SECOND FORM. 'bulk': how many values and letters a reading holds, each counted each time it is reached (what is shared counts as often as it is met; a slice's spare places count too). A statement '..UptoSaid' is the law's where the arguments, and the package variables that the reading takes, are together of bulk at most 1048576: NARROWER than '..Said'. Prove '..Said' where nothing that the law and all that it calls make is longer than what came in: it says more and counts as full. Else prove '..UptoSaid'. A law counts once. -/
mutual
def uptoBulk {H : Type} : DataW H → Nat
  | .lit (.string bytes) => bytes.length + 1
  | .lit _ => 1
  | .nil => 1
  | .ptr d => uptoBulk d + 1
  | .slice elems spare => uptoBulkAll elems + uptoBulkAll spare + 1
  | .agg parts => uptoBulkAll parts + 1
  | .iface _ d => uptoBulk d + 1
  | .map entries => uptoBulkEntries entries + 1
  | .held _ => 1
def uptoBulkAll {H : Type} : List (DataW H) → Nat
  | [] => 0
  | d :: r => uptoBulk d + uptoBulkAll r
def uptoBulkEntries {H : Type} : List (Lit × DataW H) → Nat
  | [] => 0
  | x :: r => uptoBulkEntry x + uptoBulkEntries r
def uptoBulkEntry {H : Type} : Lit × DataW H → Nat
  | (.string bytes, d) => bytes.length + uptoBulk d + 1
  | (_, d) => uptoBulk d + 1
 end
def uptoSmall : (H : Type) → List (DataW H) → Bool := fun _ ds => decide (uptoBulkAll ds ≤ 1048576)
def OpenSpec.upto (s : _root_.Go.ChangeSpec) : _root_.Go.OpenSpec := { _root_.Go.OpenSpec.ofChange s with cond := some uptoSmall }

/-- 'cellplanelaw19.CertTells', WHERE WHAT IT READS IS OF BULK AT MOST 1048576: true; the input reads as it did. -/
def certTellsUptoRow : OpenClaim := { program := "ytelnligfebjjiaagreat", sum := "c4d7a72b45dc0d1af9682d201e74e45ceb6c45bd5e609e077f3bfde11c0b0f1e", func := "cellplane/cellplanelaw19.CertTells", spec := "certTells", unfollowed := true, recurses := true, apart := false, narrowed := true }
def CertTellsUptoSaid : Prop := certTellsUptoRow.holds Tryz.pinned (OpenSpec.upto certTellsSpec)

/-- 'cellplanelaw19.CertFound', WHERE WHAT IT READS IS OF BULK AT MOST 1048576: true; the input reads as it did. -/
def certFoundUptoRow : OpenClaim := { program := "ytelnligfebjjiaagreat", sum := "c4d7a72b45dc0d1af9682d201e74e45ceb6c45bd5e609e077f3bfde11c0b0f1e", func := "cellplane/cellplanelaw19.CertFound", spec := "certFound", unfollowed := true, recurses := true, apart := false, narrowed := true }
def CertFoundUptoSaid : Prop := certFoundUptoRow.holds Tryz.pinned (OpenSpec.upto certFoundSpec)

/-- 'cellplanelaw19.CertOne', WHERE WHAT IT READS IS OF BULK AT MOST 1048576: true; the input reads as it did. -/
def certOneUptoRow : OpenClaim := { program := "ytelnligfebjjiaagreat", sum := "c4d7a72b45dc0d1af9682d201e74e45ceb6c45bd5e609e077f3bfde11c0b0f1e", func := "cellplane/cellplanelaw19.CertOne", spec := "certOne", unfollowed := true, recurses := true, apart := false, narrowed := true }
def CertOneUptoSaid : Prop := certOneUptoRow.holds Tryz.pinned (OpenSpec.upto certOneSpec)

/-- 'cellplanelaw19.CertInvalid', WHERE WHAT IT READS IS OF BULK AT MOST 1048576: true; the input reads as it did. -/
def certInvalidUptoRow : OpenClaim := { program := "ytelnligfebjjiaagreat", sum := "c4d7a72b45dc0d1af9682d201e74e45ceb6c45bd5e609e077f3bfde11c0b0f1e", func := "cellplane/cellplanelaw19.CertInvalid", spec := "certInvalid", unfollowed := true, recurses := true, apart := false, narrowed := true }
def CertInvalidUptoSaid : Prop := certInvalidUptoRow.holds Tryz.pinned (OpenSpec.upto certInvalidSpec)

/-- 'cellplanelaw20.SolveFinds', WHERE WHAT IT READS IS OF BULK AT MOST 1048576: true; the input reads as it did. -/
def solveFindsUptoRow : OpenClaim := { program := "ytelnligfebjjiaagreat", sum := "c4d7a72b45dc0d1af9682d201e74e45ceb6c45bd5e609e077f3bfde11c0b0f1e", func := "cellplane/cellplanelaw20.SolveFinds", spec := "solveFinds", unfollowed := true, recurses := true, apart := false, narrowed := true }
def SolveFindsUptoSaid : Prop := solveFindsUptoRow.holds Tryz.pinned (OpenSpec.upto solveFindsSpec)

/-- 'cellplanelaw20.SolveVars', WHERE WHAT IT READS IS OF BULK AT MOST 1048576: true; the input reads as it did. -/
def solveVarsUptoRow : OpenClaim := { program := "ytelnligfebjjiaagreat", sum := "c4d7a72b45dc0d1af9682d201e74e45ceb6c45bd5e609e077f3bfde11c0b0f1e", func := "cellplane/cellplanelaw20.SolveVars", spec := "solveVars", unfollowed := true, recurses := true, apart := false, narrowed := true }
def SolveVarsUptoSaid : Prop := solveVarsUptoRow.holds Tryz.pinned (OpenSpec.upto solveVarsSpec)

end Rows
end Go.Proofs.YtelnligfebjjiaaGreat
