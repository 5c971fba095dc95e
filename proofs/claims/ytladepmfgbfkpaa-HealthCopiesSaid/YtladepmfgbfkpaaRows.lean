/-
  No cell of these rows narrows 'for every input' (looked for: loops, veiled, ifaces, maps, wideKeys, modest, calm, conditions, laid).
  DERIVED. THE GIVEN ROWS OF THIS SEAT. 7 by the template 'for every input the law returns true; each argument reads behind the call as it read before'; 0 by the template 'total and deterministic' (their statements: YtladepmfgbfkpaaTotals.lean).
  GIVEN WITH THE SEED: the statements are not yours to turn. If you find one false, say at which input.
  Laid BY PROGRAM, IN A SANDBOX (cutbox-rows.mjs): the forced cells as the released guide's own fill.sh prints them over the translation 78c80d94966b6b84… (all of the seat's roots in one cut). By AI agents, Wed Nov 11 2026. No macro, syntax, notation, axiom, sorry.
-/
import Derived.Test.YtladepmfgbfkpaaChecked
import GoSem.Claim
import GoSem.ClaimJoined
import GoSem.ClaimMapViews
import Derived.JoinedTies
import Derived.KernelRfl
namespace Go.Proofs.Ytladepmfgbfkpaa
/- THE CELL 'sum', in the pinned program and in every row, IS THE sha256 OF THE DUMP (.gsa) THAT YtladepmfgbfkpaaProg.lean LOADS. Nothing in Lean hashes anything: it is a label: what it is worth is what the hold of that sum in a sandbox is worth. -/
noncomputable def Try.pinned : Pinned := { name := "ytladepmfgbfkpaa", sum := "78c80d94966b6b842d297b6e4cec2bd2fc0469477121d3b135512a4d5d3f05f1", checked := Try.checked }
namespace Rows
def none {H : Type} : Left H := { results := [], args := [] }

/-- 'cellplanelaw23.HealthPlays': WHATEVER THE INPUT: true; the input reads as it did. -/
def healthPlaysSpec : ChangeSpec := { name := "healthPlays", fn := fun _ => fun
  | [d1, d2, d3, d4] => { results := [.lit (.bool true)], args := [d1, d2, d3, d4] }
  | _ => none }
def healthPlaysRow : OpenClaim := { program := "ytladepmfgbfkpaa", sum := "78c80d94966b6b842d297b6e4cec2bd2fc0469477121d3b135512a4d5d3f05f1", func := "cellplane/cellplanelaw23.HealthPlays", spec := "healthPlays", plainKeys := false, apart := false }
def HealthPlaysSaid : Prop := healthPlaysRow.holds Try.pinned (OpenSpec.ofChange healthPlaysSpec)

/-- ITS FALSE NEIGHBOUR: 'it returns false'. Refute it at one input. -/
def healthPlaysWrong : ChangeSpec := { name := "healthPlays", fn := fun _ => fun
  | [d1, d2, d3, d4] => { results := [.lit (.bool false)], args := [d1, d2, d3, d4] }
  | _ => none }
def HealthPlaysWrongFalsely : Prop := healthPlaysRow.holds Try.pinned (OpenSpec.ofChange healthPlaysWrong)

/-- 'cellplanelaw23.HealthVotes': WHATEVER THE INPUT: true; the input reads as it did. -/
def healthVotesSpec : ChangeSpec := { name := "healthVotes", fn := fun _ => fun
  | [d1, d2, d3, d4, d5] => { results := [.lit (.bool true)], args := [d1, d2, d3, d4, d5] }
  | _ => none }
def healthVotesRow : OpenClaim := { program := "ytladepmfgbfkpaa", sum := "78c80d94966b6b842d297b6e4cec2bd2fc0469477121d3b135512a4d5d3f05f1", func := "cellplane/cellplanelaw23.HealthVotes", spec := "healthVotes", plainKeys := false, apart := false }
def HealthVotesSaid : Prop := healthVotesRow.holds Try.pinned (OpenSpec.ofChange healthVotesSpec)

/-- ITS FALSE NEIGHBOUR: 'it returns false'. Refute it at one input. -/
def healthVotesWrong : ChangeSpec := { name := "healthVotes", fn := fun _ => fun
  | [d1, d2, d3, d4, d5] => { results := [.lit (.bool false)], args := [d1, d2, d3, d4, d5] }
  | _ => none }
def HealthVotesWrongFalsely : Prop := healthVotesRow.holds Try.pinned (OpenSpec.ofChange healthVotesWrong)

/-- 'cellplanelaw23.HealthNew': WHATEVER THE INPUT: true; the input reads as it did. -/
def healthNewSpec : ChangeSpec := { name := "healthNew", fn := fun _ => fun
  | [d1, d2, d3, d4, d5] => { results := [.lit (.bool true)], args := [d1, d2, d3, d4, d5] }
  | _ => none }
def healthNewRow : OpenClaim := { program := "ytladepmfgbfkpaa", sum := "78c80d94966b6b842d297b6e4cec2bd2fc0469477121d3b135512a4d5d3f05f1", func := "cellplane/cellplanelaw23.HealthNew", spec := "healthNew", plainKeys := false, apart := false }
def HealthNewSaid : Prop := healthNewRow.holds Try.pinned (OpenSpec.ofChange healthNewSpec)

/-- ITS FALSE NEIGHBOUR: 'it returns false'. Refute it at one input. -/
def healthNewWrong : ChangeSpec := { name := "healthNew", fn := fun _ => fun
  | [d1, d2, d3, d4, d5] => { results := [.lit (.bool false)], args := [d1, d2, d3, d4, d5] }
  | _ => none }
def HealthNewWrongFalsely : Prop := healthNewRow.holds Try.pinned (OpenSpec.ofChange healthNewWrong)

/-- 'cellplanelaw23.HealthMinority': WHATEVER THE INPUT: true; the input reads as it did. -/
def healthMinoritySpec : ChangeSpec := { name := "healthMinority", fn := fun _ => fun
  | [d1, d2, d3] => { results := [.lit (.bool true)], args := [d1, d2, d3] }
  | _ => none }
def healthMinorityRow : OpenClaim := { program := "ytladepmfgbfkpaa", sum := "78c80d94966b6b842d297b6e4cec2bd2fc0469477121d3b135512a4d5d3f05f1", func := "cellplane/cellplanelaw23.HealthMinority", spec := "healthMinority", plainKeys := false, apart := false }
def HealthMinoritySaid : Prop := healthMinorityRow.holds Try.pinned (OpenSpec.ofChange healthMinoritySpec)

/-- ITS FALSE NEIGHBOUR: 'it returns false'. Refute it at one input. -/
def healthMinorityWrong : ChangeSpec := { name := "healthMinority", fn := fun _ => fun
  | [d1, d2, d3] => { results := [.lit (.bool false)], args := [d1, d2, d3] }
  | _ => none }
def HealthMinorityWrongFalsely : Prop := healthMinorityRow.holds Try.pinned (OpenSpec.ofChange healthMinorityWrong)

/-- 'cellplanelaw23.HealthHolds': WHATEVER THE INPUT: true; the input reads as it did. -/
def healthHoldsSpec : ChangeSpec := { name := "healthHolds", fn := fun _ => fun
  | [d1, d2, d3] => { results := [.lit (.bool true)], args := [d1, d2, d3] }
  | _ => none }
def healthHoldsRow : OpenClaim := { program := "ytladepmfgbfkpaa", sum := "78c80d94966b6b842d297b6e4cec2bd2fc0469477121d3b135512a4d5d3f05f1", func := "cellplane/cellplanelaw23.HealthHolds", spec := "healthHolds", plainKeys := false, apart := false }
def HealthHoldsSaid : Prop := healthHoldsRow.holds Try.pinned (OpenSpec.ofChange healthHoldsSpec)

/-- ITS FALSE NEIGHBOUR: 'it returns false'. Refute it at one input. -/
def healthHoldsWrong : ChangeSpec := { name := "healthHolds", fn := fun _ => fun
  | [d1, d2, d3] => { results := [.lit (.bool false)], args := [d1, d2, d3] }
  | _ => none }
def HealthHoldsWrongFalsely : Prop := healthHoldsRow.holds Try.pinned (OpenSpec.ofChange healthHoldsWrong)

/-- 'cellplanelaw23.HealthZones': WHATEVER THE INPUT: true; the input reads as it did. -/
def healthZonesSpec : ChangeSpec := { name := "healthZones", fn := fun _ => fun
  | [d1, d2, d3] => { results := [.lit (.bool true)], args := [d1, d2, d3] }
  | _ => none }
def healthZonesRow : OpenClaim := { program := "ytladepmfgbfkpaa", sum := "78c80d94966b6b842d297b6e4cec2bd2fc0469477121d3b135512a4d5d3f05f1", func := "cellplane/cellplanelaw23.HealthZones", spec := "healthZones", plainKeys := false, apart := false }
def HealthZonesSaid : Prop := healthZonesRow.holds Try.pinned (OpenSpec.ofChange healthZonesSpec)

/-- ITS FALSE NEIGHBOUR: 'it returns false'. Refute it at one input. -/
def healthZonesWrong : ChangeSpec := { name := "healthZones", fn := fun _ => fun
  | [d1, d2, d3] => { results := [.lit (.bool false)], args := [d1, d2, d3] }
  | _ => none }
def HealthZonesWrongFalsely : Prop := healthZonesRow.holds Try.pinned (OpenSpec.ofChange healthZonesWrong)

/-- 'cellplanelaw23.HealthCopies': WHATEVER THE INPUT: true; the input reads as it did. -/
def healthCopiesSpec : ChangeSpec := { name := "healthCopies", fn := fun _ => fun
  | [d1, d2, d3, d4] => { results := [.lit (.bool true)], args := [d1, d2, d3, d4] }
  | _ => none }
def healthCopiesRow : OpenClaim := { program := "ytladepmfgbfkpaa", sum := "78c80d94966b6b842d297b6e4cec2bd2fc0469477121d3b135512a4d5d3f05f1", func := "cellplane/cellplanelaw23.HealthCopies", spec := "healthCopies", inPlace := ["maps.clone"], plainKeys := false, apart := false }
def HealthCopiesSaid : Prop := healthCopiesRow.holds Try.pinned (OpenSpec.ofChange healthCopiesSpec)

/-- ITS FALSE NEIGHBOUR: 'it returns false'. Refute it at one input. -/
def healthCopiesWrong : ChangeSpec := { name := "healthCopies", fn := fun _ => fun
  | [d1, d2, d3, d4] => { results := [.lit (.bool false)], args := [d1, d2, d3, d4] }
  | _ => none }
def HealthCopiesWrongFalsely : Prop := healthCopiesRow.holds Try.pinned (OpenSpec.ofChange healthCopiesWrong)

/- THE SECOND FORM. 'bulk': how many values and letters a reading holds, each counted each time it is reached (what is shared counts as often as it is met; a slice's spare places count too). A statement '..UptoSaid' is the law's where the arguments, and the package variables that the reading takes, are together of bulk at most 1048576: NARROWER than '..Said'. Prove '..Said' where nothing that the law and all that it calls make is longer than what came in: it says more and counts as full. Else prove '..UptoSaid'. A law counts once. -/
mutual
def uptoBulk {H : Type} : DataW H → Nat
  | .lit (.string bytes) => bytes.length + 1
  | .lit _ => 1
  | .nil => 1
  | .ptr d => uptoBulk d + 1
  | .slice elems spare => uptoBulkAll elems + uptoBulkAll spare + 1
  | .agg parts => uptoBulkAll parts + 1
  | .iface _ d => uptoBulk d + 1
  | .map entries => uptoBulkEntries entries + 1
  | .held _ => 1
def uptoBulkAll {H : Type} : List (DataW H) → Nat
  | [] => 0
  | d :: r => uptoBulk d + uptoBulkAll r
def uptoBulkEntries {H : Type} : List (Lit × DataW H) → Nat
  | [] => 0
  | x :: r => uptoBulkEntry x + uptoBulkEntries r
def uptoBulkEntry {H : Type} : Lit × DataW H → Nat
  | (.string bytes, d) => bytes.length + uptoBulk d + 1
  | (_, d) => uptoBulk d + 1
 end
def uptoSmall : (H : Type) → List (DataW H) → Bool := fun _ ds => decide (uptoBulkAll ds ≤ 1048576)
def OpenSpec.upto (s : _root_.Go.ChangeSpec) : _root_.Go.OpenSpec := { _root_.Go.OpenSpec.ofChange s with cond := some uptoSmall }

/-- 'cellplanelaw23.HealthPlays', WHERE WHAT IT READS IS OF BULK AT MOST 1048576: true; the input reads as it did. -/
def healthPlaysUptoRow : OpenClaim := { program := "ytladepmfgbfkpaa", sum := "78c80d94966b6b842d297b6e4cec2bd2fc0469477121d3b135512a4d5d3f05f1", func := "cellplane/cellplanelaw23.HealthPlays", spec := "healthPlays", plainKeys := false, apart := false, narrowed := true }
def HealthPlaysUptoSaid : Prop := healthPlaysUptoRow.holds Try.pinned (OpenSpec.upto healthPlaysSpec)

/-- 'cellplanelaw23.HealthVotes', WHERE WHAT IT READS IS OF BULK AT MOST 1048576: true; the input reads as it did. -/
def healthVotesUptoRow : OpenClaim := { program := "ytladepmfgbfkpaa", sum := "78c80d94966b6b842d297b6e4cec2bd2fc0469477121d3b135512a4d5d3f05f1", func := "cellplane/cellplanelaw23.HealthVotes", spec := "healthVotes", plainKeys := false, apart := false, narrowed := true }
def HealthVotesUptoSaid : Prop := healthVotesUptoRow.holds Try.pinned (OpenSpec.upto healthVotesSpec)

/-- 'cellplanelaw23.HealthNew', WHERE WHAT IT READS IS OF BULK AT MOST 1048576: true; the input reads as it did. -/
def healthNewUptoRow : OpenClaim := { program := "ytladepmfgbfkpaa", sum := "78c80d94966b6b842d297b6e4cec2bd2fc0469477121d3b135512a4d5d3f05f1", func := "cellplane/cellplanelaw23.HealthNew", spec := "healthNew", plainKeys := false, apart := false, narrowed := true }
def HealthNewUptoSaid : Prop := healthNewUptoRow.holds Try.pinned (OpenSpec.upto healthNewSpec)

/-- 'cellplanelaw23.HealthMinority', WHERE WHAT IT READS IS OF BULK AT MOST 1048576: true; the input reads as it did. -/
def healthMinorityUptoRow : OpenClaim := { program := "ytladepmfgbfkpaa", sum := "78c80d94966b6b842d297b6e4cec2bd2fc0469477121d3b135512a4d5d3f05f1", func := "cellplane/cellplanelaw23.HealthMinority", spec := "healthMinority", plainKeys := false, apart := false, narrowed := true }
def HealthMinorityUptoSaid : Prop := healthMinorityUptoRow.holds Try.pinned (OpenSpec.upto healthMinoritySpec)

/-- 'cellplanelaw23.HealthHolds', WHERE WHAT IT READS IS OF BULK AT MOST 1048576: true; the input reads as it did. -/
def healthHoldsUptoRow : OpenClaim := { program := "ytladepmfgbfkpaa", sum := "78c80d94966b6b842d297b6e4cec2bd2fc0469477121d3b135512a4d5d3f05f1", func := "cellplane/cellplanelaw23.HealthHolds", spec := "healthHolds", plainKeys := false, apart := false, narrowed := true }
def HealthHoldsUptoSaid : Prop := healthHoldsUptoRow.holds Try.pinned (OpenSpec.upto healthHoldsSpec)

/-- 'cellplanelaw23.HealthZones', WHERE WHAT IT READS IS OF BULK AT MOST 1048576: true; the input reads as it did. -/
def healthZonesUptoRow : OpenClaim := { program := "ytladepmfgbfkpaa", sum := "78c80d94966b6b842d297b6e4cec2bd2fc0469477121d3b135512a4d5d3f05f1", func := "cellplane/cellplanelaw23.HealthZones", spec := "healthZones", plainKeys := false, apart := false, narrowed := true }
def HealthZonesUptoSaid : Prop := healthZonesUptoRow.holds Try.pinned (OpenSpec.upto healthZonesSpec)

/-- 'cellplanelaw23.HealthCopies', WHERE WHAT IT READS IS OF BULK AT MOST 1048576: true; the input reads as it did. -/
def healthCopiesUptoRow : OpenClaim := { program := "ytladepmfgbfkpaa", sum := "78c80d94966b6b842d297b6e4cec2bd2fc0469477121d3b135512a4d5d3f05f1", func := "cellplane/cellplanelaw23.HealthCopies", spec := "healthCopies", inPlace := ["maps.clone"], plainKeys := false, apart := false, narrowed := true }
def HealthCopiesUptoSaid : Prop := healthCopiesUptoRow.holds Try.pinned (OpenSpec.upto healthCopiesSpec)

end Rows
end Go.Proofs.Ytladepmfgbfkpaa
