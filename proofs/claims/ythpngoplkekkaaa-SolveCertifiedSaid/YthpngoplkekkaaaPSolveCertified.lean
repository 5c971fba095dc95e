/- Proved: the law SolveCertified of the program returns true at every input, and its arguments read behind the call as before. No conditions. -/
import Derived.Test.YthpngoplkekkaaaRows
import Derived.Test.YthpngoplkekkaaaLaw20
import Derived.ProofKit
namespace Go.Proofs.Ythpngoplkekkaaa
open Go Go.Cpl Go.ChangeShapes Go.WideShapes Go.ChangeAt Go.RowKit

theorem own_solveCertified : ownKnob Try.prog.godebug = none := by kernel_rfl

theorem laid_solveCertified : laidOutB Try.prog = true := by kernel_rfl

set_option maxRecDepth 100000 in
theorem lifted_solveCertified (os : Os) (started : os.Started) (H : Type) (enc : TypeId × Value → H) :
    ReturnsInHanded {} Try.checked os 5 .any (Rows.solveCertifiedSpec.pre6 enc Try.prog Try.f5 Rows.solveCertifiedRow.domain false) (Rows.solveCertifiedSpec.post enc Try.prog Try.f5 false true false false) := by
  refine returnsInHanded_of_change (C := Try.checked) own_solveCertified started (by kernel_rfl) Try.func5
    (ChangeSpec.witness6 (enc := enc) (C := Try.checked) false ⟨#[], #[.slice none 0 0, .int .i64 0, .bool false], []⟩ 8 (by kernel_rfl) (by kernel_rfl) (by kernel_rfl) (by kernel_rfl)) ?_
  intro W base args ds gs before hval0 hW hcnd _
  have hval : ∀ (j : Nat) t v, Try.f5.params[j]? = some t → args[j]? = some v → Value.okWide Try.prog W .any base t v := hval0
  have hW' : DataW.Whole enc Try.prog Try.f5.params.toList Rows.solveCertifiedSpec.vars false W args.toList ds gs before := hW
  obtain ⟨p, q, hA0, hV, rfl, hfz, hnd⟩ := hW
  have hA : DataW.TrodAll enc Try.prog W 0 (fun _ => true) true Try.f5.params.toList args.toList ds p := hA0
  rw [Try.params5] at hA hval
  obtain ⟨v0, v1, v2, d0, d1, d2, p0, p1, p2, rfl, rfl, rfl, h0, h1, h2⟩ := trodAll_three hA
  obtain ⟨rfl, rfl⟩ := trodVars_none hV
  obtain ⟨x0, r0⟩ := arg_ints Try.underlying22 Try.underlying3 (by kernel_rfl) (hval 0 22 v0 rfl rfl) h0
  obtain ⟨x1, r1⟩ := arg_int Try.underlying3 (hval 1 3 v1 rfl rfl) h1
  obtain ⟨x2, r2⟩ := arg_bool Try.underlying4 (hval 2 4 v2 rfl rfl) h2
  exact law_calls laid_solveCertified rfl ⟨rfl, rfl, rfl⟩ (tb := 4) (by kernel_rfl) Try.underlying4 (by rw [Try.params5]; decide +kernel) hW' (solveCertified_c x0 x1 x2) ⟨r0, r1, r2, trivial⟩

theorem holds_solveCertified : Rows.SolveCertifiedSaid :=
  OpenClaim.holds_of_wide 5 Try.f5 rfl rfl rfl rfl rfl rfl rfl ⟨rfl, rfl, rfl, rfl, rfl⟩ rfl rfl rfl rfl rfl (by kernel_rfl) Try.func5 (by kernel_rfl)
    (of_decide_eq_true (by kernel_rfl)) (by unfold Func.isWrapper; first | (rw [if_pos (by decide +kernel)]; kernel_rfl) | (rw [if_neg (by decide +kernel)]; exact ⟨rfl, rfl⟩))
    (fun os started H enc _ => lifted_solveCertified os started H enc)

end Go.Proofs.Ythpngoplkekkaaa
