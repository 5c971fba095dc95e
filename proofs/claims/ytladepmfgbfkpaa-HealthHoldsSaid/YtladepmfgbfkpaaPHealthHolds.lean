/- Proved: the law HealthHolds of the program returns true at every input, and its arguments read behind the call as before. No conditions. -/
import Derived.Test.YtladepmfgbfkpaaRows
import Derived.Test.YtladepmfgbfkpaaLaw23f
import Derived.Test.YtladepmfgbfkpaaArgs
import Derived.ProofKit
namespace Go.Proofs.Ytladepmfgbfkpaa
open Go Go.Cpl Go.ChangeShapes Go.WideShapes Go.ChangeAt Go.RowKit

theorem own_healthHolds : ownKnob Try.prog.godebug = none := by kernel_rfl

theorem laid_healthHolds : laidOutB Try.prog = true := by kernel_rfl

set_option maxRecDepth 100000 in
theorem lifted_healthHolds (os : Os) (started : os.Started) (H : Type) (enc : TypeId × Value → H) :
    ReturnsInHanded {} Try.checked os 7 .any (Rows.healthHoldsSpec.pre6 enc Try.prog Try.f7 Rows.healthHoldsRow.domain false) (Rows.healthHoldsSpec.post enc Try.prog Try.f7 false true false false) := by
  refine returnsInHanded_of_change (C := Try.checked) own_healthHolds started (by kernel_rfl) Try.func7
    (ChangeSpec.witness6 (enc := enc) (C := Try.checked) false ⟨#[], #[.slice none 0 0, .agg #[.int .i64 0, .int .i64 0], .slice none 0 0], []⟩ 8 (by kernel_rfl) (by kernel_rfl) (by kernel_rfl) (by kernel_rfl)) ?_
  intro W base args ds gs before hval0 hW hcnd _
  have hval : ∀ (j : Nat) t v, Try.f7.params[j]? = some t → args[j]? = some v → Value.okWide Try.prog W .any base t v := hval0
  have hW' : DataW.Whole enc Try.prog Try.f7.params.toList Rows.healthHoldsSpec.vars false W args.toList ds gs before := hW
  obtain ⟨p, q, hA0, hV, rfl, hfz, hnd⟩ := hW
  have hA : DataW.TrodAll enc Try.prog W 0 (fun _ => true) true Try.f7.params.toList args.toList ds p := hA0
  rw [Try.params7] at hA hval
  obtain ⟨v0, v1, v2, d0, d1, d2, p0, p1, p2, rfl, rfl, rfl, h0, h1, h2⟩ := trodAll_three hA
  obtain ⟨rfl, rfl⟩ := trodVars_none hV
  obtain ⟨x0, r0⟩ := arg_ints Try.underlying22 Try.underlying3 (by kernel_rfl) (hval 0 22 v0 rfl rfl) h0
  obtain ⟨⟨x1a, x1b⟩, r1⟩ := arg_pol (hval 1 24 v1 rfl rfl) h1
  obtain ⟨x2, r2⟩ := arg_steps (hval 2 25 v2 rfl rfl) h2
  exact law_calls laid_healthHolds rfl ⟨rfl, rfl, rfl⟩ (tb := 4) (by kernel_rfl) Try.underlying4 (by rw [Try.params7]; decide +kernel) hW' (healthHolds_c x0 x1a x1b x2) ⟨r0, r1, r2, trivial⟩

theorem holds_healthHolds : Rows.HealthHoldsSaid :=
  OpenClaim.holds_of_wide 7 Try.f7 rfl rfl rfl rfl rfl rfl rfl ⟨rfl, rfl, rfl, rfl, rfl⟩ rfl rfl rfl rfl rfl (by kernel_rfl) Try.func7 (by kernel_rfl)
    (of_decide_eq_true (by kernel_rfl)) (by unfold Func.isWrapper; first | (rw [if_pos (by decide +kernel)]; kernel_rfl) | (rw [if_neg (by decide +kernel)]; exact ⟨rfl, rfl⟩))
    (fun os started H enc _ => lifted_healthHolds os started H enc)

end Go.Proofs.Ytladepmfgbfkpaa
