/- Proved: the law TenantOrder of the program returns true at every input, and its arguments read behind the call as before. No conditions. -/
import Derived.Test.YtipabdkgidmjnaaRows
import Derived.Test.YtipabdkgidmjnaaLaw05d
import Derived.ProofKit
namespace Go.Proofs.Ytipabdkgidmjnaa
open Go Go.Cpl Go.ChangeShapes Go.WideShapes Go.ChangeAt Go.RowKit

theorem own_tenantOrder : ownKnob Try.prog.godebug = none := by kernel_rfl

theorem laid_tenantOrder : laidOutB Try.prog = true := by kernel_rfl

set_option maxRecDepth 100000 in
theorem lifted_tenantOrder (os : Os) (started : os.Started) (H : Type) (enc : TypeId × Value → H) :
    ReturnsInHanded {} Try.checked os 10 .any (Rows.tenantOrderSpec.pre6 enc Try.prog Try.f10 Rows.tenantOrderRow.domain false) (Rows.tenantOrderSpec.post enc Try.prog Try.f10 false true false false) := by
  refine returnsInHanded_of_change (C := Try.checked) own_tenantOrder started (by kernel_rfl) Try.func10
    (ChangeSpec.witness6 (enc := enc) (C := Try.checked) false ⟨#[], #[.slice none 0 0], []⟩ 8 (by kernel_rfl) (by kernel_rfl) (by kernel_rfl) (by kernel_rfl)) ?_
  intro W base args ds gs before hval0 hW hcnd _
  have hval : ∀ (j : Nat) t v, Try.f10.params[j]? = some t → args[j]? = some v → Value.okWide Try.prog W .any base t v := hval0
  have hW' : DataW.Whole enc Try.prog Try.f10.params.toList Rows.tenantOrderSpec.vars false W args.toList ds gs before := hW
  obtain ⟨p, q, hA0, hV, rfl, hfz, hnd⟩ := hW
  have hA : DataW.TrodAll enc Try.prog W 0 (fun _ => true) true Try.f10.params.toList args.toList ds p := hA0
  rw [Try.params10] at hA hval
  obtain ⟨v0, d0, rfl, rfl, h0⟩ := trodAll_one hA
  obtain ⟨rfl, rfl⟩ := trodVars_none hV
  obtain ⟨x0, r0⟩ := arg_ints Try.underlying22 Try.underlying3 (by kernel_rfl) (hval 0 22 v0 rfl rfl) h0
  exact law_calls laid_tenantOrder rfl ⟨rfl, rfl, rfl⟩ (tb := 4) (by kernel_rfl) Try.underlying4 (by rw [Try.params10]; decide +kernel) hW' (tenantOrder_c x0) ⟨r0, trivial⟩

theorem holds_tenantOrder : Rows.TenantOrderSaid :=
  OpenClaim.holds_of_wide 10 Try.f10 rfl rfl rfl rfl rfl rfl rfl ⟨rfl, rfl, rfl, rfl, rfl⟩ rfl rfl rfl rfl rfl (by kernel_rfl) Try.func10 (by kernel_rfl)
    (of_decide_eq_true (by kernel_rfl)) (by unfold Func.isWrapper; first | (rw [if_pos (by decide +kernel)]; kernel_rfl) | (rw [if_neg (by decide +kernel)]; exact ⟨rfl, rfl⟩))
    (fun os started H enc _ => lifted_tenantOrder os started H enc)

end Go.Proofs.Ytipabdkgidmjnaa
