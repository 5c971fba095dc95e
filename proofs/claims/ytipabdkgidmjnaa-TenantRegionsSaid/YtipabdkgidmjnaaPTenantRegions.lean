/- Proved: the law TenantRegions of the program returns true at every input, and its arguments read behind the call as before. No conditions. -/
import Derived.Test.YtipabdkgidmjnaaRows
import Derived.Test.YtipabdkgidmjnaaLaw05b
import Derived.ProofKit
namespace Go.Proofs.Ytipabdkgidmjnaa
open Go Go.Cpl Go.ChangeShapes Go.WideShapes Go.ChangeAt Go.RowKit

theorem own_tenantRegions : ownKnob Try.prog.godebug = none := by kernel_rfl

theorem laid_tenantRegions : laidOutB Try.prog = true := by kernel_rfl

set_option maxRecDepth 100000 in
theorem lifted_tenantRegions (os : Os) (started : os.Started) (H : Type) (enc : TypeId × Value → H) :
    ReturnsInHanded {} Try.checked os 14 .any (Rows.tenantRegionsSpec.pre6 enc Try.prog Try.f14 Rows.tenantRegionsRow.domain false) (Rows.tenantRegionsSpec.post enc Try.prog Try.f14 false true false false) := by
  refine returnsInHanded_of_change (C := Try.checked) own_tenantRegions started (by kernel_rfl) Try.func14
    (ChangeSpec.witness6 (enc := enc) (C := Try.checked) false ⟨#[], #[.slice none 0 0, .int .i64 0], []⟩ 8 (by kernel_rfl) (by kernel_rfl) (by kernel_rfl) (by kernel_rfl)) ?_
  intro W base args ds gs before hval0 hW hcnd _
  have hval : ∀ (j : Nat) t v, Try.f14.params[j]? = some t → args[j]? = some v → Value.okWide Try.prog W .any base t v := hval0
  have hW' : DataW.Whole enc Try.prog Try.f14.params.toList Rows.tenantRegionsSpec.vars false W args.toList ds gs before := hW
  obtain ⟨p, q, hA0, hV, rfl, hfz, hnd⟩ := hW
  have hA : DataW.TrodAll enc Try.prog W 0 (fun _ => true) true Try.f14.params.toList args.toList ds p := hA0
  rw [Try.params14] at hA hval
  obtain ⟨v0, v1, d0, d1, p0, p1, rfl, rfl, rfl, h0, h1⟩ := trodAll_two hA
  obtain ⟨rfl, rfl⟩ := trodVars_none hV
  obtain ⟨x0, r0⟩ := arg_ints Try.underlying22 Try.underlying3 (by kernel_rfl) (hval 0 22 v0 rfl rfl) h0
  obtain ⟨x1, r1⟩ := arg_int Try.underlying3 (hval 1 3 v1 rfl rfl) h1
  exact law_calls laid_tenantRegions rfl ⟨rfl, rfl, rfl⟩ (tb := 4) (by kernel_rfl) Try.underlying4 (by rw [Try.params14]; decide +kernel) hW' (tenantRegions_c x0 x1) ⟨r0, r1, trivial⟩

theorem holds_tenantRegions : Rows.TenantRegionsSaid :=
  OpenClaim.holds_of_wide 14 Try.f14 rfl rfl rfl rfl rfl rfl rfl ⟨rfl, rfl, rfl, rfl, rfl⟩ rfl rfl rfl rfl rfl (by kernel_rfl) Try.func14 (by kernel_rfl)
    (of_decide_eq_true (by kernel_rfl)) (by unfold Func.isWrapper; first | (rw [if_pos (by decide +kernel)]; kernel_rfl) | (rw [if_neg (by decide +kernel)]; exact ⟨rfl, rfl⟩))
    (fun os started H enc _ => lifted_tenantRegions os started H enc)

end Go.Proofs.Ytipabdkgidmjnaa
