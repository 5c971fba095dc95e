/- Proved: the law EvaccheckLost of the program returns true at every input, and its arguments read behind the call as before. No conditions. -/
import Derived.Test.YtncckpieemmmfaaGreatRows
import Derived.Test.YtncckpieemmmfaaGreatEvZ
import Derived.ProofKit
namespace Go.Proofs.YtncckpieemmmfaaGreat
open Go Go.Cpl Go.ChangeShapes Go.WideShapes Go.ChangeAt Go.RowKit

theorem own_evaccheckLost : ownKnob Tryz.prog.godebug = none := by kernel_rfl

theorem laid_evaccheckLost : laidOutB Tryz.prog = true := by kernel_rfl

set_option maxRecDepth 100000 in
theorem lifted_evaccheckLost (os : Os) (started : os.Started) (H : Type) (enc : TypeId × Value → H) :
    ReturnsInHanded {} Tryz.checked os 7 .any (Rows.evaccheckLostSpec.pre6 enc Tryz.prog Tryz.f7 Rows.evaccheckLostRow.domain false) (Rows.evaccheckLostSpec.post enc Tryz.prog Tryz.f7 false true false false) := by
  refine returnsInHanded_of_change (C := Tryz.checked) own_evaccheckLost started (by kernel_rfl) Tryz.func7
    (ChangeSpec.witness6 (enc := enc) (C := Tryz.checked) false ⟨#[], #[.slice none 0 0, .slice none 0 0, .bool false, .int .i64 0], []⟩ 8 (by kernel_rfl) (by kernel_rfl) (by kernel_rfl) (by kernel_rfl)) ?_
  intro W base args ds gs before hval0 hW hcnd _
  have hval : ∀ (j : Nat) t v, Tryz.f7.params[j]? = some t → args[j]? = some v → Value.okWide Tryz.prog W .any base t v := hval0
  have hW' : DataW.Whole enc Tryz.prog Tryz.f7.params.toList Rows.evaccheckLostSpec.vars false W args.toList ds gs before := hW
  obtain ⟨p, q, hA0, hV, rfl, hfz, hnd⟩ := hW
  have hA : DataW.TrodAll enc Tryz.prog W 0 (fun _ => true) true Tryz.f7.params.toList args.toList ds p := hA0
  rw [Tryz.params7] at hA hval
  obtain ⟨v0, v1, v2, v3, d0, d1, d2, d3, p0, p1, p2, p3, rfl, rfl, rfl, h0, h1, h2, h3⟩ := trodAll_four hA
  obtain ⟨rfl, rfl⟩ := trodVars_none hV
  obtain ⟨x0, r0⟩ := arg_ints Tryz.underlying22 Tryz.underlying3 (by kernel_rfl) (hval 0 22 v0 rfl rfl) h0
  obtain ⟨x1, r1⟩ := arg_ints Tryz.underlying22 Tryz.underlying3 (by kernel_rfl) (hval 1 22 v1 rfl rfl) h1
  obtain ⟨x2, r2⟩ := arg_bool Tryz.underlying4 (hval 2 4 v2 rfl rfl) h2
  obtain ⟨x3, r3⟩ := arg_int Tryz.underlying3 (hval 3 3 v3 rfl rfl) h3
  exact law_calls laid_evaccheckLost rfl ⟨rfl, rfl, rfl⟩ (tb := 4) (by kernel_rfl) Tryz.underlying4 (by rw [Tryz.params7]; decide +kernel) hW' (evaccheckLost_c x0 x1 x2 x3) ⟨r0, r1, r2, r3, trivial⟩

theorem holds_evaccheckLost : Rows.EvaccheckLostSaid :=
  OpenClaim.holds_of_wide 7 Tryz.f7 rfl rfl rfl rfl rfl rfl rfl ⟨rfl, rfl, rfl, rfl, rfl⟩ rfl rfl rfl rfl rfl (by kernel_rfl) Tryz.func7 (by kernel_rfl)
    (of_decide_eq_true (by kernel_rfl)) (by unfold Func.isWrapper; first | (rw [if_pos (by decide +kernel)]; kernel_rfl) | (rw [if_neg (by decide +kernel)]; exact ⟨rfl, rfl⟩))
    (fun os started H enc _ => lifted_evaccheckLost os started H enc)

end Go.Proofs.YtncckpieemmmfaaGreat
