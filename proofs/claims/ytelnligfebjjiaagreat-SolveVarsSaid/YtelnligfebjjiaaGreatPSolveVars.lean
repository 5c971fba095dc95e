/- Proved: the law SolveVars of the program returns true at every input, and its arguments read behind the call as before. No conditions. -/
import Derived.Test.YtelnligfebjjiaaGreatRows
import Derived.Test.YtelnligfebjjiaaGreatLaw20c
import Derived.Test.YtelnligfebjjiaaGreatArgs
import Derived.ProofKit
namespace Go.Proofs.YtelnligfebjjiaaGreat
open Go Go.Cpl Go.ChangeShapes Go.WideShapes Go.ChangeAt Go.RowKit

theorem own_solveVars : ownKnob Tryz.prog.godebug = none := by kernel_rfl

theorem laid_solveVars : laidOutB Tryz.prog = true := by kernel_rfl

set_option maxRecDepth 100000 in
theorem lifted_solveVars (os : Os) (started : os.Started) (H : Type) (enc : TypeId × Value → H) :
    ReturnsInHanded {} Tryz.checked os 8 .any (Rows.solveVarsSpec.pre6 enc Tryz.prog Tryz.f8 Rows.solveVarsRow.domain false) (Rows.solveVarsSpec.post enc Tryz.prog Tryz.f8 false true false false) := by
  refine returnsInHanded_of_change (C := Tryz.checked) own_solveVars started (by kernel_rfl) Tryz.func8
    (ChangeSpec.witness6 (enc := enc) (C := Tryz.checked) false ⟨#[], #[.slice none 0 0, .agg #[.int .i64 0, .slice none 0 0, .slice none 0 0, .slice none 0 0, .slice none 0 0, .slice none 0 0, .slice none 0 0, .int .i64 0, .int .i64 0, .int .i64 0], .int .i64 0, .int .i64 0, .int .i64 0, .bool false], []⟩ 8 (by kernel_rfl) (by kernel_rfl) (by kernel_rfl) (by kernel_rfl)) ?_
  intro W base args ds gs before hval0 hW hcnd _
  have hval : ∀ (j : Nat) t v, Tryz.f8.params[j]? = some t → args[j]? = some v → Value.okWide Tryz.prog W .any base t v := hval0
  have hW' : DataW.Whole enc Tryz.prog Tryz.f8.params.toList Rows.solveVarsSpec.vars false W args.toList ds gs before := hW
  obtain ⟨p, q, hA0, hV, rfl, hfz, hnd⟩ := hW
  have hA : DataW.TrodAll enc Tryz.prog W 0 (fun _ => true) true Tryz.f8.params.toList args.toList ds p := hA0
  rw [Tryz.params8] at hA hval
  obtain ⟨v0, w0, d0, e0, p0, q0, ha0, rfl, h0, k0⟩ := cplAll_cons hA
  obtain ⟨v1, w1, d1, e1, p1, q1, ha1, rfl, h1, k1⟩ := cplAll_cons k0
  obtain ⟨v2, w2, d2, e2, p2, q2, ha2, rfl, h2, k2⟩ := cplAll_cons k1
  obtain ⟨v3, w3, d3, e3, p3, q3, ha3, rfl, h3, k3⟩ := cplAll_cons k2
  obtain ⟨v4, w4, d4, e4, p4, q4, ha4, rfl, h4, k4⟩ := cplAll_cons k3
  obtain ⟨v5, w5, d5, e5, p5, q5, ha5, rfl, h5, k5⟩ := cplAll_cons k4
  obtain ⟨hw, rfl⟩ := cplAll_nil k5
  subst hw
  subst ha5
  subst ha4
  subst ha3
  subst ha2
  subst ha1
  obtain rfl : args = #[v0, v1, v2, v3, v4, v5] := by apply Array.ext'; simpa using ha0
  obtain ⟨rfl, rfl⟩ := trodVars_none hV
  obtain ⟨x0, r0⟩ := arg_ints Tryz.underlying22 Tryz.underlying3 (by kernel_rfl) (hval 0 22 v0 rfl rfl) h0
  obtain ⟨x1, r1⟩ := arg_cfg (hval 1 35 v1 rfl rfl) h1
  obtain ⟨x2, r2⟩ := arg_int Tryz.underlying3 (hval 2 3 v2 rfl rfl) h2
  obtain ⟨x3, r3⟩ := arg_int Tryz.underlying3 (hval 3 3 v3 rfl rfl) h3
  obtain ⟨x4, r4⟩ := arg_int Tryz.underlying3 (hval 4 3 v4 rfl rfl) h4
  obtain ⟨x5, r5⟩ := arg_bool Tryz.underlying4 (hval 5 4 v5 rfl rfl) h5
  exact law_calls laid_solveVars rfl ⟨rfl, rfl, rfl⟩ (tb := 4) (by kernel_rfl) Tryz.underlying4 (by rw [Tryz.params8]; decide +kernel) hW' (solveVars_c x0 x1 x2 x3 x4 x5) ⟨r0, r1, r2, r3, r4, r5, trivial⟩

theorem holds_solveVars : Rows.SolveVarsSaid :=
  OpenClaim.holds_of_wide 8 Tryz.f8 rfl rfl rfl rfl rfl rfl rfl ⟨rfl, rfl, rfl, rfl, rfl⟩ rfl rfl rfl rfl rfl (by kernel_rfl) Tryz.func8 (by kernel_rfl)
    (of_decide_eq_true (by kernel_rfl)) (by unfold Func.isWrapper; first | (rw [if_pos (by decide +kernel)]; kernel_rfl) | (rw [if_neg (by decide +kernel)]; exact ⟨rfl, rfl⟩))
    (fun os started H enc _ => lifted_solveVars os started H enc)

end Go.Proofs.YtelnligfebjjiaaGreat
