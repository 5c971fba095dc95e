/- Contracts: small questions of the reference of state. Conditions: those ahead of each theorem. -/
import Derived.Test.YtncckpieemmmfaaGreatRef12
namespace Go.Proofs.YtncckpieemmmfaaGreat
open Go Go.Cpl

theorem frozen_c (c : Cfg) (s : St) (k : Int) (hc : Laid c) : CallsH Tryz.prog 129 [cfgV c, stV s, I k] [] (B (bit s.evac (regionOf c k))) [] := by
  refine callsR_of tab mixed Tryz.func129 rfl (by decide) rfl rfl ?_
  conv => whnf
  refine ⟨by kernel_rfl, ?_⟩
  conv => whnf
  refine ⟨_, _, refRegionOf_c c k hc, ?_⟩
  conv => whnf
  refine ⟨_, _, has_c _ _, ?_⟩
  conv => whnf
  refine ⟨[], rfl, ?_⟩
  repeat' (first | exact trivial | rfl | refine And.intro ?_ ?_)
  all_goals (conv => whnf)
  repeat' (first | exact trivial | rfl | refine And.intro ?_ ?_)

theorem together_c (c : Cfg) (a b : Int) (hc : Laid c) : CallsH Tryz.prog 131 [cfgV c, I a, I b] [] (B (decide (0 ≤ a) && decide (0 ≤ b) && !apart c a b)) [] := by
  refine callsR_of tab mixed Tryz.func131 rfl (by decide) rfl rfl ?_
  conv => whnf
  refine spD (fun h => ?_) (fun h => ?_) <;> conv => whnf
  · refine spD (fun h1 => ?_) (fun h1 => ?_) <;> conv => whnf
    · refine ⟨_, _, refApart_c c a b hc, ?_⟩
      conv => whnf
      refine ⟨[], rfl, ?_, trivial⟩
      simp [mtV, valOf, mtC, eqD, h, h1]
    · refine ⟨[], rfl, ?_, trivial⟩
      simp [mtV, valOf, mtC, eqD, h1]
  · refine ⟨[], rfl, ?_, trivial⟩
    simp [mtV, valOf, mtC, eqD, h]

theorem proven_c (s : St) (k : Int) : CallsH Tryz.prog 136 [stV s, I k] [] (B (bit s.proven k)) [] := by
  refine callsR_of tab mixed Tryz.func136 rfl (by decide) rfl rfl ?_
  conv => whnf
  refine ⟨_, _, has_c _ _, ?_⟩
  conv => whnf
  refine ⟨[], rfl, ?_⟩
  repeat' (first | exact trivial | rfl | refine And.intro ?_ ?_)
  all_goals (conv => whnf)
  repeat' (first | exact trivial | rfl | refine And.intro ?_ ?_)

def openOf (s : St) (x : CS4) : Bool := !bit s.proven x.running || !bit s.proven x.wanted

theorem open12_c (s : St) (k : Int) {x : CS4} (h0 : 0 ≤ k) (hk : s.cs[k.toNat]? = some x) : CallsH Tryz.prog 135 [stV s, I k] [] (B (openOf s x)) [] := by
  refine callsR_of tab mixed Tryz.func135 rfl (by decide) rfl rfl ?_
  conv => whnf
  refine ⟨by kernel_rfl, ?_⟩
  conv => whnf
  refine ⟨h0, _, rCS_get hk, ?_⟩
  conv => whnf
  refine ⟨_, _, proven_c s _, ?_⟩
  conv => whnf
  refine ⟨fun h => ?_, fun h => ?_⟩ <;> conv => whnf
  · refine ⟨[], rfl, ?_, trivial⟩
    simp_all [mtV, valOf, mtC, eqD, openOf]
  · refine ⟨h0, _, rCS_get hk, ?_⟩
    conv => whnf
    refine ⟨_, _, proven_c s _, ?_⟩
    conv => whnf
    refine ⟨[], rfl, ?_, trivial⟩
    simp_all [mtV, valOf, mtC, eqD, openOf]

/-- some number -/
def RI (res : AV) (hout : List HObj) : Prop := ∃ k : Int, res = I k ∧ hout = []

theorem granted_q (c : Cfg) (s : St) (e : Ent) {x : TS} {y : CS4} (t0 : 0 ≤ e.tenant) (ht : s.ts[e.tenant.toNat]? = some x) (c0 : 0 ≤ e.cell) (hy : s.cs[e.cell.toNat]? = some y) (hx : 0 ≤ x.epoch ∧ x.epoch ≤ 1048576) (h1 : 0 ≤ e.tick ∧ e.tick ≤ 1073741824) (h2 : 0 ≤ e.from_ ∧ e.from_ ≤ 1073741824) (h3 : 0 ≤ e.until_ ∧ e.until_ ≤ 1073741824) (h4 : 1 ≤ c.lease ∧ c.lease ≤ 1000) : ExH Tryz.prog 133 [cfgV c, stV s, entV e] [] RI := by
  refine callsE_of tab mixed noRel Tryz.func133 rfl (by decide) rfl rfl ?_
  conv => whnf
  refine ⟨t0, _, rTS_get ht, ?_⟩
  conv => whnf
  refine ⟨c0, _, rCS_get hy, ?_⟩
  conv => whnf
  repeat' (first | contradiction | (refine gv (by omega) (by omega) ?_; conv => whnf) | (refine ⟨by kernel_rfl, ?_⟩; conv => whnf) | (refine spD (fun _ => ?_) (fun _ => ?_) <;> conv => whnf) | (refine spN (fun _ => ?_) (fun _ => ?_) <;> conv => whnf) | (refine spE (fun _ => ?_) (fun _ => ?_) <;> conv => whnf) | (refine spNe (fun _ => ?_) (fun _ => ?_) <;> conv => whnf) | (refine gvu (by omega) (by omega) ?_; conv => whnf) | (refine spBn (fun _ => ?_) (fun _ => ?_) <;> conv => whnf) | (refine spG (fun _ => ?_) (fun _ => ?_) <;> conv => whnf))
  all_goals exact ⟨_, _, ⟨_, rfl, rfl⟩, [], rfl, ⟨rfl, rfl⟩, trivial⟩

end Go.Proofs.YtncckpieemmmfaaGreat
