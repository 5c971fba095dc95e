/- Contract: TenantOrder returns true at every input. No conditions. -/
import Derived.Test.YtipabdkgidmjnaaLaw05
import Derived.Test.YtipabdkgidmjnaaOrdR
namespace Go.Proofs.Ytipabdkgidmjnaa
open Go Go.Cpl

set_option maxRecDepth 100000 in
theorem tenantOrder_c (l : List Int) : CallsH Try.prog 10 [.c (.d (.sl (r1 l)))] [] (B true) [] := by
  obtain ⟨c, hm, hconf⟩ := config_c l
  have hT := hm.tenants
  have hg := good_of hm.valid5
  have hr : ∀ x ∈ c.tenants, 0 ≤ x.load ∧ x.load ≤ 65536 := fun x hx => by
    have := (hg.ten x hx).1; omega
  have hol := (order_ok c).1
  refine callsR_of tab mixed Try.func10 rfl (by decide) rfl rfl ?_
  conv => whnf
  refine ⟨_, _, light_c l, ?_⟩
  conv => whnf
  refine spN (fun h => ?_) (fun h => ?_) <;> conv => whnf
  · refine ⟨_, _, awake05_c, ?_⟩
    conv => whnf
    exact ⟨[], rfl, rfl, trivial⟩
  refine ⟨_, _, hconf, ?_⟩
  conv => whnf
  refine ⟨by kernel_rfl, ?_⟩
  conv => whnf
  refine ⟨_, _, awake05_c, ?_⟩
  conv => whnf
  refine ⟨fun _ => ?_, fun h => by cases h⟩
  conv => whnf
  refine ⟨_, _, order_c c (by omega), ?_⟩
  conv => whnf
  refine ⟨_, _, refOrder_c c (by omega), ?_⟩
  conv => whnf
  refine ⟨_, _, sameInts_c (order c) (order c) (by omega), ?_⟩
  conv => whnf
  refine ⟨fun _ => ?_, fun h => by simp at h⟩
  conv => whnf
  refine ⟨_, _, total_c c (by omega) hr, ?_⟩
  conv => whnf
  refine ⟨_, _, refTotal_c c (by omega) hr, ?_⟩
  conv => whnf
  exact ⟨[], rfl, by simp [mtV, Cpl.valOf, mtC, eqD], trivial⟩

end Go.Proofs.Ytipabdkgidmjnaa
