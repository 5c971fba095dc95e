/- Contract: the law TenantDeclared returns true at every input. No conditions. -/
import Derived.Test.YtipabdkgidmjnaaLaw05
import Derived.Test.YtipabdkgidmjnaaArgs
namespace Go.Proofs.Ytipabdkgidmjnaa
open Go Go.Cpl

set_option maxRecDepth 100000 in
theorem arg_tenant {H : Type} {enc : TypeId × Value → H} {w : World} {base : Nat} {spare : Nat → Bool} {held : Bool} {b0 : Nat} {r : Reach} {v : Value} {d : DataW H} {ps : List MemPlace} (hval : Value.okWide Try.prog w r b0 57 v) (hd : DataW.Trod enc Try.prog w base spare held 57 v d ps) :
    ∃ t : Tenant, AVRep (memOf w) (fun _ => ⟨0, 0, 0, false⟩) (hpOf []) (tenV t) v :=
  arg_agg (x := ([(3, 0, 1), (3, 1, 1), (3, 2, 1), (3, 3, 1), (3, 4, 1), (3, 5, 1), (4, 6, 1)], 7)) (by kernel_rfl) rd_tenant hval hd _ _

set_option maxRecDepth 100000 in
theorem tenantDeclared_c (l : List Int) (t : Tenant) (near : Bool) : CallsH Try.prog 9 [.c (.d (.sl (r1 l))), tenV t, B near] [] (B true) [] := by
  obtain ⟨c, hm, hcfg⟩ := config_c l
  have hT := hm.tenants
  have hl := rT_len c.tenants
  refine callsR_of tab mixed Try.func9 rfl (by decide) rfl rfl ?_
  conv => whnf
  refine ⟨_, _, light_c l, ?_⟩
  conv => whnf
  refine spN (fun h => ?_) (fun h => ?_) <;> conv => whnf
  · refine ⟨_, _, awake05_c, ?_⟩
    conv => whnf
    exact ⟨[], rfl, rfl, trivial⟩
  refine ⟨_, _, hcfg, ?_⟩
  conv => whnf
  refine ⟨fun hn => ?_, fun hn => ?_⟩ <;> conv => whnf
  · refine ⟨by kernel_rfl, ?_⟩
    conv => whnf
    refine ⟨_, _, between_c t.load 0 3 (by omega) (by omega) (by omega), ?_⟩
    generalize 0 + t.load % (3 - 0 + 1) = a1
    conv => whnf
    refine ⟨_, _, between_c t.shadow (-1) 3 (by omega) (by omega) (by omega), ?_⟩
    generalize -1 + t.shadow % (3 - -1 + 1) = a2
    conv => whnf
    refine ⟨_, _, between_c t.priority (-1) 10 (by omega) (by omega) (by omega), ?_⟩
    generalize -1 + t.priority % (10 - -1 + 1) = a3
    conv => whnf
    refine ⟨_, _, between_c t.lag (-2) 2 (by omega) (by omega) (by omega), ?_⟩
    generalize -2 + t.lag % (2 - -2 + 1) = a4
    conv => whnf
    refine ⟨_, _, between_c t.allowed 0 8 (by omega) (by omega) (by omega), ?_⟩
    generalize 0 + t.allowed % (8 - 0 + 1) = a5
    conv => whnf
    refine ⟨_, _, between_c t.group (-1) 33 (by omega) (by omega) (by omega), ?_⟩
    generalize -1 + t.group % (33 - -1 + 1) = a6
    conv => whnf
    refine ⟨by kernel_rfl, ?_⟩
    conv => whnf
    refine ⟨rT_ok _, ⟨by simp; omega⟩, ?_⟩
    conv => whnf
    simp only [List.nil_append]
    refine ⟨row7 _ _ _ _ _ _ _, ⟨by simp; omega⟩, ?_⟩
    conv => whnf
    rw [show rT c.tenants ++ [[i64 a1, i64 a2, i64 a3, i64 a4, i64 a5, i64 a6, .bool false]] = rT (c.tenants ++ [⟨a1, a2, a3, a4, a5, a6, false⟩]) from rT_app c.tenants ⟨a1, a2, a3, a4, a5, a6, false⟩]
    refine ⟨by kernel_rfl, ?_⟩
    conv => whnf
    refine ⟨_, _, awake05_c, ?_⟩
    conv => whnf
    refine ⟨fun _ => ?_, fun h => by cases h⟩
    conv => whnf
    refine ⟨_, _, tenValid_c { c with tenants := c.tenants ++ [⟨a1, a2, a3, a4, a5, a6, false⟩] }, ?_⟩
    conv => whnf
    refine ⟨_, _, refTenValid_c { c with tenants := c.tenants ++ [⟨a1, a2, a3, a4, a5, a6, false⟩] }, ?_⟩
    conv => whnf
    exact ⟨[], rfl, by simp [mtV, Cpl.valOf, mtC, eqD], trivial⟩
  · refine ⟨by kernel_rfl, ?_⟩
    conv => whnf
    refine ⟨rT_ok _, ⟨by simp; omega⟩, ?_⟩
    conv => whnf
    simp only [List.nil_append]
    refine ⟨row7 _ _ _ _ _ _ _, ⟨by simp; omega⟩, ?_⟩
    conv => whnf
    rw [rT_app]
    refine ⟨by kernel_rfl, ?_⟩
    conv => whnf
    refine ⟨_, _, awake05_c, ?_⟩
    conv => whnf
    refine ⟨fun _ => ?_, fun h => by cases h⟩
    conv => whnf
    refine ⟨_, _, tenValid_c { c with tenants := c.tenants ++ [t] }, ?_⟩
    conv => whnf
    refine ⟨_, _, refTenValid_c { c with tenants := c.tenants ++ [t] }, ?_⟩
    conv => whnf
    exact ⟨[], rfl, by simp [mtV, Cpl.valOf, mtC, eqD], trivial⟩

end Go.Proofs.Ytipabdkgidmjnaa
