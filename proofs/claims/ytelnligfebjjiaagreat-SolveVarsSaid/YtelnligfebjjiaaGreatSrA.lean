/- Contract: the order of tenants as a closure over a configuration that is only read. Conditions: those ahead of each theorem. -/
import Derived.Test.YtelnligfebjjiaaGreatOrd
namespace Go.Proofs.YtelnligfebjjiaaGreat
open Go Go.Cpl

def cfgR (c : Cfg) : List D := [i64 c.regions, .sl (r1 c.zones), .sl (r2 c.cells), .sl (rT c.tenants), .sl (r2 c.versions), .sl (r1 c.replicas), .sl (r1 c.observers), i64 c.blast, i64 c.lease, i64 c.bake]

set_option maxRecDepth 100000 in
theorem order1R_c (c : Cfg) (a b : Int) (ha : inT c a) (hb : inT c b) : CallsH Tryz.prog 85 [I a, I b, .c (.rp (cfgR c))] [] (I (cmpT c a b)) [] := by
  have hl := rT_len c.tenants
  obtain ⟨a1, a2⟩ := ha
  obtain ⟨b1, b2⟩ := hb
  obtain ⟨x, hx⟩ := get_int (l := c.tenants) a1 (by omega)
  obtain ⟨y, hy⟩ := get_int (l := c.tenants) b1 (by omega)
  have e : cmpT c a b = orV [cmpV y.priority x.priority, cmpV y.load x.load, cmpV a b] := by simp [cmpT, prioOf, loadAt, hx, hy]
  refine callsR_of tab mixed Tryz.func85 rfl (by decide) rfl rfl ?_
  conv => whnf
  refine ⟨by kernel_rfl, ?_⟩
  conv => whnf
  refine ⟨by omega, _, rT_get hx, ?_⟩
  conv => whnf
  refine ⟨by omega, _, rT_get hy, ?_⟩
  conv => whnf
  refine ⟨by kernel_rfl, ?_⟩
  conv => whnf
  refine ⟨_, _, compare_c y.priority x.priority, ?_⟩
  conv => whnf
  refine ⟨_, _, compare_c y.load x.load, ?_⟩
  conv => whnf
  refine ⟨_, _, compare_c a b, ?_⟩
  conv => whnf
  refine ⟨_, _, or_c [cmpV y.priority x.priority, cmpV y.load x.load, cmpV a b] (by simp), ?_⟩
  conv => whnf
  rw [e]
  exact ⟨[], rfl, ⟨rfl, rfl⟩, trivial⟩

end Go.Proofs.YtelnligfebjjiaaGreat
