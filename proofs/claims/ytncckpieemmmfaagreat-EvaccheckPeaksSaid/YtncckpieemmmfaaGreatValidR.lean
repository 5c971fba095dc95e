/- Contract: what cellplaneref04.Valid returns, at every configuration: the same as topo.Valid. No conditions. -/
import Derived.Test.YtncckpieemmmfaaGreatTopoF
namespace Go.Proofs.YtncckpieemmmfaaGreat
open Go Go.Cpl

def numbersP (c : Cfg) : Prop := (1 ≤ c.regions ∧ c.regions ≤ 4) ∧ (1 ≤ (c.zones.length : Int) ∧ (c.zones.length : Int) ≤ 8) ∧ (1 ≤ (c.cells.length : Int) ∧ (c.cells.length : Int) ≤ 16) ∧ (1 ≤ (c.versions.length : Int) ∧ (c.versions.length : Int) ≤ 30) ∧ (1 ≤ (c.replicas.length : Int) ∧ (c.replicas.length : Int) ≤ 5) ∧ (1 ≤ (c.observers.length : Int) ∧ (c.observers.length : Int) ≤ 9) ∧ (c.tenants.length : Int) ≤ 32

instance (c : Cfg) : Decidable (numbersP c) := by unfold numbersP; infer_instance

def allIn (lo hi : Int) (l : List Int) : Prop := ∀ x ∈ l, lo ≤ x ∧ x ≤ hi

instance (lo hi : Int) (l : List Int) : Decidable (allIn lo hi l) := by unfold allIn; infer_instance

def placesP (c : Cfg) : Prop := allIn 0 (c.regions - 1) c.zones ∧ (∀ x ∈ c.cells, 0 ≤ x.1 ∧ x.1 ≤ (c.zones.length : Int) - 1) ∧ allIn 0 ((c.zones.length : Int) - 1) c.replicas ∧ allIn 0 ((c.zones.length : Int) - 1) c.observers

instance (c : Cfg) : Decidable (placesP c) := by unfold placesP; infer_instance

def first0 (c : Cfg) : Prop := ((c.versions[0]?).map (·.1)).getD 0 = 0

def versP (c : Cfg) : Prop := ∀ x ∈ c.versions, (0 ≤ x.1 ∧ x.1 ≤ x.2) ∧ x.2 ≤ 30

def capsP (c : Cfg) : Prop := ∀ x ∈ c.cells, 1 ≤ x.2 ∧ x.2 ≤ 4194304

def boundsP (c : Cfg) : Prop := (1 ≤ c.blast ∧ c.blast ≤ 16) ∧ (1 ≤ c.lease ∧ c.lease ≤ 1000) ∧ (0 ≤ c.bake ∧ c.bake ≤ 10000)

def valuesP (c : Cfg) : Prop := capsP c ∧ (versP c ∧ first0 c) ∧ boundsP c

instance (c : Cfg) : Decidable (first0 c) := by unfold first0; infer_instance

instance (c : Cfg) : Decidable (versP c) := by unfold versP; infer_instance

instance (c : Cfg) : Decidable (capsP c) := by unfold capsP; infer_instance

instance (c : Cfg) : Decidable (boundsP c) := by unfold boundsP; infer_instance

instance (c : Cfg) : Decidable (valuesP c) := by unfold valuesP; infer_instance

def valid (c : Cfg) : Int := if numbersP c then (if (c.replicas.length : Int) % 2 = 1 ∧ placesP c ∧ valuesP c then 0 else 1) else 2

end Go.Proofs.YtncckpieemmmfaaGreat

namespace Go.Proofs.YtncckpieemmmfaaGreat
open Go Go.Cpl

def G0 (c : Cfg) : Prop := (c.replicas.length : Int) % 2 = 1 ∧ allIn 0 ((c.zones.length : Int) - 1) c.replicas ∧ allIn 0 ((c.zones.length : Int) - 1) c.observers ∧ boundsP c ∧ first0 c

instance (c : Cfg) : Decidable (G0 c) := by unfold G0; infer_instance

def zP (c : Cfg) (x : Int) : Prop := 0 ≤ x ∧ x ≤ c.regions - 1

def cP (c : Cfg) (x : Int × Int) : Prop := (0 ≤ x.1 ∧ x.1 ≤ (c.zones.length : Int) - 1) ∧ (1 ≤ x.2 ∧ x.2 ≤ 4194304)

def vP (x : Int × Int) : Prop := (0 ≤ x.1 ∧ x.1 ≤ x.2) ∧ x.2 ≤ 30

instance (c : Cfg) (x : Int) : Decidable (zP c x) := by unfold zP; infer_instance

instance (c : Cfg) (x : Int × Int) : Decidable (cP c x) := by unfold cP; infer_instance

instance (x : Int × Int) : Decidable (vP x) := by unfold vP; infer_instance

end Go.Proofs.YtncckpieemmmfaaGreat
