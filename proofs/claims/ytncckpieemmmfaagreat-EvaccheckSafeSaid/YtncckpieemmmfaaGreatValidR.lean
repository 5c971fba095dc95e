/- Contract: what cellplaneref04.Valid returns, at every configuration: the same as topo.Valid. No conditions. -/
import Derived.Test.YtncckpieemmmfaaGreatValid
namespace Go.Proofs.YtncckpieemmmfaaGreat
open Go Go.Cpl

def G0 (c : Cfg) : Prop := (c.replicas.length : Int) % 2 = 1 ∧ allIn 0 ((c.zones.length : Int) - 1) c.replicas ∧ allIn 0 ((c.zones.length : Int) - 1) c.observers ∧ boundsP c ∧ first0 c

instance (c : Cfg) : Decidable (G0 c) := by unfold G0; infer_instance

def zP (c : Cfg) (x : Int) : Prop := 0 ≤ x ∧ x ≤ c.regions - 1

def cP (c : Cfg) (x : Int × Int) : Prop := (0 ≤ x.1 ∧ x.1 ≤ (c.zones.length : Int) - 1) ∧ (1 ≤ x.2 ∧ x.2 ≤ 4194304)

def vP (x : Int × Int) : Prop := (0 ≤ x.1 ∧ x.1 ≤ x.2) ∧ x.2 ≤ 30

instance (c : Cfg) (x : Int) : Decidable (zP c x) := by unfold zP; infer_instance

instance (c : Cfg) (x : Int × Int) : Decidable (cP c x) := by unfold cP; infer_instance

instance (x : Int × Int) : Decidable (vP x) := by unfold vP; infer_instance

theorem take_iff {α : Type} {p : α → Prop} {l : List α} {i : Nat} {x : α} (hx : l[i]? = some x) : (∀ y ∈ l.take (i + 1), p y) ↔ (∀ y ∈ l.take i, p y) ∧ p x := by
  rw [take_succ_of hx]
  exact ⟨fun h => ⟨fun y hy => h y (by simp [hy]), h x (by simp)⟩, fun h y hy => by
    rcases List.mem_append.1 hy with h' | h'
    · exact h.1 y h'
    · simp at h'; rw [h']; exact h.2⟩

theorem valid_iff (c : Cfg) : (((G0 c ∧ ∀ x ∈ c.zones, zP c x) ∧ ∀ x ∈ c.cells, cP c x) ∧ ∀ x ∈ c.versions, vP x) ↔ ((c.replicas.length : Int) % 2 = 1 ∧ placesP c ∧ valuesP c) := by
  constructor
  · rintro ⟨⟨⟨⟨h1, h2, h3, h4, h5⟩, hz⟩, hc⟩, hv⟩
    exact ⟨h1, ⟨hz, fun x hx => (hc x hx).1, h2, h3⟩, fun x hx => (hc x hx).2, ⟨hv, h5⟩, h4⟩
  · rintro ⟨h1, ⟨hz, hc, h2, h3⟩, hc2, ⟨hv, h5⟩, h4⟩
    exact ⟨⟨⟨⟨h1, h2, h3, h4, h5⟩, hz⟩, fun x hx => ⟨hc x hx, hc2 x hx⟩⟩, hv⟩

end Go.Proofs.YtncckpieemmmfaaGreat
