/- Contracts: what cellplanemake.Small and cellplanemake.Bent return. Conditions: those ahead of each theorem (sizes of lists). -/
import Derived.Test.YtlcgeeacgjdnkaaConf
import Derived.Test.YtlcgeeacgjdnkaaValidR
namespace Go.Proofs.Ytlcgeeacgjdnkaa
open Go Go.Cpl

def small (c : Cfg) : Prop := (c.zones.length : Int) ≤ 20 ∧ (c.cells.length : Int) ≤ 20 ∧ (c.tenants.length : Int) ≤ 40 ∧ (c.versions.length : Int) ≤ 40 ∧ (c.replicas.length : Int) ≤ 12 ∧ (c.observers.length : Int) ≤ 12

instance (c : Cfg) : Decidable (small c) := by unfold small; infer_instance

theorem small_c (c : Cfg) : CallsH Try.prog 30 [cfgV c] [] (B (decide (small c))) [] := by
  refine callsR_of tab mixed Try.func30 rfl (by decide) rfl rfl ?_
  conv => whnf
  have h1 := r1_len c.zones
  have h2 := r2_len c.cells
  have h3 := rT_len c.tenants
  have h4 := r2_len c.versions
  have h5 := r1_len c.replicas
  have h6 := r1_len c.observers
  refine spD (fun g0 => ?_) (fun g0 => ?_) <;> conv => whnf
  · skip
    refine spD (fun g1 => ?_) (fun g1 => ?_) <;> conv => whnf
    · skip
      refine spD (fun g2 => ?_) (fun g2 => ?_) <;> conv => whnf
      · skip
        refine spD (fun g3 => ?_) (fun g3 => ?_) <;> conv => whnf
        · skip
          refine spD (fun g4 => ?_) (fun g4 => ?_) <;> conv => whnf
          · skip
            refine ⟨[], rfl, ?_, trivial⟩
            simp only [mtV, valOf, mtC, eqD]
            have e : small c ↔ (c.observers.length : Int) ≤ 12 := by unfold small; omega
            rw [decide_eq_decide.2 e, h6]
          · have e : ¬ small c := by unfold small; omega
            exact ⟨[], rfl, by simp [mtV, valOf, mtC, eqD, e], trivial⟩
        · have e : ¬ small c := by unfold small; omega
          exact ⟨[], rfl, by simp [mtV, valOf, mtC, eqD, e], trivial⟩
      · have e : ¬ small c := by unfold small; omega
        exact ⟨[], rfl, by simp [mtV, valOf, mtC, eqD, e], trivial⟩
    · have e : ¬ small c := by unfold small; omega
      exact ⟨[], rfl, by simp [mtV, valOf, mtC, eqD, e], trivial⟩
  · have e : ¬ small c := by unfold small; omega
    exact ⟨[], rfl, by simp [mtV, valOf, mtC, eqD, e], trivial⟩

def bent (c : Cfg) (m b : Int) : Cfg :=
  if m = 0 then { c with regions := b }
  else if m = 1 then { c with zones := c.zones ++ [b] }
  else if m = 2 then { c with cells := c.cells ++ [(b, 5)] }
  else if m = 3 then { c with cells := c.cells.set (b % (c.cells.length : Int)).toNat (((c.cells[(b % (c.cells.length : Int)).toNat]?).getD (0, 0)).1, b) }
  else if m = 4 then { c with replicas := c.replicas ++ [b] }
  else if m = 5 then { c with replicas := c.replicas ++ [0, b] }
  else if m = 6 then { c with observers := c.observers ++ [b] }
  else if m = 7 then { c with versions := c.versions ++ [(b % 3, b)] }
  else if m = 8 then { c with blast := b }
  else if m = 9 then { c with lease := b }
  else if m = 10 then { c with bake := b }
  else if m = 11 then { c with tenants := c.tenants ++ [⟨b, 0, 0, 0, 1, 0, false⟩] }
  else if m = 12 then { c with tenants := c.tenants ++ [⟨5, 3, 0, 0, b, 0, false⟩] }
  else { c with tenants := c.tenants ++ [⟨5, b, 0, b % 4 - 2, 1, 0, false⟩] }

theorem r1_ok (l : List Int) : ∀ r ∈ r1 l, r.length = 1 ∧ ∀ d ∈ r, d.scalar = true := by
  intro r hr; obtain ⟨x, _, rfl⟩ := List.mem_map.1 hr; simp [D.scalar]

theorem r2_ok (l : List (Int × Int)) : ∀ r ∈ r2 l, r.length = 2 ∧ ∀ d ∈ r, d.scalar = true := by
  intro r hr; obtain ⟨x, _, rfl⟩ := List.mem_map.1 hr; simp [D.scalar]

theorem rT_ok (l : List Tenant) : ∀ r ∈ rT l, r.length = 7 ∧ ∀ d ∈ r, d.scalar = true := by
  intro r hr; obtain ⟨x, _, rfl⟩ := List.mem_map.1 hr; simp [D.scalar]

end Go.Proofs.Ytlcgeeacgjdnkaa
