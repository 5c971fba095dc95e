/- Contracts: what cellplanemake.Small and cellplanemake.Bent return. Conditions: those ahead of each theorem (sizes of lists). -/
import Derived.Test.YtelnligfebjjiaaGreatConf
import Derived.Test.YtelnligfebjjiaaGreatValidR
namespace Go.Proofs.YtelnligfebjjiaaGreat
open Go Go.Cpl

def small (c : Cfg) : Prop := (c.zones.length : Int) ≤ 20 ∧ (c.cells.length : Int) ≤ 20 ∧ (c.tenants.length : Int) ≤ 40 ∧ (c.versions.length : Int) ≤ 40 ∧ (c.replicas.length : Int) ≤ 12 ∧ (c.observers.length : Int) ≤ 12

instance (c : Cfg) : Decidable (small c) := by unfold small; infer_instance

theorem small_c (c : Cfg) : CallsH Tryz.prog 23 [cfgV c] [] (B (decide (small c))) [] := by
  refine callsR_of tab mixed Tryz.func23 rfl (by decide) rfl rfl ?_
  conv => whnf
  have h1 := r1_len c.zones
  have h2 := r2_len c.cells
  have h3 := rT_len c.tenants
  have h4 := r2_len c.versions
  have h5 := r1_len c.replicas
  have h6 := r1_len c.observers
  refine spD (fun g0 => ?_) (fun g0 => ?_) <;> conv => whnf
  · skip
    refine spD (fun g1 => ?_) (fun g1 => ?_) <;> conv => whnf
    · skip
      refine spD (fun g2 => ?_) (fun g2 => ?_) <;> conv => whnf
      · skip
        refine spD (fun g3 => ?_) (fun g3 => ?_) <;> conv => whnf
        · skip
          refine spD (fun g4 => ?_) (fun g4 => ?_) <;> conv => whnf
          · skip
            refine ⟨[], rfl, ?_, trivial⟩
            simp only [mtV, valOf, mtC, eqD]
            have e : small c ↔ (c.observers.length : Int) ≤ 12 := by unfold small; omega
            rw [decide_eq_decide.2 e, h6]
          · have e : ¬ small c := by unfold small; omega
            exact ⟨[], rfl, by simp [mtV, valOf, mtC, eqD, e], trivial⟩
        · have e : ¬ small c := by unfold small; omega
          exact ⟨[], rfl, by simp [mtV, valOf, mtC, eqD, e], trivial⟩
      · have e : ¬ small c := by unfold small; omega
        exact ⟨[], rfl, by simp [mtV, valOf, mtC, eqD, e], trivial⟩
    · have e : ¬ small c := by unfold small; omega
      exact ⟨[], rfl, by simp [mtV, valOf, mtC, eqD, e], trivial⟩
  · have e : ¬ small c := by unfold small; omega
    exact ⟨[], rfl, by simp [mtV, valOf, mtC, eqD, e], trivial⟩

def bent (c : Cfg) (m b : Int) : Cfg :=
  if m = 0 then { c with regions := b }
  else if m = 1 then { c with zones := c.zones ++ [b] }
  else if m = 2 then { c with cells := c.cells ++ [(b, 5)] }
  else if m = 3 then { c with cells := c.cells.set (b % (c.cells.length : Int)).toNat (((c.cells[(b % (c.cells.length : Int)).toNat]?).getD (0, 0)).1, b) }
  else if m = 4 then { c with replicas := c.replicas ++ [b] }
  else if m = 5 then { c with replicas := c.replicas ++ [0, b] }
  else if m = 6 then { c with observers := c.observers ++ [b] }
  else if m = 7 then { c with versions := c.versions ++ [(b % 3, b)] }
  else if m = 8 then { c with blast := b }
  else if m = 9 then { c with lease := b }
  else if m = 10 then { c with bake := b }
  else if m = 11 then { c with tenants := c.tenants ++ [⟨b, 0, 0, 0, 1, 0, false⟩] }
  else if m = 12 then { c with tenants := c.tenants ++ [⟨5, 3, 0, 0, b, 0, false⟩] }
  else { c with tenants := c.tenants ++ [⟨5, b, 0, b % 4 - 2, 1, 0, false⟩] }

theorem r1_ok (l : List Int) : ∀ r ∈ r1 l, r.length = 1 ∧ ∀ d ∈ r, d.scalar = true := by
  intro r hr; obtain ⟨x, _, rfl⟩ := List.mem_map.1 hr; simp [D.scalar]

theorem r2_ok (l : List (Int × Int)) : ∀ r ∈ r2 l, r.length = 2 ∧ ∀ d ∈ r, d.scalar = true := by
  intro r hr; obtain ⟨x, _, rfl⟩ := List.mem_map.1 hr; simp [D.scalar]

theorem rT_ok (l : List Tenant) : ∀ r ∈ rT l, r.length = 7 ∧ ∀ d ∈ r, d.scalar = true := by
  intro r hr; obtain ⟨x, _, rfl⟩ := List.mem_map.1 hr; simp [D.scalar]

set_option maxRecDepth 100000 in
set_option maxHeartbeats 8000000 in
theorem bent_c (c : Cfg) (which b : Int) (hz : c.zones.length ≤ 100) (hc : 0 < c.cells.length ∧ c.cells.length ≤ 100) (ht : c.tenants.length ≤ 100) (hv : c.versions.length ≤ 100) (hp : c.replicas.length ≤ 100) (ho : c.observers.length ≤ 100) :
    CallsH Tryz.prog 24 [cfgV c, I which, I b] [] (cfgV (bent c (which % 14) b)) [] := by
  have h1 := r1_len c.zones
  have h2 := r2_len c.cells
  have h3 := rT_len c.tenants
  have h4 := r2_len c.versions
  have h5 := r1_len c.replicas
  have h6 := r1_len c.observers
  have hk1 := Int.emod_nonneg b (b := (c.cells.length : Int)) (by omega)
  have hk2 := Int.emod_lt_of_pos b (b := (c.cells.length : Int)) (by omega)
  obtain ⟨x, hx⟩ := get_int (l := c.cells) hk1 (by omega)
  generalize hm : which % 14 = m at *
  have hmod := mod_c which 14 (by omega) (by omega)
  rw [hm] at hmod
  refine callsR_of tab mixed Tryz.func24 rfl (by decide) rfl rfl ?_
  conv => whnf
  rw [h2]
  refine ⟨_, _, mod_c b (c.cells.length : Int) (by omega) (by omega), ?_⟩
  conv => whnf
  refine ⟨_, _, hmod, ?_⟩
  conv => whnf
  refine spE (fun m0 => ?_) (fun m0 => ?_)
  · conv => whnf
    have e : bent c m b = { c with regions := b } := by simp only [bent, if_pos m0]
    rw [e]
    exact ⟨[], rfl, ⟨⟨rfl, rfl⟩, rfl, rfl, rfl, rfl, rfl, rfl, ⟨rfl, rfl⟩, ⟨rfl, rfl⟩, ⟨rfl, rfl⟩, trivial⟩, trivial⟩
  conv => whnf
  refine spE (fun m1 => ?_) (fun m1 => ?_)
  · conv => whnf
    refine ⟨r1_ok _, ⟨by simp [r1_len]; omega⟩, ?_⟩
    conv => whnf
    refine ⟨row1 _ rfl, ⟨by simp [r1_len]; omega⟩, ?_⟩
    conv => whnf
    have e : bent c m b = { c with zones := c.zones ++ [b] } := by simp only [bent, if_neg m0, if_pos m1]
    rw [e]
    exact ⟨[], rfl, ⟨⟨rfl, rfl⟩, (by show r1 _ = _; simp [r1]), rfl, rfl, rfl, rfl, rfl, ⟨rfl, rfl⟩, ⟨rfl, rfl⟩, ⟨rfl, rfl⟩, trivial⟩, trivial⟩
  conv => whnf
  refine spE (fun m2 => ?_) (fun m2 => ?_)
  · conv => whnf
    refine ⟨r2_ok _, ⟨by simp [r2_len]; omega⟩, ?_⟩
    conv => whnf
    refine ⟨row2 _ _ rfl rfl, ⟨by simp [r2_len]; omega⟩, ?_⟩
    conv => whnf
    have e : bent c m b = { c with cells := c.cells ++ [(b, 5)] } := by simp only [bent, if_neg m0, if_neg m1, if_pos m2]
    rw [e]
    exact ⟨[], rfl, ⟨⟨rfl, rfl⟩, rfl, (by show r2 _ = _; simp [r2]), rfl, rfl, rfl, rfl, ⟨rfl, rfl⟩, ⟨rfl, rfl⟩, ⟨rfl, rfl⟩, trivial⟩, trivial⟩
  conv => whnf
  refine spE (fun m3 => ?_) (fun m3 => ?_)
  · conv => whnf
    refine ⟨r2_ok _, ⟨by simp [r2_len]; omega⟩, ?_⟩
    conv => whnf
    refine ⟨hk1, by simp [r2_len]; omega, _, by simp only [List.nil_append]; exact r2_get hx, ?_⟩
    conv => whnf
    have e : bent c m b = { c with cells := c.cells.set (b % (c.cells.length : Int)).toNat (((c.cells[(b % (c.cells.length : Int)).toNat]?).getD (0, 0)).1, b) } := by simp only [bent, if_neg m0, if_neg m1, if_neg m2, if_pos m3]
    rw [e]
    exact ⟨[], rfl, ⟨⟨rfl, rfl⟩, rfl, (by show r2 _ = _; simp [r2, hx]), rfl, rfl, rfl, rfl, ⟨rfl, rfl⟩, ⟨rfl, rfl⟩, ⟨rfl, rfl⟩, trivial⟩, trivial⟩
  conv => whnf
  refine spE (fun m4 => ?_) (fun m4 => ?_)
  · conv => whnf
    refine ⟨r1_ok _, ⟨by simp [r1_len]; omega⟩, ?_⟩
    conv => whnf
    refine ⟨row1 _ rfl, ⟨by simp [r1_len]; omega⟩, ?_⟩
    conv => whnf
    have e : bent c m b = { c with replicas := c.replicas ++ [b] } := by simp only [bent, if_neg m0, if_neg m1, if_neg m2, if_neg m3, if_pos m4]
    rw [e]
    exact ⟨[], rfl, ⟨⟨rfl, rfl⟩, rfl, rfl, rfl, rfl, (by show r1 _ = _; simp [r1]), rfl, ⟨rfl, rfl⟩, ⟨rfl, rfl⟩, ⟨rfl, rfl⟩, trivial⟩, trivial⟩
  conv => whnf
  refine spE (fun m5 => ?_) (fun m5 => ?_)
  · conv => whnf
    refine ⟨r1_ok _, ⟨by simp [r1_len]; omega⟩, ?_⟩
    conv => whnf
    refine ⟨by simp [D.scalar], ⟨by simp [r1_len]; omega⟩, ?_⟩
    conv => whnf
    have e : bent c m b = { c with replicas := c.replicas ++ [0, b] } := by simp only [bent, if_neg m0, if_neg m1, if_neg m2, if_neg m3, if_neg m4, if_pos m5]
    rw [e]
    exact ⟨[], rfl, ⟨⟨rfl, rfl⟩, rfl, rfl, rfl, rfl, (by show r1 _ = _; simp [r1]), rfl, ⟨rfl, rfl⟩, ⟨rfl, rfl⟩, ⟨rfl, rfl⟩, trivial⟩, trivial⟩
  conv => whnf
  refine spE (fun m6 => ?_) (fun m6 => ?_)
  · conv => whnf
    refine ⟨r1_ok _, ⟨by simp [r1_len]; omega⟩, ?_⟩
    conv => whnf
    refine ⟨row1 _ rfl, ⟨by simp [r1_len]; omega⟩, ?_⟩
    conv => whnf
    have e : bent c m b = { c with observers := c.observers ++ [b] } := by simp only [bent, if_neg m0, if_neg m1, if_neg m2, if_neg m3, if_neg m4, if_neg m5, if_pos m6]
    rw [e]
    exact ⟨[], rfl, ⟨⟨rfl, rfl⟩, rfl, rfl, rfl, rfl, rfl, (by show r1 _ = _; simp [r1]), ⟨rfl, rfl⟩, ⟨rfl, rfl⟩, ⟨rfl, rfl⟩, trivial⟩, trivial⟩
  conv => whnf
  refine spE (fun m7 => ?_) (fun m7 => ?_)
  · conv => whnf
    refine ⟨r2_ok _, ⟨by simp [r2_len]; omega⟩, ?_⟩
    conv => whnf
    refine ⟨_, _, mod_c b 3 (by omega) (by omega), ?_⟩
    conv => whnf
    refine ⟨row2 _ _ rfl rfl, ⟨by simp [r2_len]; omega⟩, ?_⟩
    conv => whnf
    have e : bent c m b = { c with versions := c.versions ++ [(b % 3, b)] } := by simp only [bent, if_neg m0, if_neg m1, if_neg m2, if_neg m3, if_neg m4, if_neg m5, if_neg m6, if_pos m7]
    rw [e]
    exact ⟨[], rfl, ⟨⟨rfl, rfl⟩, rfl, rfl, rfl, (by show r2 _ = _; simp [r2]), rfl, rfl, ⟨rfl, rfl⟩, ⟨rfl, rfl⟩, ⟨rfl, rfl⟩, trivial⟩, trivial⟩
  conv => whnf
  refine spE (fun m8 => ?_) (fun m8 => ?_)
  · conv => whnf
    have e : bent c m b = { c with blast := b } := by simp only [bent, if_neg m0, if_neg m1, if_neg m2, if_neg m3, if_neg m4, if_neg m5, if_neg m6, if_neg m7, if_pos m8]
    rw [e]
    exact ⟨[], rfl, ⟨⟨rfl, rfl⟩, rfl, rfl, rfl, rfl, rfl, rfl, ⟨rfl, rfl⟩, ⟨rfl, rfl⟩, ⟨rfl, rfl⟩, trivial⟩, trivial⟩
  conv => whnf
  refine spE (fun m9 => ?_) (fun m9 => ?_)
  · conv => whnf
    have e : bent c m b = { c with lease := b } := by simp only [bent, if_neg m0, if_neg m1, if_neg m2, if_neg m3, if_neg m4, if_neg m5, if_neg m6, if_neg m7, if_neg m8, if_pos m9]
    rw [e]
    exact ⟨[], rfl, ⟨⟨rfl, rfl⟩, rfl, rfl, rfl, rfl, rfl, rfl, ⟨rfl, rfl⟩, ⟨rfl, rfl⟩, ⟨rfl, rfl⟩, trivial⟩, trivial⟩
  conv => whnf
  refine spE (fun m10 => ?_) (fun m10 => ?_)
  · conv => whnf
    have e : bent c m b = { c with bake := b } := by simp only [bent, if_neg m0, if_neg m1, if_neg m2, if_neg m3, if_neg m4, if_neg m5, if_neg m6, if_neg m7, if_neg m8, if_neg m9, if_pos m10]
    rw [e]
    exact ⟨[], rfl, ⟨⟨rfl, rfl⟩, rfl, rfl, rfl, rfl, rfl, rfl, ⟨rfl, rfl⟩, ⟨rfl, rfl⟩, ⟨rfl, rfl⟩, trivial⟩, trivial⟩
  conv => whnf
  refine spE (fun m11 => ?_) (fun m11 => ?_)
  · conv => whnf
    refine ⟨rT_ok _, ⟨by simp [rT_len]; omega⟩, ?_⟩
    conv => whnf
    refine ⟨row7 _ _ _ _ _ _ _, ⟨by simp [rT_len]; omega⟩, ?_⟩
    conv => whnf
    have e : bent c m b = { c with tenants := c.tenants ++ [⟨b, 0, 0, 0, 1, 0, false⟩] } := by simp only [bent, if_neg m0, if_neg m1, if_neg m2, if_neg m3, if_neg m4, if_neg m5, if_neg m6, if_neg m7, if_neg m8, if_neg m9, if_neg m10, if_pos m11]
    rw [e]
    exact ⟨[], rfl, ⟨⟨rfl, rfl⟩, rfl, rfl, (by show rT _ = _; simp [rT]), rfl, rfl, rfl, ⟨rfl, rfl⟩, ⟨rfl, rfl⟩, ⟨rfl, rfl⟩, trivial⟩, trivial⟩
  conv => whnf
  refine spE (fun m12 => ?_) (fun m12 => ?_)
  · conv => whnf
    refine ⟨rT_ok _, ⟨by simp [rT_len]; omega⟩, ?_⟩
    conv => whnf
    refine ⟨row7 _ _ _ _ _ _ _, ⟨by simp [rT_len]; omega⟩, ?_⟩
    conv => whnf
    have e : bent c m b = { c with tenants := c.tenants ++ [⟨5, 3, 0, 0, b, 0, false⟩] } := by simp only [bent, if_neg m0, if_neg m1, if_neg m2, if_neg m3, if_neg m4, if_neg m5, if_neg m6, if_neg m7, if_neg m8, if_neg m9, if_neg m10, if_neg m11, if_pos m12]
    rw [e]
    exact ⟨[], rfl, ⟨⟨rfl, rfl⟩, rfl, rfl, (by show rT _ = _; simp [rT]), rfl, rfl, rfl, ⟨rfl, rfl⟩, ⟨rfl, rfl⟩, ⟨rfl, rfl⟩, trivial⟩, trivial⟩
  conv => whnf
  refine ⟨rT_ok _, ⟨by simp [rT_len]; omega⟩, ?_⟩
  conv => whnf
  refine ⟨_, _, mod_c b 4 (by omega) (by omega), ?_⟩
  conv => whnf
  refine gv (by omega) (by omega) ?_
  conv => whnf
  refine ⟨row7 _ _ _ _ _ _ _, ⟨by simp [rT_len]; omega⟩, ?_⟩
  conv => whnf
  have e : bent c m b = { c with tenants := c.tenants ++ [⟨5, b, 0, b % 4 - 2, 1, 0, false⟩] } := by simp only [bent, if_neg m0, if_neg m1, if_neg m2, if_neg m3, if_neg m4, if_neg m5, if_neg m6, if_neg m7, if_neg m8, if_neg m9, if_neg m10, if_neg m11, if_neg m12]
  rw [e]
  exact ⟨[], rfl, ⟨⟨rfl, rfl⟩, rfl, rfl, (by show rT _ = _; simp [rT]), rfl, rfl, rfl, ⟨rfl, rfl⟩, ⟨rfl, rfl⟩, ⟨rfl, rfl⟩, trivial⟩, trivial⟩

end Go.Proofs.YtelnligfebjjiaaGreat
