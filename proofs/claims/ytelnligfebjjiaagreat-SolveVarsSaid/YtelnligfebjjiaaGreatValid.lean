/- Contracts: what topo.Valid and its parts return, at every configuration; the sanity check of chapter 4 returns true. Conditions: those ahead of each theorem (sizes of lists for the parts). -/
import Derived.Test.YtelnligfebjjiaaGreatTopoF
namespace Go.Proofs.YtelnligfebjjiaaGreat
open Go Go.Cpl

def numbersP (c : Cfg) : Prop := (1 ≤ c.regions ∧ c.regions ≤ 4) ∧ (1 ≤ (c.zones.length : Int) ∧ (c.zones.length : Int) ≤ 8) ∧ (1 ≤ (c.cells.length : Int) ∧ (c.cells.length : Int) ≤ 16) ∧ (1 ≤ (c.versions.length : Int) ∧ (c.versions.length : Int) ≤ 30) ∧ (1 ≤ (c.replicas.length : Int) ∧ (c.replicas.length : Int) ≤ 5) ∧ (1 ≤ (c.observers.length : Int) ∧ (c.observers.length : Int) ≤ 9) ∧ (c.tenants.length : Int) ≤ 32

instance (c : Cfg) : Decidable (numbersP c) := by unfold numbersP; infer_instance

def allIn (lo hi : Int) (l : List Int) : Prop := ∀ x ∈ l, lo ≤ x ∧ x ≤ hi

instance (lo hi : Int) (l : List Int) : Decidable (allIn lo hi l) := by unfold allIn; infer_instance

def placesP (c : Cfg) : Prop := allIn 0 (c.regions - 1) c.zones ∧ (∀ x ∈ c.cells, 0 ≤ x.1 ∧ x.1 ≤ (c.zones.length : Int) - 1) ∧ allIn 0 ((c.zones.length : Int) - 1) c.replicas ∧ allIn 0 ((c.zones.length : Int) - 1) c.observers

instance (c : Cfg) : Decidable (placesP c) := by unfold placesP; infer_instance

def first0 (c : Cfg) : Prop := ((c.versions[0]?).map (·.1)).getD 0 = 0

def versP (c : Cfg) : Prop := ∀ x ∈ c.versions, (0 ≤ x.1 ∧ x.1 ≤ x.2) ∧ x.2 ≤ 30

def capsP (c : Cfg) : Prop := ∀ x ∈ c.cells, 1 ≤ x.2 ∧ x.2 ≤ 4194304

def boundsP (c : Cfg) : Prop := (1 ≤ c.blast ∧ c.blast ≤ 16) ∧ (1 ≤ c.lease ∧ c.lease ≤ 1000) ∧ (0 ≤ c.bake ∧ c.bake ≤ 10000)

def valuesP (c : Cfg) : Prop := capsP c ∧ (versP c ∧ first0 c) ∧ boundsP c

instance (c : Cfg) : Decidable (first0 c) := by unfold first0; infer_instance

instance (c : Cfg) : Decidable (versP c) := by unfold versP; infer_instance

instance (c : Cfg) : Decidable (capsP c) := by unfold capsP; infer_instance

instance (c : Cfg) : Decidable (boundsP c) := by unfold boundsP; infer_instance

instance (c : Cfg) : Decidable (valuesP c) := by unfold valuesP; infer_instance

def valid (c : Cfg) : Int := if numbersP c then (if (c.replicas.length : Int) % 2 = 1 ∧ placesP c ∧ valuesP c then 0 else 1) else 2

theorem take_all {α : Type} {p : α → Prop} {l : List α} {i : Nat} {x : α} (hx : l[i]? = some x) (h : ∀ y ∈ l.take i, p y) (hp : p x) : ∀ y ∈ l.take (i + 1), p y := by
  rw [take_succ_of hx]
  intro y hy
  rcases List.mem_append.1 hy with h' | h'
  · exact h y h'
  · simp at h'; rw [h']; exact hp

theorem numbers_c (c : Cfg) : CallsH Tryz.prog 107 [cfgV c] [] (B (decide (numbersP c))) [] := by
  refine callsR_of tab mixed Tryz.func107 rfl (by decide) rfl rfl ?_
  conv => whnf
  have h1 := r1_len c.zones
  have h2 := r2_len c.cells
  have h3 := r2_len c.versions
  have h4 := r1_len c.replicas
  have h5 := r1_len c.observers
  have h6 := rT_len c.tenants
  refine ⟨_, _, within_c _ _ _, ?_⟩
  conv => whnf
  refine spD (fun g0 => ?_) (fun g0 => ?_) <;> conv => whnf
  · skip
    refine ⟨_, _, within_c _ _ _, ?_⟩
    conv => whnf
    refine spD (fun g1 => ?_) (fun g1 => ?_) <;> conv => whnf
    · skip
      refine ⟨_, _, within_c _ _ _, ?_⟩
      conv => whnf
      refine spD (fun g2 => ?_) (fun g2 => ?_) <;> conv => whnf
      · skip
        refine ⟨_, _, within_c _ _ _, ?_⟩
        conv => whnf
        refine spD (fun g3 => ?_) (fun g3 => ?_) <;> conv => whnf
        · skip
          refine ⟨_, _, within_c _ _ _, ?_⟩
          conv => whnf
          refine spD (fun g4 => ?_) (fun g4 => ?_) <;> conv => whnf
          · skip
            refine ⟨_, _, within_c _ _ _, ?_⟩
            conv => whnf
            refine spD (fun g5 => ?_) (fun g5 => ?_) <;> conv => whnf
            · skip
              refine ⟨[], rfl, ?_, trivial⟩
              simp only [mtV, valOf, mtC, eqD]
              have e : numbersP c ↔ (c.tenants.length : Int) ≤ 32 := by unfold numbersP; omega
              rw [decide_eq_decide.2 e, h6]
            · have e : ¬ numbersP c := by unfold numbersP; omega
              exact ⟨[], rfl, by simp [mtV, valOf, mtC, eqD, e], trivial⟩
          · have e : ¬ numbersP c := by unfold numbersP; omega
            exact ⟨[], rfl, by simp [mtV, valOf, mtC, eqD, e], trivial⟩
        · have e : ¬ numbersP c := by unfold numbersP; omega
          exact ⟨[], rfl, by simp [mtV, valOf, mtC, eqD, e], trivial⟩
      · have e : ¬ numbersP c := by unfold numbersP; omega
        exact ⟨[], rfl, by simp [mtV, valOf, mtC, eqD, e], trivial⟩
    · have e : ¬ numbersP c := by unfold numbersP; omega
      exact ⟨[], rfl, by simp [mtV, valOf, mtC, eqD, e], trivial⟩
  · have e : ¬ numbersP c := by unfold numbersP; omega
    exact ⟨[], rfl, by simp [mtV, valOf, mtC, eqD, e], trivial⟩

theorem limits_c (c : Cfg) : CallsH Tryz.prog 99 [cfgV c] [] (B (decide (numbersP c))) [] := by
  refine callsR_of tab mixed Tryz.func99 rfl (by decide) rfl rfl ?_
  conv => whnf
  have h1 := r1_len c.zones
  have h2 := r2_len c.cells
  have h3 := r2_len c.versions
  have h4 := r1_len c.replicas
  have h5 := r1_len c.observers
  have h6 := rT_len c.tenants
  refine ⟨_, _, in_c _ _ _, ?_⟩
  conv => whnf
  refine spD (fun g0 => ?_) (fun g0 => ?_) <;> conv => whnf
  · skip
    refine ⟨_, _, in_c _ _ _, ?_⟩
    conv => whnf
    refine spD (fun g1 => ?_) (fun g1 => ?_) <;> conv => whnf
    · skip
      refine ⟨_, _, in_c _ _ _, ?_⟩
      conv => whnf
      refine spD (fun g2 => ?_) (fun g2 => ?_) <;> conv => whnf
      · skip
        refine ⟨_, _, in_c _ _ _, ?_⟩
        conv => whnf
        refine spD (fun g3 => ?_) (fun g3 => ?_) <;> conv => whnf
        · skip
          refine ⟨_, _, in_c _ _ _, ?_⟩
          conv => whnf
          refine spD (fun g4 => ?_) (fun g4 => ?_) <;> conv => whnf
          · skip
            refine ⟨_, _, in_c _ _ _, ?_⟩
            conv => whnf
            refine spD (fun g5 => ?_) (fun g5 => ?_) <;> conv => whnf
            · skip
              refine ⟨[], rfl, ?_, trivial⟩
              simp only [mtV, valOf, mtC, eqD]
              have e : numbersP c ↔ (c.tenants.length : Int) ≤ 32 := by unfold numbersP; omega
              rw [decide_eq_decide.2 e, h6]
            · have e : ¬ numbersP c := by unfold numbersP; omega
              exact ⟨[], rfl, by simp [mtV, valOf, mtC, eqD, e], trivial⟩
          · have e : ¬ numbersP c := by unfold numbersP; omega
            exact ⟨[], rfl, by simp [mtV, valOf, mtC, eqD, e], trivial⟩
        · have e : ¬ numbersP c := by unfold numbersP; omega
          exact ⟨[], rfl, by simp [mtV, valOf, mtC, eqD, e], trivial⟩
      · have e : ¬ numbersP c := by unfold numbersP; omega
        exact ⟨[], rfl, by simp [mtV, valOf, mtC, eqD, e], trivial⟩
    · have e : ¬ numbersP c := by unfold numbersP; omega
      exact ⟨[], rfl, by simp [mtV, valOf, mtC, eqD, e], trivial⟩
  · have e : ¬ numbersP c := by unfold numbersP; omega
    exact ⟨[], rfl, by simp [mtV, valOf, mtC, eqD, e], trivial⟩

theorem places_c (c : Cfg) (hr : 1 ≤ c.regions ∧ c.regions ≤ 4) (hz : c.zones.length ≤ 100) (hc : c.cells.length ≤ 100) (hp : c.replicas.length ≤ 100) (ho : c.observers.length ≤ 100) : CallsH Tryz.prog 108 [cfgV c] [] (B (decide (placesP c))) [] := by
  refine callsR_of tab mixed Tryz.func108 rfl (by decide) rfl rfl ?_
  conv => whnf
  have hzl := r1_len c.zones
  refine loopRX tab mixed (ι := { i : Nat // i ≤ c.zones.length ∧ ∀ x ∈ c.zones.take i, 0 ≤ x ∧ x ≤ c.regions - 1 }) (κ := { _u : Unit // ∀ x ∈ c.zones, 0 ≤ x ∧ x ≤ c.regions - 1 }) (fun i => [(15, I i.1), (2, .top)]) (fun _ => []) 51 (fun i => c.zones.length - i.1) 0 (fun _ => [(2, .top)]) (fun _ => []) 51 ⟨0, by simp⟩ [] ?_
  conv => whnf
  refine ⟨⟨rfl, ⟨⟨⟨rfl, rfl⟩, trivial, trivial⟩, trivial⟩, rfl, rfl⟩, fun ⟨i, hi, hall⟩ => ?_, fun ⟨_, hall0⟩ => ?_⟩
  · conv => whnf
    refine spD (fun h => ?_) (fun h => ?_)
    · have hi' : i < c.zones.length := by rw [r1_len] at h; exact Int.ofNat_lt.1 h
      obtain ⟨x, hx⟩ := get_of hi'
      conv => whnf
      refine ⟨by simp, _, r1_get hx, ?_⟩
      conv => whnf
      refine gv (by omega) (by omega) ?_
      conv => whnf
      refine ⟨_, _, within_c _ _ _, ?_⟩
      conv => whnf
      refine spN (fun h2 => ?_) (fun h2 => ?_)
      · have hn : ¬ ∀ x ∈ c.zones, 0 ≤ x ∧ x ≤ c.regions - 1 := fun hA => h2 (hA x (List.mem_of_getElem? hx))
        conv => whnf
        exact ⟨[], rfl, by simp only [mtV, valOf, mtC, eqD]; exact decide_eq_false fun hA => hn hA.1, trivial⟩
      · conv => whnf
        refine gv (by simp; omega) (by simp; omega) ?_
        conv => whnf
        refine ⟨⟨i + 1, hi', take_all hx hall h2⟩, [], ⟨rfl, ⟨⟨⟨rfl, rfl⟩, trivial, trivial⟩, trivial⟩, rfl, rfl⟩, ?_⟩
        simp; omega
    · conv => whnf
      have hi' : i = c.zones.length := by rw [r1_len] at h; simp at h; omega
      exact ⟨⟨(), by rw [hi', List.take_length] at hall; exact hall⟩, [], rfl, ⟨⟨trivial, trivial⟩, trivial⟩, rfl, rfl⟩
  conv => whnf
  refine gv (by omega) (by omega) ?_
  conv => whnf
  rw [hzl]
  refine loopRX tab mixed (ι := { i : Nat // i ≤ c.cells.length ∧ ∀ x ∈ c.cells.take i, 0 ≤ x.1 ∧ x.1 ≤ (c.zones.length : Int) - 1 }) (κ := { _u : Unit // ∀ x ∈ c.cells, 0 ≤ x.1 ∧ x.1 ≤ (c.zones.length : Int) - 1 }) (fun i => [(34, I i.1), (2, .top)]) (fun _ => []) 51 (fun i => c.cells.length - i.1) 2 (fun _ => [(2, .top)]) (fun _ => []) 51 ⟨0, by simp⟩ [] ?_
  conv => whnf
  refine ⟨⟨rfl, ⟨⟨⟨rfl, rfl⟩, trivial, trivial⟩, trivial⟩, rfl, rfl⟩, fun ⟨i, hi, hall⟩ => ?_, fun ⟨_, hall2⟩ => ?_⟩
  · conv => whnf
    refine spD (fun h => ?_) (fun h => ?_)
    · have hi' : i < c.cells.length := by rw [r2_len] at h; exact Int.ofNat_lt.1 h
      obtain ⟨x, hx⟩ := get_of hi'
      conv => whnf
      refine ⟨by simp, _, r2_get hx, ?_⟩
      conv => whnf
      refine ⟨_, _, within_c _ _ _, ?_⟩
      conv => whnf
      refine spN (fun h2 => ?_) (fun h2 => ?_)
      · have hn : ¬ ∀ x ∈ c.cells, 0 ≤ x.1 ∧ x.1 ≤ (c.zones.length : Int) - 1 := fun hA => h2 (hA x (List.mem_of_getElem? hx))
        conv => whnf
        exact ⟨[], rfl, by simp only [mtV, valOf, mtC, eqD]; exact decide_eq_false fun hA => hn hA.2.1, trivial⟩
      · conv => whnf
        refine gv (by simp; omega) (by simp; omega) ?_
        conv => whnf
        refine ⟨⟨i + 1, hi', take_all hx hall h2⟩, [], ⟨rfl, ⟨⟨⟨rfl, rfl⟩, trivial, trivial⟩, trivial⟩, rfl, rfl⟩, ?_⟩
        simp; omega
    · conv => whnf
      have hi' : i = c.cells.length := by rw [r2_len] at h; simp at h; omega
      exact ⟨⟨(), by rw [hi', List.take_length] at hall; exact hall⟩, [], rfl, ⟨⟨trivial, trivial⟩, trivial⟩, rfl, rfl⟩
  conv => whnf
  refine loopRX tab mixed (ι := { i : Nat // i ≤ c.replicas.length ∧ ∀ x ∈ c.replicas.take i, 0 ≤ x ∧ x ≤ (c.zones.length : Int) - 1 }) (κ := { _u : Unit // ∀ x ∈ c.replicas, 0 ≤ x ∧ x ≤ (c.zones.length : Int) - 1 }) (fun i => [(47, I i.1), (2, .top)]) (fun _ => []) 51 (fun i => c.replicas.length - i.1) 4 (fun _ => [(2, .top)]) (fun _ => []) 51 ⟨0, by simp⟩ [] ?_
  conv => whnf
  refine ⟨⟨rfl, ⟨⟨⟨rfl, rfl⟩, trivial, trivial⟩, trivial⟩, rfl, rfl⟩, fun ⟨i, hi, hall⟩ => ?_, fun ⟨_, hall4⟩ => ?_⟩
  · conv => whnf
    refine spD (fun h => ?_) (fun h => ?_)
    · have hi' : i < c.replicas.length := by rw [r1_len] at h; exact Int.ofNat_lt.1 h
      obtain ⟨x, hx⟩ := get_of hi'
      conv => whnf
      refine ⟨by simp, _, r1_get hx, ?_⟩
      conv => whnf
      refine ⟨_, _, within_c _ _ _, ?_⟩
      conv => whnf
      refine spN (fun h2 => ?_) (fun h2 => ?_)
      · have hn : ¬ ∀ x ∈ c.replicas, 0 ≤ x ∧ x ≤ (c.zones.length : Int) - 1 := fun hA => h2 (hA x (List.mem_of_getElem? hx))
        conv => whnf
        exact ⟨[], rfl, by simp only [mtV, valOf, mtC, eqD]; exact decide_eq_false fun hA => hn hA.2.2.1, trivial⟩
      · conv => whnf
        refine gv (by simp; omega) (by simp; omega) ?_
        conv => whnf
        refine ⟨⟨i + 1, hi', take_all hx hall h2⟩, [], ⟨rfl, ⟨⟨⟨rfl, rfl⟩, trivial, trivial⟩, trivial⟩, rfl, rfl⟩, ?_⟩
        simp; omega
    · conv => whnf
      have hi' : i = c.replicas.length := by rw [r1_len] at h; simp at h; omega
      exact ⟨⟨(), by rw [hi', List.take_length] at hall; exact hall⟩, [], rfl, ⟨⟨trivial, trivial⟩, trivial⟩, rfl, rfl⟩
  conv => whnf
  refine loopRX tab mixed (ι := { i : Nat // i ≤ c.observers.length ∧ ∀ x ∈ c.observers.take i, 0 ≤ x ∧ x ≤ (c.zones.length : Int) - 1 }) (κ := { _u : Unit // ∀ x ∈ c.observers, 0 ≤ x ∧ x ≤ (c.zones.length : Int) - 1 }) (fun i => [(59, I i.1), (2, .top)]) (fun _ => []) 51 (fun i => c.observers.length - i.1) 6 (fun _ => [(2, .top)]) (fun _ => []) 51 ⟨0, by simp⟩ [] ?_
  conv => whnf
  refine ⟨⟨rfl, ⟨⟨⟨rfl, rfl⟩, trivial, trivial⟩, trivial⟩, rfl, rfl⟩, fun ⟨i, hi, hall⟩ => ?_, fun ⟨_, hall6⟩ => ?_⟩
  · conv => whnf
    refine spD (fun h => ?_) (fun h => ?_)
    · have hi' : i < c.observers.length := by rw [r1_len] at h; exact Int.ofNat_lt.1 h
      obtain ⟨x, hx⟩ := get_of hi'
      conv => whnf
      refine ⟨by simp, _, r1_get hx, ?_⟩
      conv => whnf
      refine ⟨_, _, within_c _ _ _, ?_⟩
      conv => whnf
      refine spN (fun h2 => ?_) (fun h2 => ?_)
      · have hn : ¬ ∀ x ∈ c.observers, 0 ≤ x ∧ x ≤ (c.zones.length : Int) - 1 := fun hA => h2 (hA x (List.mem_of_getElem? hx))
        conv => whnf
        exact ⟨[], rfl, by simp only [mtV, valOf, mtC, eqD]; exact decide_eq_false fun hA => hn hA.2.2.2, trivial⟩
      · conv => whnf
        refine gv (by simp; omega) (by simp; omega) ?_
        conv => whnf
        refine ⟨⟨i + 1, hi', take_all hx hall h2⟩, [], ⟨rfl, ⟨⟨⟨rfl, rfl⟩, trivial, trivial⟩, trivial⟩, rfl, rfl⟩, ?_⟩
        simp; omega
    · conv => whnf
      have hi' : i = c.observers.length := by rw [r1_len] at h; simp at h; omega
      exact ⟨⟨(), by rw [hi', List.take_length] at hall; exact hall⟩, [], rfl, ⟨⟨trivial, trivial⟩, trivial⟩, rfl, rfl⟩
  conv => whnf
  exact ⟨[], rfl, by simp only [mtV, valOf, mtC, eqD]; exact decide_eq_true ⟨hall0, hall2, hall4, hall6⟩, trivial⟩

theorem values_c (c : Cfg) (hc : c.cells.length ≤ 100) (hv : c.versions.length ≤ 100) : CallsH Tryz.prog 109 [cfgV c] [] (B (decide (valuesP c))) [] := by
  refine callsR_of tab mixed Tryz.func109 rfl (by decide) rfl rfl ?_
  conv => whnf
  refine loopRX tab mixed (ι := { i : Nat // i ≤ c.cells.length ∧ ∀ x ∈ c.cells.take i, 1 ≤ x.2 ∧ x.2 ≤ 4194304 }) (κ := { _u : Unit // ∀ x ∈ c.cells, 1 ≤ x.2 ∧ x.2 ≤ 4194304 }) (fun i => [(10, I i.1), (2, .top)]) (fun _ => []) 51 (fun i => c.cells.length - i.1) 0 (fun _ => [(2, .top)]) (fun _ => []) 51 ⟨0, by simp⟩ [] ?_
  conv => whnf
  refine ⟨⟨rfl, ⟨⟨⟨rfl, rfl⟩, trivial, trivial⟩, trivial⟩, rfl, rfl⟩, fun ⟨i, hi, hall⟩ => ?_, fun ⟨_, hall0⟩ => ?_⟩
  · conv => whnf
    refine spD (fun h => ?_) (fun h => ?_)
    · have hi' : i < c.cells.length := by rw [r2_len] at h; exact Int.ofNat_lt.1 h
      obtain ⟨x, hx⟩ := get_of hi'
      conv => whnf
      refine ⟨by simp, _, r2_get hx, ?_⟩
      conv => whnf
      refine ⟨_, _, within_c _ _ _, ?_⟩
      conv => whnf
      refine spN (fun h2 => ?_) (fun h2 => ?_)
      · have hn : ¬ ∀ x ∈ c.cells, 1 ≤ x.2 ∧ x.2 ≤ 4194304 := fun hA => h2 (hA x (List.mem_of_getElem? hx))
        conv => whnf
        exact ⟨[], rfl, by simp only [mtV, valOf, mtC, eqD]; exact decide_eq_false fun hA => hn hA.1, trivial⟩
      · conv => whnf
        refine gv (by simp; omega) (by simp; omega) ?_
        conv => whnf
        refine ⟨⟨i + 1, hi', take_all hx hall h2⟩, [], ⟨rfl, ⟨⟨⟨rfl, rfl⟩, trivial, trivial⟩, trivial⟩, rfl, rfl⟩, ?_⟩
        simp; omega
    · conv => whnf
      have hi' : i = c.cells.length := by rw [r2_len] at h; simp at h; omega
      exact ⟨⟨(), by rw [hi', List.take_length] at hall; exact hall⟩, [], rfl, ⟨⟨trivial, trivial⟩, trivial⟩, rfl, rfl⟩
  conv => whnf
  refine loopRX tab mixed (ι := { i : Nat // i ≤ c.versions.length ∧ (∀ x ∈ c.versions.take i, (0 ≤ x.1 ∧ x.1 ≤ x.2) ∧ x.2 ≤ 30) ∧ (0 < i → first0 c) }) (κ := { _u : Unit // versP c ∧ first0 c }) (fun i => [(22, I i.1), (2, .top)]) (fun _ => []) 51 (fun i => c.versions.length - i.1) 2 (fun _ => [(2, .top)]) (fun _ => []) 51 ⟨0, by simp⟩ [] ?_
  conv => whnf
  refine ⟨⟨rfl, ⟨⟨⟨rfl, rfl⟩, trivial, trivial⟩, trivial⟩, rfl, rfl⟩, fun ⟨i, hi, hall, hf⟩ => ?_, fun ⟨_, hv1, hv2⟩ => ?_⟩
  · conv => whnf
    refine spD (fun h => ?_) (fun h => ?_)
    · have hi' : i < c.versions.length := by rw [r2_len] at h; exact Int.ofNat_lt.1 h
      obtain ⟨x, hx⟩ := get_of hi'
      have hm := List.mem_of_getElem? hx
      conv => whnf
      refine ⟨by simp, _, r2_get hx, ?_⟩
      conv => whnf
      refine spD (fun h1 => ?_) (fun h1 => ?_)
      · have hn : ¬ valuesP c := fun hA => by have := hA.2.1.1 x hm; omega
        conv => whnf
        exact ⟨[], rfl, by simp only [mtV, valOf, mtC, eqD]; exact decide_eq_false hn, trivial⟩
      conv => whnf
      refine spD (fun h2 => ?_) (fun h2 => ?_)
      · have hn : ¬ valuesP c := fun hA => by have := hA.2.1.1 x hm; omega
        conv => whnf
        exact ⟨[], rfl, by simp only [mtV, valOf, mtC, eqD]; exact decide_eq_false hn, trivial⟩
      conv => whnf
      refine spD (fun h3 => ?_) (fun h3 => ?_)
      · have hn : ¬ valuesP c := fun hA => by have := hA.2.1.1 x hm; omega
        conv => whnf
        exact ⟨[], rfl, by simp only [mtV, valOf, mtC, eqD]; exact decide_eq_false hn, trivial⟩
      conv => whnf
      have hok : (0 ≤ x.1 ∧ x.1 ≤ x.2) ∧ x.2 ≤ 30 := by omega
      refine spE (fun h4 => ?_) (fun h4 => ?_)
      · have h4' : i = 0 := by simpa using h4
        have hx0 : c.versions[0]? = some x := by rw [← h4']; exact hx
        conv => whnf
        refine spNe (fun h5 => ?_) (fun h5 => ?_)
        · have hn : ¬ valuesP c := fun hA => by
            have := hA.2.1.2
            simp only [first0, hx0, Option.map_some, Option.getD_some] at this
            exact h5 this
          conv => whnf
          exact ⟨[], rfl, by simp only [mtV, valOf, mtC, eqD]; exact decide_eq_false hn, trivial⟩
        conv => whnf
        refine gv (by simp; omega) (by simp; omega) ?_
        conv => whnf
        refine ⟨⟨i + 1, hi', take_all hx hall hok, fun _ => by simp [first0, hx0, h5]⟩, [], ⟨rfl, ⟨⟨⟨rfl, rfl⟩, trivial, trivial⟩, trivial⟩, rfl, rfl⟩, ?_⟩
        simp; omega
      · have h4' : 0 < i := by simp at h4; omega
        conv => whnf
        refine gv (by simp; omega) (by simp; omega) ?_
        conv => whnf
        refine ⟨⟨i + 1, hi', take_all hx hall hok, fun _ => hf h4'⟩, [], ⟨rfl, ⟨⟨⟨rfl, rfl⟩, trivial, trivial⟩, trivial⟩, rfl, rfl⟩, ?_⟩
        simp; omega
    · conv => whnf
      have hi' : i = c.versions.length := by rw [r2_len] at h; simp at h; omega
      refine ⟨⟨(), ?_, ?_⟩, [], rfl, ⟨⟨trivial, trivial⟩, trivial⟩, rfl, rfl⟩
      · rw [hi', List.take_length] at hall; exact hall
      · rcases Nat.eq_zero_or_pos i with h0 | h0
        · have : c.versions = [] := List.eq_nil_of_length_eq_zero (by omega)
          simp [first0, this]
        · exact hf h0
  conv => whnf
  refine ⟨_, _, within_c _ _ _, ?_⟩
  conv => whnf
  refine spD (fun h1 => ?_) (fun h1 => ?_) <;> conv => whnf
  · refine ⟨_, _, within_c _ _ _, ?_⟩
    conv => whnf
    refine spD (fun h2 => ?_) (fun h2 => ?_) <;> conv => whnf
    · refine ⟨_, _, within_c _ _ _, ?_⟩
      conv => whnf
      refine ⟨[], rfl, ?_, trivial⟩
      simp only [mtV, valOf, mtC, eqD]
      exact decide_eq_decide.2 ⟨fun hA => hA.2.2.2.2, fun h3 => ⟨hall0, ⟨hv1, hv2⟩, h1, h2, h3⟩⟩
    · exact ⟨[], rfl, by simp only [mtV, valOf, mtC, eqD]; exact decide_eq_false fun hA => h2 hA.2.2.2.1, trivial⟩
  · exact ⟨[], rfl, by simp only [mtV, valOf, mtC, eqD]; exact decide_eq_false fun hA => h1 hA.2.2.1, trivial⟩

theorem valid_c (c : Cfg) : CallsH Tryz.prog 69 [cfgV c] [] (I (valid c)) [] := by
  refine callsR_of tab mixed Tryz.func69 rfl (by decide) rfl rfl ?_
  conv => whnf
  refine ⟨_, _, numbers_c c, ?_⟩
  conv => whnf
  refine spN (fun h => ?_) (fun h => ?_) <;> conv => whnf
  · exact ⟨[], rfl, ⟨rfl, by simp [valid, h]⟩, trivial⟩
  · have hN : numbersP c := h
    obtain ⟨n1, n2, n3, n4, n5, n6, n7⟩ := h
    refine ⟨by omega, .intro ((c.replicas.length : Int) % 2) (by rw [r1_len]; exact Int.tmod_eq_emod_of_nonneg (by omega)) ?_⟩
    conv => whnf
    refine spE (fun h1 => ?_) (fun h1 => ?_) <;> conv => whnf
    · exact ⟨[], rfl, ⟨rfl, by simp [valid, hN, h1]⟩, trivial⟩
    · refine ⟨_, _, places_c c (by omega) (by omega) (by omega) (by omega) (by omega), ?_⟩
      conv => whnf
      refine spN (fun h2 => ?_) (fun h2 => ?_) <;> conv => whnf
      · exact ⟨[], rfl, ⟨rfl, by simp [valid, hN, h2]⟩, trivial⟩
      · refine ⟨_, _, values_c c (by omega) (by omega), ?_⟩
        conv => whnf
        refine spN (fun h3 => ?_) (fun h3 => ?_) <;> conv => whnf
        · exact ⟨[], rfl, ⟨rfl, by simp [valid, hN, h3]⟩, trivial⟩
        · have h1' : (c.replicas.length : Int) % 2 = 1 := by omega
          exact ⟨[], rfl, ⟨rfl, by simp [valid, hN, h2, h3, h1']⟩, trivial⟩

end Go.Proofs.YtelnligfebjjiaaGreat
