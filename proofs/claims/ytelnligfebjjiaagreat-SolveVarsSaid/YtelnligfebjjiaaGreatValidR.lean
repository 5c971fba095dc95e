/- Contract: what cellplaneref04.Valid returns, at every configuration: the same as topo.Valid. No conditions. -/
import Derived.Test.YtelnligfebjjiaaGreatValid
namespace Go.Proofs.YtelnligfebjjiaaGreat
open Go Go.Cpl

theorem refZones_c (c : Cfg) (l : List Int) (hz : c.zones.length ≤ 100) (hl : l.length ≤ 100) : CallsH Tryz.prog 100 [cfgV c, .c (.d (.sl (r1 l)))] [] (B (decide (allIn 0 ((c.zones.length : Int) - 1) l))) [] := by
  refine callsR_of tab mixed Tryz.func100 rfl (by decide) rfl rfl ?_
  conv => whnf
  have hzl := r1_len c.zones
  refine loopR tab mixed (ι := { i : Nat // i ≤ l.length ∧ ∀ x ∈ l.take i, 0 ≤ x ∧ x ≤ (c.zones.length : Int) - 1 }) (fun i => [(5, I i.1)]) (fun _ => []) 51 (fun i => l.length - i.1) ⟨0, by simp⟩ [] ?_
  conv => whnf
  refine ⟨⟨rfl, ⟨⟨⟨rfl, rfl⟩, trivial⟩, trivial⟩, rfl, rfl⟩, fun ⟨i, hi, hall⟩ => ?_⟩
  conv => whnf
  refine spD (fun h => ?_) (fun h => ?_)
  · have hi' : i < l.length := by rw [r1_len] at h; exact Int.ofNat_lt.1 h
    obtain ⟨x, hx⟩ := get_of hi'
    conv => whnf
    refine ⟨by kernel_rfl, ?_⟩
    conv => whnf
    refine ⟨by simp, _, r1_get hx, ?_⟩
    conv => whnf
    rw [hzl]
    refine gv (by omega) (by omega) ?_
    conv => whnf
    refine ⟨_, _, in_c _ _ _, ?_⟩
    conv => whnf
    refine spN (fun h2 => ?_) (fun h2 => ?_)
    · have hn : ¬ allIn 0 ((c.zones.length : Int) - 1) l := fun hA => h2 (hA x (List.mem_of_getElem? hx))
      conv => whnf
      exact ⟨[], rfl, by simp only [mtV, valOf, mtC, eqD]; exact decide_eq_false hn, trivial⟩
    · conv => whnf
      refine gv (by simp; omega) (by simp; omega) ?_
      conv => whnf
      refine ⟨⟨i + 1, hi', take_all hx hall h2⟩, [], ⟨rfl, ⟨⟨⟨rfl, rfl⟩, trivial⟩, trivial⟩, rfl, rfl⟩, ?_⟩
      simp; omega
  · conv => whnf
    have hi' : i = l.length := by rw [r1_len] at h; simp at h; omega
    have hA : allIn 0 ((c.zones.length : Int) - 1) l := by rw [hi', List.take_length] at hall; exact hall
    exact ⟨[], rfl, by simp only [mtV, valOf, mtC, eqD]; exact decide_eq_true hA, trivial⟩

def G0 (c : Cfg) : Prop := (c.replicas.length : Int) % 2 = 1 ∧ allIn 0 ((c.zones.length : Int) - 1) c.replicas ∧ allIn 0 ((c.zones.length : Int) - 1) c.observers ∧ boundsP c ∧ first0 c

instance (c : Cfg) : Decidable (G0 c) := by unfold G0; infer_instance

def zP (c : Cfg) (x : Int) : Prop := 0 ≤ x ∧ x ≤ c.regions - 1

def cP (c : Cfg) (x : Int × Int) : Prop := (0 ≤ x.1 ∧ x.1 ≤ (c.zones.length : Int) - 1) ∧ (1 ≤ x.2 ∧ x.2 ≤ 4194304)

def vP (x : Int × Int) : Prop := (0 ≤ x.1 ∧ x.1 ≤ x.2) ∧ x.2 ≤ 30

instance (c : Cfg) (x : Int) : Decidable (zP c x) := by unfold zP; infer_instance

instance (c : Cfg) (x : Int × Int) : Decidable (cP c x) := by unfold cP; infer_instance

instance (x : Int × Int) : Decidable (vP x) := by unfold vP; infer_instance

theorem take_iff {α : Type} {p : α → Prop} {l : List α} {i : Nat} {x : α} (hx : l[i]? = some x) : (∀ y ∈ l.take (i + 1), p y) ↔ (∀ y ∈ l.take i, p y) ∧ p x := by
  rw [take_succ_of hx]
  exact ⟨fun h => ⟨fun y hy => h y (by simp [hy]), h x (by simp)⟩, fun h y hy => by
    rcases List.mem_append.1 hy with h' | h'
    · exact h.1 y h'
    · simp at h'; rw [h']; exact h.2⟩

theorem valid_iff (c : Cfg) : (((G0 c ∧ ∀ x ∈ c.zones, zP c x) ∧ ∀ x ∈ c.cells, cP c x) ∧ ∀ x ∈ c.versions, vP x) ↔ ((c.replicas.length : Int) % 2 = 1 ∧ placesP c ∧ valuesP c) := by
  constructor
  · rintro ⟨⟨⟨⟨h1, h2, h3, h4, h5⟩, hz⟩, hc⟩, hv⟩
    exact ⟨h1, ⟨hz, fun x hx => (hc x hx).1, h2, h3⟩, fun x hx => (hc x hx).2, ⟨hv, h5⟩, h4⟩
  · rintro ⟨h1, ⟨hz, hc, h2, h3⟩, hc2, ⟨hv, h5⟩, h4⟩
    exact ⟨⟨⟨⟨h1, h2, h3, h4, h5⟩, hz⟩, fun x hx => ⟨hc x hx, hc2 x hx⟩⟩, hv⟩

set_option maxRecDepth 100000 in
set_option maxHeartbeats 8000000 in
theorem refValid_c (c : Cfg) : CallsH Tryz.prog 65 [cfgV c] [] (I (valid c)) [] := by
  refine callsR_of tab mixed Tryz.func65 rfl (by decide) rfl rfl ?_
  conv => whnf
  refine ⟨_, _, limits_c c, ?_⟩
  conv => whnf
  refine spN (fun h => ?_) (fun h => ?_) <;> conv => whnf
  · exact ⟨[], rfl, ⟨rfl, by simp [valid, h]⟩, trivial⟩
  have hN : numbersP c := h
  obtain ⟨n1, n2, n3, n4, n5, n6, n7⟩ := h
  have hzl := r1_len c.zones
  have hcl := r2_len c.cells
  have hvl := r2_len c.versions
  obtain ⟨v0, hv0⟩ := get_of (l := c.versions) (i := 0) (by omega)
  refine ⟨by omega, .intro ((c.replicas.length : Int) % 2) (by rw [r1_len]; exact Int.tmod_eq_emod_of_nonneg (by omega)) ?_⟩
  conv => whnf
  refine spE (fun g1 => ?_) (fun g1 => ?_)
  · conv => whnf
    refine ⟨_, _, refZones_c c c.replicas (by omega) (by omega), ?_⟩
    conv => whnf
    refine spD (fun k0 => ?_) (fun k0 => ?_)
    · conv => whnf
      refine ⟨_, _, refZones_c c c.observers (by omega) (by omega), ?_⟩
      conv => whnf
      refine spD (fun k1 => ?_) (fun k1 => ?_)
      · conv => whnf
        refine ⟨_, _, in_c _ _ _, ?_⟩
        conv => whnf
        refine spD (fun k2 => ?_) (fun k2 => ?_)
        · conv => whnf
          refine ⟨_, _, in_c _ _ _, ?_⟩
          conv => whnf
          refine spD (fun k3 => ?_) (fun k3 => ?_)
          · conv => whnf
            refine ⟨_, _, in_c _ _ _, ?_⟩
            conv => whnf
            refine spD (fun k4 => ?_) (fun k4 => ?_)
            · conv => whnf
              refine ⟨by simp, _, r2_get hv0, ?_⟩
              conv => whnf
              have hG : decide (G0 c) = (v0.1 == 0) := by
                rw [show (v0.1 == 0) = decide (v0.1 = 0) from rfl]
                exact decide_eq_decide.2 ⟨fun hA => by have := hA.2.2.2.2; simpa [first0, hv0] using this, fun hv => ⟨g1, k0, k1, ⟨k2, k3, k4⟩, by simp [first0, hv0, hv]⟩⟩
              refine loopRX tab mixed (ι := { i : Nat // i ≤ c.zones.length }) (κ := Unit) (fun i => [(4, I i.1), (3, B (decide (G0 c ∧ ∀ x ∈ c.zones.take i.1, zP c x)))]) (fun _ => []) 51 (fun i => c.zones.length - i.1) 0 (fun _ => [(3, B (decide (G0 c ∧ ∀ x ∈ c.zones, zP c x)))]) (fun _ => []) 51 ⟨0, by simp⟩ [] ?_
              conv => whnf
              refine ⟨⟨rfl, ⟨⟨⟨rfl, rfl⟩, (by show decide (G0 c ∧ ∀ x ∈ c.zones.take 0, zP c x) = _; rw [← hG]; simp), trivial⟩, trivial⟩, rfl, rfl⟩, fun ⟨i, hi⟩ => ?_, fun _ => ?_⟩
              · conv => whnf
                refine spD (fun h => ?_) (fun h => ?_)
                · have hi' : i < c.zones.length := by rw [r1_len] at h; exact Int.ofNat_lt.1 h
                  obtain ⟨x, hx⟩ := get_of hi'
                  have hit := take_iff (p := fun x => zP c x) hx
                  conv => whnf
                  refine ⟨by kernel_rfl, ?_⟩
                  conv => whnf
                  refine spD (fun hg => ?_) (fun hg => ?_)
                  · conv => whnf
                    refine ⟨by simp, _, r1_get hx, ?_⟩
                    conv => whnf
                    refine gv (by omega) (by omega) ?_
                    conv => whnf
                    refine ⟨_, _, in_c _ _ _, ?_⟩
                    conv => whnf
                    refine gv (by simp; omega) (by simp; omega) ?_
                    conv => whnf
                    refine ⟨⟨i + 1, hi'⟩, [], ⟨rfl, ⟨⟨⟨rfl, rfl⟩, ?_, trivial⟩, trivial⟩, rfl, rfl⟩, by simp; omega⟩
                    exact decide_eq_decide.2 ⟨fun hA => (hit.1 hA.2).2, fun hp => ⟨hg.1, hit.2 ⟨hg.2, hp⟩⟩⟩
                  · conv => whnf
                    refine gv (by simp; omega) (by simp; omega) ?_
                    conv => whnf
                    refine ⟨⟨i + 1, hi'⟩, [], ⟨rfl, ⟨⟨⟨rfl, rfl⟩, ?_, trivial⟩, trivial⟩, rfl, rfl⟩, by simp; omega⟩
                    exact decide_eq_false fun hA => hg ⟨hA.1, (hit.1 hA.2).1⟩
                · conv => whnf
                  have hi' : i = c.zones.length := by rw [r1_len] at h; simp at h; omega
                  subst hi'
                  exact ⟨(), [], rfl, ⟨⟨by simp only [List.take_length]; exact rfl, trivial⟩, trivial⟩, rfl, rfl⟩
              conv => whnf
              refine loopRX tab mixed (ι := { i : Nat // i ≤ c.cells.length }) (κ := Unit) (fun i => [(5, I i.1), (3, B (decide ((G0 c ∧ ∀ x ∈ c.zones, zP c x) ∧ ∀ x ∈ c.cells.take i.1, cP c x)))]) (fun _ => []) 51 (fun i => c.cells.length - i.1) 2 (fun _ => [(3, B (decide ((G0 c ∧ ∀ x ∈ c.zones, zP c x) ∧ ∀ x ∈ c.cells, cP c x)))]) (fun _ => []) 51 ⟨0, by simp⟩ [] ?_
              conv => whnf
              refine ⟨⟨rfl, ⟨⟨⟨rfl, rfl⟩, decide_eq_decide.2 ⟨fun h => h.1, fun h => ⟨h, by simp⟩⟩, trivial⟩, trivial⟩, rfl, rfl⟩, fun ⟨i, hi⟩ => ?_, fun _ => ?_⟩
              · conv => whnf
                refine spD (fun h => ?_) (fun h => ?_)
                · have hi' : i < c.cells.length := by rw [r2_len] at h; exact Int.ofNat_lt.1 h
                  obtain ⟨x, hx⟩ := get_of hi'
                  have hit := take_iff (p := fun x => cP c x) hx
                  conv => whnf
                  refine ⟨by kernel_rfl, ?_⟩
                  conv => whnf
                  refine spD (fun hg => ?_) (fun hg => ?_)
                  · conv => whnf
                    refine ⟨by simp, _, r2_get hx, ?_⟩
                    conv => whnf
                    rw [hzl]
                    refine gv (by omega) (by omega) ?_
                    conv => whnf
                    refine ⟨_, _, in_c _ _ _, ?_⟩
                    conv => whnf
                    refine spD (fun h1 => ?_) (fun h1 => ?_)
                    · conv => whnf
                      refine ⟨by simp, _, r2_get hx, ?_⟩
                      conv => whnf
                      refine ⟨_, _, in_c _ _ _, ?_⟩
                      conv => whnf
                      refine gv (by simp; omega) (by simp; omega) ?_
                      conv => whnf
                      refine ⟨⟨i + 1, hi'⟩, [], ⟨rfl, ⟨⟨⟨rfl, rfl⟩, ?_, trivial⟩, trivial⟩, rfl, rfl⟩, by simp; omega⟩
                      exact decide_eq_decide.2 ⟨fun hA => (hit.1 hA.2).2.2, fun hp => ⟨hg.1, hit.2 ⟨hg.2, h1, hp⟩⟩⟩
                    · conv => whnf
                      refine gv (by simp; omega) (by simp; omega) ?_
                      conv => whnf
                      refine ⟨⟨i + 1, hi'⟩, [], ⟨rfl, ⟨⟨⟨rfl, rfl⟩, ?_, trivial⟩, trivial⟩, rfl, rfl⟩, by simp; omega⟩
                      exact decide_eq_false fun hA => h1 (hit.1 hA.2).2.1
                  · conv => whnf
                    refine gv (by simp; omega) (by simp; omega) ?_
                    conv => whnf
                    refine ⟨⟨i + 1, hi'⟩, [], ⟨rfl, ⟨⟨⟨rfl, rfl⟩, ?_, trivial⟩, trivial⟩, rfl, rfl⟩, by simp; omega⟩
                    exact decide_eq_false fun hA => hg ⟨hA.1, (hit.1 hA.2).1⟩
                · conv => whnf
                  have hi' : i = c.cells.length := by rw [r2_len] at h; simp at h; omega
                  subst hi'
                  exact ⟨(), [], rfl, ⟨⟨by simp only [List.take_length]; exact rfl, trivial⟩, trivial⟩, rfl, rfl⟩
              conv => whnf
              refine loopRX tab mixed (ι := { i : Nat // i ≤ c.versions.length }) (κ := Unit) (fun i => [(6, I i.1), (3, B (decide (((G0 c ∧ ∀ x ∈ c.zones, zP c x) ∧ ∀ x ∈ c.cells, cP c x) ∧ ∀ x ∈ c.versions.take i.1, vP x)))]) (fun _ => []) 51 (fun i => c.versions.length - i.1) 4 (fun _ => [(3, B (decide (((G0 c ∧ ∀ x ∈ c.zones, zP c x) ∧ ∀ x ∈ c.cells, cP c x) ∧ ∀ x ∈ c.versions, vP x)))]) (fun _ => []) 51 ⟨0, by simp⟩ [] ?_
              conv => whnf
              refine ⟨⟨rfl, ⟨⟨⟨rfl, rfl⟩, decide_eq_decide.2 ⟨fun h => h.1, fun h => ⟨h, by simp⟩⟩, trivial⟩, trivial⟩, rfl, rfl⟩, fun ⟨i, hi⟩ => ?_, fun _ => ?_⟩
              · conv => whnf
                refine spD (fun h => ?_) (fun h => ?_)
                · have hi' : i < c.versions.length := by rw [r2_len] at h; exact Int.ofNat_lt.1 h
                  obtain ⟨x, hx⟩ := get_of hi'
                  have hit := take_iff (p := fun x => vP x) hx
                  conv => whnf
                  refine ⟨by kernel_rfl, ?_⟩
                  conv => whnf
                  refine spD (fun hg => ?_) (fun hg => ?_)
                  · conv => whnf
                    refine ⟨by simp, _, r2_get hx, ?_⟩
                    conv => whnf
                    refine ⟨by simp, _, r2_get hx, ?_⟩
                    conv => whnf
                    refine ⟨_, _, in_c _ _ _, ?_⟩
                    conv => whnf
                    refine spD (fun h1 => ?_) (fun h1 => ?_)
                    · conv => whnf
                      refine ⟨by simp, _, r2_get hx, ?_⟩
                      conv => whnf
                      refine gv (by simp; omega) (by simp; omega) ?_
                      conv => whnf
                      refine ⟨⟨i + 1, hi'⟩, [], ⟨rfl, ⟨⟨⟨rfl, rfl⟩, ?_, trivial⟩, trivial⟩, rfl, rfl⟩, by simp; omega⟩
                      exact decide_eq_decide.2 ⟨fun hA => (hit.1 hA.2).2.2, fun hp => ⟨hg.1, hit.2 ⟨hg.2, h1, hp⟩⟩⟩
                    · conv => whnf
                      refine gv (by simp; omega) (by simp; omega) ?_
                      conv => whnf
                      refine ⟨⟨i + 1, hi'⟩, [], ⟨rfl, ⟨⟨⟨rfl, rfl⟩, ?_, trivial⟩, trivial⟩, rfl, rfl⟩, by simp; omega⟩
                      exact decide_eq_false fun hA => h1 (hit.1 hA.2).2.1
                  · conv => whnf
                    refine gv (by simp; omega) (by simp; omega) ?_
                    conv => whnf
                    refine ⟨⟨i + 1, hi'⟩, [], ⟨rfl, ⟨⟨⟨rfl, rfl⟩, ?_, trivial⟩, trivial⟩, rfl, rfl⟩, by simp; omega⟩
                    exact decide_eq_false fun hA => hg ⟨hA.1, (hit.1 hA.2).1⟩
                · conv => whnf
                  have hi' : i = c.versions.length := by rw [r2_len] at h; simp at h; omega
                  subst hi'
                  exact ⟨(), [], rfl, ⟨⟨by simp only [List.take_length]; exact rfl, trivial⟩, trivial⟩, rfl, rfl⟩
              conv => whnf
              have hV := valid_iff c
              refine spN (fun hq => ?_) (fun hq => ?_) <;> conv => whnf
              · exact ⟨[], rfl, ⟨rfl, by unfold valid; rw [if_pos hN, if_neg fun hA => hq (hV.2 hA)]⟩, trivial⟩
              · exact ⟨[], rfl, ⟨rfl, by unfold valid; rw [if_pos hN, if_pos (hV.1 hq)]⟩, trivial⟩
            · conv => whnf
              have hG : decide (G0 c) = false := decide_eq_false fun hA => k4 hA.2.2.2.1.2.2
              refine loopRX tab mixed (ι := { i : Nat // i ≤ c.zones.length }) (κ := Unit) (fun i => [(4, I i.1), (3, B (decide (G0 c ∧ ∀ x ∈ c.zones.take i.1, zP c x)))]) (fun _ => []) 51 (fun i => c.zones.length - i.1) 0 (fun _ => [(3, B (decide (G0 c ∧ ∀ x ∈ c.zones, zP c x)))]) (fun _ => []) 51 ⟨0, by simp⟩ [] ?_
              conv => whnf
              refine ⟨⟨rfl, ⟨⟨⟨rfl, rfl⟩, (by show decide (G0 c ∧ ∀ x ∈ c.zones.take 0, zP c x) = _; rw [← hG]; simp), trivial⟩, trivial⟩, rfl, rfl⟩, fun ⟨i, hi⟩ => ?_, fun _ => ?_⟩
              · conv => whnf
                refine spD (fun h => ?_) (fun h => ?_)
                · have hi' : i < c.zones.length := by rw [r1_len] at h; exact Int.ofNat_lt.1 h
                  obtain ⟨x, hx⟩ := get_of hi'
                  have hit := take_iff (p := fun x => zP c x) hx
                  conv => whnf
                  refine ⟨by kernel_rfl, ?_⟩
                  conv => whnf
                  refine spD (fun hg => ?_) (fun hg => ?_)
                  · conv => whnf
                    refine ⟨by simp, _, r1_get hx, ?_⟩
                    conv => whnf
                    refine gv (by omega) (by omega) ?_
                    conv => whnf
                    refine ⟨_, _, in_c _ _ _, ?_⟩
                    conv => whnf
                    refine gv (by simp; omega) (by simp; omega) ?_
                    conv => whnf
                    refine ⟨⟨i + 1, hi'⟩, [], ⟨rfl, ⟨⟨⟨rfl, rfl⟩, ?_, trivial⟩, trivial⟩, rfl, rfl⟩, by simp; omega⟩
                    exact decide_eq_decide.2 ⟨fun hA => (hit.1 hA.2).2, fun hp => ⟨hg.1, hit.2 ⟨hg.2, hp⟩⟩⟩
                  · conv => whnf
                    refine gv (by simp; omega) (by simp; omega) ?_
                    conv => whnf
                    refine ⟨⟨i + 1, hi'⟩, [], ⟨rfl, ⟨⟨⟨rfl, rfl⟩, ?_, trivial⟩, trivial⟩, rfl, rfl⟩, by simp; omega⟩
                    exact decide_eq_false fun hA => hg ⟨hA.1, (hit.1 hA.2).1⟩
                · conv => whnf
                  have hi' : i = c.zones.length := by rw [r1_len] at h; simp at h; omega
                  subst hi'
                  exact ⟨(), [], rfl, ⟨⟨by simp only [List.take_length]; exact rfl, trivial⟩, trivial⟩, rfl, rfl⟩
              conv => whnf
              refine loopRX tab mixed (ι := { i : Nat // i ≤ c.cells.length }) (κ := Unit) (fun i => [(5, I i.1), (3, B (decide ((G0 c ∧ ∀ x ∈ c.zones, zP c x) ∧ ∀ x ∈ c.cells.take i.1, cP c x)))]) (fun _ => []) 51 (fun i => c.cells.length - i.1) 2 (fun _ => [(3, B (decide ((G0 c ∧ ∀ x ∈ c.zones, zP c x) ∧ ∀ x ∈ c.cells, cP c x)))]) (fun _ => []) 51 ⟨0, by simp⟩ [] ?_
              conv => whnf
              refine ⟨⟨rfl, ⟨⟨⟨rfl, rfl⟩, decide_eq_decide.2 ⟨fun h => h.1, fun h => ⟨h, by simp⟩⟩, trivial⟩, trivial⟩, rfl, rfl⟩, fun ⟨i, hi⟩ => ?_, fun _ => ?_⟩
              · conv => whnf
                refine spD (fun h => ?_) (fun h => ?_)
                · have hi' : i < c.cells.length := by rw [r2_len] at h; exact Int.ofNat_lt.1 h
                  obtain ⟨x, hx⟩ := get_of hi'
                  have hit := take_iff (p := fun x => cP c x) hx
                  conv => whnf
                  refine ⟨by kernel_rfl, ?_⟩
                  conv => whnf
                  refine spD (fun hg => ?_) (fun hg => ?_)
                  · conv => whnf
                    refine ⟨by simp, _, r2_get hx, ?_⟩
                    conv => whnf
                    rw [hzl]
                    refine gv (by omega) (by omega) ?_
                    conv => whnf
                    refine ⟨_, _, in_c _ _ _, ?_⟩
                    conv => whnf
                    refine spD (fun h1 => ?_) (fun h1 => ?_)
                    · conv => whnf
                      refine ⟨by simp, _, r2_get hx, ?_⟩
                      conv => whnf
                      refine ⟨_, _, in_c _ _ _, ?_⟩
                      conv => whnf
                      refine gv (by simp; omega) (by simp; omega) ?_
                      conv => whnf
                      refine ⟨⟨i + 1, hi'⟩, [], ⟨rfl, ⟨⟨⟨rfl, rfl⟩, ?_, trivial⟩, trivial⟩, rfl, rfl⟩, by simp; omega⟩
                      exact decide_eq_decide.2 ⟨fun hA => (hit.1 hA.2).2.2, fun hp => ⟨hg.1, hit.2 ⟨hg.2, h1, hp⟩⟩⟩
                    · conv => whnf
                      refine gv (by simp; omega) (by simp; omega) ?_
                      conv => whnf
                      refine ⟨⟨i + 1, hi'⟩, [], ⟨rfl, ⟨⟨⟨rfl, rfl⟩, ?_, trivial⟩, trivial⟩, rfl, rfl⟩, by simp; omega⟩
                      exact decide_eq_false fun hA => h1 (hit.1 hA.2).2.1
                  · conv => whnf
                    refine gv (by simp; omega) (by simp; omega) ?_
                    conv => whnf
                    refine ⟨⟨i + 1, hi'⟩, [], ⟨rfl, ⟨⟨⟨rfl, rfl⟩, ?_, trivial⟩, trivial⟩, rfl, rfl⟩, by simp; omega⟩
                    exact decide_eq_false fun hA => hg ⟨hA.1, (hit.1 hA.2).1⟩
                · conv => whnf
                  have hi' : i = c.cells.length := by rw [r2_len] at h; simp at h; omega
                  subst hi'
                  exact ⟨(), [], rfl, ⟨⟨by simp only [List.take_length]; exact rfl, trivial⟩, trivial⟩, rfl, rfl⟩
              conv => whnf
              refine loopRX tab mixed (ι := { i : Nat // i ≤ c.versions.length }) (κ := Unit) (fun i => [(6, I i.1), (3, B (decide (((G0 c ∧ ∀ x ∈ c.zones, zP c x) ∧ ∀ x ∈ c.cells, cP c x) ∧ ∀ x ∈ c.versions.take i.1, vP x)))]) (fun _ => []) 51 (fun i => c.versions.length - i.1) 4 (fun _ => [(3, B (decide (((G0 c ∧ ∀ x ∈ c.zones, zP c x) ∧ ∀ x ∈ c.cells, cP c x) ∧ ∀ x ∈ c.versions, vP x)))]) (fun _ => []) 51 ⟨0, by simp⟩ [] ?_
              conv => whnf
              refine ⟨⟨rfl, ⟨⟨⟨rfl, rfl⟩, decide_eq_decide.2 ⟨fun h => h.1, fun h => ⟨h, by simp⟩⟩, trivial⟩, trivial⟩, rfl, rfl⟩, fun ⟨i, hi⟩ => ?_, fun _ => ?_⟩
              · conv => whnf
                refine spD (fun h => ?_) (fun h => ?_)
                · have hi' : i < c.versions.length := by rw [r2_len] at h; exact Int.ofNat_lt.1 h
                  obtain ⟨x, hx⟩ := get_of hi'
                  have hit := take_iff (p := fun x => vP x) hx
                  conv => whnf
                  refine ⟨by kernel_rfl, ?_⟩
                  conv => whnf
                  refine spD (fun hg => ?_) (fun hg => ?_)
                  · conv => whnf
                    refine ⟨by simp, _, r2_get hx, ?_⟩
                    conv => whnf
                    refine ⟨by simp, _, r2_get hx, ?_⟩
                    conv => whnf
                    refine ⟨_, _, in_c _ _ _, ?_⟩
                    conv => whnf
                    refine spD (fun h1 => ?_) (fun h1 => ?_)
                    · conv => whnf
                      refine ⟨by simp, _, r2_get hx, ?_⟩
                      conv => whnf
                      refine gv (by simp; omega) (by simp; omega) ?_
                      conv => whnf
                      refine ⟨⟨i + 1, hi'⟩, [], ⟨rfl, ⟨⟨⟨rfl, rfl⟩, ?_, trivial⟩, trivial⟩, rfl, rfl⟩, by simp; omega⟩
                      exact decide_eq_decide.2 ⟨fun hA => (hit.1 hA.2).2.2, fun hp => ⟨hg.1, hit.2 ⟨hg.2, h1, hp⟩⟩⟩
                    · conv => whnf
                      refine gv (by simp; omega) (by simp; omega) ?_
                      conv => whnf
                      refine ⟨⟨i + 1, hi'⟩, [], ⟨rfl, ⟨⟨⟨rfl, rfl⟩, ?_, trivial⟩, trivial⟩, rfl, rfl⟩, by simp; omega⟩
                      exact decide_eq_false fun hA => h1 (hit.1 hA.2).2.1
                  · conv => whnf
                    refine gv (by simp; omega) (by simp; omega) ?_
                    conv => whnf
                    refine ⟨⟨i + 1, hi'⟩, [], ⟨rfl, ⟨⟨⟨rfl, rfl⟩, ?_, trivial⟩, trivial⟩, rfl, rfl⟩, by simp; omega⟩
                    exact decide_eq_false fun hA => hg ⟨hA.1, (hit.1 hA.2).1⟩
                · conv => whnf
                  have hi' : i = c.versions.length := by rw [r2_len] at h; simp at h; omega
                  subst hi'
                  exact ⟨(), [], rfl, ⟨⟨by simp only [List.take_length]; exact rfl, trivial⟩, trivial⟩, rfl, rfl⟩
              conv => whnf
              have hV := valid_iff c
              refine spN (fun hq => ?_) (fun hq => ?_) <;> conv => whnf
              · exact ⟨[], rfl, ⟨rfl, by unfold valid; rw [if_pos hN, if_neg fun hA => hq (hV.2 hA)]⟩, trivial⟩
              · exact ⟨[], rfl, ⟨rfl, by unfold valid; rw [if_pos hN, if_pos (hV.1 hq)]⟩, trivial⟩
          · conv => whnf
            have hG : decide (G0 c) = false := decide_eq_false fun hA => k3 hA.2.2.2.1.2.1
            refine loopRX tab mixed (ι := { i : Nat // i ≤ c.zones.length }) (κ := Unit) (fun i => [(4, I i.1), (3, B (decide (G0 c ∧ ∀ x ∈ c.zones.take i.1, zP c x)))]) (fun _ => []) 51 (fun i => c.zones.length - i.1) 0 (fun _ => [(3, B (decide (G0 c ∧ ∀ x ∈ c.zones, zP c x)))]) (fun _ => []) 51 ⟨0, by simp⟩ [] ?_
            conv => whnf
            refine ⟨⟨rfl, ⟨⟨⟨rfl, rfl⟩, (by show decide (G0 c ∧ ∀ x ∈ c.zones.take 0, zP c x) = _; rw [← hG]; simp), trivial⟩, trivial⟩, rfl, rfl⟩, fun ⟨i, hi⟩ => ?_, fun _ => ?_⟩
            · conv => whnf
              refine spD (fun h => ?_) (fun h => ?_)
              · have hi' : i < c.zones.length := by rw [r1_len] at h; exact Int.ofNat_lt.1 h
                obtain ⟨x, hx⟩ := get_of hi'
                have hit := take_iff (p := fun x => zP c x) hx
                conv => whnf
                refine ⟨by kernel_rfl, ?_⟩
                conv => whnf
                refine spD (fun hg => ?_) (fun hg => ?_)
                · conv => whnf
                  refine ⟨by simp, _, r1_get hx, ?_⟩
                  conv => whnf
                  refine gv (by omega) (by omega) ?_
                  conv => whnf
                  refine ⟨_, _, in_c _ _ _, ?_⟩
                  conv => whnf
                  refine gv (by simp; omega) (by simp; omega) ?_
                  conv => whnf
                  refine ⟨⟨i + 1, hi'⟩, [], ⟨rfl, ⟨⟨⟨rfl, rfl⟩, ?_, trivial⟩, trivial⟩, rfl, rfl⟩, by simp; omega⟩
                  exact decide_eq_decide.2 ⟨fun hA => (hit.1 hA.2).2, fun hp => ⟨hg.1, hit.2 ⟨hg.2, hp⟩⟩⟩
                · conv => whnf
                  refine gv (by simp; omega) (by simp; omega) ?_
                  conv => whnf
                  refine ⟨⟨i + 1, hi'⟩, [], ⟨rfl, ⟨⟨⟨rfl, rfl⟩, ?_, trivial⟩, trivial⟩, rfl, rfl⟩, by simp; omega⟩
                  exact decide_eq_false fun hA => hg ⟨hA.1, (hit.1 hA.2).1⟩
              · conv => whnf
                have hi' : i = c.zones.length := by rw [r1_len] at h; simp at h; omega
                subst hi'
                exact ⟨(), [], rfl, ⟨⟨by simp only [List.take_length]; exact rfl, trivial⟩, trivial⟩, rfl, rfl⟩
            conv => whnf
            refine loopRX tab mixed (ι := { i : Nat // i ≤ c.cells.length }) (κ := Unit) (fun i => [(5, I i.1), (3, B (decide ((G0 c ∧ ∀ x ∈ c.zones, zP c x) ∧ ∀ x ∈ c.cells.take i.1, cP c x)))]) (fun _ => []) 51 (fun i => c.cells.length - i.1) 2 (fun _ => [(3, B (decide ((G0 c ∧ ∀ x ∈ c.zones, zP c x) ∧ ∀ x ∈ c.cells, cP c x)))]) (fun _ => []) 51 ⟨0, by simp⟩ [] ?_
            conv => whnf
            refine ⟨⟨rfl, ⟨⟨⟨rfl, rfl⟩, decide_eq_decide.2 ⟨fun h => h.1, fun h => ⟨h, by simp⟩⟩, trivial⟩, trivial⟩, rfl, rfl⟩, fun ⟨i, hi⟩ => ?_, fun _ => ?_⟩
            · conv => whnf
              refine spD (fun h => ?_) (fun h => ?_)
              · have hi' : i < c.cells.length := by rw [r2_len] at h; exact Int.ofNat_lt.1 h
                obtain ⟨x, hx⟩ := get_of hi'
                have hit := take_iff (p := fun x => cP c x) hx
                conv => whnf
                refine ⟨by kernel_rfl, ?_⟩
                conv => whnf
                refine spD (fun hg => ?_) (fun hg => ?_)
                · conv => whnf
                  refine ⟨by simp, _, r2_get hx, ?_⟩
                  conv => whnf
                  rw [hzl]
                  refine gv (by omega) (by omega) ?_
                  conv => whnf
                  refine ⟨_, _, in_c _ _ _, ?_⟩
                  conv => whnf
                  refine spD (fun h1 => ?_) (fun h1 => ?_)
                  · conv => whnf
                    refine ⟨by simp, _, r2_get hx, ?_⟩
                    conv => whnf
                    refine ⟨_, _, in_c _ _ _, ?_⟩
                    conv => whnf
                    refine gv (by simp; omega) (by simp; omega) ?_
                    conv => whnf
                    refine ⟨⟨i + 1, hi'⟩, [], ⟨rfl, ⟨⟨⟨rfl, rfl⟩, ?_, trivial⟩, trivial⟩, rfl, rfl⟩, by simp; omega⟩
                    exact decide_eq_decide.2 ⟨fun hA => (hit.1 hA.2).2.2, fun hp => ⟨hg.1, hit.2 ⟨hg.2, h1, hp⟩⟩⟩
                  · conv => whnf
                    refine gv (by simp; omega) (by simp; omega) ?_
                    conv => whnf
                    refine ⟨⟨i + 1, hi'⟩, [], ⟨rfl, ⟨⟨⟨rfl, rfl⟩, ?_, trivial⟩, trivial⟩, rfl, rfl⟩, by simp; omega⟩
                    exact decide_eq_false fun hA => h1 (hit.1 hA.2).2.1
                · conv => whnf
                  refine gv (by simp; omega) (by simp; omega) ?_
                  conv => whnf
                  refine ⟨⟨i + 1, hi'⟩, [], ⟨rfl, ⟨⟨⟨rfl, rfl⟩, ?_, trivial⟩, trivial⟩, rfl, rfl⟩, by simp; omega⟩
                  exact decide_eq_false fun hA => hg ⟨hA.1, (hit.1 hA.2).1⟩
              · conv => whnf
                have hi' : i = c.cells.length := by rw [r2_len] at h; simp at h; omega
                subst hi'
                exact ⟨(), [], rfl, ⟨⟨by simp only [List.take_length]; exact rfl, trivial⟩, trivial⟩, rfl, rfl⟩
            conv => whnf
            refine loopRX tab mixed (ι := { i : Nat // i ≤ c.versions.length }) (κ := Unit) (fun i => [(6, I i.1), (3, B (decide (((G0 c ∧ ∀ x ∈ c.zones, zP c x) ∧ ∀ x ∈ c.cells, cP c x) ∧ ∀ x ∈ c.versions.take i.1, vP x)))]) (fun _ => []) 51 (fun i => c.versions.length - i.1) 4 (fun _ => [(3, B (decide (((G0 c ∧ ∀ x ∈ c.zones, zP c x) ∧ ∀ x ∈ c.cells, cP c x) ∧ ∀ x ∈ c.versions, vP x)))]) (fun _ => []) 51 ⟨0, by simp⟩ [] ?_
            conv => whnf
            refine ⟨⟨rfl, ⟨⟨⟨rfl, rfl⟩, decide_eq_decide.2 ⟨fun h => h.1, fun h => ⟨h, by simp⟩⟩, trivial⟩, trivial⟩, rfl, rfl⟩, fun ⟨i, hi⟩ => ?_, fun _ => ?_⟩
            · conv => whnf
              refine spD (fun h => ?_) (fun h => ?_)
              · have hi' : i < c.versions.length := by rw [r2_len] at h; exact Int.ofNat_lt.1 h
                obtain ⟨x, hx⟩ := get_of hi'
                have hit := take_iff (p := fun x => vP x) hx
                conv => whnf
                refine ⟨by kernel_rfl, ?_⟩
                conv => whnf
                refine spD (fun hg => ?_) (fun hg => ?_)
                · conv => whnf
                  refine ⟨by simp, _, r2_get hx, ?_⟩
                  conv => whnf
                  refine ⟨by simp, _, r2_get hx, ?_⟩
                  conv => whnf
                  refine ⟨_, _, in_c _ _ _, ?_⟩
                  conv => whnf
                  refine spD (fun h1 => ?_) (fun h1 => ?_)
                  · conv => whnf
                    refine ⟨by simp, _, r2_get hx, ?_⟩
                    conv => whnf
                    refine gv (by simp; omega) (by simp; omega) ?_
                    conv => whnf
                    refine ⟨⟨i + 1, hi'⟩, [], ⟨rfl, ⟨⟨⟨rfl, rfl⟩, ?_, trivial⟩, trivial⟩, rfl, rfl⟩, by simp; omega⟩
                    exact decide_eq_decide.2 ⟨fun hA => (hit.1 hA.2).2.2, fun hp => ⟨hg.1, hit.2 ⟨hg.2, h1, hp⟩⟩⟩
                  · conv => whnf
                    refine gv (by simp; omega) (by simp; omega) ?_
                    conv => whnf
                    refine ⟨⟨i + 1, hi'⟩, [], ⟨rfl, ⟨⟨⟨rfl, rfl⟩, ?_, trivial⟩, trivial⟩, rfl, rfl⟩, by simp; omega⟩
                    exact decide_eq_false fun hA => h1 (hit.1 hA.2).2.1
                · conv => whnf
                  refine gv (by simp; omega) (by simp; omega) ?_
                  conv => whnf
                  refine ⟨⟨i + 1, hi'⟩, [], ⟨rfl, ⟨⟨⟨rfl, rfl⟩, ?_, trivial⟩, trivial⟩, rfl, rfl⟩, by simp; omega⟩
                  exact decide_eq_false fun hA => hg ⟨hA.1, (hit.1 hA.2).1⟩
              · conv => whnf
                have hi' : i = c.versions.length := by rw [r2_len] at h; simp at h; omega
                subst hi'
                exact ⟨(), [], rfl, ⟨⟨by simp only [List.take_length]; exact rfl, trivial⟩, trivial⟩, rfl, rfl⟩
            conv => whnf
            have hV := valid_iff c
            refine spN (fun hq => ?_) (fun hq => ?_) <;> conv => whnf
            · exact ⟨[], rfl, ⟨rfl, by unfold valid; rw [if_pos hN, if_neg fun hA => hq (hV.2 hA)]⟩, trivial⟩
            · exact ⟨[], rfl, ⟨rfl, by unfold valid; rw [if_pos hN, if_pos (hV.1 hq)]⟩, trivial⟩
        · conv => whnf
          have hG : decide (G0 c) = false := decide_eq_false fun hA => k2 hA.2.2.2.1.1
          refine loopRX tab mixed (ι := { i : Nat // i ≤ c.zones.length }) (κ := Unit) (fun i => [(4, I i.1), (3, B (decide (G0 c ∧ ∀ x ∈ c.zones.take i.1, zP c x)))]) (fun _ => []) 51 (fun i => c.zones.length - i.1) 0 (fun _ => [(3, B (decide (G0 c ∧ ∀ x ∈ c.zones, zP c x)))]) (fun _ => []) 51 ⟨0, by simp⟩ [] ?_
          conv => whnf
          refine ⟨⟨rfl, ⟨⟨⟨rfl, rfl⟩, (by show decide (G0 c ∧ ∀ x ∈ c.zones.take 0, zP c x) = _; rw [← hG]; simp), trivial⟩, trivial⟩, rfl, rfl⟩, fun ⟨i, hi⟩ => ?_, fun _ => ?_⟩
          · conv => whnf
            refine spD (fun h => ?_) (fun h => ?_)
            · have hi' : i < c.zones.length := by rw [r1_len] at h; exact Int.ofNat_lt.1 h
              obtain ⟨x, hx⟩ := get_of hi'
              have hit := take_iff (p := fun x => zP c x) hx
              conv => whnf
              refine ⟨by kernel_rfl, ?_⟩
              conv => whnf
              refine spD (fun hg => ?_) (fun hg => ?_)
              · conv => whnf
                refine ⟨by simp, _, r1_get hx, ?_⟩
                conv => whnf
                refine gv (by omega) (by omega) ?_
                conv => whnf
                refine ⟨_, _, in_c _ _ _, ?_⟩
                conv => whnf
                refine gv (by simp; omega) (by simp; omega) ?_
                conv => whnf
                refine ⟨⟨i + 1, hi'⟩, [], ⟨rfl, ⟨⟨⟨rfl, rfl⟩, ?_, trivial⟩, trivial⟩, rfl, rfl⟩, by simp; omega⟩
                exact decide_eq_decide.2 ⟨fun hA => (hit.1 hA.2).2, fun hp => ⟨hg.1, hit.2 ⟨hg.2, hp⟩⟩⟩
              · conv => whnf
                refine gv (by simp; omega) (by simp; omega) ?_
                conv => whnf
                refine ⟨⟨i + 1, hi'⟩, [], ⟨rfl, ⟨⟨⟨rfl, rfl⟩, ?_, trivial⟩, trivial⟩, rfl, rfl⟩, by simp; omega⟩
                exact decide_eq_false fun hA => hg ⟨hA.1, (hit.1 hA.2).1⟩
            · conv => whnf
              have hi' : i = c.zones.length := by rw [r1_len] at h; simp at h; omega
              subst hi'
              exact ⟨(), [], rfl, ⟨⟨by simp only [List.take_length]; exact rfl, trivial⟩, trivial⟩, rfl, rfl⟩
          conv => whnf
          refine loopRX tab mixed (ι := { i : Nat // i ≤ c.cells.length }) (κ := Unit) (fun i => [(5, I i.1), (3, B (decide ((G0 c ∧ ∀ x ∈ c.zones, zP c x) ∧ ∀ x ∈ c.cells.take i.1, cP c x)))]) (fun _ => []) 51 (fun i => c.cells.length - i.1) 2 (fun _ => [(3, B (decide ((G0 c ∧ ∀ x ∈ c.zones, zP c x) ∧ ∀ x ∈ c.cells, cP c x)))]) (fun _ => []) 51 ⟨0, by simp⟩ [] ?_
          conv => whnf
          refine ⟨⟨rfl, ⟨⟨⟨rfl, rfl⟩, decide_eq_decide.2 ⟨fun h => h.1, fun h => ⟨h, by simp⟩⟩, trivial⟩, trivial⟩, rfl, rfl⟩, fun ⟨i, hi⟩ => ?_, fun _ => ?_⟩
          · conv => whnf
            refine spD (fun h => ?_) (fun h => ?_)
            · have hi' : i < c.cells.length := by rw [r2_len] at h; exact Int.ofNat_lt.1 h
              obtain ⟨x, hx⟩ := get_of hi'
              have hit := take_iff (p := fun x => cP c x) hx
              conv => whnf
              refine ⟨by kernel_rfl, ?_⟩
              conv => whnf
              refine spD (fun hg => ?_) (fun hg => ?_)
              · conv => whnf
                refine ⟨by simp, _, r2_get hx, ?_⟩
                conv => whnf
                rw [hzl]
                refine gv (by omega) (by omega) ?_
                conv => whnf
                refine ⟨_, _, in_c _ _ _, ?_⟩
                conv => whnf
                refine spD (fun h1 => ?_) (fun h1 => ?_)
                · conv => whnf
                  refine ⟨by simp, _, r2_get hx, ?_⟩
                  conv => whnf
                  refine ⟨_, _, in_c _ _ _, ?_⟩
                  conv => whnf
                  refine gv (by simp; omega) (by simp; omega) ?_
                  conv => whnf
                  refine ⟨⟨i + 1, hi'⟩, [], ⟨rfl, ⟨⟨⟨rfl, rfl⟩, ?_, trivial⟩, trivial⟩, rfl, rfl⟩, by simp; omega⟩
                  exact decide_eq_decide.2 ⟨fun hA => (hit.1 hA.2).2.2, fun hp => ⟨hg.1, hit.2 ⟨hg.2, h1, hp⟩⟩⟩
                · conv => whnf
                  refine gv (by simp; omega) (by simp; omega) ?_
                  conv => whnf
                  refine ⟨⟨i + 1, hi'⟩, [], ⟨rfl, ⟨⟨⟨rfl, rfl⟩, ?_, trivial⟩, trivial⟩, rfl, rfl⟩, by simp; omega⟩
                  exact decide_eq_false fun hA => h1 (hit.1 hA.2).2.1
              · conv => whnf
                refine gv (by simp; omega) (by simp; omega) ?_
                conv => whnf
                refine ⟨⟨i + 1, hi'⟩, [], ⟨rfl, ⟨⟨⟨rfl, rfl⟩, ?_, trivial⟩, trivial⟩, rfl, rfl⟩, by simp; omega⟩
                exact decide_eq_false fun hA => hg ⟨hA.1, (hit.1 hA.2).1⟩
            · conv => whnf
              have hi' : i = c.cells.length := by rw [r2_len] at h; simp at h; omega
              subst hi'
              exact ⟨(), [], rfl, ⟨⟨by simp only [List.take_length]; exact rfl, trivial⟩, trivial⟩, rfl, rfl⟩
          conv => whnf
          refine loopRX tab mixed (ι := { i : Nat // i ≤ c.versions.length }) (κ := Unit) (fun i => [(6, I i.1), (3, B (decide (((G0 c ∧ ∀ x ∈ c.zones, zP c x) ∧ ∀ x ∈ c.cells, cP c x) ∧ ∀ x ∈ c.versions.take i.1, vP x)))]) (fun _ => []) 51 (fun i => c.versions.length - i.1) 4 (fun _ => [(3, B (decide (((G0 c ∧ ∀ x ∈ c.zones, zP c x) ∧ ∀ x ∈ c.cells, cP c x) ∧ ∀ x ∈ c.versions, vP x)))]) (fun _ => []) 51 ⟨0, by simp⟩ [] ?_
          conv => whnf
          refine ⟨⟨rfl, ⟨⟨⟨rfl, rfl⟩, decide_eq_decide.2 ⟨fun h => h.1, fun h => ⟨h, by simp⟩⟩, trivial⟩, trivial⟩, rfl, rfl⟩, fun ⟨i, hi⟩ => ?_, fun _ => ?_⟩
          · conv => whnf
            refine spD (fun h => ?_) (fun h => ?_)
            · have hi' : i < c.versions.length := by rw [r2_len] at h; exact Int.ofNat_lt.1 h
              obtain ⟨x, hx⟩ := get_of hi'
              have hit := take_iff (p := fun x => vP x) hx
              conv => whnf
              refine ⟨by kernel_rfl, ?_⟩
              conv => whnf
              refine spD (fun hg => ?_) (fun hg => ?_)
              · conv => whnf
                refine ⟨by simp, _, r2_get hx, ?_⟩
                conv => whnf
                refine ⟨by simp, _, r2_get hx, ?_⟩
                conv => whnf
                refine ⟨_, _, in_c _ _ _, ?_⟩
                conv => whnf
                refine spD (fun h1 => ?_) (fun h1 => ?_)
                · conv => whnf
                  refine ⟨by simp, _, r2_get hx, ?_⟩
                  conv => whnf
                  refine gv (by simp; omega) (by simp; omega) ?_
                  conv => whnf
                  refine ⟨⟨i + 1, hi'⟩, [], ⟨rfl, ⟨⟨⟨rfl, rfl⟩, ?_, trivial⟩, trivial⟩, rfl, rfl⟩, by simp; omega⟩
                  exact decide_eq_decide.2 ⟨fun hA => (hit.1 hA.2).2.2, fun hp => ⟨hg.1, hit.2 ⟨hg.2, h1, hp⟩⟩⟩
                · conv => whnf
                  refine gv (by simp; omega) (by simp; omega) ?_
                  conv => whnf
                  refine ⟨⟨i + 1, hi'⟩, [], ⟨rfl, ⟨⟨⟨rfl, rfl⟩, ?_, trivial⟩, trivial⟩, rfl, rfl⟩, by simp; omega⟩
                  exact decide_eq_false fun hA => h1 (hit.1 hA.2).2.1
              · conv => whnf
                refine gv (by simp; omega) (by simp; omega) ?_
                conv => whnf
                refine ⟨⟨i + 1, hi'⟩, [], ⟨rfl, ⟨⟨⟨rfl, rfl⟩, ?_, trivial⟩, trivial⟩, rfl, rfl⟩, by simp; omega⟩
                exact decide_eq_false fun hA => hg ⟨hA.1, (hit.1 hA.2).1⟩
            · conv => whnf
              have hi' : i = c.versions.length := by rw [r2_len] at h; simp at h; omega
              subst hi'
              exact ⟨(), [], rfl, ⟨⟨by simp only [List.take_length]; exact rfl, trivial⟩, trivial⟩, rfl, rfl⟩
          conv => whnf
          have hV := valid_iff c
          refine spN (fun hq => ?_) (fun hq => ?_) <;> conv => whnf
          · exact ⟨[], rfl, ⟨rfl, by unfold valid; rw [if_pos hN, if_neg fun hA => hq (hV.2 hA)]⟩, trivial⟩
          · exact ⟨[], rfl, ⟨rfl, by unfold valid; rw [if_pos hN, if_pos (hV.1 hq)]⟩, trivial⟩
      · conv => whnf
        have hG : decide (G0 c) = false := decide_eq_false fun hA => k1 hA.2.2.1
        refine loopRX tab mixed (ι := { i : Nat // i ≤ c.zones.length }) (κ := Unit) (fun i => [(4, I i.1), (3, B (decide (G0 c ∧ ∀ x ∈ c.zones.take i.1, zP c x)))]) (fun _ => []) 51 (fun i => c.zones.length - i.1) 0 (fun _ => [(3, B (decide (G0 c ∧ ∀ x ∈ c.zones, zP c x)))]) (fun _ => []) 51 ⟨0, by simp⟩ [] ?_
        conv => whnf
        refine ⟨⟨rfl, ⟨⟨⟨rfl, rfl⟩, (by show decide (G0 c ∧ ∀ x ∈ c.zones.take 0, zP c x) = _; rw [← hG]; simp), trivial⟩, trivial⟩, rfl, rfl⟩, fun ⟨i, hi⟩ => ?_, fun _ => ?_⟩
        · conv => whnf
          refine spD (fun h => ?_) (fun h => ?_)
          · have hi' : i < c.zones.length := by rw [r1_len] at h; exact Int.ofNat_lt.1 h
            obtain ⟨x, hx⟩ := get_of hi'
            have hit := take_iff (p := fun x => zP c x) hx
            conv => whnf
            refine ⟨by kernel_rfl, ?_⟩
            conv => whnf
            refine spD (fun hg => ?_) (fun hg => ?_)
            · conv => whnf
              refine ⟨by simp, _, r1_get hx, ?_⟩
              conv => whnf
              refine gv (by omega) (by omega) ?_
              conv => whnf
              refine ⟨_, _, in_c _ _ _, ?_⟩
              conv => whnf
              refine gv (by simp; omega) (by simp; omega) ?_
              conv => whnf
              refine ⟨⟨i + 1, hi'⟩, [], ⟨rfl, ⟨⟨⟨rfl, rfl⟩, ?_, trivial⟩, trivial⟩, rfl, rfl⟩, by simp; omega⟩
              exact decide_eq_decide.2 ⟨fun hA => (hit.1 hA.2).2, fun hp => ⟨hg.1, hit.2 ⟨hg.2, hp⟩⟩⟩
            · conv => whnf
              refine gv (by simp; omega) (by simp; omega) ?_
              conv => whnf
              refine ⟨⟨i + 1, hi'⟩, [], ⟨rfl, ⟨⟨⟨rfl, rfl⟩, ?_, trivial⟩, trivial⟩, rfl, rfl⟩, by simp; omega⟩
              exact decide_eq_false fun hA => hg ⟨hA.1, (hit.1 hA.2).1⟩
          · conv => whnf
            have hi' : i = c.zones.length := by rw [r1_len] at h; simp at h; omega
            subst hi'
            exact ⟨(), [], rfl, ⟨⟨by simp only [List.take_length]; exact rfl, trivial⟩, trivial⟩, rfl, rfl⟩
        conv => whnf
        refine loopRX tab mixed (ι := { i : Nat // i ≤ c.cells.length }) (κ := Unit) (fun i => [(5, I i.1), (3, B (decide ((G0 c ∧ ∀ x ∈ c.zones, zP c x) ∧ ∀ x ∈ c.cells.take i.1, cP c x)))]) (fun _ => []) 51 (fun i => c.cells.length - i.1) 2 (fun _ => [(3, B (decide ((G0 c ∧ ∀ x ∈ c.zones, zP c x) ∧ ∀ x ∈ c.cells, cP c x)))]) (fun _ => []) 51 ⟨0, by simp⟩ [] ?_
        conv => whnf
        refine ⟨⟨rfl, ⟨⟨⟨rfl, rfl⟩, decide_eq_decide.2 ⟨fun h => h.1, fun h => ⟨h, by simp⟩⟩, trivial⟩, trivial⟩, rfl, rfl⟩, fun ⟨i, hi⟩ => ?_, fun _ => ?_⟩
        · conv => whnf
          refine spD (fun h => ?_) (fun h => ?_)
          · have hi' : i < c.cells.length := by rw [r2_len] at h; exact Int.ofNat_lt.1 h
            obtain ⟨x, hx⟩ := get_of hi'
            have hit := take_iff (p := fun x => cP c x) hx
            conv => whnf
            refine ⟨by kernel_rfl, ?_⟩
            conv => whnf
            refine spD (fun hg => ?_) (fun hg => ?_)
            · conv => whnf
              refine ⟨by simp, _, r2_get hx, ?_⟩
              conv => whnf
              rw [hzl]
              refine gv (by omega) (by omega) ?_
              conv => whnf
              refine ⟨_, _, in_c _ _ _, ?_⟩
              conv => whnf
              refine spD (fun h1 => ?_) (fun h1 => ?_)
              · conv => whnf
                refine ⟨by simp, _, r2_get hx, ?_⟩
                conv => whnf
                refine ⟨_, _, in_c _ _ _, ?_⟩
                conv => whnf
                refine gv (by simp; omega) (by simp; omega) ?_
                conv => whnf
                refine ⟨⟨i + 1, hi'⟩, [], ⟨rfl, ⟨⟨⟨rfl, rfl⟩, ?_, trivial⟩, trivial⟩, rfl, rfl⟩, by simp; omega⟩
                exact decide_eq_decide.2 ⟨fun hA => (hit.1 hA.2).2.2, fun hp => ⟨hg.1, hit.2 ⟨hg.2, h1, hp⟩⟩⟩
              · conv => whnf
                refine gv (by simp; omega) (by simp; omega) ?_
                conv => whnf
                refine ⟨⟨i + 1, hi'⟩, [], ⟨rfl, ⟨⟨⟨rfl, rfl⟩, ?_, trivial⟩, trivial⟩, rfl, rfl⟩, by simp; omega⟩
                exact decide_eq_false fun hA => h1 (hit.1 hA.2).2.1
            · conv => whnf
              refine gv (by simp; omega) (by simp; omega) ?_
              conv => whnf
              refine ⟨⟨i + 1, hi'⟩, [], ⟨rfl, ⟨⟨⟨rfl, rfl⟩, ?_, trivial⟩, trivial⟩, rfl, rfl⟩, by simp; omega⟩
              exact decide_eq_false fun hA => hg ⟨hA.1, (hit.1 hA.2).1⟩
          · conv => whnf
            have hi' : i = c.cells.length := by rw [r2_len] at h; simp at h; omega
            subst hi'
            exact ⟨(), [], rfl, ⟨⟨by simp only [List.take_length]; exact rfl, trivial⟩, trivial⟩, rfl, rfl⟩
        conv => whnf
        refine loopRX tab mixed (ι := { i : Nat // i ≤ c.versions.length }) (κ := Unit) (fun i => [(6, I i.1), (3, B (decide (((G0 c ∧ ∀ x ∈ c.zones, zP c x) ∧ ∀ x ∈ c.cells, cP c x) ∧ ∀ x ∈ c.versions.take i.1, vP x)))]) (fun _ => []) 51 (fun i => c.versions.length - i.1) 4 (fun _ => [(3, B (decide (((G0 c ∧ ∀ x ∈ c.zones, zP c x) ∧ ∀ x ∈ c.cells, cP c x) ∧ ∀ x ∈ c.versions, vP x)))]) (fun _ => []) 51 ⟨0, by simp⟩ [] ?_
        conv => whnf
        refine ⟨⟨rfl, ⟨⟨⟨rfl, rfl⟩, decide_eq_decide.2 ⟨fun h => h.1, fun h => ⟨h, by simp⟩⟩, trivial⟩, trivial⟩, rfl, rfl⟩, fun ⟨i, hi⟩ => ?_, fun _ => ?_⟩
        · conv => whnf
          refine spD (fun h => ?_) (fun h => ?_)
          · have hi' : i < c.versions.length := by rw [r2_len] at h; exact Int.ofNat_lt.1 h
            obtain ⟨x, hx⟩ := get_of hi'
            have hit := take_iff (p := fun x => vP x) hx
            conv => whnf
            refine ⟨by kernel_rfl, ?_⟩
            conv => whnf
            refine spD (fun hg => ?_) (fun hg => ?_)
            · conv => whnf
              refine ⟨by simp, _, r2_get hx, ?_⟩
              conv => whnf
              refine ⟨by simp, _, r2_get hx, ?_⟩
              conv => whnf
              refine ⟨_, _, in_c _ _ _, ?_⟩
              conv => whnf
              refine spD (fun h1 => ?_) (fun h1 => ?_)
              · conv => whnf
                refine ⟨by simp, _, r2_get hx, ?_⟩
                conv => whnf
                refine gv (by simp; omega) (by simp; omega) ?_
                conv => whnf
                refine ⟨⟨i + 1, hi'⟩, [], ⟨rfl, ⟨⟨⟨rfl, rfl⟩, ?_, trivial⟩, trivial⟩, rfl, rfl⟩, by simp; omega⟩
                exact decide_eq_decide.2 ⟨fun hA => (hit.1 hA.2).2.2, fun hp => ⟨hg.1, hit.2 ⟨hg.2, h1, hp⟩⟩⟩
              · conv => whnf
                refine gv (by simp; omega) (by simp; omega) ?_
                conv => whnf
                refine ⟨⟨i + 1, hi'⟩, [], ⟨rfl, ⟨⟨⟨rfl, rfl⟩, ?_, trivial⟩, trivial⟩, rfl, rfl⟩, by simp; omega⟩
                exact decide_eq_false fun hA => h1 (hit.1 hA.2).2.1
            · conv => whnf
              refine gv (by simp; omega) (by simp; omega) ?_
              conv => whnf
              refine ⟨⟨i + 1, hi'⟩, [], ⟨rfl, ⟨⟨⟨rfl, rfl⟩, ?_, trivial⟩, trivial⟩, rfl, rfl⟩, by simp; omega⟩
              exact decide_eq_false fun hA => hg ⟨hA.1, (hit.1 hA.2).1⟩
          · conv => whnf
            have hi' : i = c.versions.length := by rw [r2_len] at h; simp at h; omega
            subst hi'
            exact ⟨(), [], rfl, ⟨⟨by simp only [List.take_length]; exact rfl, trivial⟩, trivial⟩, rfl, rfl⟩
        conv => whnf
        have hV := valid_iff c
        refine spN (fun hq => ?_) (fun hq => ?_) <;> conv => whnf
        · exact ⟨[], rfl, ⟨rfl, by unfold valid; rw [if_pos hN, if_neg fun hA => hq (hV.2 hA)]⟩, trivial⟩
        · exact ⟨[], rfl, ⟨rfl, by unfold valid; rw [if_pos hN, if_pos (hV.1 hq)]⟩, trivial⟩
    · conv => whnf
      have hG : decide (G0 c) = false := decide_eq_false fun hA => k0 hA.2.1
      refine loopRX tab mixed (ι := { i : Nat // i ≤ c.zones.length }) (κ := Unit) (fun i => [(4, I i.1), (3, B (decide (G0 c ∧ ∀ x ∈ c.zones.take i.1, zP c x)))]) (fun _ => []) 51 (fun i => c.zones.length - i.1) 0 (fun _ => [(3, B (decide (G0 c ∧ ∀ x ∈ c.zones, zP c x)))]) (fun _ => []) 51 ⟨0, by simp⟩ [] ?_
      conv => whnf
      refine ⟨⟨rfl, ⟨⟨⟨rfl, rfl⟩, (by show decide (G0 c ∧ ∀ x ∈ c.zones.take 0, zP c x) = _; rw [← hG]; simp), trivial⟩, trivial⟩, rfl, rfl⟩, fun ⟨i, hi⟩ => ?_, fun _ => ?_⟩
      · conv => whnf
        refine spD (fun h => ?_) (fun h => ?_)
        · have hi' : i < c.zones.length := by rw [r1_len] at h; exact Int.ofNat_lt.1 h
          obtain ⟨x, hx⟩ := get_of hi'
          have hit := take_iff (p := fun x => zP c x) hx
          conv => whnf
          refine ⟨by kernel_rfl, ?_⟩
          conv => whnf
          refine spD (fun hg => ?_) (fun hg => ?_)
          · conv => whnf
            refine ⟨by simp, _, r1_get hx, ?_⟩
            conv => whnf
            refine gv (by omega) (by omega) ?_
            conv => whnf
            refine ⟨_, _, in_c _ _ _, ?_⟩
            conv => whnf
            refine gv (by simp; omega) (by simp; omega) ?_
            conv => whnf
            refine ⟨⟨i + 1, hi'⟩, [], ⟨rfl, ⟨⟨⟨rfl, rfl⟩, ?_, trivial⟩, trivial⟩, rfl, rfl⟩, by simp; omega⟩
            exact decide_eq_decide.2 ⟨fun hA => (hit.1 hA.2).2, fun hp => ⟨hg.1, hit.2 ⟨hg.2, hp⟩⟩⟩
          · conv => whnf
            refine gv (by simp; omega) (by simp; omega) ?_
            conv => whnf
            refine ⟨⟨i + 1, hi'⟩, [], ⟨rfl, ⟨⟨⟨rfl, rfl⟩, ?_, trivial⟩, trivial⟩, rfl, rfl⟩, by simp; omega⟩
            exact decide_eq_false fun hA => hg ⟨hA.1, (hit.1 hA.2).1⟩
        · conv => whnf
          have hi' : i = c.zones.length := by rw [r1_len] at h; simp at h; omega
          subst hi'
          exact ⟨(), [], rfl, ⟨⟨by simp only [List.take_length]; exact rfl, trivial⟩, trivial⟩, rfl, rfl⟩
      conv => whnf
      refine loopRX tab mixed (ι := { i : Nat // i ≤ c.cells.length }) (κ := Unit) (fun i => [(5, I i.1), (3, B (decide ((G0 c ∧ ∀ x ∈ c.zones, zP c x) ∧ ∀ x ∈ c.cells.take i.1, cP c x)))]) (fun _ => []) 51 (fun i => c.cells.length - i.1) 2 (fun _ => [(3, B (decide ((G0 c ∧ ∀ x ∈ c.zones, zP c x) ∧ ∀ x ∈ c.cells, cP c x)))]) (fun _ => []) 51 ⟨0, by simp⟩ [] ?_
      conv => whnf
      refine ⟨⟨rfl, ⟨⟨⟨rfl, rfl⟩, decide_eq_decide.2 ⟨fun h => h.1, fun h => ⟨h, by simp⟩⟩, trivial⟩, trivial⟩, rfl, rfl⟩, fun ⟨i, hi⟩ => ?_, fun _ => ?_⟩
      · conv => whnf
        refine spD (fun h => ?_) (fun h => ?_)
        · have hi' : i < c.cells.length := by rw [r2_len] at h; exact Int.ofNat_lt.1 h
          obtain ⟨x, hx⟩ := get_of hi'
          have hit := take_iff (p := fun x => cP c x) hx
          conv => whnf
          refine ⟨by kernel_rfl, ?_⟩
          conv => whnf
          refine spD (fun hg => ?_) (fun hg => ?_)
          · conv => whnf
            refine ⟨by simp, _, r2_get hx, ?_⟩
            conv => whnf
            rw [hzl]
            refine gv (by omega) (by omega) ?_
            conv => whnf
            refine ⟨_, _, in_c _ _ _, ?_⟩
            conv => whnf
            refine spD (fun h1 => ?_) (fun h1 => ?_)
            · conv => whnf
              refine ⟨by simp, _, r2_get hx, ?_⟩
              conv => whnf
              refine ⟨_, _, in_c _ _ _, ?_⟩
              conv => whnf
              refine gv (by simp; omega) (by simp; omega) ?_
              conv => whnf
              refine ⟨⟨i + 1, hi'⟩, [], ⟨rfl, ⟨⟨⟨rfl, rfl⟩, ?_, trivial⟩, trivial⟩, rfl, rfl⟩, by simp; omega⟩
              exact decide_eq_decide.2 ⟨fun hA => (hit.1 hA.2).2.2, fun hp => ⟨hg.1, hit.2 ⟨hg.2, h1, hp⟩⟩⟩
            · conv => whnf
              refine gv (by simp; omega) (by simp; omega) ?_
              conv => whnf
              refine ⟨⟨i + 1, hi'⟩, [], ⟨rfl, ⟨⟨⟨rfl, rfl⟩, ?_, trivial⟩, trivial⟩, rfl, rfl⟩, by simp; omega⟩
              exact decide_eq_false fun hA => h1 (hit.1 hA.2).2.1
          · conv => whnf
            refine gv (by simp; omega) (by simp; omega) ?_
            conv => whnf
            refine ⟨⟨i + 1, hi'⟩, [], ⟨rfl, ⟨⟨⟨rfl, rfl⟩, ?_, trivial⟩, trivial⟩, rfl, rfl⟩, by simp; omega⟩
            exact decide_eq_false fun hA => hg ⟨hA.1, (hit.1 hA.2).1⟩
        · conv => whnf
          have hi' : i = c.cells.length := by rw [r2_len] at h; simp at h; omega
          subst hi'
          exact ⟨(), [], rfl, ⟨⟨by simp only [List.take_length]; exact rfl, trivial⟩, trivial⟩, rfl, rfl⟩
      conv => whnf
      refine loopRX tab mixed (ι := { i : Nat // i ≤ c.versions.length }) (κ := Unit) (fun i => [(6, I i.1), (3, B (decide (((G0 c ∧ ∀ x ∈ c.zones, zP c x) ∧ ∀ x ∈ c.cells, cP c x) ∧ ∀ x ∈ c.versions.take i.1, vP x)))]) (fun _ => []) 51 (fun i => c.versions.length - i.1) 4 (fun _ => [(3, B (decide (((G0 c ∧ ∀ x ∈ c.zones, zP c x) ∧ ∀ x ∈ c.cells, cP c x) ∧ ∀ x ∈ c.versions, vP x)))]) (fun _ => []) 51 ⟨0, by simp⟩ [] ?_
      conv => whnf
      refine ⟨⟨rfl, ⟨⟨⟨rfl, rfl⟩, decide_eq_decide.2 ⟨fun h => h.1, fun h => ⟨h, by simp⟩⟩, trivial⟩, trivial⟩, rfl, rfl⟩, fun ⟨i, hi⟩ => ?_, fun _ => ?_⟩
      · conv => whnf
        refine spD (fun h => ?_) (fun h => ?_)
        · have hi' : i < c.versions.length := by rw [r2_len] at h; exact Int.ofNat_lt.1 h
          obtain ⟨x, hx⟩ := get_of hi'
          have hit := take_iff (p := fun x => vP x) hx
          conv => whnf
          refine ⟨by kernel_rfl, ?_⟩
          conv => whnf
          refine spD (fun hg => ?_) (fun hg => ?_)
          · conv => whnf
            refine ⟨by simp, _, r2_get hx, ?_⟩
            conv => whnf
            refine ⟨by simp, _, r2_get hx, ?_⟩
            conv => whnf
            refine ⟨_, _, in_c _ _ _, ?_⟩
            conv => whnf
            refine spD (fun h1 => ?_) (fun h1 => ?_)
            · conv => whnf
              refine ⟨by simp, _, r2_get hx, ?_⟩
              conv => whnf
              refine gv (by simp; omega) (by simp; omega) ?_
              conv => whnf
              refine ⟨⟨i + 1, hi'⟩, [], ⟨rfl, ⟨⟨⟨rfl, rfl⟩, ?_, trivial⟩, trivial⟩, rfl, rfl⟩, by simp; omega⟩
              exact decide_eq_decide.2 ⟨fun hA => (hit.1 hA.2).2.2, fun hp => ⟨hg.1, hit.2 ⟨hg.2, h1, hp⟩⟩⟩
            · conv => whnf
              refine gv (by simp; omega) (by simp; omega) ?_
              conv => whnf
              refine ⟨⟨i + 1, hi'⟩, [], ⟨rfl, ⟨⟨⟨rfl, rfl⟩, ?_, trivial⟩, trivial⟩, rfl, rfl⟩, by simp; omega⟩
              exact decide_eq_false fun hA => h1 (hit.1 hA.2).2.1
          · conv => whnf
            refine gv (by simp; omega) (by simp; omega) ?_
            conv => whnf
            refine ⟨⟨i + 1, hi'⟩, [], ⟨rfl, ⟨⟨⟨rfl, rfl⟩, ?_, trivial⟩, trivial⟩, rfl, rfl⟩, by simp; omega⟩
            exact decide_eq_false fun hA => hg ⟨hA.1, (hit.1 hA.2).1⟩
        · conv => whnf
          have hi' : i = c.versions.length := by rw [r2_len] at h; simp at h; omega
          subst hi'
          exact ⟨(), [], rfl, ⟨⟨by simp only [List.take_length]; exact rfl, trivial⟩, trivial⟩, rfl, rfl⟩
      conv => whnf
      have hV := valid_iff c
      refine spN (fun hq => ?_) (fun hq => ?_) <;> conv => whnf
      · exact ⟨[], rfl, ⟨rfl, by unfold valid; rw [if_pos hN, if_neg fun hA => hq (hV.2 hA)]⟩, trivial⟩
      · exact ⟨[], rfl, ⟨rfl, by unfold valid; rw [if_pos hN, if_pos (hV.1 hq)]⟩, trivial⟩
  · conv => whnf
    have hG : decide (G0 c) = false := decide_eq_false fun hA => g1 hA.1
    refine loopRX tab mixed (ι := { i : Nat // i ≤ c.zones.length }) (κ := Unit) (fun i => [(4, I i.1), (3, B (decide (G0 c ∧ ∀ x ∈ c.zones.take i.1, zP c x)))]) (fun _ => []) 51 (fun i => c.zones.length - i.1) 0 (fun _ => [(3, B (decide (G0 c ∧ ∀ x ∈ c.zones, zP c x)))]) (fun _ => []) 51 ⟨0, by simp⟩ [] ?_
    conv => whnf
    refine ⟨⟨rfl, ⟨⟨⟨rfl, rfl⟩, (by show decide (G0 c ∧ ∀ x ∈ c.zones.take 0, zP c x) = _; rw [← hG]; simp), trivial⟩, trivial⟩, rfl, rfl⟩, fun ⟨i, hi⟩ => ?_, fun _ => ?_⟩
    · conv => whnf
      refine spD (fun h => ?_) (fun h => ?_)
      · have hi' : i < c.zones.length := by rw [r1_len] at h; exact Int.ofNat_lt.1 h
        obtain ⟨x, hx⟩ := get_of hi'
        have hit := take_iff (p := fun x => zP c x) hx
        conv => whnf
        refine ⟨by kernel_rfl, ?_⟩
        conv => whnf
        refine spD (fun hg => ?_) (fun hg => ?_)
        · conv => whnf
          refine ⟨by simp, _, r1_get hx, ?_⟩
          conv => whnf
          refine gv (by omega) (by omega) ?_
          conv => whnf
          refine ⟨_, _, in_c _ _ _, ?_⟩
          conv => whnf
          refine gv (by simp; omega) (by simp; omega) ?_
          conv => whnf
          refine ⟨⟨i + 1, hi'⟩, [], ⟨rfl, ⟨⟨⟨rfl, rfl⟩, ?_, trivial⟩, trivial⟩, rfl, rfl⟩, by simp; omega⟩
          exact decide_eq_decide.2 ⟨fun hA => (hit.1 hA.2).2, fun hp => ⟨hg.1, hit.2 ⟨hg.2, hp⟩⟩⟩
        · conv => whnf
          refine gv (by simp; omega) (by simp; omega) ?_
          conv => whnf
          refine ⟨⟨i + 1, hi'⟩, [], ⟨rfl, ⟨⟨⟨rfl, rfl⟩, ?_, trivial⟩, trivial⟩, rfl, rfl⟩, by simp; omega⟩
          exact decide_eq_false fun hA => hg ⟨hA.1, (hit.1 hA.2).1⟩
      · conv => whnf
        have hi' : i = c.zones.length := by rw [r1_len] at h; simp at h; omega
        subst hi'
        exact ⟨(), [], rfl, ⟨⟨by simp only [List.take_length]; exact rfl, trivial⟩, trivial⟩, rfl, rfl⟩
    conv => whnf
    refine loopRX tab mixed (ι := { i : Nat // i ≤ c.cells.length }) (κ := Unit) (fun i => [(5, I i.1), (3, B (decide ((G0 c ∧ ∀ x ∈ c.zones, zP c x) ∧ ∀ x ∈ c.cells.take i.1, cP c x)))]) (fun _ => []) 51 (fun i => c.cells.length - i.1) 2 (fun _ => [(3, B (decide ((G0 c ∧ ∀ x ∈ c.zones, zP c x) ∧ ∀ x ∈ c.cells, cP c x)))]) (fun _ => []) 51 ⟨0, by simp⟩ [] ?_
    conv => whnf
    refine ⟨⟨rfl, ⟨⟨⟨rfl, rfl⟩, decide_eq_decide.2 ⟨fun h => h.1, fun h => ⟨h, by simp⟩⟩, trivial⟩, trivial⟩, rfl, rfl⟩, fun ⟨i, hi⟩ => ?_, fun _ => ?_⟩
    · conv => whnf
      refine spD (fun h => ?_) (fun h => ?_)
      · have hi' : i < c.cells.length := by rw [r2_len] at h; exact Int.ofNat_lt.1 h
        obtain ⟨x, hx⟩ := get_of hi'
        have hit := take_iff (p := fun x => cP c x) hx
        conv => whnf
        refine ⟨by kernel_rfl, ?_⟩
        conv => whnf
        refine spD (fun hg => ?_) (fun hg => ?_)
        · conv => whnf
          refine ⟨by simp, _, r2_get hx, ?_⟩
          conv => whnf
          rw [hzl]
          refine gv (by omega) (by omega) ?_
          conv => whnf
          refine ⟨_, _, in_c _ _ _, ?_⟩
          conv => whnf
          refine spD (fun h1 => ?_) (fun h1 => ?_)
          · conv => whnf
            refine ⟨by simp, _, r2_get hx, ?_⟩
            conv => whnf
            refine ⟨_, _, in_c _ _ _, ?_⟩
            conv => whnf
            refine gv (by simp; omega) (by simp; omega) ?_
            conv => whnf
            refine ⟨⟨i + 1, hi'⟩, [], ⟨rfl, ⟨⟨⟨rfl, rfl⟩, ?_, trivial⟩, trivial⟩, rfl, rfl⟩, by simp; omega⟩
            exact decide_eq_decide.2 ⟨fun hA => (hit.1 hA.2).2.2, fun hp => ⟨hg.1, hit.2 ⟨hg.2, h1, hp⟩⟩⟩
          · conv => whnf
            refine gv (by simp; omega) (by simp; omega) ?_
            conv => whnf
            refine ⟨⟨i + 1, hi'⟩, [], ⟨rfl, ⟨⟨⟨rfl, rfl⟩, ?_, trivial⟩, trivial⟩, rfl, rfl⟩, by simp; omega⟩
            exact decide_eq_false fun hA => h1 (hit.1 hA.2).2.1
        · conv => whnf
          refine gv (by simp; omega) (by simp; omega) ?_
          conv => whnf
          refine ⟨⟨i + 1, hi'⟩, [], ⟨rfl, ⟨⟨⟨rfl, rfl⟩, ?_, trivial⟩, trivial⟩, rfl, rfl⟩, by simp; omega⟩
          exact decide_eq_false fun hA => hg ⟨hA.1, (hit.1 hA.2).1⟩
      · conv => whnf
        have hi' : i = c.cells.length := by rw [r2_len] at h; simp at h; omega
        subst hi'
        exact ⟨(), [], rfl, ⟨⟨by simp only [List.take_length]; exact rfl, trivial⟩, trivial⟩, rfl, rfl⟩
    conv => whnf
    refine loopRX tab mixed (ι := { i : Nat // i ≤ c.versions.length }) (κ := Unit) (fun i => [(6, I i.1), (3, B (decide (((G0 c ∧ ∀ x ∈ c.zones, zP c x) ∧ ∀ x ∈ c.cells, cP c x) ∧ ∀ x ∈ c.versions.take i.1, vP x)))]) (fun _ => []) 51 (fun i => c.versions.length - i.1) 4 (fun _ => [(3, B (decide (((G0 c ∧ ∀ x ∈ c.zones, zP c x) ∧ ∀ x ∈ c.cells, cP c x) ∧ ∀ x ∈ c.versions, vP x)))]) (fun _ => []) 51 ⟨0, by simp⟩ [] ?_
    conv => whnf
    refine ⟨⟨rfl, ⟨⟨⟨rfl, rfl⟩, decide_eq_decide.2 ⟨fun h => h.1, fun h => ⟨h, by simp⟩⟩, trivial⟩, trivial⟩, rfl, rfl⟩, fun ⟨i, hi⟩ => ?_, fun _ => ?_⟩
    · conv => whnf
      refine spD (fun h => ?_) (fun h => ?_)
      · have hi' : i < c.versions.length := by rw [r2_len] at h; exact Int.ofNat_lt.1 h
        obtain ⟨x, hx⟩ := get_of hi'
        have hit := take_iff (p := fun x => vP x) hx
        conv => whnf
        refine ⟨by kernel_rfl, ?_⟩
        conv => whnf
        refine spD (fun hg => ?_) (fun hg => ?_)
        · conv => whnf
          refine ⟨by simp, _, r2_get hx, ?_⟩
          conv => whnf
          refine ⟨by simp, _, r2_get hx, ?_⟩
          conv => whnf
          refine ⟨_, _, in_c _ _ _, ?_⟩
          conv => whnf
          refine spD (fun h1 => ?_) (fun h1 => ?_)
          · conv => whnf
            refine ⟨by simp, _, r2_get hx, ?_⟩
            conv => whnf
            refine gv (by simp; omega) (by simp; omega) ?_
            conv => whnf
            refine ⟨⟨i + 1, hi'⟩, [], ⟨rfl, ⟨⟨⟨rfl, rfl⟩, ?_, trivial⟩, trivial⟩, rfl, rfl⟩, by simp; omega⟩
            exact decide_eq_decide.2 ⟨fun hA => (hit.1 hA.2).2.2, fun hp => ⟨hg.1, hit.2 ⟨hg.2, h1, hp⟩⟩⟩
          · conv => whnf
            refine gv (by simp; omega) (by simp; omega) ?_
            conv => whnf
            refine ⟨⟨i + 1, hi'⟩, [], ⟨rfl, ⟨⟨⟨rfl, rfl⟩, ?_, trivial⟩, trivial⟩, rfl, rfl⟩, by simp; omega⟩
            exact decide_eq_false fun hA => h1 (hit.1 hA.2).2.1
        · conv => whnf
          refine gv (by simp; omega) (by simp; omega) ?_
          conv => whnf
          refine ⟨⟨i + 1, hi'⟩, [], ⟨rfl, ⟨⟨⟨rfl, rfl⟩, ?_, trivial⟩, trivial⟩, rfl, rfl⟩, by simp; omega⟩
          exact decide_eq_false fun hA => hg ⟨hA.1, (hit.1 hA.2).1⟩
      · conv => whnf
        have hi' : i = c.versions.length := by rw [r2_len] at h; simp at h; omega
        subst hi'
        exact ⟨(), [], rfl, ⟨⟨by simp only [List.take_length]; exact rfl, trivial⟩, trivial⟩, rfl, rfl⟩
    conv => whnf
    have hV := valid_iff c
    refine spN (fun hq => ?_) (fun hq => ?_) <;> conv => whnf
    · exact ⟨[], rfl, ⟨rfl, by unfold valid; rw [if_pos hN, if_neg fun hA => hq (hV.2 hA)]⟩, trivial⟩
    · exact ⟨[], rfl, ⟨rfl, by unfold valid; rw [if_pos hN, if_pos (hV.1 hq)]⟩, trivial⟩

end Go.Proofs.YtelnligfebjjiaaGreat
