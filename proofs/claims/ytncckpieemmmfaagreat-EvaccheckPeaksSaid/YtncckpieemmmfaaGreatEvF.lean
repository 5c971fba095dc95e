/- Plain laws: how a plan is made, round by round. No program in sight. Conditions: those ahead of each theorem. -/
import Derived.Test.YtncckpieemmmfaaGreatEvR
namespace Go.Proofs.YtncckpieemmmfaaGreat
open Go Go.Cpl

theorem cand_nodup (c : Cfg) (s : St) (r : Int) : (cand c s r).Pairwise (· ≠ ·) := by
  unfold cand
  exact ((order_ok c).2.1.imp fun {a b} h e => by
    subst e
    unfold bef cmpT at h
    simp [orV, cmpV] at h).filter _

theorem cand_in {c : Cfg} {s : St} {r x : Int} (h : x ∈ cand c s r) : 0 ≤ x ∧ x < c.tenants.length := ((order_ok c).2.2 x).1 (List.mem_filter.1 h).1

theorem cand_len (c : Cfg) (s : St) (r : Int) : (cand c s r).length ≤ c.tenants.length := by
  have h1 := List.length_filter_le (candP c s r) (order c)
  have h2 := (order_ok c).1
  unfold cand; omega

theorem movedL_app (l m : List Stp) : movedL (l ++ m) = movedL l ++ movedL m := by simp [movedL]

theorem movedL_sheds {cell : Int} (ys : List Int) : movedL (ys.map (shS cell)) = [] := by
  unfold movedL
  rw [List.filter_eq_nil_iff.2]
  · rfl
  · intro x hx
    have := map_mem_kind x hx
    simp [this]

theorem stepsF_moved {c : Cfg} {s : St} {p : Sit} {x : Int} (h : stepsF c s p x ≠ []) : movedL (stepsF c s p x) = [x] := by
  obtain ⟨t, _, _, _, _, e⟩ := stepsF_view h
  rw [e, movedL_app, movedL_sheds]
  rfl

theorem stepsF_len {c : Cfg} {s : St} {p : Sit} {x : Int} : (stepsF c s p x).length ≤ p.seats.length + 1 := by
  by_cases h : stepsF c s p x = []
  · rw [h]; simp
  obtain ⟨t, _, _, _, _, e⟩ := stepsF_view h
  have h1 := (pickM_sub (c := c) (sOrd c (lowL c p.seats t.standby (prioOf c x))) (missF c p x t)).length_le
  have h2 := upto_le (lowP c p.seats t.standby (prioOf c x)) p.seats.length
  have h3 : (sOrd c (lowL c p.seats t.standby (prioOf c x))).length = (lowL c p.seats t.standby (prioOf c x)).length := by unfold sOrd; rw [isort_len]
  rw [e]
  unfold pickOf
  unfold lowL at h3 h1 ⊢
  simp only [List.length_append, List.length_map, List.length_singleton]
  omega

/-- a plan in the making: the tenants that wait are the candidates that were not moved -/
structure PI (c : Cfg) (s : St) (r : Int) (steps : List Stp) (pend : List Int) (p : Sit) : Prop where
  good : GoodPlan c s (cand c s r) steps p
  lft : pend = leftL c s r steps
  first : steps ≠ [] → ∃ x ∈ cand c s r, stepsF c s (sit0 c s) x ≠ []
  len : steps.length + 13 * pend.length ≤ 13 * (cand c s r).length

theorem leftL_nil (c : Cfg) (s : St) (r : Int) : leftL c s r [] = cand c s r := by simp [leftL, movedL]

theorem pi_nil {c : Cfg} {s : St} (h : StOk c s) (r : Int) : PI c s r [] (cand c s r) (sit0 c s) :=
  ⟨good_nil h _, (leftL_nil c s r).symm, fun q => absurd rfl q, by simp⟩

theorem filter_ne {A R : List Int} {x : Int} (h : (A ++ x :: R).Pairwise (· ≠ ·)) : (A ++ x :: R).filter (fun y => !decide (y = x)) = A ++ R := by
  rw [List.pairwise_append] at h
  obtain ⟨_, h2, h3⟩ := h
  rw [List.pairwise_cons] at h2
  rw [List.filter_append, List.filter_cons]
  simp only [decide_true, Bool.not_true, Bool.false_eq_true, if_false]
  rw [List.filter_eq_self.2 fun y hy => by have := h3 y hy x (by simp); simpa using this, List.filter_eq_self.2 fun y hy => by have := h2.1 y hy; simpa using this.symm]

theorem leftL_app {c : Cfg} {s : St} {r : Int} {steps l : List Stp} {A R : List Int} {x : Int} (h : A ++ x :: R = leftL c s r steps) (hm : movedL l = [x]) : A ++ R = leftL c s r (steps ++ l) := by
  have hp : (A ++ x :: R).Pairwise (· ≠ ·) := by rw [h]; exact (cand_nodup c s r).filter _
  rw [← filter_ne hp, h]
  unfold leftL
  rw [movedL_app, hm, List.filter_filter]
  refine List.filter_congr fun y _ => ?_
  simp only [List.mem_append, List.mem_singleton]
  by_cases h1 : y ∈ movedL steps <;> by_cases h2 : y = x <;> simp [h1, h2]

/-- one more tenant: it is moved if it can be -/
theorem PI.go {c : Cfg} (w : WG c) {s : St} (hs : StOk c s) {r : Int} {steps : List Stp} {A R : List Int} {x : Int} {p : Sit} (h : PI c s r steps (A ++ x :: R) p) :
    ∃ p', runF c s p (stepsF c s p x) = some p' ∧ (stepsF c s p x = [] → p' = p) ∧ (stepsF c s p x ≠ [] → PI c s r (steps ++ stepsF c s p x) (A ++ R) p') ∧ (stepsF c s p x).length ≤ 13 ∧ (0 ≤ x ∧ x < c.tenants.length) := by
  have hxc : x ∈ cand c s r := by
    have : x ∈ leftL c s r steps := by rw [← h.lft]; simp
    exact (List.mem_filter.1 this).1
  have hxr := cand_in hxc
  have hfew := w.few
  have hok := run_ok steps (sit0_ok hs) h.good.run
  have hsl := stepsF_len (c := c) (s := s) (p := p) (x := x)
  have hn := hok.n
  by_cases hne : stepsF c s p x = []
  · exact ⟨p, by rw [hne]; rfl, fun _ => rfl, fun q => absurd hne q, by omega, hxr⟩
  · obtain ⟨p', h1, h2⟩ := good_app w.good hs h.good hxc hxr hne
    refine ⟨p', h1, fun q => absurd q hne, fun _ => ⟨h2, leftL_app h.lft (stepsF_moved hne), fun _ => ?_, ?_⟩, by omega, hxr⟩
    · by_cases he : steps = []
      · have hr := h.good.run
        rw [he] at hr
        cases hr
        exact ⟨x, hxc, hne⟩
      · exact h.first he
    · have := h.len
      simp only [List.length_append, List.length_cons] at this ⊢
      omega

theorem PI.made {c : Cfg} (w : WG c) {s : St} {r : Int} {steps : List Stp} {left : List Int} {p : Sit} (h : PI c s r steps left p) (hf : ∀ x ∈ left, stepsF c s p x = []) : MadePlan c s r steps left p := by
  have h1 := h.len
  have h2 := cand_len c s r
  have h3 := w.few
  exact ⟨h.good, h.lft, hf, h.first, by omega⟩

theorem PI.sz {c : Cfg} (w : WG c) {s : St} {r : Int} {steps : List Stp} {pend : List Int} {p : Sit} (h : PI c s r steps pend p) (hb : Sz c 100000000 (sit0 c s).seats (sit0 c s).bk) : Sz c 200000000 p.seats p.bk := by
  have h1 := h.len
  have h2 := cand_len c s r
  have h3 := w.few
  have := run_sz w.good steps hb (by omega) h.good.run
  exact ⟨this.n, this.k, fun x hx => by have := this.bd x hx; omega, by omega⟩

end Go.Proofs.YtncckpieemmmfaaGreat
