/- Plain laws: which plans are accepted; the plan that is made is. No program in sight. Conditions: those ahead of each theorem. -/
import Derived.Test.YtncckpieemmmfaaGreatEvQ
namespace Go.Proofs.YtncckpieemmmfaaGreat
open Go Go.Cpl

def isShedAt (cell : Int) (x : Stp) : Bool := decide (x.kind = 1) && decide (x.cell = cell)

/-- the first step, from one on, that does not shed at a cell -/
def endF (steps : List Stp) (cell : Int) (i : Nat) : Nat := i + ((steps.drop i).takeWhile (isShedAt cell)).length

theorem endF_yes {steps : List Stp} {cell : Int} {i : Nat} {x : Stp} (hx : steps[i]? = some x) (h : isShedAt cell x = true) : endF steps cell i = endF steps cell (i + 1) := by
  unfold endF
  rw [drop_of hx, List.takeWhile_cons, if_pos h]
  simp only [List.length_cons]; omega

theorem endF_no {steps : List Stp} {cell : Int} {i : Nat} {x : Stp} (hx : steps[i]? = some x) (h : isShedAt cell x = false) : endF steps cell i = i := by
  unfold endF
  rw [drop_of hx, List.takeWhile_cons, if_neg (by simp [h])]
  rfl

theorem endF_none {steps : List Stp} {cell : Int} {i : Nat} (hi : steps.length ≤ i) : endF steps cell i = i := by
  unfold endF
  rw [List.drop_eq_nil_of_le hi]; rfl

theorem endF_of {steps : List Stp} {cell : Int} : ∀ (n i : Nat), (∀ j, i ≤ j → j < i + n → ∃ z, steps[j]? = some z ∧ z.kind = 1 ∧ z.cell = cell) → endF steps cell i = endF steps cell (i + n)
  | 0, i, _ => rfl
  | n + 1, i, h => by
    obtain ⟨z, hz, h1, h2⟩ := h i (by omega) (by omega)
    rw [endF_yes hz (by simp [isShedAt, h1, h2]), endF_of n (i + 1) (fun j hj hj' => h j (by omega) (by omega))]
    congr 1; omega

theorem endF_ge (steps : List Stp) (cell : Int) (i : Nat) : i ≤ endF steps cell i := by unfold endF; omega

theorem endF_le (steps : List Stp) (cell : Int) (i : Nat) (hi : i ≤ steps.length) : endF steps cell i ≤ steps.length := by
  unfold endF
  have := (List.takeWhile_sublist (isShedAt cell) (l := steps.drop i)).length_le
  simp at this; omega

/-- a step that sheds is needed -/
def neededF (c : Cfg) (s : St) (steps : List Stp) (i : Int) : Bool :=
  if 0 ≤ i then
    match steps[i.toNat]? with
    | none => false
    | some x => decide (x.kind = 1) && (match steps[endF steps x.cell i.toNat]? with
       | none => false
       | some y => decide (y.kind = 2 ∧ y.cell = x.cell ∧ 0 ≤ y.tenant ∧ y.tenant < c.tenants.length) && ((runF c s (sit0 c s) (steps.take (endF steps x.cell i.toNat))).isSome && (decide (prioOf c x.tenant < prioOf c y.tenant) &&
          (decide (i.toNat + 1 < endF steps x.cell i.toNat) || (match runF c s (sit0 c s) (steps.take i.toNat) with
             | some p => decide (capOf c x.cell < atI p.bk x.cell + ldOf c y.tenant - shOf c y.tenant)
             | none => false)))))
  else false

theorem needed_of {c : Cfg} {s : St} {steps : List Stp} {i : Nat} {x : Stp} {p : Sit} (hx : steps[i]? = some x) (hk : x.kind = 1) (hr : runF c s (sit0 c s) steps = some p) (h : SWit c s steps i x) : neededF c s steps i = true := by
  obtain ⟨en, y, h1, h2, h3, h4, h5, h6, h7, h8⟩ := h
  have e : endF steps x.cell i = en := by
    have := endF_of (steps := steps) (cell := x.cell) (en - i) i (fun j hj hj' => h6 j hj (by omega))
    rw [this, show i + (en - i) = en by omega, endF_no h2 (by simp [isShedAt, h3])]
  obtain ⟨q, hq⟩ := runF_take hr en
  unfold neededF
  rw [if_pos (by omega), show ((i : Int)).toNat = i by omega, hx]
  simp only [e, h2, hq, hk, Option.isSome_some, Bool.true_and]
  rw [decide_eq_true (⟨h3, h4, h5⟩ : y.kind = 2 ∧ y.cell = x.cell ∧ 0 ≤ y.tenant ∧ y.tenant < c.tenants.length)]
  simp only [h7, decide_true, Bool.true_and]
  rcases h8 with h8 | ⟨p, hp, hp'⟩
  · simp [h8]
  · simp [hp, hp']

/-- a tenant would fit in a situation -/
def fitsS (c : Cfg) (s : St) (region : Int) (p : Sit) (x : Int) : Bool :=
  if 0 ≤ x then
    match p.seats[x.toNat]? with
    | none => false
    | some t => t.active && (decide (regionOf c t.home = region) && (usableP c s t.standby && decide (missF c p x t - sumL c (lowL c p.seats t.standby (prioOf c x)) ≤ 0)))
  else false

def fitsF (c : Cfg) (s : St) (region : Int) (steps : List Stp) (x : Int) : Bool :=
  match runF c s (sit0 c s) steps with
  | none => false
  | some p => fitsS c s region p x

/-- the steps of a plan, from one on -/
def chk (c : Cfg) (s : St) (cands : List Int) (full : List Stp) : Nat → Sit → List Stp → Nat × Int
  | i, _, [] => (i, 0)
  | i, p, x :: r => match takeF c s p x with
    | none => (i, 4)
    | some q => if x.kind = 2 ∧ x.tenant ∉ cands then (i, 4) else if overF c q.bk = true then (i, 10) else if x.kind = 1 ∧ neededF c s full i = false then (i, 37) else chk c s cands full (i + 1) q r

def movedL (steps : List Stp) : List Int := (steps.filter fun x => decide (x.kind = 2)).map (·.tenant)

def leftL (c : Cfg) (s : St) (r : Int) (steps : List Stp) : List Int := (cand c s r).filter fun x => !decide (x ∈ movedL steps)

def checkF (c : Cfg) (s : St) (r : Int) (steps : List Stp) (left : List Int) : Int × Int :=
  if r < 0 ∨ c.regions ≤ r then (0, 1) else
    if (chk c s (cand c s r) steps 0 (sit0 c s) steps).2 ≠ 0 then (((chk c s (cand c s r) steps 0 (sit0 c s) steps).1 : Nat), (chk c s (cand c s r) steps 0 (sit0 c s) steps).2) else
      if leftL c s r steps ≠ left then ((steps.length : Nat), 4) else if left.any (fitsF c s r steps) then ((steps.length : Nat), 37) else ((steps.length : Nat), 0)

theorem chk_good {c : Cfg} {s : St} {cands : List Int} {steps full : List Stp} {p : Sit} (h : GoodPlan c s cands steps p) (more : List Stp) (hf : full = steps ++ more) (hr : ∀ (i : Nat) (x : Stp), steps[i]? = some x → x.kind = 1 → neededF c s full i = true) :
    ∀ (n i : Nat) (q : Sit), n + i = steps.length → runF c s (sit0 c s) (steps.take i) = some q → chk c s cands full i q (full.drop i) = chk c s cands full steps.length p (full.drop steps.length)
  | 0, i, q, hi, hq => by
    have : i = steps.length := by omega
    subst this
    rw [List.take_length, h.run] at hq
    cases hq; rfl
  | n + 1, i, q, hi, hq => by
    obtain ⟨x, hx⟩ := get_of (l := steps) (i := i) (by omega)
    have hx' : full[i]? = some x := by rw [hf, List.getElem?_append_left (by omega)]; exact hx
    obtain ⟨q', hq'⟩ := runF_take h.run (i + 1)
    have ht := runF_succ hx hq
    rw [hq'] at ht
    rw [drop_of hx']
    have hc := (h.cap (i + 1) q' hq').over
    have h1 : ¬ (x.kind = 2 ∧ x.tenant ∉ cands) := fun hh => hh.2 (h.mv i x hx hh.1)
    have h2 : ¬ (x.kind = 1 ∧ neededF c s full i = false) := fun hh => by rw [hr i x hx hh.1] at hh; cases hh.2
    simp only [chk, ← ht, hc, h1, h2, if_false, Bool.false_eq_true]
    exact chk_good h more hf hr n (i + 1) q' (by omega) hq'

theorem good_need {c : Cfg} {s : St} {cands : List Int} {steps : List Stp} {p : Sit} (h : GoodPlan c s cands steps p) : ∀ (i : Nat) (x : Stp), steps[i]? = some x → x.kind = 1 → neededF c s steps i = true :=
  fun i x hx hk => needed_of hx hk h.run (h.need i x hx hk)

theorem chk_ok {c : Cfg} {s : St} {cands : List Int} {steps : List Stp} {p : Sit} (h : GoodPlan c s cands steps p) : chk c s cands steps 0 (sit0 c s) steps = (steps.length, 0) := by
  have := chk_good h [] (by simp) (good_need h) steps.length 0 (sit0 c s) (by omega) rfl
  rw [List.drop_zero, List.drop_length] at this
  rw [this]; rfl

/-- what is made -/
structure MadePlan (c : Cfg) (s : St) (r : Int) (steps : List Stp) (left : List Int) (p : Sit) : Prop where
  good : GoodPlan c s (cand c s r) steps p
  lft : left = leftL c s r steps
  fin : ∀ x ∈ left, stepsF c s p x = []
  first : steps ≠ [] → ∃ x ∈ cand c s r, stepsF c s (sit0 c s) x ≠ []
  len : steps.length ≤ 200

theorem fits_steps {c : Cfg} {s : St} {r : Int} {p : Sit} {x : Int} (h : fitsS c s r p x = true) : stepsF c s p x ≠ [] := by
  unfold fitsS at h
  split at h
  · split at h
    · cases h
    · rename_i t ht
      simp only [Bool.and_eq_true, decide_eq_true_eq] at h
      obtain ⟨ha, _, hu, hm⟩ := h
      unfold stepsF
      rw [ht]
      simp only [ha, hu, and_self, if_true]
      split
      · rename_i hp
        have := pickM_pos _ _ hp
        have hs := sumL_perm c (sOrd_perm c (lowL_ne c p.seats t.standby (prioOf c x)))
        unfold pickOf at hp
        omega
      · simp
  · cases h

/-- the plan that is made is right -/
theorem made_accepted {c : Cfg} {s : St} {r : Int} {steps : List Stp} {left : List Int} {p : Sit} (hr : 0 ≤ r ∧ r < c.regions) (h : MadePlan c s r steps left p) : checkF c s r steps left = (((steps.length : Nat) : Int), 0) := by
  unfold checkF
  rw [if_neg (by omega), chk_ok h.good, if_neg (by simp), if_neg (by rw [← h.lft]; simp)]
  have : left.any (fitsF c s r steps) = false := by
    rw [List.any_eq_false]
    intro x hx hf
    unfold fitsF at hf
    rw [h.good.run] at hf
    exact fits_steps hf (h.fin x hx)
  rw [this]; rfl

theorem check_arg (c : Cfg) (s : St) (steps : List Stp) (left : List Int) : checkF c s (-1) steps left = (0, 1) := by
  unfold checkF; rw [if_pos (by omega)]

end Go.Proofs.YtncckpieemmmfaaGreat
