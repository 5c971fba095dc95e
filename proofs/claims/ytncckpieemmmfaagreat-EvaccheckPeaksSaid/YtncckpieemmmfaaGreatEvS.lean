/- Plain laws: how far steps can be taken, what is booked at most, where the checker stops. No program in sight. Conditions: those ahead of each theorem. -/
import Derived.Test.YtncckpieemmmfaaGreatEvF
namespace Go.Proofs.YtncckpieemmmfaaGreat
open Go Go.Cpl

/-- the situation in which the steps come to an end, or stop -/
def goF (c : Cfg) (s : St) : Sit → List Stp → Sit
  | p, [] => p
  | p, x :: r => match takeF c s p x with
    | none => p
    | some q => goF c s q r

/-- the number of steps that can be taken -/
def cntF (c : Cfg) (s : St) : Sit → List Stp → Nat
  | _, [] => 0
  | p, x :: r => match takeF c s p x with
    | none => 0
    | some q => cntF c s q r + 1

theorem go_run {c : Cfg} {s : St} : ∀ {l : List Stp} {p q : Sit}, runF c s p l = some q → goF c s p l = q ∧ cntF c s p l = l.length
  | [], p, q, h => by cases h; exact ⟨rfl, rfl⟩
  | x :: l, p, q, h => by
    simp only [runF] at h
    simp only [goF, cntF]
    cases e : takeF c s p x with
    | none => rw [e] at h; cases h
    | some r =>
      rw [e] at h
      have := go_run h
      simp only [List.length_cons]
      exact ⟨this.1, by rw [this.2]⟩

theorem cntF_none {c : Cfg} {s : St} : ∀ {l : List Stp} {p : Sit}, runF c s p l = none → cntF c s p l < l.length
  | [], p, h => by cases h
  | x :: l, p, h => by
    simp only [runF] at h
    simp only [cntF, List.length_cons]
    cases e : takeF c s p x with
    | none => dsimp only; omega
    | some r =>
      rw [e] at h
      have := cntF_none h
      dsimp only; omega

theorem run_is (c : Cfg) (s : St) (p : Sit) (l : List Stp) : (runF c s p l).isSome = decide ((cntF c s p l : Int) = l.length) := by
  cases h : runF c s p l with
  | none => have := cntF_none h; simp; omega
  | some q => have := (go_run h).2; simp; omega

/-- one step of a loop over steps -/
theorem go_step {c : Cfg} {s : St} {p q : Sit} {l : List Stp} {i : Nat} {x : Stp} (hx : l[i]? = some x) (hq : takeF c s p x = some q) : goF c s p (l.drop i) = goF c s q (l.drop (i + 1)) ∧ cntF c s p (l.drop i) = cntF c s q (l.drop (i + 1)) + 1 := by
  rw [drop_of hx]; simp [goF, cntF, hq]

theorem go_stop {c : Cfg} {s : St} {p : Sit} {l : List Stp} {i : Nat} {x : Stp} (hx : l[i]? = some x) (hq : takeF c s p x = none) : goF c s p (l.drop i) = p ∧ cntF c s p (l.drop i) = 0 := by
  rw [drop_of hx]; simp [goF, cntF, hq]

theorem go_end {c : Cfg} {s : St} {p : Sit} {l : List Stp} {i : Nat} (hi : l.length ≤ i) : goF c s p (l.drop i) = p ∧ cntF c s p (l.drop i) = 0 := by
  rw [List.drop_eq_nil_of_le hi]; exact ⟨rfl, rfl⟩

/-! peaks -/

def maxL : List Int → List Int → List Int := List.zipWith fun a b => if b > a then b else a

theorem maxL_len {a b : List Int} (h : a.length = b.length) : (maxL a b).length = a.length := by simp [maxL, h]

theorem maxL_at {a b : List Int} (h : a.length = b.length) (k : Int) (hk : 0 ≤ k ∧ k < a.length) : atI (maxL a b) k = if atI b k > atI a k then atI b k else atI a k := by
  obtain ⟨x, hx⟩ := get_int (l := a) hk.1 (by omega)
  obtain ⟨y, hy⟩ := get_int (l := b) hk.1 (by omega)
  have : (maxL a b)[k.toNat]? = some (if y > x then y else x) := by simp [maxL, List.getElem?_zipWith, hx, hy]
  rw [atI_get this, atI_get hx, atI_get hy]

def peakF (c : Cfg) (s : St) : Sit → List Stp → List Int → List Int
  | _, [], l => l
  | p, x :: r, l => match takeF c s p x with
    | none => l
    | some q => peakF c s q r (maxL l q.bk)

theorem peak_len {c : Cfg} {s : St} : ∀ {l : List Stp} {p : Sit} {m : List Int}, m.length = p.bk.length → (peakF c s p l m).length = m.length
  | [], p, m, h => rfl
  | x :: l, p, m, h => by
    simp only [peakF]
    cases e : takeF c s p x with
    | none => rfl
    | some q =>
      have hb := take_blen e
      have h1 := maxL_len (a := m) (b := q.bk) (by omega)
      have := peak_len (c := c) (s := s) (l := l) (p := q) (m := maxL m q.bk) (by omega)
      dsimp only; omega

theorem peak_ge {c : Cfg} {s : St} {k : Int} : ∀ {l : List Stp} {p : Sit} {m : List Int}, m.length = p.bk.length → (0 ≤ k ∧ k < m.length) → atI m k ≤ atI (peakF c s p l m) k
  | [], p, m, h, hk => by simp [peakF]
  | x :: l, p, m, h, hk => by
    simp only [peakF]
    cases e : takeF c s p x with
    | none => simp
    | some q =>
      have hb := take_blen e
      have h1 := maxL_len (a := m) (b := q.bk) (by omega)
      have h2 := maxL_at (a := m) (b := q.bk) (by omega) k hk
      have := peak_ge (c := c) (s := s) (k := k) (l := l) (p := q) (m := maxL m q.bk) (by omega) (by omega)
      dsimp only
      split at h2 <;> omega

theorem peak_step {c : Cfg} {s : St} {p q : Sit} {l : List Stp} {i : Nat} {x : Stp} {m : List Int} (hx : l[i]? = some x) (hq : takeF c s p x = some q) : peakF c s p (l.drop i) m = peakF c s q (l.drop (i + 1)) (maxL m q.bk) := by
  rw [drop_of hx]; simp only [peakF, hq]

theorem peak_stop {c : Cfg} {s : St} {p : Sit} {l : List Stp} {i : Nat} {x : Stp} {m : List Int} (hx : l[i]? = some x) (hq : takeF c s p x = none) : peakF c s p (l.drop i) m = m := by
  rw [drop_of hx]; simp only [peakF, hq]

theorem peak_end {c : Cfg} {s : St} {p : Sit} {l : List Stp} {i : Nat} {m : List Int} (hi : l.length ≤ i) : peakF c s p (l.drop i) m = m := by
  rw [List.drop_eq_nil_of_le hi]; rfl

/-! the checker -/

/-- what is wrong behind a step -/
def errF (c : Cfg) (s : St) (cands : List Int) (full : List Stp) (i : Nat) (x : Stp) (bk : List Int) : Int :=
  if x.kind = 2 ∧ x.tenant ∉ cands then 4 else if overF c bk = true then 10 else if x.kind = 1 ∧ neededF c s full i = false then 37 else 0

/-- the steps of a plan, from one on: where they stop, with which error, in which situation -/
def chk2 (c : Cfg) (s : St) (cands : List Int) (full : List Stp) : Nat → Sit → List Stp → (Nat × Int) × Sit
  | i, p, [] => ((i, 0), p)
  | i, p, x :: r => match takeF c s p x with
    | none => ((i, 0), p)
    | some q => if errF c s cands full i x q.bk ≠ 0 then ((i, errF c s cands full i x q.bk), q) else chk2 c s cands full (i + 1) q r

theorem chk2_chk (c : Cfg) (s : St) (cands : List Int) (full : List Stp) : ∀ (l : List Stp) (i : Nat) (p : Sit), (chk2 c s cands full i p l).1.1 ≤ i + l.length ∧
    chk c s cands full i p l = ((chk2 c s cands full i p l).1.1, if (chk2 c s cands full i p l).1.2 ≠ 0 then (chk2 c s cands full i p l).1.2 else if (chk2 c s cands full i p l).1.1 < i + l.length then 4 else 0)
  | [], i, p => by simp [chk2, chk]
  | x :: r, i, p => by
    rcases Option.eq_none_or_eq_some (takeF c s p x) with e | ⟨q, e⟩
    · have e1 : chk2 c s cands full i p (x :: r) = ((i, 0), p) := by simp only [chk2, e]
      have e2 : chk c s cands full i p (x :: r) = (i, 4) := by simp only [chk, e]
      rw [e1, e2]; simp
    · have ih := chk2_chk c s cands full r (i + 1) q
      have e1 : chk2 c s cands full i p (x :: r) = if errF c s cands full i x q.bk ≠ 0 then ((i, errF c s cands full i x q.bk), q) else chk2 c s cands full (i + 1) q r := by simp only [chk2, e]
      have e2 : chk c s cands full i p (x :: r) = if x.kind = 2 ∧ x.tenant ∉ cands then (i, 4) else if overF c q.bk = true then (i, 10) else if x.kind = 1 ∧ neededF c s full i = false then (i, 37) else chk c s cands full (i + 1) q r := by simp only [chk, e]
      by_cases h1 : x.kind = 2 ∧ x.tenant ∉ cands
      · have e3 : errF c s cands full i x q.bk = 4 := by unfold errF; rw [if_pos h1]
        rw [e3, if_pos (by omega)] at e1
        rw [if_pos h1] at e2
        rw [e1, e2]; simp
      · rw [if_neg h1] at e2
        by_cases h2 : overF c q.bk = true
        · have e3 : errF c s cands full i x q.bk = 10 := by unfold errF; rw [if_neg h1, if_pos h2]
          rw [e3, if_pos (by omega)] at e1
          rw [if_pos h2] at e2
          rw [e1, e2]; simp
        · rw [if_neg h2] at e2
          by_cases h3 : x.kind = 1 ∧ neededF c s full i = false
          · have e3 : errF c s cands full i x q.bk = 37 := by unfold errF; rw [if_neg h1, if_neg h2, if_pos h3]
            rw [e3, if_pos (by omega)] at e1
            rw [if_pos h3] at e2
            rw [e1, e2]; simp
          · have e3 : errF c s cands full i x q.bk = 0 := by unfold errF; rw [if_neg h1, if_neg h2, if_neg h3]
            rw [e3, if_neg (by omega)] at e1
            rw [if_neg h3] at e2
            rw [e1, e2, List.length_cons, show i + (r.length + 1) = i + 1 + r.length by omega]
            exact ih

theorem chk2_step {c : Cfg} {s : St} {cands : List Int} {full l : List Stp} {i : Nat} {p q : Sit} {x : Stp} (hx : l[i]? = some x) (hq : takeF c s p x = some q) : chk2 c s cands full i p (l.drop i) = if errF c s cands full i x q.bk ≠ 0 then ((i, errF c s cands full i x q.bk), q) else chk2 c s cands full (i + 1) q (l.drop (i + 1)) := by
  rw [drop_of hx]; simp only [chk2, hq]

theorem chk2_stop {c : Cfg} {s : St} {cands : List Int} {full l : List Stp} {i : Nat} {p : Sit} {x : Stp} (hx : l[i]? = some x) (hq : takeF c s p x = none) : chk2 c s cands full i p (l.drop i) = ((i, 0), p) := by
  rw [drop_of hx]; simp only [chk2, hq]

theorem chk2_end {c : Cfg} {s : St} {cands : List Int} {full l : List Stp} {i : Nat} {p : Sit} (hi : l.length ≤ i) : chk2 c s cands full i p (l.drop i) = ((i, 0), p) := by
  rw [List.drop_eq_nil_of_le hi]; rfl

/-- the checker's answer in terms of where the steps stop -/
theorem check_eq {c : Cfg} {s : St} {r : Int} {steps : List Stp} {left : List Int} (hr : 0 ≤ r ∧ r < c.regions) {n : Nat} {e : Int} {p : Sit} (h : chk2 c s (cand c s r) steps 0 (sit0 c s) steps = ((n, e), p)) : n ≤ steps.length ∧ checkF c s r steps left =
    if e ≠ 0 then ((n : Int), e) else if n < steps.length then ((n : Int), 4) else if leftL c s r steps ≠ left then ((n : Int), 4) else if left.any (fitsF c s r steps) then ((n : Int), 37) else ((n : Int), 0) := by
  have h1 := chk2_chk c s (cand c s r) steps steps 0 (sit0 c s)
  rw [h] at h1
  simp only [Nat.zero_add] at h1
  refine ⟨h1.1, ?_⟩
  unfold checkF
  rw [if_neg (by omega), h1.2]
  by_cases he : e = 0
  · subst he
    simp only [ne_eq, not_true, if_false]
    by_cases hn : n < steps.length
    · simp [hn]
    · have : n = steps.length := by omega
      subst this
      simp
  · simp [he]

end Go.Proofs.YtncckpieemmmfaaGreat
