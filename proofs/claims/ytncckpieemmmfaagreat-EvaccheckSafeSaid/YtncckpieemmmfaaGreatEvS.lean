/- Plain laws: how far steps can be taken, what is booked at most, where the checker stops. No program in sight. Conditions: those ahead of each theorem. -/
import Derived.Test.YtncckpieemmmfaaGreatEvF
namespace Go.Proofs.YtncckpieemmmfaaGreat
open Go Go.Cpl

/-- the situation in which the steps come to an end, or stop -/
def goF (c : Cfg) (s : St) : Sit → List Stp → Sit
  | p, [] => p
  | p, x :: r => match takeF c s p x with
    | none => p
    | some q => goF c s q r

/-- the number of steps that can be taken -/
def cntF (c : Cfg) (s : St) : Sit → List Stp → Nat
  | _, [] => 0
  | p, x :: r => match takeF c s p x with
    | none => 0
    | some q => cntF c s q r + 1

theorem go_run {c : Cfg} {s : St} : ∀ {l : List Stp} {p q : Sit}, runF c s p l = some q → goF c s p l = q ∧ cntF c s p l = l.length
  | [], p, q, h => by cases h; exact ⟨rfl, rfl⟩
  | x :: l, p, q, h => by
    simp only [runF] at h
    simp only [goF, cntF]
    cases e : takeF c s p x with
    | none => rw [e] at h; cases h
    | some r =>
      rw [e] at h
      have := go_run h
      simp only [List.length_cons]
      exact ⟨this.1, by rw [this.2]⟩

theorem cntF_none {c : Cfg} {s : St} : ∀ {l : List Stp} {p : Sit}, runF c s p l = none → cntF c s p l < l.length
  | [], p, h => by cases h
  | x :: l, p, h => by
    simp only [runF] at h
    simp only [cntF, List.length_cons]
    cases e : takeF c s p x with
    | none => dsimp only; omega
    | some r =>
      rw [e] at h
      have := cntF_none h
      dsimp only; omega

theorem cntF_le (c : Cfg) (s : St) (p : Sit) (l : List Stp) : cntF c s p l ≤ l.length := by
  cases h : runF c s p l with
  | none => have := cntF_none h; omega
  | some q => have := (go_run h).2; omega

theorem run_is (c : Cfg) (s : St) (p : Sit) (l : List Stp) : (runF c s p l).isSome = decide ((cntF c s p l : Int) = l.length) := by
  cases h : runF c s p l with
  | none => have := cntF_none h; simp; omega
  | some q => have := (go_run h).2; simp; omega

/-- one step of a loop over steps -/
theorem go_step {c : Cfg} {s : St} {p q : Sit} {l : List Stp} {i : Nat} {x : Stp} (hx : l[i]? = some x) (hq : takeF c s p x = some q) : goF c s p (l.drop i) = goF c s q (l.drop (i + 1)) ∧ cntF c s p (l.drop i) = cntF c s q (l.drop (i + 1)) + 1 := by
  rw [drop_of hx]; simp [goF, cntF, hq]

theorem go_stop {c : Cfg} {s : St} {p : Sit} {l : List Stp} {i : Nat} {x : Stp} (hx : l[i]? = some x) (hq : takeF c s p x = none) : goF c s p (l.drop i) = p ∧ cntF c s p (l.drop i) = 0 := by
  rw [drop_of hx]; simp [goF, cntF, hq]

theorem go_end {c : Cfg} {s : St} {p : Sit} {l : List Stp} {i : Nat} (hi : l.length ≤ i) : goF c s p (l.drop i) = p ∧ cntF c s p (l.drop i) = 0 := by
  rw [List.drop_eq_nil_of_le hi]; exact ⟨rfl, rfl⟩

/-! peaks -/

def maxL : List Int → List Int → List Int := List.zipWith fun a b => if b > a then b else a

theorem maxL_len {a b : List Int} (h : a.length = b.length) : (maxL a b).length = a.length := by simp [maxL, h]

theorem maxL_at {a b : List Int} (h : a.length = b.length) (k : Int) (hk : 0 ≤ k ∧ k < a.length) : atI (maxL a b) k = if atI b k > atI a k then atI b k else atI a k := by
  obtain ⟨x, hx⟩ := get_int (l := a) hk.1 (by omega)
  obtain ⟨y, hy⟩ := get_int (l := b) hk.1 (by omega)
  have : (maxL a b)[k.toNat]? = some (if y > x then y else x) := by simp [maxL, List.getElem?_zipWith, hx, hy]
  rw [atI_get this, atI_get hx, atI_get hy]

def peakF (c : Cfg) (s : St) : Sit → List Stp → List Int → List Int
  | _, [], l => l
  | p, x :: r, l => match takeF c s p x with
    | none => l
    | some q => peakF c s q r (maxL l q.bk)

theorem peak_len {c : Cfg} {s : St} : ∀ {l : List Stp} {p : Sit} {m : List Int}, m.length = p.bk.length → (peakF c s p l m).length = m.length
  | [], p, m, h => rfl
  | x :: l, p, m, h => by
    simp only [peakF]
    cases e : takeF c s p x with
    | none => rfl
    | some q =>
      have hb := take_blen e
      have h1 := maxL_len (a := m) (b := q.bk) (by omega)
      have := peak_len (c := c) (s := s) (l := l) (p := q) (m := maxL m q.bk) (by omega)
      dsimp only; omega

theorem peak_ge {c : Cfg} {s : St} {k : Int} : ∀ {l : List Stp} {p : Sit} {m : List Int}, m.length = p.bk.length → (0 ≤ k ∧ k < m.length) → atI m k ≤ atI (peakF c s p l m) k
  | [], p, m, h, hk => by simp [peakF]
  | x :: l, p, m, h, hk => by
    simp only [peakF]
    cases e : takeF c s p x with
    | none => simp
    | some q =>
      have hb := take_blen e
      have h1 := maxL_len (a := m) (b := q.bk) (by omega)
      have h2 := maxL_at (a := m) (b := q.bk) (by omega) k hk
      have := peak_ge (c := c) (s := s) (k := k) (l := l) (p := q) (m := maxL m q.bk) (by omega) (by omega)
      dsimp only
      split at h2 <;> omega

theorem peak_le {c : Cfg} {s : St} {k : Int} : ∀ {l : List Stp} {p : Sit} {m : List Int}, m.length = p.bk.length → (0 ≤ k ∧ k < m.length) → atI m k ≤ capOf c k → (∀ (i : Nat) (q : Sit), runF c s p (l.take i) = some q → atI q.bk k ≤ capOf c k) → atI (peakF c s p l m) k ≤ capOf c k
  | [], p, m, h, hk, hm, _ => by simpa [peakF] using hm
  | x :: l, p, m, h, hk, hm, hr => by
    simp only [peakF]
    cases e : takeF c s p x with
    | none => simpa using hm
    | some q =>
      have hb := take_blen e
      have h1 := maxL_len (a := m) (b := q.bk) (by omega)
      have h2 := maxL_at (a := m) (b := q.bk) (by omega) k hk
      have h3 := hr 1 q (by rw [List.take_succ_cons, List.take_zero]; simp only [runF, e])
      refine peak_le (l := l) (p := q) (m := maxL m q.bk) (by omega) (by omega) (by split at h2 <;> omega) fun i q' hq' => hr (i + 1) q' ?_
      rw [List.take_succ_cons]; simp only [runF, e]; exact hq'

theorem peak_step {c : Cfg} {s : St} {p q : Sit} {l : List Stp} {i : Nat} {x : Stp} {m : List Int} (hx : l[i]? = some x) (hq : takeF c s p x = some q) : peakF c s p (l.drop i) m = peakF c s q (l.drop (i + 1)) (maxL m q.bk) := by
  rw [drop_of hx]; simp only [peakF, hq]

theorem peak_stop {c : Cfg} {s : St} {p : Sit} {l : List Stp} {i : Nat} {x : Stp} {m : List Int} (hx : l[i]? = some x) (hq : takeF c s p x = none) : peakF c s p (l.drop i) m = m := by
  rw [drop_of hx]; simp only [peakF, hq]

theorem peak_end {c : Cfg} {s : St} {p : Sit} {l : List Stp} {i : Nat} {m : List Int} (hi : l.length ≤ i) : peakF c s p (l.drop i) m = m := by
  rw [List.drop_eq_nil_of_le hi]; rfl

/-! the checker -/

/-- what is wrong behind a step -/
def errF (c : Cfg) (s : St) (cands : List Int) (full : List Stp) (i : Nat) (x : Stp) (bk : List Int) : Int :=
  if x.kind = 2 ∧ x.tenant ∉ cands then 4 else if overF c bk = true then 10 else if x.kind = 1 ∧ neededF c s full i = false then 37 else 0

/-- the steps of a plan, from one on: where they stop, with which error, in which situation -/
def chk2 (c : Cfg) (s : St) (cands : List Int) (full : List Stp) : Nat → Sit → List Stp → (Nat × Int) × Sit
  | i, p, [] => ((i, 0), p)
  | i, p, x :: r => match takeF c s p x with
    | none => ((i, 0), p)
    | some q => if errF c s cands full i x q.bk ≠ 0 then ((i, errF c s cands full i x q.bk), q) else chk2 c s cands full (i + 1) q r

theorem chk2_chk (c : Cfg) (s : St) (cands : List Int) (full : List Stp) : ∀ (l : List Stp) (i : Nat) (p : Sit), (chk2 c s cands full i p l).1.1 ≤ i + l.length ∧
    chk c s cands full i p l = ((chk2 c s cands full i p l).1.1, if (chk2 c s cands full i p l).1.2 ≠ 0 then (chk2 c s cands full i p l).1.2 else if (chk2 c s cands full i p l).1.1 < i + l.length then 4 else 0)
  | [], i, p => by simp [chk2, chk]
  | x :: r, i, p => by
    rcases Option.eq_none_or_eq_some (takeF c s p x) with e | ⟨q, e⟩
    · have e1 : chk2 c s cands full i p (x :: r) = ((i, 0), p) := by simp only [chk2, e]
      have e2 : chk c s cands full i p (x :: r) = (i, 4) := by simp only [chk, e]
      rw [e1, e2]; simp
    · have ih := chk2_chk c s cands full r (i + 1) q
      have e1 : chk2 c s cands full i p (x :: r) = if errF c s cands full i x q.bk ≠ 0 then ((i, errF c s cands full i x q.bk), q) else chk2 c s cands full (i + 1) q r := by simp only [chk2, e]
      have e2 : chk c s cands full i p (x :: r) = if x.kind = 2 ∧ x.tenant ∉ cands then (i, 4) else if overF c q.bk = true then (i, 10) else if x.kind = 1 ∧ neededF c s full i = false then (i, 37) else chk c s cands full (i + 1) q r := by simp only [chk, e]
      by_cases h1 : x.kind = 2 ∧ x.tenant ∉ cands
      · have e3 : errF c s cands full i x q.bk = 4 := by unfold errF; rw [if_pos h1]
        rw [e3, if_pos (by omega)] at e1
        rw [if_pos h1] at e2
        rw [e1, e2]; simp
      · rw [if_neg h1] at e2
        by_cases h2 : overF c q.bk = true
        · have e3 : errF c s cands full i x q.bk = 10 := by unfold errF; rw [if_neg h1, if_pos h2]
          rw [e3, if_pos (by omega)] at e1
          rw [if_pos h2] at e2
          rw [e1, e2]; simp
        · rw [if_neg h2] at e2
          by_cases h3 : x.kind = 1 ∧ neededF c s full i = false
          · have e3 : errF c s cands full i x q.bk = 37 := by unfold errF; rw [if_neg h1, if_neg h2, if_pos h3]
            rw [e3, if_pos (by omega)] at e1
            rw [if_pos h3] at e2
            rw [e1, e2]; simp
          · have e3 : errF c s cands full i x q.bk = 0 := by unfold errF; rw [if_neg h1, if_neg h2, if_neg h3]
            rw [e3, if_neg (by omega)] at e1
            rw [if_neg h3] at e2
            rw [e1, e2, List.length_cons, show i + (r.length + 1) = i + 1 + r.length by omega]
            exact ih

theorem chk2_step {c : Cfg} {s : St} {cands : List Int} {full l : List Stp} {i : Nat} {p q : Sit} {x : Stp} (hx : l[i]? = some x) (hq : takeF c s p x = some q) : chk2 c s cands full i p (l.drop i) = if errF c s cands full i x q.bk ≠ 0 then ((i, errF c s cands full i x q.bk), q) else chk2 c s cands full (i + 1) q (l.drop (i + 1)) := by
  rw [drop_of hx]; simp only [chk2, hq]

theorem chk2_stop {c : Cfg} {s : St} {cands : List Int} {full l : List Stp} {i : Nat} {p : Sit} {x : Stp} (hx : l[i]? = some x) (hq : takeF c s p x = none) : chk2 c s cands full i p (l.drop i) = ((i, 0), p) := by
  rw [drop_of hx]; simp only [chk2, hq]

theorem chk2_end {c : Cfg} {s : St} {cands : List Int} {full l : List Stp} {i : Nat} {p : Sit} (hi : l.length ≤ i) : chk2 c s cands full i p (l.drop i) = ((i, 0), p) := by
  rw [List.drop_eq_nil_of_le hi]; rfl

/-- the checker's answer in terms of where the steps stop -/
theorem check_eq {c : Cfg} {s : St} {r : Int} {steps : List Stp} {left : List Int} (hr : 0 ≤ r ∧ r < c.regions) {n : Nat} {e : Int} {p : Sit} (h : chk2 c s (cand c s r) steps 0 (sit0 c s) steps = ((n, e), p)) : n ≤ steps.length ∧ checkF c s r steps left =
    if e ≠ 0 then ((n : Int), e) else if n < steps.length then ((n : Int), 4) else if leftL c s r steps ≠ left then ((n : Int), 4) else if left.any (fitsF c s r steps) then ((n : Int), 37) else ((n : Int), 0) := by
  have h1 := chk2_chk c s (cand c s r) steps steps 0 (sit0 c s)
  rw [h] at h1
  simp only [Nat.zero_add] at h1
  refine ⟨h1.1, ?_⟩
  unfold checkF
  rw [if_neg (by omega), h1.2]
  by_cases he : e = 0
  · subst he
    simp only [ne_eq, not_true, if_false]
    by_cases hn : n < steps.length
    · simp [hn]
    · have : n = steps.length := by omega
      subst this
      simp
  · simp [he]

/-- what an accepted plan is -/
theorem chk_acc {c : Cfg} {s : St} {cands : List Int} {full : List Stp} : ∀ {l : List Stp} {i : Nat} {p : Sit}, (chk c s cands full i p l).2 = 0 → ∃ q, runF c s p l = some q ∧ (∀ x ∈ l, x.kind = 2 → x.tenant ∈ cands) ∧ (∀ (j : Nat) (q : Sit), runF c s p (l.take j) = some q → overF c p.bk = false → overF c q.bk = false) ∧ ∀ (j : Nat) (x : Stp), l[j]? = some x → x.kind = 1 → neededF c s full ((i + j : Nat) : Int) = true
  | [], i, p, h => ⟨p, rfl, by simp, fun j q hq ho => by simp [runF] at hq; subst hq; exact ho, by simp⟩
  | x :: l, i, p, h => by
    simp only [chk] at h
    cases e : takeF c s p x with
    | none => rw [e] at h; simp at h
    | some q =>
      rw [e] at h
      dsimp only at h
      split at h
      · simp at h
      · rename_i h1
        split at h
        · simp at h
        · rename_i h2
          split at h
          · simp at h
          · rename_i h3
            obtain ⟨q', g1, g2, g3, g4⟩ := chk_acc h
            refine ⟨q', by simp only [runF, e]; exact g1, fun y hy hk => ?_, fun j q2 hq2 ho => ?_, fun j y hy hk => ?_⟩
            · rcases List.mem_cons.1 hy with rfl | hy
              · exact Decidable.byContradiction fun hc => h1 ⟨hk, hc⟩
              · exact g2 y hy hk
            · cases j with
              | zero => rw [List.take_zero] at hq2; cases hq2; exact ho
              | succ j =>
                rw [List.take_succ_cons] at hq2
                simp only [runF, e] at hq2
                exact g3 j q2 hq2 (by simpa using h2)
            · cases j with
              | zero =>
                simp only [List.getElem?_cons_zero, Option.some.injEq] at hy
                subst hy
                cases hn : neededF c s full ((i + 0 : Nat) : Int) with
                | true => rfl
                | false => exact absurd ⟨hk, hn⟩ h3
              | succ j =>
                have := g4 j y (by simpa using hy) hk
                rw [show i + 1 + j = i + (j + 1) by omega] at this
                exact this

theorem check_acc {c : Cfg} {s : St} {r : Int} {steps : List Stp} {left : List Int} (h : (checkF c s r steps left).2 = 0) : (0 ≤ r ∧ r < c.regions) ∧ (chk c s (cand c s r) steps 0 (sit0 c s) steps).2 = 0 ∧ leftL c s r steps = left := by
  unfold checkF at h
  split at h
  · simp at h
  · rename_i h1
    split at h
    · rename_i h2; exact absurd h h2
    · rename_i h2
      split at h
      · simp at h
      · rename_i h3
        exact ⟨by omega, by simpa using h2, by simpa using h3⟩

/-! nobody moves twice -/

theorem take_sb {c : Cfg} {s : St} {p q : Sit} {x : Stp} (hq : takeF c s p x = some q) (i : Nat) (t : Seat) (ht : p.seats[i]? = some t) (h : t.standby = -1) : (∃ t', q.seats[i]? = some t' ∧ t'.standby = -1) ∧ ¬ (x.kind = 2 ∧ x.tenant = i) := by
  cases take_view hq with
  | shed u h0 hc hu ha hk hh e =>
    subst e
    refine ⟨?_, by omega⟩
    simp only [shedF]
    by_cases hi : x.tenant.toNat = i
    · subst hi
      rw [ht] at hu; cases hu
      have hl := (List.getElem?_eq_some_iff.1 ht).1
      exact ⟨⟨false, t.home, t.standby, t.next, -1⟩, by rw [List.getElem?_set_self hl], h⟩
    · exact ⟨t, by rw [List.getElem?_set_ne hi]; exact ht, h⟩
  | move u h0 hc hu ha hk hh hus e =>
    subst e
    have hi : x.tenant.toNat ≠ i := by
      rintro rfl
      rw [ht] at hu; cases hu
      omega
    refine ⟨?_, by omega⟩
    simp only [moveF]
    exact ⟨t, by rw [List.getElem?_set_ne hi]; exact ht, h⟩

theorem run_once {c : Cfg} {s : St} : ∀ {l : List Stp} {p q : Sit}, runF c s p l = some q → (movedL l).Pairwise (· ≠ ·) ∧ ∀ (i : Nat) (t : Seat), p.seats[i]? = some t → t.standby = -1 → (i : Int) ∉ movedL l
  | [], p, q, h => ⟨by simp [movedL], fun i t _ _ => by simp [movedL]⟩
  | x :: l, p, q, h => by
    simp only [runF] at h
    cases e : takeF c s p x with
    | none => rw [e] at h; cases h
    | some r =>
      rw [e] at h
      obtain ⟨g1, g2⟩ := run_once (l := l) h
      have hc : movedL (x :: l) = if x.kind = 2 then x.tenant :: movedL l else movedL l := by
        unfold movedL
        rw [List.filter_cons]
        by_cases hk : x.kind = 2 <;> simp [hk]
      rw [hc]
      refine ⟨?_, fun i t ht hs hm => ?_⟩
      · split
        · rename_i hk
          rw [List.pairwise_cons]
          refine ⟨fun a ha he => ?_, g1⟩
          cases take_view e with
          | shed u h0 hcc hu hua hk2 hh ee => omega
          | move u h0 hcc hu hua hk2 hh hus ee =>
            subst ee
            have hl := (List.getElem?_eq_some_iff.1 hu).1
            refine g2 x.tenant.toNat ⟨true, x.cell, -1, -1, -1⟩ (by simp only [moveF]; rw [List.getElem?_set_self hl]) rfl ?_
            rw [show ((x.tenant.toNat : Nat) : Int) = x.tenant by omega, he]
            exact ha
        · exact g1
      · obtain ⟨⟨t', h1, h2⟩, h3⟩ := take_sb e i t ht hs
        have h4 := g2 i t' h1 h2
        split at hm
        · rename_i hk
          rcases List.mem_cons.1 hm with hm | hm
          · exact h3 ⟨hk, hm.symm⟩
          · exact h4 hm
        · exact h4 hm

theorem ne_pair {l : List Int} (h : l.Pairwise (· ≠ ·)) : l.Nodup := h

/-- an accepted plan names each candidate once, and nobody else -/
theorem whole_perm {c : Cfg} {s : St} {r : Int} {steps : List Stp} {left : List Int} (h : (checkF c s r steps left).2 = 0) : (movedL steps ++ left).Perm (cand c s r) := by
  obtain ⟨_, h1, h2⟩ := check_acc h
  obtain ⟨q, g1, g2, _, _⟩ := chk_acc h1
  have hn := (run_once g1).1
  have hc := cand_nodup c s r
  have hsub : ∀ y ∈ movedL steps, y ∈ cand c s r := by
    intro y hy
    unfold movedL at hy
    obtain ⟨x, hx, rfl⟩ := List.mem_map.1 hy
    have := List.mem_filter.1 hx
    exact g2 x this.1 (by simpa using this.2)
  refine (List.perm_ext_iff_of_nodup ?_ hc).2 fun y => ?_
  · rw [← h2]
    refine List.nodup_append.2 ⟨hn, hc.filter _, fun a ha b hb => ?_⟩
    rintro rfl
    unfold leftL at hb
    have := (List.mem_filter.1 hb).2
    simp at this
    exact this ha
  · rw [← h2]
    unfold leftL
    simp only [List.mem_append, List.mem_filter]
    constructor
    · rintro (hy | hy)
      · exact hsub y hy
      · exact hy.1
    · intro hy
      by_cases hm : y ∈ movedL steps
      · exact .inl hm
      · exact .inr ⟨hy, by simpa using hm⟩

end Go.Proofs.YtncckpieemmmfaaGreat
