/- The two watches side by side: what relates them, and that a step keeps it. Conditions: those ahead of each theorem. -/
import Derived.Test.YtladepmfgbfkpaaHealthT
namespace Go.Proofs.Ytladepmfgbfkpaa
open Go Go.Cpl

/-! ### plain facts -/

theorem find_perm {o c : Int} {l l' : List Rep} (hk' : Keys l') (hp : l.Perm l') : findR o c l = findR o c l' := by
  cases h : findR o c l with
  | some x =>
    obtain ⟨h1, rfl, rfl⟩ := find_some h
    exact (find_of_mem hk' (hp.mem_iff.1 h1)).symm
  | none =>
    cases h' : findR o c l' with
    | none => rfl
    | some y =>
      obtain ⟨h1, h2, h3⟩ := find_some h'
      exact absurd ⟨h2, h3⟩ (find_none h y (hp.mem_iff.2 h1))

theorem set_memR {r x : Rep} : ∀ {l : List Rep}, x ∈ setR r l → x = r ∨ x ∈ l
  | [], h => by simp [setR] at h; exact .inl h
  | a :: l, h => by
    rw [setR] at h
    split at h
    · rcases List.mem_cons.1 h with rfl | h
      · exact .inl rfl
      · exact .inr (by simp [h])
    · rcases List.mem_cons.1 h with rfl | h
      · exact .inr (by simp)
      · rcases set_memR h with h | h
        · exact .inl h
        · exact .inr (by simp [h])

theorem set_keys {r : Rep} : ∀ {l : List Rep}, Keys l → Keys (setR r l)
  | [], _ => by simp [setR, Keys]
  | a :: l, h => by
    have h := List.pairwise_cons.1 h
    rw [setR]
    cases hk : isKey r.ob r.ce a with
    | true =>
      have hk := isKey_iff.1 hk
      refine List.pairwise_cons.2 ⟨fun b hb e => h.1 b hb ?_, h.2⟩
      omega
    | false =>
      refine List.pairwise_cons.2 ⟨fun b hb e => ?_, set_keys h.2⟩
      rcases set_memR hb with rfl | hb
      · rw [isKey_iff.2 ⟨e.1.symm, e.2.symm⟩] at hk; cases hk
      · exact h.1 b hb e

theorem set_len (r : Rep) : ∀ l : List Rep, (setR r l).length ≤ l.length + 1
  | [] => by simp [setR]
  | a :: l => by
    have := set_len r l
    rw [setR]
    split <;> simp <;> omega

theorem filter_none {r : Rep} {l : List Rep} (h : ∀ b ∈ l, ¬ (r.ob = b.ob ∧ r.ce = b.ce)) : l.filter (notKey r) = l := by
  rw [List.filter_eq_self]
  intro b hb
  have := h b hb
  simp only [notKey, decide_eq_true_eq]
  omega

theorem set_perm {r : Rep} : ∀ {l : List Rep}, Keys l → (setR r l).Perm (l.filter (notKey r) ++ [r])
  | [], _ => by simp [setR]
  | a :: l, h => by
    have h := List.pairwise_cons.1 h
    rw [setR]
    cases hk : isKey r.ob r.ce a with
    | true =>
      have hk := isKey_iff.1 hk
      have hn : notKey r a = false := by simp [notKey, hk]
      rw [List.filter_cons, hn, filter_none (fun b hb e => h.1 b hb (by omega))]
      simpa using (List.perm_append_comm (l₁ := [r]) (l₂ := l))
    | false =>
      have hn : notKey r a = true := by
        simp only [notKey, decide_eq_true_eq]
        by_cases h1 : a.ob = r.ob
        · refine .inr fun h2 => ?_
          rw [isKey_iff.2 ⟨h1.symm, h2.symm⟩] at hk; cases hk
        · exact .inl h1
      rw [List.filter_cons, hn]
      simpa using (set_perm h.2)

theorem votes_perm {age cell tick : Int} {b : Bool} {l l' : List Rep} (h : l.Perm l') : votes age cell tick b l = votes age cell tick b l' := h.countP_eq _

theorem vote_perm {n : Nat} {age cell tick : Int} {l l' : List Rep} (h : l.Perm l') : vote n age cell tick l = vote n age cell tick l' := by
  unfold vote; rw [votes_perm h, votes_perm h]

theorem keys_perm {l l' : List Rep} (h : l.Perm l') (hk : Keys l) : Keys l' := by
  unfold Keys at *
  exact (h.pairwise_iff (fun {a b} hab e => hab ⟨e.1.symm, e.2.symm⟩)).1 hk

/-- a watch (first) and the reference's -/
structure Rel (c : Cfg) (s s' : W23) : Prop where
  ok : WOk c s
  ok' : WOk c s'
  age : s'.age = s.age
  hold : s'.hold = s.hold
  tick : s'.tick = s.tick
  ver : s'.ver = s.ver
  dou : s'.dou = s.dou
  perm : s.reps.Perm s'.reps

abbrev refW (c : Cfg) (s : W23) (r : Rep) : W23 := { s with reps := refL c s.reps r }

theorem older_rel {c : Cfg} {s s' : W23} (h : Rel c s s') (r : Rep) : older s'.reps r = older s.reps r := by
  unfold older
  rw [find_perm h.ok'.keys h.perm]

theorem repE_rel {c : Cfg} {s s' : W23} (h : Rel c s s') (r : Rep) : repE c s'.reps r = repE c s.reps r := by
  unfold repE
  rw [older_rel h]

theorem repL_len (c : Cfg) (l : List Rep) (r : Rep) : (repL c l r).length ≤ l.length + 1 := by
  have := set_len r l
  unfold repL
  split
  · split <;> omega
  · omega

theorem WOk.report {c : Cfg} {s : W23} (h : WOk c s) (hf : s.reps.length < 10000) (r : Rep) : WOk c (repW c s r) := by
  have hl := repL_len c s.reps r
  refine ⟨h.laid, h.obs, h.age, h.hold, h.tick, h.ver, h.dou, h.doubt, ?_, ?_, by show (repL c s.reps r).length ≤ _; omega⟩
  · show Keys (repL c s.reps r)
    unfold repL
    split
    · split
      · exact h.keys
      · exact set_keys h.keys
    · exact h.keys
  · show ∀ x ∈ repL c s.reps r, _
    unfold repL
    split
    · rename_i hok
      split
      · exact h.rep
      · intro x hx
        rcases set_memR hx with rfl | hx
        · exact hok
        · exact h.rep x hx
    · exact h.rep

theorem repL_perm {c : Cfg} {s s' : W23} (h : Rel c s s') (r : Rep) : (repL c s.reps r).Perm (refL c s'.reps r) := by
  unfold repL refL
  rw [older_rel h]
  split
  · split
    · exact h.perm
    · exact (set_perm h.ok.keys).trans ((h.perm.filter _).append_right _)
  · exact h.perm

theorem Rel.report {c : Cfg} {s s' : W23} (h : Rel c s s') (hf : s.reps.length < 10000) (r : Rep) : Rel c (repW c s r) (refW c s' r) := by
  have hp := repL_perm h r
  have h1 := h.ok.report hf r
  have h2 := h.ok'
  refine ⟨h1, ⟨h2.laid, h2.obs, h2.age, h2.hold, h2.tick, h2.ver, h2.dou, h2.doubt, keys_perm hp h1.keys, fun x hx => h1.rep x (hp.mem_iff.2 hx), ?_⟩, h.age, h.hold, h.tick, h.ver, h.dou, hp⟩
  rw [← hp.length_eq]
  exact h1.few

theorem advAt_rel {c : Cfg} {s s' : W23} (h : Rel c s s') (t : Int) (i : Nat) : advAt c s' t i = advAt c s t i := by
  unfold advAt
  have : (fun i : Nat => vote c.observers.length s'.age i t s'.reps) = fun i : Nat => vote c.observers.length s.age i t s.reps := by
    funext i; rw [h.age, vote_perm h.perm]
  rw [this, h.hold, h.ver, h.dou]

theorem advBad_rel {c : Cfg} {s s' : W23} (h : Rel c s s') (t : Int) : advBad s' t ↔ advBad s t := by unfold advBad; rw [h.tick]

theorem WOk.adv {c : Cfg} {s : W23} (h : WOk c s) (t : Int) : WOk c (advW c s t) := by
  unfold advW
  split
  · exact h
  · rename_i hb; exact h.mid hb _

theorem Rel.adv {c : Cfg} {s s' : W23} (h : Rel c s s') (t : Int) : Rel c (advW c s t) (advW c s' t) := by
  refine ⟨h.ok.adv t, h.ok'.adv t, ?_, ?_, ?_, ?_, ?_, ?_⟩
  all_goals unfold advW
  all_goals simp only [advBad_rel h t]
  all_goals split
  all_goals first | exact h.perm | simp only [h.age, h.hold, h.tick, h.ver, h.dou, advAt_rel h]

theorem advC_rel {c : Cfg} {s s' : W23} (h : Rel c s s') (t : Int) : advC c s' t = advC c s t := by
  unfold advC
  simp only [advBad_rel h t, advAt_rel h]

theorem advE_rel {c : Cfg} {s s' : W23} (h : Rel c s s') (t : Int) : advE s' t = advE s t := by
  unfold advE
  simp only [advBad_rel h t]

theorem advW_reps (c : Cfg) (s : W23) (t : Int) : (advW c s t).reps = s.reps := by unfold advW; split <;> rfl

/-! ### contracts -/

abbrev wrH (c : Cfg) (s s' : W23) : List HObj := [wBox c s 2 3 4, rBox c s' 5 6 7, .arr 3 (r1 s.ver), .arr 3 (r1 s.dou), wM s, .arr 45 (rR s'.reps), .arr 3 (r1 s'.ver), .arr 3 (r1 s'.dou)]

/-- the reference's reports behind the others -/
abbrev wrH8 (c : Cfg) (s s' : W23) : List HObj := [wBox c s 2 3 4, rBox c s' 8 6 7, .arr 3 (r1 s.ver), .arr 3 (r1 s.dou), wM s, .gone, .arr 3 (r1 s'.ver), .arr 3 (r1 s'.dou), .arr 45 (rR s'.reps)]

theorem spSame {a b : Int} {A C : Prop} (h : a = b) (k : C) : ((a != b) = true → A) ∧ ((a != b) = false → C) := ⟨fun h' => by simp [h] at h', fun _ => k⟩

set_option maxHeartbeats 4000000 in
set_option maxRecDepth 100000 in
theorem same_c (c : Cfg) (s s' : W23) (h : Rel c s s') : CallsH Try.prog 32 [.c (.ptr 0 0 0), .c (.ptr 1 0 0)] (wrH c s s') (B true) (wrH c s s') := by
  have hC := h.ok.laid.cells
  have hZ := h.ok.laid.zones
  have hrz := r1_len c.zones
  have hrc := r2_len c.cells
  refine callsR_of tab mixed Try.func32 rfl (by decide) rfl rfl ?_
  conv => whnf
  refine loopN tab mixed (fun i => i ≤ c.cells.length + 2) (c.cells.length + 2) (fun i => [(5, I ((i : Int) - 1))]) (fun _ => []) 51 [] (by omega) ?_
  conv => whnf
  refine ⟨?_, fun i hi => ?_⟩
  · repeat' (first | exact trivial | rfl | refine And.intro ?_ ?_)
    all_goals (conv => whnf)
    repeat' (first | exact trivial | rfl | refine And.intro ?_ ?_)
  conv => whnf
  refine spD (fun h1 => ?_) (fun h1 => ?_) <;> conv => whnf
  · have hi' : i < c.cells.length + 2 := by omega
    refine ⟨by kernel_rfl, ?_⟩
    conv => whnf
    refine ⟨_, _, cellW_c' c s _ h.ok, ?_⟩
    conv => whnf
    refine ⟨_, _, cellR_c c s' _, ?_⟩
    conv => whnf
    refine spSame (by rw [h.ver]) ?_
    conv => whnf
    refine ⟨_, _, vote_c c s _ _ h.ok, ?_⟩
    conv => whnf
    refine ⟨_, _, voteR_c c s' _ _ h.ok', ?_⟩
    conv => whnf
    refine spSame (by rw [h.age, vote_perm h.perm]) ?_
    conv => whnf
    refine ⟨_, _, votes_c c s _ _ h.ok, ?_⟩
    conv => whnf
    refine ⟨_, _, votesR_c c s' _ _ h.ok', ?_⟩
    conv => whnf
    refine spSame (by rw [h.age, votes_perm h.perm]) ?_
    conv => whnf
    refine spSame (by rw [h.age, votes_perm h.perm]) ?_
    conv => whnf
    refine gv (by first | omega | (simp only []; omega) | (simp; omega)) (by first | omega | (simp only []; omega) | (simp; omega)) ?_
    conv => whnf
    refine ⟨⟨hi', hi'⟩, [], ?_⟩
    repeat' (first | exact trivial | rfl | refine And.intro ?_ ?_)
    all_goals (conv => whnf)
    repeat' (first | exact trivial | rfl | refine And.intro ?_ ?_)
    omega
  refine loopN tab mixed (fun i => i ≤ c.zones.length + 2) (c.zones.length + 2) (fun i => [(10, I ((i : Int) - 1))]) (fun _ => []) 51 [] (by omega) ?_
  conv => whnf
  refine ⟨?_, fun i hi => ?_⟩
  · repeat' (first | exact trivial | rfl | refine And.intro ?_ ?_)
    all_goals (conv => whnf)
    repeat' (first | exact trivial | rfl | refine And.intro ?_ ?_)
  conv => whnf
  refine spD (fun h1 => ?_) (fun h1 => ?_) <;> conv => whnf
  · have hi' : i < c.zones.length + 2 := by omega
    refine ⟨_, _, zoneW_c c s _ h.ok, ?_⟩
    conv => whnf
    refine ⟨_, _, zoneRf_c c s' _ h.ok', ?_⟩
    conv => whnf
    refine spSame (by rw [h.ver]) ?_
    conv => whnf
    refine ⟨_, _, regionW_c c s _ h.ok, ?_⟩
    conv => whnf
    refine ⟨_, _, regionRf_c c s' _ h.ok', ?_⟩
    conv => whnf
    refine spSame (by rw [h.ver]) ?_
    conv => whnf
    refine gv (by first | omega | (simp only []; omega) | (simp; omega)) (by first | omega | (simp only []; omega) | (simp; omega)) ?_
    conv => whnf
    refine ⟨⟨hi', hi'⟩, [], ?_⟩
    repeat' (first | exact trivial | rfl | refine And.intro ?_ ?_)
    all_goals (conv => whnf)
    repeat' (first | exact trivial | rfl | refine And.intro ?_ ?_)
    omega
  · refine ⟨[(0, some 0), (1, some 1), (2, some 2), (3, some 3), (4, some 4), (5, some 5), (6, some 6), (7, some 7)], rfl, ?_⟩
    repeat' (first | exact trivial | rfl | refine And.intro ?_ ?_)
    all_goals (conv => whnf)
    repeat' (first | exact trivial | rfl | refine And.intro ?_ ?_)

abbrev stepC (which : Int) (r : Rep) : List AC := [.d (i64 which), .d (i64 r.ob), .d (i64 r.ce), .d (i64 r.ti), .d (.bool r.bad)]

theorem reportW_c (c : Cfg) (s : W23) (r : Rep) (h : WOk c s) : CallsH Try.prog 25 [.c (.ptr 0 0 0), .agg [.d (i64 r.ob), .d (i64 r.ce), .d (i64 r.ti), .d (.bool r.bad)]] (wH c s) (I (repE c s.reps r)) (wH c (repW c s r)) := report_c c s r h

set_option maxHeartbeats 4000000 in
set_option maxRecDepth 100000 in
theorem both_c (c : Cfg) (s s' : W23) (which : Int) (r : Rep) (h : Rel c s s') (hf : s.reps.length < 10000) :
    ∃ s2 s2', Rel c s2 s2' ∧ s2.reps.length ≤ s.reps.length + 1 ∧ CallsH Try.prog 16 [.c (.ptr 0 0 0), .c (.ptr 1 0 0), .agg (stepC which r)] (wrH c s s') (B true) (wrH8 c s2 s2') := by
  have hm1 := Int.emod_nonneg which (b := 8) (by omega)
  have hm2 := Int.emod_lt_of_pos which (b := 8) (by omega)
  have htk := h.ok'.tick
  have hob := h.ok.obs
  have hC := h.ok.laid.cells
  have hro := r1_len c.observers
  have hrc := r2_len c.cells
  by_cases h0 : which % 8 = 0
  · have hrel := h.report hf r
    refine ⟨repW c s r, refW c s' r, hrel, repL_len c s.reps r, ?_⟩
    refine callsR_of tab mixed Try.func16 rfl (by decide) rfl rfl ?_
    conv => whnf
    refine ⟨_, _, mod_c _ _ (by omega) (by omega), ?_⟩
    conv => whnf
    refine spE (fun h1 => ?_) (fun h1 => absurd h0 h1) <;> conv => whnf
    refine ⟨by kernel_rfl, ?_⟩
    conv => whnf
    refine ⟨_, _, report_c c s r h.ok, ?_⟩
    conv => whnf
    refine ⟨_, _, reportR_c c s' r h.ok', ?_⟩
    conv => whnf
    refine spSame (repE_rel h r).symm ?_
    conv => whnf
    refine ⟨_, _, same_c c (repW c s r) (refW c s' r) hrel, ?_⟩
    conv => whnf
    refine ⟨[(0, some 0), (1, some 1), (2, some 2), (3, some 3), (4, some 4), (6, some 6), (7, some 7), (8, some 10)], rfl, ?_⟩
    repeat' (first | exact trivial | rfl | refine And.intro ?_ ?_)
    all_goals (conv => whnf)
    repeat' (first | exact trivial | rfl | refine And.intro ?_ ?_)
  have b1 := Int.emod_nonneg r.ti (b := 8) (by omega)
  have b2 := Int.emod_lt_of_pos r.ti (b := 8) (by omega)
  by_cases h12 : which % 8 = 1 ∨ which % 8 = 2
  · have hrel := h.adv (s'.tick + (-1 + r.ti % (6 - -1 + 1)))
    have hc1 : (advC c s (s'.tick + (-1 + r.ti % (6 - -1 + 1)))).length ≤ c.cells.length := by
      unfold advC
      split
      · simp
      · exact (adv_len _ _ _ _ _ _).2.2
    refine ⟨advW c s (s'.tick + (-1 + r.ti % (6 - -1 + 1))), advW c s' (s'.tick + (-1 + r.ti % (6 - -1 + 1))), hrel, by rw [advW_reps]; omega, ?_⟩
    refine callsR_of tab mixed Try.func16 rfl (by decide) rfl rfl ?_
    conv => whnf
    refine ⟨_, _, mod_c _ _ (by omega) (by omega), ?_⟩
    conv => whnf
    refine spE (fun h1 => absurd h1 h0) (fun h1 => ?_) <;> conv => whnf
    refine spE (fun h2 => ?_) (fun h2 => ?_) <;> conv => whnf
    · refine spE (fun _ => ?_) (fun h3 => absurd h2 h3) <;> conv => whnf
      refine ⟨by kernel_rfl, ?_⟩
      conv => whnf
      refine ⟨_, _, between_c _ _ _ (by omega) (by omega) (by omega), ?_⟩
      conv => whnf
      refine gv (by first | omega | (simp only []; omega) | (simp; omega)) (by first | omega | (simp only []; omega) | (simp; omega)) ?_
      conv => whnf
      refine ⟨_, _, advance_c c s _ h.ok, ?_⟩
      conv => whnf
      refine ⟨_, _, advanceR_c c s' _ h.ok', ?_⟩
      conv => whnf
      refine ⟨_, _, sameInts_c _ _ (by omega), ?_⟩
      conv => whnf
      refine spN (fun h3 => absurd (advC_rel h _).symm h3) (fun _ => ?_) <;> conv => whnf
      refine spSame (advE_rel h _).symm ?_
      conv => whnf
      refine ⟨_, _, same_c c _ _ hrel, ?_⟩
      conv => whnf
      refine ⟨[(0, some 0), (1, some 1), (2, some 2), (3, some 3), (4, some 4), (6, some 6), (7, some 7), (8, some 5)], rfl, ?_⟩
      repeat' (first | exact trivial | rfl | refine And.intro ?_ ?_)
      all_goals (conv => whnf)
      repeat' (first | exact trivial | rfl | refine And.intro ?_ ?_)
    · refine spE (fun h3 => ?_) (fun h3 => by omega) <;> conv => whnf
      refine ⟨by kernel_rfl, ?_⟩
      conv => whnf
      refine ⟨_, _, between_c _ _ _ (by omega) (by omega) (by omega), ?_⟩
      conv => whnf
      refine gv (by first | omega | (simp only []; omega) | (simp; omega)) (by first | omega | (simp only []; omega) | (simp; omega)) ?_
      conv => whnf
      refine ⟨_, _, advance_c c s _ h.ok, ?_⟩
      conv => whnf
      refine ⟨_, _, advanceR_c c s' _ h.ok', ?_⟩
      conv => whnf
      refine ⟨_, _, sameInts_c _ _ (by omega), ?_⟩
      conv => whnf
      refine spN (fun h3 => absurd (advC_rel h _).symm h3) (fun _ => ?_) <;> conv => whnf
      refine spSame (advE_rel h _).symm ?_
      conv => whnf
      refine ⟨_, _, same_c c _ _ hrel, ?_⟩
      conv => whnf
      refine ⟨[(0, some 0), (1, some 1), (2, some 2), (3, some 3), (4, some 4), (6, some 6), (7, some 7), (8, some 5)], rfl, ?_⟩
      repeat' (first | exact trivial | rfl | refine And.intro ?_ ?_)
      all_goals (conv => whnf)
      repeat' (first | exact trivial | rfl | refine And.intro ?_ ?_)
  · have b3 := Int.emod_nonneg r.ti (b := 9) (by omega)
    have b4 := Int.emod_lt_of_pos r.ti (b := 9) (by omega)
    generalize hq : (⟨0 + r.ob % ((r1 c.observers).length - 0 + 1), 0 + r.ce % ((r2 c.cells).length - 0 + 1), if s'.tick + (-4 + r.ti % (4 - -4 + 1)) > 0 then s'.tick + (-4 + r.ti % (4 - -4 + 1)) else 0, r.bad⟩ : Rep) = q
    have q1 : q.ob = 0 + r.ob % ((r1 c.observers).length - 0 + 1) := by rw [← hq]
    have q2 : q.ce = 0 + r.ce % ((r2 c.cells).length - 0 + 1) := by rw [← hq]
    have q3 : q.ti = if s'.tick + (-4 + r.ti % (4 - -4 + 1)) > 0 then s'.tick + (-4 + r.ti % (4 - -4 + 1)) else 0 := by rw [← hq]
    have q4 : q.bad = r.bad := by rw [← hq]
    have hrel := h.report hf q
    refine ⟨repW c s q, refW c s' q, hrel, repL_len c s.reps q, ?_⟩
    refine callsR_of tab mixed Try.func16 rfl (by decide) rfl rfl ?_
    conv => whnf
    refine ⟨_, _, mod_c _ _ (by omega) (by omega), ?_⟩
    conv => whnf
    refine spE (fun h1 => absurd h1 h0) (fun h1 => ?_) <;> conv => whnf
    refine spE (fun h2 => absurd (.inl h2) h12) (fun h2 => ?_) <;> conv => whnf
    refine spE (fun h3 => absurd (.inr h3) h12) (fun h3 => ?_) <;> conv => whnf
    refine ⟨by kernel_rfl, ?_⟩
    conv => whnf
    refine ⟨_, _, between_c _ _ _ (by omega) (by omega) (by omega), ?_⟩
    conv => whnf
    refine ⟨_, _, between_c _ _ _ (by omega) (by omega) (by omega), ?_⟩
    conv => whnf
    refine ⟨_, _, between_c _ _ _ (by omega) (by omega) (by omega), ?_⟩
    conv => whnf
    refine gv (by first | omega | (simp only []; omega) | (simp; omega)) (by first | omega | (simp only []; omega) | (simp; omega)) ?_
    conv => whnf
    rw [← q1, ← q2, ← q3, ← q4]
    refine ⟨by kernel_rfl, ?_⟩
    conv => whnf
    refine ⟨_, _, report_c c s q h.ok, ?_⟩
    conv => whnf
    refine ⟨_, _, reportR_c c s' q h.ok', ?_⟩
    conv => whnf
    refine spSame (repE_rel h q).symm ?_
    conv => whnf
    refine ⟨_, _, same_c c (repW c s q) (refW c s' q) hrel, ?_⟩
    conv => whnf
    refine ⟨[(0, some 0), (1, some 1), (2, some 2), (3, some 3), (4, some 4), (6, some 6), (7, some 7), (8, some 10)], rfl, ?_⟩
    repeat' (first | exact trivial | rfl | refine And.intro ?_ ?_)
    all_goals (conv => whnf)
    repeat' (first | exact trivial | rfl | refine And.intro ?_ ?_)

end Go.Proofs.Ytladepmfgbfkpaa
