/- Contracts: the checker's replay (evaccheck): all, over, and Go's Index, Contains, Equal, IndexFunc, DeleteFunc, Clone of ints. Conditions: those ahead of each theorem. -/
import Derived.Test.YtncckpieemmmfaaGreatEvC
import Derived.Test.YtncckpieemmmfaaGreatEvS
namespace Go.Proofs.YtncckpieemmmfaaGreat
open Go Go.Cpl

theorem takeCk_yes (c : Cfg) (s : St) {b : Int} {se se' : List Seat} {bk bk' : List Int} {kind ten cell : Int} (w : WG c) (hn : s.cs.length = c.cells.length) (hm : s.ts.length = c.tenants.length) (hse : Seated s ⟨se, bk⟩) (h : Sz c b se bk) (hb : b ≤ 999999999000000) (hq : takeF c s ⟨se, bk⟩ ⟨kind, ten, cell⟩ = some ⟨se', bk'⟩) :
    CallsH Tryz.prog 87 [.c (.ptr 0 0 0), .agg [.d (i64 kind), .d (i64 ten), .d (i64 cell)]] (sitH c s 102 se bk) (B true) (sitH c s 102 se' bk') := by
  obtain ⟨p', e, hc⟩ := takeCk_c c s ⟨kind, ten, cell⟩ w hn hm hse h hb
  rw [hq] at e hc
  subst e
  exact hc

theorem takeCk_no (c : Cfg) (s : St) {b : Int} {se : List Seat} {bk : List Int} {kind ten cell : Int} (w : WG c) (hn : s.cs.length = c.cells.length) (hm : s.ts.length = c.tenants.length) (hse : Seated s ⟨se, bk⟩) (h : Sz c b se bk) (hb : b ≤ 999999999000000) (hq : takeF c s ⟨se, bk⟩ ⟨kind, ten, cell⟩ = none) :
    CallsH Tryz.prog 87 [.c (.ptr 0 0 0), .agg [.d (i64 kind), .d (i64 ten), .d (i64 cell)]] (sitH c s 102 se bk) (B false) (sitH c s 102 se bk) := by
  obtain ⟨p', e, hc⟩ := takeCk_c c s ⟨kind, ten, cell⟩ w hn hm hse h hb
  rw [hq] at e hc
  subst e
  exact hc

theorem all1_c (i : Int) : CallsH Tryz.prog 94 [I i] [] (B true) [] := by
  refine callsR_of tab mixed Tryz.func94 rfl (by decide) rfl rfl ?_
  conv => whnf
  exact ⟨[], rfl, by simp [mtV, Cpl.valOf, mtC, eqD], trivial⟩

/-- along the steps -/
structure RJ (c : Cfg) (s : St) (b : Int) (p0 : Sit) (l : List Stp) where
  i : Nat
  se : List Seat
  bk : List Int
  hi : i ≤ l.length
  hg : goF c s p0 l = goF c s ⟨se, bk⟩ (l.drop i)
  hc : cntF c s p0 l = i + cntF c s ⟨se, bk⟩ (l.drop i)
  hs : Seated s ⟨se, bk⟩
  hz : Sz c (b + 262144 * (i : Int)) se bk

theorem sz_step {c : Cfg} (hg : Good c) {s : St} {b : Int} {se se' : List Seat} {bk bk' : List Int} {x : Stp} {i : Nat} (h : Sz c (b + 262144 * (i : Int)) se bk) (hb : b + 262144 * (i : Int) ≤ 999999999000000) (hq : takeF c s ⟨se, bk⟩ x = some ⟨se', bk'⟩) : Sz c (b + 262144 * ((i + 1 : Nat) : Int)) se' bk' := by
  have := take_sz hg (p := ⟨se, bk⟩) h hb hq
  have e : b + 262144 * (i : Int) + 262144 = b + 262144 * ((i + 1 : Nat) : Int) := by omega
  rwa [e] at this

set_option maxRecDepth 100000 in
theorem runAll_c (c : Cfg) (s : St) {b : Int} {se : List Seat} {bk : List Int} (l : List Stp) (w : WG c) (hn : s.cs.length = c.cells.length) (hm : s.ts.length = c.tenants.length) (hse : Seated s ⟨se, bk⟩) (h : Sz c b se bk) (hb : b + 262144 * (l.length : Int) ≤ 999999999000000) (hl : l.length ≤ 100000) :
    CallsH Tryz.prog 38 [.c (.ptr 0 0 0), .c (.d (.sl (rSt l))), .fn 94 []] (sitH c s 102 se bk) (I (cntF c s ⟨se, bk⟩ l)) (sitH c s 102 (goF c s ⟨se, bk⟩ l).seats (goF c s ⟨se, bk⟩ l).bk) := by
  have l1 := rSt_len l
  have hg := w.good
  refine callsR_of tab mixed Tryz.func38 rfl (by decide) rfl rfl ?_
  conv => whnf
  refine loopR tab mixed (ι := RJ c s b ⟨se, bk⟩ l) (fun k => [(11, I k.i)]) (fun k => [(1, .arr 102 (rSe k.se)), (2, .arr 3 (r1 k.bk))]) 51 (fun k => l.length - k.i) ⟨0, se, bk, by omega, rfl, by simp, hse, by simpa using h⟩ [(1, some 1), (2, some 2)] ?_
  conv => whnf
  refine ⟨?_, fun k => ?_⟩
  · repeat' (first | exact trivial | rfl | refine And.intro ?_ ?_)
    all_goals (conv => whnf)
    repeat' (first | exact trivial | rfl | refine And.intro ?_ ?_)
  obtain ⟨i, se1, bk1, hi, hgo, hcnt, hs1, hz⟩ := k
  rw [hgo, hcnt]
  dsimp only
  conv => whnf
  refine spD (fun q1 => ?_) (fun q1 => ?_) <;> conv => whnf
  · have hi' : i < l.length := by omega
    obtain ⟨⟨kind, ten, cell⟩, hx⟩ := get_of hi'
    refine ⟨by omega, _, rSt_get hx, ?_⟩
    conv => whnf
    rcases Option.eq_none_or_eq_some (takeF c s ⟨se1, bk1⟩ ⟨kind, ten, cell⟩) with e | ⟨⟨se2, bk2⟩, e⟩
    · have hst := go_stop hx e
      rw [hst.1, hst.2]
      refine ⟨_, _, takeCk_no c s w hn hm hs1 hz (by omega) e, ?_⟩
      conv => whnf
      refine ⟨fun _ => ?_, fun q => (by cases q)⟩
      conv => whnf
      refine ⟨[(0, some 0), (1, some 1), (2, some 2)], ?_⟩
      repeat' (first | exact trivial | rfl | refine And.intro ?_ ?_)
      all_goals (conv => whnf)
      repeat' (first | exact trivial | rfl | refine And.intro ?_ ?_)
    · have hst := go_step hx e
      refine ⟨_, _, takeCk_yes c s w hn hm hs1 hz (by omega) e, ?_⟩
      conv => whnf
      refine ⟨fun q => (by cases q), fun _ => ?_⟩
      conv => whnf
      refine ⟨_, _, all1_c _, ?_⟩
      conv => whnf
      refine ⟨fun q => (by cases q), fun _ => ?_⟩
      conv => whnf
      refine gv (by first | omega | (simp only []; omega) | (simp; omega)) (by first | omega | (simp only []; omega) | (simp; omega)) ?_
      conv => whnf
      refine ⟨⟨i + 1, se2, bk2, by omega, by rw [hgo, hst.1], by rw [hcnt, hst.2]; omega, take_seated hs1 e, sz_step hg hz (by omega) e⟩, [(1, some 1), (2, some 2)], ?_, by show l.length - (i + 1) < l.length - i; omega⟩
      repeat' (first | exact trivial | rfl | refine And.intro ?_ ?_)
      all_goals (conv => whnf)
      repeat' (first | exact trivial | rfl | refine And.intro ?_ ?_)
  · have hi' : i = l.length := by omega
    have hst := go_end (c := c) (s := s) (p := ⟨se1, bk1⟩) (l := l) (i := i) (by omega)
    rw [hst.1, hst.2]
    refine ⟨[(0, some 0), (1, some 1), (2, some 2)], ?_⟩
    repeat' (first | exact trivial | rfl | refine And.intro ?_ ?_)
    all_goals (conv => whnf)
    repeat' (first | exact trivial | rfl | refine And.intro ?_ ?_)
    all_goals first | rfl | (simp; omega)

set_option maxRecDepth 100000 in
theorem all_c (c : Cfg) (s : St) {b : Int} {se : List Seat} {bk : List Int} (l : List Stp) (w : WG c) (hn : s.cs.length = c.cells.length) (hm : s.ts.length = c.tenants.length) (hse : Seated s ⟨se, bk⟩) (h : Sz c b se bk) (hb : b + 262144 * (l.length : Int) ≤ 999999999000000) (hl : l.length ≤ 100000) :
    CallsH Tryz.prog 54 [.c (.ptr 0 0 0), .c (.d (.sl (rSt l)))] (sitH c s 102 se bk) (B (runF c s ⟨se, bk⟩ l).isSome) (sitH c s 102 (goF c s ⟨se, bk⟩ l).seats (goF c s ⟨se, bk⟩ l).bk) := by
  have l1 := rSt_len l
  have e := run_is c s ⟨se, bk⟩ l
  refine callsR_of tab mixed Tryz.func54 rfl (by decide) rfl rfl ?_
  conv => whnf
  refine ⟨_, _, runAll_c c s l w hn hm hse h hb hl, ?_⟩
  conv => whnf
  refine ⟨[(0, some 0), (1, some 1), (2, some 2)], ?_⟩
  repeat' (first | exact trivial | rfl | refine And.intro ?_ ?_)
  all_goals (conv => whnf)
  repeat' (first | exact trivial | rfl | refine And.intro ?_ ?_)
  rw [e, l1]
  rfl

/-- THE SAME, where all steps can be taken -/
theorem all_yes (c : Cfg) (s : St) {b : Int} {se se' : List Seat} {bk bk' : List Int} {l : List Stp} (w : WG c) (hn : s.cs.length = c.cells.length) (hm : s.ts.length = c.tenants.length) (hse : Seated s ⟨se, bk⟩) (h : Sz c b se bk) (hb : b + 262144 * (l.length : Int) ≤ 999999999000000) (hl : l.length ≤ 100000) (hq : runF c s ⟨se, bk⟩ l = some ⟨se', bk'⟩) :
    CallsH Tryz.prog 54 [.c (.ptr 0 0 0), .c (.d (.sl (rSt l)))] (sitH c s 102 se bk) (B true) (sitH c s 102 se' bk') := by
  have hc := all_c c s l w hn hm hse h hb hl
  rw [hq, (go_run hq).1] at hc
  exact hc

theorem all_no (c : Cfg) (s : St) {b : Int} {se : List Seat} {bk : List Int} {l : List Stp} (w : WG c) (hn : s.cs.length = c.cells.length) (hm : s.ts.length = c.tenants.length) (hse : Seated s ⟨se, bk⟩) (h : Sz c b se bk) (hb : b + 262144 * (l.length : Int) ≤ 999999999000000) (hl : l.length ≤ 100000) (hq : runF c s ⟨se, bk⟩ l = none) :
    ∃ se' bk', CallsH Tryz.prog 54 [.c (.ptr 0 0 0), .c (.d (.sl (rSt l)))] (sitH c s 102 se bk) (B false) (sitH c s 102 se' bk') := by
  have hc := all_c c s l w hn hm hse h hb hl
  rw [hq] at hc
  exact ⟨_, _, hc⟩

set_option maxRecDepth 100000 in
theorem over_c (c : Cfg) (s : St) {b : Int} {se : List Seat} {bk : List Int} (h : Sz c b se bk) (hC : c.cells.length ≤ 100) : CallsH Tryz.prog 41 [.c (.ptr 0 0 0)] (sitH c s 102 se bk) (B (overF c bk)) (sitH c s 102 se bk) := by
  have l1 := r1_len bk
  have l2 := r2_len c.cells
  have hk := h.k
  generalize hov : overF c bk = ov
  refine callsR_of tab mixed Tryz.func41 rfl (by decide) rfl rfl ?_
  conv => whnf
  refine loopN tab mixed (fun i => i ≤ bk.length ∧ ∀ k : Nat, k < i → atI bk k ≤ capOf c k) bk.length (fun i => [(10, I i)]) (fun _ => []) 51 [] ⟨by omega, fun k hk => absurd hk (Nat.not_lt_zero k)⟩ ?_
  conv => whnf
  refine ⟨?_, fun i ⟨hi, hJ⟩ => ?_⟩
  · repeat' (first | exact trivial | rfl | refine And.intro ?_ ?_)
    all_goals (conv => whnf)
    repeat' (first | exact trivial | rfl | refine And.intro ?_ ?_)
  conv => whnf
  refine spD (fun q1 => ?_) (fun q1 => ?_) <;> conv => whnf
  · have hi' : i < bk.length := by omega
    obtain ⟨z, hz⟩ := get_of hi'
    obtain ⟨y, hy⟩ := get_of (l := c.cells) (i := i) (by omega)
    have e1 : atI bk (i : Int) = z := atI_get (by simpa using hz)
    have e2 : capOf c i = y.2 := by simp [capOf, hy]
    refine ⟨by omega, by omega, _, r1_get hz, ?_⟩
    conv => whnf
    refine ⟨by omega, _, r2_get hy, ?_⟩
    conv => whnf
    refine spD (fun q2 => ?_) (fun q2 => ?_) <;> conv => whnf
    · have : overF c bk = true := overF_yes i hi' (by rw [e1, e2]; exact q2)
      rw [hov] at this
      subst this
      refine ⟨[(0, some 0), (1, some 1), (2, some 2)], ?_⟩
      repeat' (first | exact trivial | rfl | refine And.intro ?_ ?_)
      all_goals (conv => whnf)
      repeat' (first | exact trivial | rfl | refine And.intro ?_ ?_)
    · refine gv (by first | omega | (simp only []; omega) | (simp; omega)) (by first | omega | (simp only []; omega) | (simp; omega)) ?_
      conv => whnf
      refine ⟨⟨hi', hi', fun k hk => ?_⟩, [], ?_⟩
      · rcases Nat.lt_or_ge k i with h | h
        · exact hJ k h
        · have : k = i := by omega
          subst this
          rw [e1, e2]; omega
      · repeat' (first | exact trivial | rfl | refine And.intro ?_ ?_)
        all_goals (conv => whnf)
        repeat' (first | exact trivial | rfl | refine And.intro ?_ ?_)
  · have hi' : i = bk.length := by omega
    have : overF c bk = false := overF_no fun k hk => hJ k (by omega)
    rw [hov] at this
    subst this
    refine ⟨[(0, some 0), (1, some 1), (2, some 2)], ?_⟩
    repeat' (first | exact trivial | rfl | refine And.intro ?_ ?_)
    all_goals (conv => whnf)
    repeat' (first | exact trivial | rfl | refine And.intro ?_ ?_)

/-! ints in lists -/

def idxI (p : Int → Bool) : List Int → Nat → Int
  | [], _ => -1
  | y :: r, k => if p y then (k : Int) else idxI p r (k + 1)

theorem idxI_neg {p : Int → Bool} : ∀ (l : List Int) (k : Nat), (idxI p l k = -1 ∧ ∀ x ∈ l, p x = false) ∨ (∃ j x, idxI p l k = ((k + j : Nat) : Int) ∧ l[j]? = some x ∧ p x = true ∧ ∀ y ∈ l.take j, p y = false)
  | [], k => .inl ⟨rfl, by simp⟩
  | y :: r, k => by
    by_cases h : p y = true
    · exact .inr ⟨0, y, by simp [idxI, h], rfl, h, by simp⟩
    · have e : idxI p (y :: r) k = idxI p r (k + 1) := by simp [idxI, h]
      rcases idxI_neg (p := p) r (k + 1) with ⟨h1, h2⟩ | ⟨j, x, h1, h2, h3, h4⟩
      · exact .inl ⟨by rw [e]; exact h1, fun x hx => by
          rcases List.mem_cons.1 hx with rfl | hx
          · simpa using h
          · exact h2 x hx⟩
      · refine .inr ⟨j + 1, x, by rw [e, h1]; congr 1; omega, by simpa using h2, h3, fun z hz => ?_⟩
        rw [List.take_succ_cons] at hz
        rcases List.mem_cons.1 hz with rfl | hz
        · simpa using h
        · exact h4 z hz

theorem idxI_drop {p : Int → Bool} {l : List Int} {i : Nat} {x : Int} (hx : l[i]? = some x) : idxI p (l.drop i) i = if p x then (i : Int) else idxI p (l.drop (i + 1)) (i + 1) := by rw [drop_of hx]; rfl

set_option maxRecDepth 100000 in
theorem index_c (l : List Int) (x : Int) (hl : l.length ≤ 100000) : CallsH Tryz.prog 88 [.c (.d (.sl (r1 l))), I x] [] (I (idxI (fun y => decide (x = y)) l 0)) [] := by
  have l1 := r1_len l
  refine callsR_of tab mixed Tryz.func88 rfl (by decide) rfl rfl ?_
  conv => whnf
  refine loopN tab mixed (fun i => i ≤ l.length ∧ idxI (fun y => decide (x = y)) l 0 = idxI (fun y => decide (x = y)) (l.drop i) i) l.length (fun i => [(8, I i)]) (fun _ => []) 51 [] ⟨by omega, by simp⟩ ?_
  conv => whnf
  refine ⟨?_, fun i ⟨hi, hJ⟩ => ?_⟩
  · repeat' (first | exact trivial | rfl | refine And.intro ?_ ?_)
    all_goals (conv => whnf)
    repeat' (first | exact trivial | rfl | refine And.intro ?_ ?_)
  conv => whnf
  refine spD (fun q1 => ?_) (fun q1 => ?_) <;> conv => whnf
  · have hi' : i < l.length := by omega
    obtain ⟨y, hy⟩ := get_of hi'
    rw [idxI_drop hy] at hJ
    refine ⟨by omega, _, r1_get hy, ?_⟩
    conv => whnf
    refine spE (fun q2 => ?_) (fun q2 => ?_) <;> conv => whnf
    · rw [hJ, if_pos (by simpa using q2)]
      exact ⟨[], rfl, ⟨rfl, rfl⟩, trivial⟩
    · refine gv (by first | omega | (simp only []; omega) | (simp; omega)) (by first | omega | (simp only []; omega) | (simp; omega)) ?_
      conv => whnf
      refine ⟨⟨hi', hi', by rw [hJ, if_neg (by simpa using q2)]⟩, [], ?_⟩
      repeat' (first | exact trivial | rfl | refine And.intro ?_ ?_)
      all_goals (conv => whnf)
      repeat' (first | exact trivial | rfl | refine And.intro ?_ ?_)
  · have hi' : i = l.length := by omega
    rw [hi', List.drop_length] at hJ
    rw [hJ]
    exact ⟨[], rfl, ⟨rfl, rfl⟩, trivial⟩

theorem contains_c (l : List Int) (x : Int) (hl : l.length ≤ 100000) : CallsH Tryz.prog 40 [.c (.d (.sl (r1 l))), I x] [] (B (decide (x ∈ l))) [] := by
  refine callsR_of tab mixed Tryz.func40 rfl (by decide) rfl rfl ?_
  conv => whnf
  refine ⟨_, _, index_c l x hl, ?_⟩
  conv => whnf
  refine ⟨[], rfl, ?_, trivial⟩
  have : (0 ≤ idxI (fun y => decide (x = y)) l 0) ↔ x ∈ l := by
    rcases idxI_neg (p := fun y => decide (x = y)) l 0 with ⟨h1, h2⟩ | ⟨j, z, h1, h2, h3, _⟩
    · rw [h1]
      constructor
      · intro h; omega
      · intro h; have := h2 x h; simp at this
    · rw [h1]
      constructor
      · intro _
        have h3 : x = z := by simpa using h3
        rw [h3]; exact List.mem_of_getElem? h2
      · intro _; omega
  simp [mtV, Cpl.valOf, mtC, eqD, this]

set_option maxRecDepth 100000 in
theorem equal_c (l m : List Int) (hl : l.length ≤ 100000) : CallsH Tryz.prog 44 [.c (.d (.sl (r1 l))), .c (.d (.sl (r1 m)))] [] (B (decide (l = m))) [] := by
  have l1 := r1_len l
  have l2 := r1_len m
  refine callsR_of tab mixed Tryz.func44 rfl (by decide) rfl rfl ?_
  conv => whnf
  refine spNe (fun q => ?_) (fun q => ?_) <;> conv => whnf
  · have : ¬ l = m := by rintro rfl; exact q rfl
    rw [decide_eq_false this]
    exact ⟨[], rfl, by simp [mtV, Cpl.valOf, mtC, eqD], trivial⟩
  have hlm : l.length = m.length := by omega
  refine loopN tab mixed (fun i => i ≤ l.length ∧ l.take i = m.take i) l.length (fun i => [(13, I i)]) (fun _ => []) 51 [] ⟨by omega, by simp⟩ ?_
  conv => whnf
  refine ⟨?_, fun i ⟨hi, hJ⟩ => ?_⟩
  · repeat' (first | exact trivial | rfl | refine And.intro ?_ ?_)
    all_goals (conv => whnf)
    repeat' (first | exact trivial | rfl | refine And.intro ?_ ?_)
  conv => whnf
  refine spD (fun q1 => ?_) (fun q1 => ?_) <;> conv => whnf
  · have hi' : i < l.length := by omega
    obtain ⟨x, hx⟩ := get_of hi'
    obtain ⟨y, hy⟩ := get_of (l := m) (i := i) (by omega)
    refine ⟨by kernel_rfl, ?_⟩
    conv => whnf
    refine ⟨by omega, _, r1_get hx, ?_⟩
    conv => whnf
    refine ⟨by omega, _, r1_get hy, ?_⟩
    conv => whnf
    refine spNe (fun q2 => ?_) (fun q2 => ?_) <;> conv => whnf
    · have : ¬ l = m := by rintro rfl; rw [hx] at hy; cases hy; exact q2 rfl
      rw [decide_eq_false this]
      exact ⟨[], rfl, by simp [mtV, Cpl.valOf, mtC, eqD], trivial⟩
    · refine gv (by first | omega | (simp only []; omega) | (simp; omega)) (by first | omega | (simp only []; omega) | (simp; omega)) ?_
      conv => whnf
      refine ⟨⟨hi', hi', by rw [take_succ_of hx, take_succ_of hy, hJ, q2]⟩, [], ?_⟩
      repeat' (first | exact trivial | rfl | refine And.intro ?_ ?_)
      all_goals (conv => whnf)
      repeat' (first | exact trivial | rfl | refine And.intro ?_ ?_)
  · have hi' : i = l.length := by omega
    rw [hi', List.take_length, List.take_of_length_le (by omega)] at hJ
    rw [decide_eq_true hJ]
    exact ⟨[], rfl, by simp [mtV, Cpl.valOf, mtC, eqD], trivial⟩

set_option maxRecDepth 100000 in
theorem cloneI_c (l : List Int) (hl : l.length ≤ 100000) (hne : l ≠ []) : CallsH Tryz.prog 65 [.c (.d (.sl (r1 l)))] [] (.c (.gs 0)) [.arr 3 (r1 l)] := by
  have l1 := r1_len l
  refine callsR_of tab mixed Tryz.func65 rfl (by decide) rfl rfl ?_
  conv => whnf
  refine ⟨by simpa [r1] using hne, ?_⟩
  conv => whnf
  refine ⟨fun q => (by cases q), fun _ => ?_⟩
  conv => whnf
  refine ⟨r1_okE _, ⟨by simp; omega⟩, ?_⟩
  conv => whnf
  exact ⟨[(0, some 1)], rfl, rfl, ⟨rfl, rfl⟩, trivial⟩

end Go.Proofs.YtncckpieemmmfaaGreat
