/- Contracts: what the functions of health return and leave, at every watch of the form that New makes. Conditions: those ahead of each theorem. -/
import Derived.Test.YtladepmfgbfkpaaBook
namespace Go.Proofs.Ytladepmfgbfkpaa
open Go Go.Cpl

structure Rep where
  ob : Int
  ce : Int
  ti : Int
  bad : Bool

def repD (r : Rep) : List D := [i64 r.ob, i64 r.ce, i64 r.ti, .bool r.bad]

def entO (r : Rep) : List D × List D := ([i64 r.ob, i64 r.ce], [i64 r.ob, i64 r.ce, i64 r.ti, .bool r.bad])

abbrev repV (r : Rep) : AV := .agg [.d (i64 r.ob), .d (i64 r.ce), .d (i64 r.ti), .d (.bool r.bad)]

/-- what a watch keeps -/
structure W23 where
  age : Int
  hold : Int
  tick : Int
  ver : List Int
  dou : List Int
  reps : List Rep

def zoneR (c : Cfg) : Nat → List (List D)
  | 0 => []
  | n + 1 => zoneR c n ++ [[.sl (r1 (inZone c n))]]

abbrev wBox (c : Cfg) (s : W23) (v d m : Nat) : HObj := .box [.d (i64 s.age), .d (i64 s.hold), .d (i64 c.observers.length), .d (.sl (zoneR c c.zones.length)), .d (.sl (r1 c.zones)), .d (i64 s.tick), .gs v, .gs d, .mp m]

abbrev wM (s : W23) : HObj := .mp true true (s.reps.map entO)

abbrev wH (c : Cfg) (s : W23) : List HObj := [wBox c s 1 2 3, .arr 3 (r1 s.ver), .arr 3 (r1 s.dou), wM s]

def isKey (o c : Int) (r : Rep) : Bool := (o == r.ob) && ((c == r.ce) && true)

def findR (o c : Int) : List Rep → Option Rep
  | [] => none
  | r :: l => match isKey o c r with
    | true => some r
    | false => findR o c l

def setR (x : Rep) : List Rep → List Rep
  | [] => [x]
  | r :: l => match isKey x.ob x.ce r with
    | true => x :: l
    | false => r :: setR x l

theorem findE_ent (o c : Int) : ∀ l : List Rep, findE [i64 o, i64 c] (l.map entO) = (findR o c l).map repD
  | [] => rfl
  | r :: l => by
    have ih := findE_ent o c l
    show (match isKey o c r with | true => some (repD r) | false => findE [i64 o, i64 c] (l.map entO)) = (findR o c (r :: l)).map repD
    rw [findR]
    cases isKey o c r with
    | true => rfl
    | false => exact ih

theorem setE_ent (x : Rep) : ∀ l : List Rep, setE [i64 x.ob, i64 x.ce] (repD x) (l.map entO) = (setR x l).map entO
  | [] => rfl
  | r :: l => by
    have ih := setE_ent x l
    show (match isKey x.ob x.ce r with | true => ([i64 x.ob, i64 x.ce], repD x) :: l.map entO | false => entO r :: setE [i64 x.ob, i64 x.ce] (repD x) (l.map entO)) = (setR x (r :: l)).map entO
    rw [setR]
    cases isKey x.ob x.ce r with
    | true => rfl
    | false => rw [ih]; rfl

theorem kinds_ent (o c : Int) (l : List Rep) : ∀ p ∈ l.map entO, eqKinds [i64 o, i64 c] p.1 = true := by
  intro p hp
  obtain ⟨r, _, rfl⟩ := List.mem_map.1 hp
  rfl

theorem isKey_iff {o c : Int} {r : Rep} : isKey o c r = true ↔ o = r.ob ∧ c = r.ce := by simp [isKey]

theorem find_some {o c : Int} {r : Rep} : ∀ {l : List Rep}, findR o c l = some r → r ∈ l ∧ r.ob = o ∧ r.ce = c
  | a :: l, h => by
    rw [findR] at h
    split at h
    · rename_i hk
      simp at h
      subst h
      have := isKey_iff.1 hk
      exact ⟨by simp, this.1.symm, this.2.symm⟩
    · have := find_some h
      exact ⟨by simp [this.1], this.2⟩

theorem find_none {o c : Int} : ∀ {l : List Rep}, findR o c l = none → ∀ r ∈ l, ¬ (r.ob = o ∧ r.ce = c)
  | a :: l, h, r, hr => by
    rw [findR] at h
    split at h
    · cases h
    · rename_i hk
      rcases List.mem_cons.1 hr with rfl | hr
      · rintro ⟨h1, h2⟩
        rw [isKey_iff.2 ⟨h1.symm, h2.symm⟩] at hk
        cases hk
      · exact find_none h r hr

/-- each observer has at most one report on a cell -/
def Keys (l : List Rep) : Prop := l.Pairwise fun a b => ¬ (a.ob = b.ob ∧ a.ce = b.ce)

/-- a report that counts at a tick, and says this -/
def vq (age cell tick : Int) (b : Bool) (r : Rep) : Bool := decide (r.ce = cell ∧ r.ti ≤ tick ∧ IntKind.i64.wrap (tick - r.ti) ≤ age ∧ r.bad = b)

def votesTo (age cell tick : Int) (b : Bool) (l : List Rep) (k : Int) : Nat := l.countP fun r => vq age cell tick b r && decide (r.ob < k)

def votes (age cell tick : Int) (b : Bool) (l : List Rep) : Nat := l.countP (vq age cell tick b)

theorem votes_none {age cell tick : Int} {b : Bool} {k : Int} : ∀ {l : List Rep}, (∀ r ∈ l, ¬ (r.ob = k ∧ r.ce = cell)) → votesTo age cell tick b l (k + 1) = votesTo age cell tick b l k := by
  intro l h
  unfold votesTo
  refine List.countP_congr fun r hr => ?_
  have hn := h r hr
  simp only [vq, Bool.and_eq_true, decide_eq_true_eq]
  constructor
  · rintro ⟨h1, h2⟩
    refine ⟨h1, ?_⟩
    have : r.ob ≠ k := fun e => hn ⟨e, h1.1⟩
    omega
  · rintro ⟨h1, h2⟩
    exact ⟨h1, by omega⟩

theorem votes_step {age cell tick : Int} {b : Bool} {k : Int} : ∀ {l : List Rep}, Keys l →
    votesTo age cell tick b l (k + 1) = votesTo age cell tick b l k + (match findR k cell l with
      | some r => if vq age cell tick b r then 1 else 0
      | none => 0)
  | [], _ => rfl
  | a :: l, h => by
    have h := List.pairwise_cons.1 h
    have ih := votes_step (age := age) (cell := cell) (tick := tick) (b := b) (k := k) h.2
    rw [findR]
    cases hk : isKey k cell a with
    | true =>
      have hk := isKey_iff.1 hk
      have hn : ∀ r ∈ l, ¬ (r.ob = k ∧ r.ce = cell) := fun r hr e => h.1 r hr ⟨by omega, by omega⟩
      have e := votes_none (age := age) (tick := tick) (b := b) hn
      have e1 : votesTo age cell tick b (a :: l) (k + 1) = votesTo age cell tick b l (k + 1) + if vq age cell tick b a then 1 else 0 := by
        unfold votesTo
        rw [List.countP_cons, decide_eq_true (show a.ob < k + 1 by omega), Bool.and_true]
      have e2 : votesTo age cell tick b (a :: l) k = votesTo age cell tick b l k := by
        unfold votesTo
        rw [List.countP_cons, decide_eq_false (show ¬ a.ob < k by omega), Bool.and_false]
        simp
      rw [e1, e2, e]
    | false =>
      have hne : vq age cell tick b a = true → a.ob ≠ k := fun hv e => by
        simp only [vq, decide_eq_true_eq] at hv
        rw [isKey_iff.2 ⟨e.symm, hv.1.symm⟩] at hk
        cases hk
      have e1 : (vq age cell tick b a && decide (a.ob < k + 1)) = (vq age cell tick b a && decide (a.ob < k)) := by
        cases hv : vq age cell tick b a with
        | false => rfl
        | true =>
          have := hne hv
          simp only [Bool.true_and]
          rw [decide_eq_decide]
          omega
      unfold votesTo at ih ⊢
      rw [List.countP_cons, List.countP_cons, ih, e1]
      simp only
      omega

theorem votes_zero {age cell tick : Int} {b : Bool} {l : List Rep} (h : ∀ r ∈ l, 0 ≤ r.ob) : votesTo age cell tick b l 0 = 0 := by
  unfold votesTo
  rw [List.countP_eq_zero]
  intro r hr
  have := h r hr
  simp only [Bool.and_eq_true, decide_eq_true_eq, not_and]
  omega

theorem votes_all {age cell tick : Int} {b : Bool} {l : List Rep} {k : Int} (h : ∀ r ∈ l, r.ob < k) : votesTo age cell tick b l k = votes age cell tick b l := by
  unfold votesTo votes
  refine List.countP_congr fun r hr => ?_
  have := h r hr
  simp [this]

theorem votes_le (age cell tick : Int) (b : Bool) (l : List Rep) : votes age cell tick b l ≤ l.length := List.countP_le_length

theorem votesTo_le (age cell tick : Int) (b : Bool) (l : List Rep) (k : Int) : votesTo age cell tick b l k ≤ l.length := List.countP_le_length

def voteOf (n : Nat) (good bad : Nat) : Int := if n < 2 * bad then 2 else if n < 2 * good then 1 else 3

def vote (n : Nat) (age cell tick : Int) (l : List Rep) : Int := voteOf n (votes age cell tick false l) (votes age cell tick true l)

/-- what holds of every watch -/
structure WOk (c : Cfg) (s : W23) : Prop where
  laid : Laid c
  obs : c.observers.length ≤ 1000
  age : 0 ≤ s.age ∧ s.age ≤ 1073741824
  hold : 0 ≤ s.hold ∧ s.hold ≤ 1073741824
  tick : 0 ≤ s.tick ∧ s.tick ≤ 1073741824
  ver : s.ver.length = c.cells.length
  dou : s.dou.length = c.cells.length
  doubt : ∀ x ∈ s.dou, -1 ≤ x ∧ x ≤ 1073741824
  keys : Keys s.reps
  rep : ∀ r ∈ s.reps, (0 ≤ r.ob ∧ r.ob < c.observers.length) ∧ (0 ≤ r.ce ∧ r.ce < c.cells.length) ∧ 0 ≤ r.ti ∧ r.ti ≤ 1073741824
  few : s.reps.length ≤ 10000

theorem hasW_c (c : Cfg) (s : W23) (x : Int) (h : WOk c s) : CallsH Try.prog 44 [.c (.ptr 0 0 0), I x] (wH c s) (B (decide (0 ≤ x ∧ x < c.cells.length))) (wH c s) := by
  have hl := r1_len s.ver
  have hv := h.ver
  refine callsR_of tab mixed Try.func44 rfl (by decide) rfl rfl ?_
  conv => whnf
  refine spD (fun h1 => ?_) (fun h1 => ?_) <;> conv => whnf
  · refine ⟨[(0, some 0), (1, some 1), (2, some 2), (3, some 3)], rfl, ?_⟩
    repeat' (first | exact trivial | rfl | refine And.intro ?_ ?_)
    all_goals (conv => whnf)
    repeat' (first | exact trivial | rfl | refine And.intro ?_ ?_)
    rw [hl, hv, decide_eq_decide]
    omega
  · refine ⟨[(0, some 0), (1, some 1), (2, some 2), (3, some 3)], rfl, ?_⟩
    repeat' (first | exact trivial | rfl | refine And.intro ?_ ?_)
    all_goals (conv => whnf)
    repeat' (first | exact trivial | rfl | refine And.intro ?_ ?_)
    simp
    omega

def verdictOf (bad all : Int) : Int := if all = 0 then 3 else if all < 2 * bad then 2 else 1

theorem verdict_c (all bad : Int) (hb : 0 ≤ bad ∧ bad ≤ 1000000) : CallsH Try.prog 45 [I all, I bad] [] (I (verdictOf bad all)) [] := by
  refine callsR_of tab mixed Try.func45 rfl (by decide) rfl rfl ?_
  conv => whnf
  refine spE (fun h1 => ?_) (fun h1 => ?_) <;> conv => whnf
  · exact ⟨[], rfl, ⟨rfl, by simp [verdictOf, h1]⟩, trivial⟩
  refine gv (by first | omega | (simp only []; omega) | (simp; omega)) (by first | omega | (simp only []; omega) | (simp; omega)) ?_
  conv => whnf
  refine spD (fun h2 => ?_) (fun h2 => ?_) <;> conv => whnf
  · exact ⟨[], rfl, ⟨rfl, by simp [verdictOf, h1, h2]⟩, trivial⟩
  · exact ⟨[], rfl, ⟨rfl, by simp [verdictOf, h1, h2]⟩, trivial⟩

theorem cellW_c (c : Cfg) (s : W23) (x : Int) (h : WOk c s) : CallsH Try.prog 27 [.c (.ptr 0 0 0), I x] (wH c s) (I (if 0 ≤ x then (s.ver[x.toNat]?).getD 3 else 3)) (wH c s) := by
  have hl := r1_len s.ver
  have hv := h.ver
  refine callsR_of tab mixed Try.func27 rfl (by decide) rfl rfl ?_
  conv => whnf
  refine ⟨_, _, hasW_c c s x h, ?_⟩
  conv => whnf
  refine spN (fun h1 => ?_) (fun h1 => ?_) <;> conv => whnf
  · refine ⟨[(0, some 0), (1, some 1), (2, some 2), (3, some 3)], rfl, ?_⟩
    repeat' (first | exact trivial | rfl | refine And.intro ?_ ?_)
    all_goals (conv => whnf)
    repeat' (first | exact trivial | rfl | refine And.intro ?_ ?_)
    by_cases h0 : 0 ≤ x
    · rw [if_pos h0, List.getElem?_eq_none (by omega)]; rfl
    · rw [if_neg h0]
  · obtain ⟨y, hy⟩ := get_int (l := s.ver) (i := x) h1.1 (by omega)
    refine ⟨by omega, by omega, _, r1_get hy, ?_⟩
    conv => whnf
    refine ⟨[(0, some 0), (1, some 1), (2, some 2), (3, some 3)], rfl, ?_⟩
    repeat' (first | exact trivial | rfl | refine And.intro ?_ ?_)
    all_goals (conv => whnf)
    repeat' (first | exact trivial | rfl | refine And.intro ?_ ?_)
    rw [if_pos h1.1, hy]; rfl

set_option maxRecDepth 100000 in
theorem votes_c (c : Cfg) (s : W23) (cell tick : Int) (h : WOk c s) :
    CallsH Try.prog 17 [.c (.ptr 0 0 0), I cell, I tick] (wH c s) (.tup [.inl (.d (i64 (votes s.age cell tick false s.reps))), .inl (.d (i64 (votes s.age cell tick true s.reps)))]) (wH c s) := by
  have hob := h.obs
  have hfew := h.few
  refine callsR_of tab mixed Try.func17 rfl (by decide) rfl rfl ?_
  conv => whnf
  refine loopN tab mixed (fun i => i ≤ c.observers.length) c.observers.length (fun i => [(17, I i), (8, I (votesTo s.age cell tick false s.reps i)), (9, I (votesTo s.age cell tick true s.reps i))]) (fun _ => []) 51 [] (by omega) ?_
  conv => whnf
  refine ⟨?_, fun i hi => ?_⟩
  · repeat' (first | exact trivial | rfl | refine And.intro ?_ ?_)
    all_goals (conv => whnf)
    repeat' (first | exact trivial | rfl | refine And.intro ?_ ?_)
    · rw [show ((0 : Nat) : Int) = 0 from rfl, votes_zero fun r hr => (h.rep r hr).1.1]; rfl
    · rw [show ((0 : Nat) : Int) = 0 from rfl, votes_zero fun r hr => (h.rep r hr).1.1]; rfl
  conv => whnf
  refine spD (fun h2 => ?_) (fun h2 => ?_) <;> conv => whnf
  · have hi' : i < c.observers.length := by omega
    have hg1 := votesTo_le s.age cell tick false s.reps i
    have hg2 := votesTo_le s.age cell tick true s.reps i
    have hs1 := votes_step (age := s.age) (cell := cell) (tick := tick) (b := false) (k := i) h.keys
    have hs2 := votes_step (age := s.age) (cell := cell) (tick := tick) (b := true) (k := i) h.keys
    rw [show (i : Int) + 1 = ((i + 1 : Nat) : Int) by omega] at hs1 hs2
    refine ⟨by kernel_rfl, ?_⟩
    conv => whnf
    refine ⟨kinds_ent _ _ _, ?_⟩
    cases hf : findR i cell s.reps with
    | none =>
      rw [hf] at hs1 hs2
      simp only [Nat.add_zero] at hs1 hs2
      refine Or.inr ⟨by rw [findE_ent, hf]; rfl, ?_⟩
      conv => whnf
      refine ⟨by kernel_rfl, ?_⟩
      conv => whnf
      refine gv (by first | omega | (simp only []; omega) | (simp; omega)) (by first | omega | (simp only []; omega) | (simp; omega)) ?_
      conv => whnf
      refine ⟨⟨hi', hi'⟩, [], ?_⟩
      repeat' (first | exact trivial | rfl | refine And.intro ?_ ?_)
      all_goals (conv => whnf)
      repeat' (first | exact trivial | rfl | refine And.intro ?_ ?_)
      all_goals omega
    | some r =>
      rw [hf] at hs1 hs2
      simp only at hs1 hs2
      have hr := find_some hf
      refine Or.inl ⟨repD r, by rw [findE_ent, hf]; rfl, ?_⟩
      conv => whnf
      refine ⟨by kernel_rfl, ?_⟩
      conv => whnf
      refine spD (fun h3 => ?_) (fun h3 => ?_) <;> conv => whnf
      · have n1 : ∀ b, vq s.age cell tick b r = false := fun b => by simp only [vq, decide_eq_false_iff_not]; omega
        rw [n1] at hs1 hs2
        refine gv (by first | omega | (simp only []; omega) | (simp; omega)) (by first | omega | (simp only []; omega) | (simp; omega)) ?_
        conv => whnf
        refine ⟨⟨hi', hi'⟩, [], ?_⟩
        repeat' (first | exact trivial | rfl | refine And.intro ?_ ?_)
        all_goals (conv => whnf)
        repeat' (first | exact trivial | rfl | refine And.intro ?_ ?_)
        all_goals (simp only [Bool.false_eq_true, if_false, Nat.add_zero] at hs1 hs2; omega)
      refine gg ?_
      conv => whnf
      refine spD (fun h4 => ?_) (fun h4 => ?_) <;> conv => whnf
      · have n1 : ∀ b, vq s.age cell tick b r = false := fun b => by simp only [vq, decide_eq_false_iff_not]; omega
        rw [n1] at hs1 hs2
        refine gv (by first | omega | (simp only []; omega) | (simp; omega)) (by first | omega | (simp only []; omega) | (simp; omega)) ?_
        conv => whnf
        refine ⟨⟨hi', hi'⟩, [], ?_⟩
        repeat' (first | exact trivial | rfl | refine And.intro ?_ ?_)
        all_goals (conv => whnf)
        repeat' (first | exact trivial | rfl | refine And.intro ?_ ?_)
        all_goals (simp only [Bool.false_eq_true, if_false, Nat.add_zero] at hs1 hs2; omega)
      refine ⟨fun h5 => ?_, fun h5 => ?_⟩ <;> conv => whnf
      · have n1 : vq s.age cell tick false r = false := by simp [vq, h5]
        have n2 : vq s.age cell tick true r = true := by simp only [vq, decide_eq_true_eq]; exact ⟨hr.2.2, by omega, by omega, h5⟩
        rw [n1] at hs1
        rw [n2] at hs2
        refine gv (by first | omega | (simp only []; omega) | (simp; omega)) (by first | omega | (simp only []; omega) | (simp; omega)) ?_
        conv => whnf
        refine gv (by first | omega | (simp only []; omega) | (simp; omega)) (by first | omega | (simp only []; omega) | (simp; omega)) ?_
        conv => whnf
        refine ⟨⟨hi', hi'⟩, [], ?_⟩
        repeat' (first | exact trivial | rfl | refine And.intro ?_ ?_)
        all_goals (conv => whnf)
        repeat' (first | exact trivial | rfl | refine And.intro ?_ ?_)
        all_goals (simp only [Bool.false_eq_true, if_false, if_true, Nat.add_zero] at hs1 hs2; omega)
      · have n1 : vq s.age cell tick true r = false := by simp [vq, h5]
        have n2 : vq s.age cell tick false r = true := by simp only [vq, decide_eq_true_eq]; exact ⟨hr.2.2, by omega, by omega, h5⟩
        rw [n2] at hs1
        rw [n1] at hs2
        refine gv (by first | omega | (simp only []; omega) | (simp; omega)) (by first | omega | (simp only []; omega) | (simp; omega)) ?_
        conv => whnf
        refine gv (by first | omega | (simp only []; omega) | (simp; omega)) (by first | omega | (simp only []; omega) | (simp; omega)) ?_
        conv => whnf
        refine ⟨⟨hi', hi'⟩, [], ?_⟩
        repeat' (first | exact trivial | rfl | refine And.intro ?_ ?_)
        all_goals (conv => whnf)
        repeat' (first | exact trivial | rfl | refine And.intro ?_ ?_)
        all_goals (simp only [Bool.false_eq_true, if_false, if_true, Nat.add_zero] at hs1 hs2; omega)
  · have hi' : i = c.observers.length := by omega
    refine ⟨[(0, some 0), (1, some 1), (2, some 2), (3, some 3)], rfl, ?_⟩
    repeat' (first | exact trivial | rfl | refine And.intro ?_ ?_)
    all_goals (conv => whnf)
    repeat' (first | exact trivial | rfl | refine And.intro ?_ ?_)
    all_goals rw [hi', votes_all fun r hr => (h.rep r hr).1.2]

theorem vote_c (c : Cfg) (s : W23) (cell tick : Int) (h : WOk c s) :
    CallsH Try.prog 19 [.c (.ptr 0 0 0), I cell, I tick] (wH c s) (I (vote c.observers.length s.age cell tick s.reps)) (wH c s) := by
  have hob := h.obs
  have hfew := h.few
  have hg1 := votes_le s.age cell tick false s.reps
  have hg2 := votes_le s.age cell tick true s.reps
  refine callsR_of tab mixed Try.func19 rfl (by decide) rfl rfl ?_
  conv => whnf
  refine ⟨_, _, votes_c c s cell tick h, ?_⟩
  conv => whnf
  refine gv (by first | omega | (simp only []; omega) | (simp; omega)) (by first | omega | (simp only []; omega) | (simp; omega)) ?_
  conv => whnf
  refine spD (fun h1 => ?_) (fun h1 => ?_) <;> conv => whnf
  · refine ⟨[(0, some 0), (1, some 1), (2, some 2), (3, some 3)], rfl, ?_⟩
    repeat' (first | exact trivial | rfl | refine And.intro ?_ ?_)
    all_goals (conv => whnf)
    repeat' (first | exact trivial | rfl | refine And.intro ?_ ?_)
    rw [vote, voteOf, if_pos (by omega)]
  refine gv (by first | omega | (simp only []; omega) | (simp; omega)) (by first | omega | (simp only []; omega) | (simp; omega)) ?_
  conv => whnf
  refine spD (fun h2 => ?_) (fun h2 => ?_) <;> conv => whnf
  · refine ⟨[(0, some 0), (1, some 1), (2, some 2), (3, some 3)], rfl, ?_⟩
    repeat' (first | exact trivial | rfl | refine And.intro ?_ ?_)
    all_goals (conv => whnf)
    repeat' (first | exact trivial | rfl | refine And.intro ?_ ?_)
    rw [vote, voteOf, if_neg (by omega), if_pos (by omega)]
  · refine ⟨[(0, some 0), (1, some 1), (2, some 2), (3, some 3)], rfl, ?_⟩
    repeat' (first | exact trivial | rfl | refine And.intro ?_ ?_)
    all_goals (conv => whnf)
    repeat' (first | exact trivial | rfl | refine And.intro ?_ ?_)
    rw [vote, voteOf, if_neg (by omega), if_neg (by omega)]

end Go.Proofs.Ytladepmfgbfkpaa
