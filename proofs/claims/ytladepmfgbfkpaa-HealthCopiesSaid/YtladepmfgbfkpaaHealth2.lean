/- Contracts: New, Report, Advance, Zone and Region of a watch. Conditions: those ahead of each theorem. -/
import Derived.Test.YtladepmfgbfkpaaHealth
namespace Go.Proofs.Ytladepmfgbfkpaa
open Go Go.Cpl

def repOk (c : Cfg) (r : Rep) : Prop := (0 ≤ r.ob ∧ r.ob < c.observers.length) ∧ (0 ≤ r.ce ∧ r.ce < c.cells.length) ∧ 0 ≤ r.ti ∧ r.ti ≤ 1073741824

instance (c : Cfg) (r : Rep) : Decidable (repOk c r) := by unfold repOk; infer_instance

def older (l : List Rep) (r : Rep) : Bool := match findR r.ob r.ce l with
  | some q => decide (r.ti < q.ti)
  | none => false

def repE (c : Cfg) (l : List Rep) (r : Rep) : Int := if repOk c r then (if older l r then 20 else 0) else 1

def repL (c : Cfg) (l : List Rep) (r : Rep) : List Rep := if repOk c r then (if older l r then l else setR r l) else l

abbrev repW (c : Cfg) (s : W23) (r : Rep) : W23 := { s with reps := repL c s.reps r }

set_option maxRecDepth 100000 in
theorem report_c (c : Cfg) (s : W23) (r : Rep) (h : WOk c s) : CallsH Try.prog 25 [.c (.ptr 0 0 0), repV r] (wH c s) (I (repE c s.reps r)) (wH c (repW c s r)) := by
  have hbad : ¬ repOk c r → repE c s.reps r = 1 ∧ repL c s.reps r = s.reps := fun hb => by simp [repE, repL, hb]
  refine callsR_of tab mixed Try.func25 rfl (by decide) rfl rfl ?_
  conv => whnf
  refine ⟨by kernel_rfl, ?_⟩
  conv => whnf
  refine spD (fun h1 => ?_) (fun h1 => ?_) <;> conv => whnf
  · obtain ⟨e1, e2⟩ := hbad (fun hb => by have := hb.1; omega)
    refine ⟨[(0, some 0), (1, some 1), (2, some 2), (3, some 3)], rfl, ?_⟩
    rw [e1]
    repeat' (first | exact trivial | rfl | refine And.intro ?_ ?_)
    all_goals (conv => whnf)
    repeat' (first | exact trivial | rfl | refine And.intro ?_ ?_)
    exact congrArg (List.map entO) e2
  refine spD (fun h2 => ?_) (fun h2 => ?_) <;> conv => whnf
  · obtain ⟨e1, e2⟩ := hbad (fun hb => by have := hb.1; omega)
    refine ⟨[(0, some 0), (1, some 1), (2, some 2), (3, some 3)], rfl, ?_⟩
    rw [e1]
    repeat' (first | exact trivial | rfl | refine And.intro ?_ ?_)
    all_goals (conv => whnf)
    repeat' (first | exact trivial | rfl | refine And.intro ?_ ?_)
    exact congrArg (List.map entO) e2
  refine ⟨_, _, hasW_c c s r.ce h, ?_⟩
  conv => whnf
  refine spN (fun h3 => ?_) (fun h3 => ?_) <;> conv => whnf
  · obtain ⟨e1, e2⟩ := hbad (fun hb => h3 hb.2.1)
    refine ⟨[(0, some 0), (1, some 1), (2, some 2), (3, some 3)], rfl, ?_⟩
    rw [e1]
    repeat' (first | exact trivial | rfl | refine And.intro ?_ ?_)
    all_goals (conv => whnf)
    repeat' (first | exact trivial | rfl | refine And.intro ?_ ?_)
    exact congrArg (List.map entO) e2
  refine spD (fun h4 => ?_) (fun h4 => ?_) <;> conv => whnf
  · obtain ⟨e1, e2⟩ := hbad (fun hb => by have := hb.2.2; omega)
    refine ⟨[(0, some 0), (1, some 1), (2, some 2), (3, some 3)], rfl, ?_⟩
    rw [e1]
    repeat' (first | exact trivial | rfl | refine And.intro ?_ ?_)
    all_goals (conv => whnf)
    repeat' (first | exact trivial | rfl | refine And.intro ?_ ?_)
    exact congrArg (List.map entO) e2
  refine spD (fun h5 => ?_) (fun h5 => ?_) <;> conv => whnf
  · obtain ⟨e1, e2⟩ := hbad (fun hb => by have := hb.2.2; omega)
    refine ⟨[(0, some 0), (1, some 1), (2, some 2), (3, some 3)], rfl, ?_⟩
    rw [e1]
    repeat' (first | exact trivial | rfl | refine And.intro ?_ ?_)
    all_goals (conv => whnf)
    repeat' (first | exact trivial | rfl | refine And.intro ?_ ?_)
    exact congrArg (List.map entO) e2
  have hok : repOk c r := ⟨by omega, by omega, by omega, by omega⟩
  have hkk := kinds_ent r.ob r.ce s.reps
  refine ⟨by kernel_rfl, ?_⟩
  conv => whnf
  refine ⟨by kernel_rfl, ?_⟩
  conv => whnf
  refine ⟨by kernel_rfl, ?_⟩
  conv => whnf
  refine ⟨by kernel_rfl, ?_⟩
  conv => whnf
  refine ⟨by kernel_rfl, ?_⟩
  conv => whnf
  refine ⟨hkk, ?_⟩
  cases hf : findR r.ob r.ce s.reps with
  | none =>
    have e1 : repE c s.reps r = 0 := by simp [repE, hok, older, hf]
    have e2 : repL c s.reps r = setR r s.reps := by simp [repL, hok, older, hf]
    refine Or.inr ⟨by rw [findE_ent, hf]; rfl, ?_⟩
    conv => whnf
    refine ⟨by kernel_rfl, ?_⟩
    conv => whnf
    refine ⟨by kernel_rfl, ?_⟩
    conv => whnf
    refine ⟨hkk, ?_⟩
    conv => whnf
    refine ⟨[(0, some 0), (1, some 1), (2, some 2), (3, some 3)], rfl, ?_⟩
    rw [e1]
    repeat' (first | exact trivial | rfl | refine And.intro ?_ ?_)
    all_goals (conv => whnf)
    repeat' (first | exact trivial | rfl | refine And.intro ?_ ?_)
    exact (congrArg (List.map entO) e2).trans (setE_ent r s.reps).symm
  | some q =>
    refine Or.inl ⟨repD q, by rw [findE_ent, hf]; rfl, ?_⟩
    conv => whnf
    refine spD (fun h6 => ?_) (fun h6 => ?_) <;> conv => whnf
    · have e1 : repE c s.reps r = 20 := by simp [repE, hok, older, hf, h6]
      have e2 : repL c s.reps r = s.reps := by simp [repL, hok, older, hf, h6]
      refine ⟨[(0, some 0), (1, some 1), (2, some 2), (3, some 3)], rfl, ?_⟩
      rw [e1]
      repeat' (first | exact trivial | rfl | refine And.intro ?_ ?_)
      all_goals (conv => whnf)
      repeat' (first | exact trivial | rfl | refine And.intro ?_ ?_)
      exact congrArg (List.map entO) e2
    · have e1 : repE c s.reps r = 0 := by simp [repE, hok, older, hf, h6]
      have e2 : repL c s.reps r = setR r s.reps := by simp [repL, hok, older, hf, h6]
      refine ⟨by kernel_rfl, ?_⟩
      conv => whnf
      refine ⟨by kernel_rfl, ?_⟩
      conv => whnf
      refine ⟨hkk, ?_⟩
      conv => whnf
      refine ⟨[(0, some 0), (1, some 1), (2, some 2), (3, some 3)], rfl, ?_⟩
      rw [e1]
      repeat' (first | exact trivial | rfl | refine And.intro ?_ ?_)
      all_goals (conv => whnf)
      repeat' (first | exact trivial | rfl | refine And.intro ?_ ?_)
      exact (congrArg (List.map entO) e2).trans (setE_ent r s.reps).symm

/-- verdicts, doubts, and the cells whose verdict has changed -/
structure A3 where
  ver : List Int
  dou : List Int
  chg : List Int

/-- the tick at which a doubt began -/
def sinceT (d tick : Int) : Int := if d < 0 then tick else d

def advStep (v hold tick : Int) (i : Nat) (a : A3) : A3 :=
  if v = 3 ∨ v = (a.ver[i]?).getD 0 then ⟨a.ver, a.dou.set i (-1), a.chg⟩
  else if hold ≤ tick - sinceT ((a.dou[i]?).getD 0) tick then ⟨a.ver.set i v, a.dou.set i (-1), a.chg ++ [(i : Int)]⟩
  else ⟨a.ver, a.dou.set i (sinceT ((a.dou[i]?).getD 0) tick), a.chg⟩

def adv (vt : Nat → Int) (hold tick : Int) (ver dou : List Int) : Nat → A3
  | 0 => ⟨ver, dou, []⟩
  | i + 1 => advStep (vt i) hold tick i (adv vt hold tick ver dou i)

theorem advStep_len (v hold tick : Int) (i : Nat) (a : A3) : (advStep v hold tick i a).ver.length = a.ver.length ∧ (advStep v hold tick i a).dou.length = a.dou.length ∧ (advStep v hold tick i a).chg.length ≤ a.chg.length + 1 := by
  unfold advStep
  split
  · simp
  · split <;> simp

theorem adv_len (vt : Nat → Int) (hold tick : Int) (ver dou : List Int) : ∀ i, (adv vt hold tick ver dou i).ver.length = ver.length ∧ (adv vt hold tick ver dou i).dou.length = dou.length ∧ (adv vt hold tick ver dou i).chg.length ≤ i
  | 0 => ⟨rfl, rfl, Nat.le_refl _⟩
  | i + 1 => by
    have h := adv_len vt hold tick ver dou i
    have h2 := advStep_len (vt i) hold tick i (adv vt hold tick ver dou i)
    rw [adv]
    omega

theorem set_mem {l : List Int} {i : Nat} {x y : Int} (h : y ∈ l.set i x) : y ∈ l ∨ y = x := List.mem_or_eq_of_mem_set h

theorem advStep_dou {v hold tick : Int} {i : Nat} {a : A3} (ht : 0 ≤ tick ∧ tick ≤ 1073741824) (h : ∀ x ∈ a.dou, -1 ≤ x ∧ x ≤ 1073741824) : ∀ x ∈ (advStep v hold tick i a).dou, -1 ≤ x ∧ x ≤ 1073741824 := by
  have hd : -1 ≤ (a.dou[i]?).getD 0 ∧ (a.dou[i]?).getD 0 ≤ 1073741824 := by
    cases hx : a.dou[i]? with
    | none => simp
    | some y => simpa using h y (List.mem_of_getElem? hx)
  intro x hx
  unfold advStep at hx
  split at hx
  · rcases set_mem hx with hx | rfl
    · exact h x hx
    · omega
  · split at hx
    · rcases set_mem hx with hx | rfl
      · exact h x hx
      · omega
    · rcases set_mem hx with hx | rfl
      · exact h x hx
      · unfold sinceT; split <;> omega

theorem adv_dou {vt : Nat → Int} {hold tick : Int} {ver dou : List Int} (ht : 0 ≤ tick ∧ tick ≤ 1073741824) (h : ∀ x ∈ dou, -1 ≤ x ∧ x ≤ 1073741824) : ∀ i, ∀ x ∈ (adv vt hold tick ver dou i).dou, -1 ≤ x ∧ x ≤ 1073741824
  | 0 => h
  | i + 1 => advStep_dou ht (adv_dou ht h i)

theorem set_self {α : Type} {l : List α} {i : Nat} {x : α} (h : l[i]? = some x) : l.set i x = l := by
  apply List.ext_getElem?
  intro j
  by_cases hj : i = j
  · subst hj
    have := (List.getElem?_eq_some_iff.1 h).1
    simp [this]
    exact ((List.getElem?_eq_some_iff.1 h).2).symm
  · simp [hj]

def advBad (s : W23) (tick : Int) : Prop := tick < s.tick ∨ 1073741824 < tick

instance (s : W23) (tick : Int) : Decidable (advBad s tick) := by unfold advBad; infer_instance

abbrev advAt (c : Cfg) (s : W23) (tick : Int) (i : Nat) : A3 := adv (fun i => vote c.observers.length s.age i tick s.reps) s.hold tick s.ver s.dou i

def advE (s : W23) (tick : Int) : Int := if advBad s tick then 3 else 0

def advW (c : Cfg) (s : W23) (tick : Int) : W23 := if advBad s tick then s else { s with tick := tick, ver := (advAt c s tick c.cells.length).ver, dou := (advAt c s tick c.cells.length).dou }

def advC (c : Cfg) (s : W23) (tick : Int) : List Int := if advBad s tick then [] else (advAt c s tick c.cells.length).chg

theorem WOk.mid {c : Cfg} {s : W23} (h : WOk c s) {tick : Int} (ht : ¬ advBad s tick) (i : Nat) : WOk c { s with tick := tick, ver := (advAt c s tick i).ver, dou := (advAt c s tick i).dou } := by
  have h1 := adv_len (fun i => vote c.observers.length s.age i tick s.reps) s.hold tick s.ver s.dou i
  have h2 := h.tick
  have h3 : 0 ≤ tick ∧ tick ≤ 1073741824 := by unfold advBad at ht; omega
  exact ⟨h.laid, h.obs, h.age, h.hold, h3, h1.1.trans h.ver, h1.2.1.trans h.dou, adv_dou h3 h.doubt i, h.keys, h.rep, h.few⟩

theorem r1_set' (l : List Int) (i : Nat) (x : Int) : (r1 l).set i [i64 x] = r1 (l.set i x) := by simp [r1, List.map_set]

abbrev wHx (c : Cfg) (age hold tick : Int) (ver dou : List Int) (reps : List Rep) : List HObj := [.box [.d (i64 age), .d (i64 hold), .d (i64 c.observers.length), .d (.sl (zoneR c c.zones.length)), .d (.sl (r1 c.zones)), .d (i64 tick), .gs 1, .gs 2, .mp 3], .arr 3 (r1 ver), .arr 3 (r1 dou), .mp true true (reps.map entO)]

theorem voteX_c (c : Cfg) (age hold tick0 : Int) (ver dou : List Int) (reps : List Rep) (cell tick : Int) (h : WOk c ⟨age, hold, tick0, ver, dou, reps⟩) :
    CallsH Try.prog 19 [.c (.ptr 0 0 0), I cell, I tick] (wHx c age hold tick0 ver dou reps) (I (vote c.observers.length age cell tick reps)) (wHx c age hold tick0 ver dou reps) := vote_c c ⟨age, hold, tick0, ver, dou, reps⟩ cell tick h

set_option maxHeartbeats 2000000 in
set_option maxRecDepth 100000 in
theorem advance_c (c : Cfg) (s : W23) (tick : Int) (h : WOk c s) : CallsH Try.prog 26 [.c (.ptr 0 0 0), I tick] (wH c s) (.tup [.inl (.gs 4), .inl (.d (i64 (advE s tick)))]) (wH c (advW c s tick) ++ [.arr 3 (r1 (advC c s tick))]) := by
  have hC := h.laid.cells
  have hv0 := h.ver
  have hbad : advBad s tick → advE s tick = 3 ∧ advW c s tick = s ∧ advC c s tick = [] := fun hb => by simp [advE, advW, advC, hb]
  refine callsR_of tab mixed Try.func26 rfl (by decide) rfl rfl ?_
  conv => whnf
  refine spD (fun h1 => ?_) (fun h1 => ?_) <;> conv => whnf
  · obtain ⟨e1, e2, e3⟩ := hbad (.inl h1)
    rw [e1, e2, e3]
    refine ⟨[(0, some 0), (1, some 1), (2, some 2), (3, some 3), (4, none)], rfl, ?_⟩
    repeat' (first | exact trivial | rfl | refine And.intro ?_ ?_)
    all_goals (conv => whnf)
    repeat' (first | exact trivial | rfl | refine And.intro ?_ ?_)
  refine spD (fun h2 => ?_) (fun h2 => ?_) <;> conv => whnf
  · obtain ⟨e1, e2, e3⟩ := hbad (.inr h2)
    rw [e1, e2, e3]
    refine ⟨[(0, some 0), (1, some 1), (2, some 2), (3, some 3), (4, none)], rfl, ?_⟩
    repeat' (first | exact trivial | rfl | refine And.intro ?_ ?_)
    all_goals (conv => whnf)
    repeat' (first | exact trivial | rfl | refine And.intro ?_ ?_)
  have hnb : ¬ advBad s tick := by unfold advBad; omega
  have e1 : advE s tick = 0 := by simp [advE, hnb]
  have e2 : advW c s tick = { s with tick := tick, ver := (advAt c s tick c.cells.length).ver, dou := (advAt c s tick c.cells.length).dou } := by simp [advW, hnb]
  have e3 : advC c s tick = (advAt c s tick c.cells.length).chg := by simp [advC, hnb]
  have hl0 := r1_len s.ver
  refine loopN tab mixed (fun i => i ≤ c.cells.length) c.cells.length (fun i => [(28, I i), (6, .c (.gs 50))]) (fun i => [(1, .arr 3 (r1 (advAt c s tick i).ver)), (2, .arr 3 (r1 (advAt c s tick i).dou)), (50, .arr 3 (r1 (advAt c s tick i).chg))]) 51 [(1, some 1), (2, some 2), (50, none)] (by omega) ?_
  conv => whnf
  refine ⟨?_, fun i hi => ?_⟩
  · repeat' (first | exact trivial | rfl | refine And.intro ?_ ?_)
    all_goals (conv => whnf)
    repeat' (first | exact trivial | rfl | refine And.intro ?_ ?_)
  conv => whnf
  refine spD (fun h3 => ?_) (fun h3 => ?_) <;> conv => whnf
  · have hi' : i < c.cells.length := by omega
    have hm := h.mid hnb i
    have hlen := adv_len (fun i => vote c.observers.length s.age i tick s.reps) s.hold tick s.ver s.dou i
    have hstep : advAt c s tick (i + 1) = advStep (vote c.observers.length s.age i tick s.reps) s.hold tick i (advAt c s tick i) := rfl
    refine ⟨_, _, voteX_c c s.age s.hold tick (advAt c s tick i).ver (advAt c s tick i).dou s.reps i tick hm, ?_⟩
    conv => whnf
    have hac : (advAt c s tick i).chg.length ≤ i := hlen.2.2
    generalize hvv : vote c.observers.length s.age i tick s.reps = v at hstep ⊢
    generalize hav : advAt c s tick i = a at *
    have ha1 : a.ver.length = c.cells.length := hm.ver
    have ha2 : a.dou.length = c.cells.length := hm.dou
    obtain ⟨x, hx⟩ := get_of (l := a.ver) (i := i) (by omega)
    obtain ⟨d, hd⟩ := get_of (l := a.dou) (i := i) (by omega)
    have hdr := hm.doubt d (List.mem_of_getElem? hd)
    have hr1 := r1_len a.ver
    have hr2 := r1_len a.dou
    have hr3 := r1_len a.chg
    have htk := h.tick
    have hte : tick ≤ 1073741824 ∧ 0 ≤ tick := by omega
    have hho := h.hold
    have gx : (r1 a.ver)[((i : Nat) : Int).toNat]? = some [i64 x] := r1_get hx
    have gd : (r1 a.dou)[((i : Nat) : Int).toNat]? = some [i64 d] := r1_get hd
    have hstay : v = 3 ∨ v = x → advStep v s.hold tick i a = ⟨a.ver, a.dou.set i (-1), a.chg⟩ := fun hh => by simp [advStep, hx, hh]
    have hflip : ¬ (v = 3 ∨ v = x) → s.hold ≤ tick - sinceT d tick → advStep v s.hold tick i a = ⟨a.ver.set i v, a.dou.set i (-1), a.chg ++ [(i : Int)]⟩ := fun hh h2 => by simp [advStep, hx, hd, hh, h2]
    have hwait : ¬ (v = 3 ∨ v = x) → ¬ s.hold ≤ tick - sinceT d tick → advStep v s.hold tick i a = ⟨a.ver, a.dou.set i (sinceT d tick), a.chg⟩ := fun hh h2 => by simp [advStep, hx, hd, hh, h2]
    refine spE (fun h4 => ?_) (fun h4 => ?_) <;> conv => whnf
    · rw [hstay (.inl h4)] at hstep
      refine ⟨by omega, by omega, _, gd, ?_⟩
      conv => whnf
      refine gv (by first | omega | (simp only []; omega) | (simp; omega)) (by first | omega | (simp only []; omega) | (simp; omega)) ?_
      conv => whnf
      refine ⟨⟨hi', hi'⟩, [(1, some 1), (2, some 2), (50, some 50)], ?_⟩
      rw [hstep]
      repeat' (first | exact trivial | rfl | refine And.intro ?_ ?_)
      all_goals (conv => whnf)
      repeat' (first | exact trivial | rfl | refine And.intro ?_ ?_)
      exact (r1_set' _ _ _).symm
    refine ⟨by omega, by omega, _, gx, ?_⟩
    conv => whnf
    refine spE (fun h5 => ?_) (fun h5 => ?_) <;> conv => whnf
    · rw [hstay (.inr h5)] at hstep
      refine ⟨by omega, by omega, _, gd, ?_⟩
      conv => whnf
      refine gv (by first | omega | (simp only []; omega) | (simp; omega)) (by first | omega | (simp only []; omega) | (simp; omega)) ?_
      conv => whnf
      refine ⟨⟨hi', hi'⟩, [(1, some 1), (2, some 2), (50, some 50)], ?_⟩
      rw [hstep]
      repeat' (first | exact trivial | rfl | refine And.intro ?_ ?_)
      all_goals (conv => whnf)
      repeat' (first | exact trivial | rfl | refine And.intro ?_ ?_)
      exact (r1_set' _ _ _).symm
    have hgo : ¬ (v = 3 ∨ v = x) := by omega
    refine ⟨by omega, by omega, _, gd, ?_⟩
    conv => whnf
    refine spD (fun h6 => ?_) (fun h6 => ?_) <;> conv => whnf
    · have hsi : sinceT d tick = tick := by simp [sinceT, h6]
      have gt : ((r1 a.dou).set ((i : Nat) : Int).toNat [i64 tick])[((i : Nat) : Int).toNat]? = some [i64 tick] := by rw [List.getElem?_set]; simp; omega
      have hset : ((r1 a.dou).set ((i : Nat) : Int).toNat [i64 tick]).length = (r1 a.dou).length := by simp
      refine ⟨by omega, by omega, _, gd, ?_⟩
      conv => whnf
      refine ⟨by kernel_rfl, ?_⟩
      conv => whnf
      refine ⟨by omega, by rw [List.length_set]; omega, _, gt, ?_⟩
      conv => whnf
      refine gv (by first | omega | (simp only []; omega) | (simp; omega)) (by first | omega | (simp only []; omega) | (simp; omega)) ?_
      conv => whnf
      refine spD (fun h7 => ?_) (fun h7 => ?_) <;> conv => whnf
      · rw [hflip hgo (by rw [hsi]; exact h7)] at hstep
        refine ⟨by omega, by omega, _, gx, ?_⟩
        conv => whnf
        refine ⟨by omega, by rw [List.length_set]; omega, _, gt, ?_⟩
        conv => whnf
        refine ⟨row1 _ rfl, ⟨by simp only [List.length_cons, List.length_nil]; omega⟩, ?_⟩
        conv => whnf
        refine gv (by first | omega | (simp only []; omega) | (simp; omega)) (by first | omega | (simp only []; omega) | (simp; omega)) ?_
        conv => whnf
        refine ⟨⟨hi', hi'⟩, [(1, some 1), (2, some 2), (50, some 52)], ?_⟩
        rw [hstep]
        repeat' (first | exact trivial | rfl | refine And.intro ?_ ?_)
        all_goals (conv => whnf)
        repeat' (first | exact trivial | rfl | refine And.intro ?_ ?_)
        · exact (r1_set' _ _ _).symm
        · rw [List.set_set]; exact (r1_set' _ _ _).symm
        · exact (r1_app _ _).symm
      · rw [hwait hgo (by rw [hsi]; exact h7), hsi] at hstep
        refine gv (by first | omega | (simp only []; omega) | (simp; omega)) (by first | omega | (simp only []; omega) | (simp; omega)) ?_
        conv => whnf
        refine ⟨⟨hi', hi'⟩, [(1, some 1), (2, some 2), (50, some 50)], ?_⟩
        rw [hstep]
        repeat' (first | exact trivial | rfl | refine And.intro ?_ ?_)
        all_goals (conv => whnf)
        repeat' (first | exact trivial | rfl | refine And.intro ?_ ?_)
        exact (r1_set' _ _ _).symm
    · have hsi : sinceT d tick = d := by simp [sinceT, h6]
      refine ⟨by kernel_rfl, ?_⟩
      conv => whnf
      refine ⟨by omega, by omega, _, gd, ?_⟩
      conv => whnf
      refine gv (by first | omega | (simp only []; omega) | (simp; omega)) (by first | omega | (simp only []; omega) | (simp; omega)) ?_
      conv => whnf
      refine spD (fun h7 => ?_) (fun h7 => ?_) <;> conv => whnf
      · rw [hflip hgo (by rw [hsi]; exact h7)] at hstep
        refine ⟨by omega, by omega, _, gx, ?_⟩
        conv => whnf
        refine ⟨by omega, by omega, _, gd, ?_⟩
        conv => whnf
        refine ⟨row1 _ rfl, ⟨by simp only [List.length_cons, List.length_nil]; omega⟩, ?_⟩
        conv => whnf
        refine gv (by first | omega | (simp only []; omega) | (simp; omega)) (by first | omega | (simp only []; omega) | (simp; omega)) ?_
        conv => whnf
        refine ⟨⟨hi', hi'⟩, [(1, some 1), (2, some 2), (50, some 52)], ?_⟩
        rw [hstep]
        repeat' (first | exact trivial | rfl | refine And.intro ?_ ?_)
        all_goals (conv => whnf)
        repeat' (first | exact trivial | rfl | refine And.intro ?_ ?_)
        · exact (r1_set' _ _ _).symm
        · exact (r1_set' _ _ _).symm
        · exact (r1_app _ _).symm
      · rw [hwait hgo (by rw [hsi]; exact h7), hsi] at hstep
        refine gv (by first | omega | (simp only []; omega) | (simp; omega)) (by first | omega | (simp only []; omega) | (simp; omega)) ?_
        conv => whnf
        refine ⟨⟨hi', hi'⟩, [(1, some 1), (2, some 2), (50, some 50)], ?_⟩
        rw [hstep]
        repeat' (first | exact trivial | rfl | refine And.intro ?_ ?_)
        all_goals (conv => whnf)
        repeat' (first | exact trivial | rfl | refine And.intro ?_ ?_)
        exact (congrArg r1 (set_self hd))
  · have hi' : i = c.cells.length := by omega
    subst hi'
    rw [e1, e2, e3]
    refine ⟨[(0, some 0), (1, some 1), (2, some 2), (3, some 3), (4, some 50)], rfl, ?_⟩
    repeat' (first | exact trivial | rfl | refine And.intro ?_ ?_)
    all_goals (conv => whnf)
    repeat' (first | exact trivial | rfl | refine And.intro ?_ ?_)

end Go.Proofs.Ytladepmfgbfkpaa
