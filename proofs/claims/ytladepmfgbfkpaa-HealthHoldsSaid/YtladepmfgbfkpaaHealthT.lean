/- Contract: Advance of the reference of health. Conditions: those ahead of the theorem. -/
import Derived.Test.YtladepmfgbfkpaaHealthS
namespace Go.Proofs.Ytladepmfgbfkpaa
open Go Go.Cpl

abbrev rHx (c : Cfg) (age hold tick : Int) (ver dou : List Int) (reps : List Rep) : List HObj := [.box [.d (i64 c.regions), .d (.sl (r1 c.zones)), .d (.sl (r2 c.cells)), .d (.sl (rT c.tenants)), .d (.sl (r2 c.versions)), .d (.sl (r1 c.replicas)), .d (.sl (r1 c.observers)), .d (i64 c.blast), .d (i64 c.lease), .d (i64 c.bake), .d (i64 age), .d (i64 hold), .d (i64 tick), .gs 1, .gs 2, .gs 3], .arr 45 (rR reps), .arr 3 (r1 ver), .arr 3 (r1 dou)]

theorem voteRX_c (c : Cfg) (age hold tick0 : Int) (ver dou : List Int) (reps : List Rep) (cell tick : Int) (h : WOk c ⟨age, hold, tick0, ver, dou, reps⟩) :
    CallsH Try.prog 20 [.c (.ptr 0 0 0), I cell, I tick] (rHx c age hold tick0 ver dou reps) (I (vote c.observers.length age cell tick reps)) (rHx c age hold tick0 ver dou reps) := voteR_c c ⟨age, hold, tick0, ver, dou, reps⟩ cell tick h

set_option maxHeartbeats 2000000 in
set_option maxRecDepth 100000 in
theorem advanceR_c (c : Cfg) (s : W23) (tick : Int) (h : WOk c s) : CallsH Try.prog 42 [.c (.ptr 0 0 0), I tick] (rH c s) (.tup [.inl (.gs 4), .inl (.d (i64 (advE s tick)))]) (rH c (advW c s tick) ++ [.arr 3 (r1 (advC c s tick))]) := by
  have hC := h.laid.cells
  have hv0 := h.ver
  have hbad : advBad s tick → advE s tick = 3 ∧ advW c s tick = s ∧ advC c s tick = [] := fun hb => by simp [advE, advW, advC, hb]
  refine callsR_of tab mixed Try.func42 rfl (by decide) rfl rfl ?_
  conv => whnf
  refine spD (fun h1 => ?_) (fun h1 => ?_) <;> conv => whnf
  · obtain ⟨e1, e2, e3⟩ := hbad (.inl h1)
    rw [e1, e2, e3]
    refine ⟨[(0, some 0), (1, some 1), (2, some 2), (3, some 3), (4, none)], rfl, ?_⟩
    repeat' (first | exact trivial | rfl | refine And.intro ?_ ?_)
    all_goals (conv => whnf)
    repeat' (first | exact trivial | rfl | refine And.intro ?_ ?_)
  refine spD (fun h2 => ?_) (fun h2 => ?_) <;> conv => whnf
  · obtain ⟨e1, e2, e3⟩ := hbad (.inr h2)
    rw [e1, e2, e3]
    refine ⟨[(0, some 0), (1, some 1), (2, some 2), (3, some 3), (4, none)], rfl, ?_⟩
    repeat' (first | exact trivial | rfl | refine And.intro ?_ ?_)
    all_goals (conv => whnf)
    repeat' (first | exact trivial | rfl | refine And.intro ?_ ?_)
  have hnb : ¬ advBad s tick := by unfold advBad; omega
  have e1 : advE s tick = 0 := by simp [advE, hnb]
  have e2 : advW c s tick = { s with tick := tick, ver := (advAt c s tick c.cells.length).ver, dou := (advAt c s tick c.cells.length).dou } := by simp [advW, hnb]
  have e3 : advC c s tick = (advAt c s tick c.cells.length).chg := by simp [advC, hnb]
  have hl0 := r1_len s.ver
  refine loopN tab mixed (fun i => i ≤ c.cells.length) c.cells.length (fun i => [(7, I i), (6, .c (.gs 50))]) (fun i => [(2, .arr 3 (r1 (advAt c s tick i).ver)), (3, .arr 3 (r1 (advAt c s tick i).dou)), (50, .arr 3 (r1 (advAt c s tick i).chg))]) 51 [(2, some 2), (3, some 3), (50, none)] (by omega) ?_
  conv => whnf
  refine ⟨?_, fun i hi => ?_⟩
  · repeat' (first | exact trivial | rfl | refine And.intro ?_ ?_)
    all_goals (conv => whnf)
    repeat' (first | exact trivial | rfl | refine And.intro ?_ ?_)
  conv => whnf
  have hq1 := r1_len (advAt c s tick i).ver
  have hq2 := (adv_len (fun i => vote c.observers.length s.age i tick s.reps) s.hold tick s.ver s.dou i).1
  have hq3 : (r1 (advAt c s tick i).ver).length = c.cells.length := hq1.trans (hq2.trans hv0)
  refine spD (fun h3 => ?_) (fun h3 => ?_) <;> conv => whnf
  · have hi' : i < c.cells.length := by omega
    have hm := h.mid hnb i
    have hlen := adv_len (fun i => vote c.observers.length s.age i tick s.reps) s.hold tick s.ver s.dou i
    have hstep : advAt c s tick (i + 1) = advStep (vote c.observers.length s.age i tick s.reps) s.hold tick i (advAt c s tick i) := rfl
    refine ⟨_, _, voteRX_c c s.age s.hold tick (advAt c s tick i).ver (advAt c s tick i).dou s.reps i tick hm, ?_⟩
    conv => whnf
    have hac : (advAt c s tick i).chg.length ≤ i := hlen.2.2
    generalize hvv : vote c.observers.length s.age i tick s.reps = v at hstep ⊢
    generalize hav : advAt c s tick i = a at *
    have ha1 : a.ver.length = c.cells.length := hm.ver
    have ha2 : a.dou.length = c.cells.length := hm.dou
    obtain ⟨x, hx⟩ := get_of (l := a.ver) (i := i) (by omega)
    obtain ⟨d, hd⟩ := get_of (l := a.dou) (i := i) (by omega)
    have hdr := hm.doubt d (List.mem_of_getElem? hd)
    have hr1 := r1_len a.ver
    have hr2 := r1_len a.dou
    have hr3 := r1_len a.chg
    have htk := h.tick
    have hte : tick ≤ 1073741824 ∧ 0 ≤ tick := by omega
    have hho := h.hold
    have gx : (r1 a.ver)[((i : Nat) : Int).toNat]? = some [i64 x] := r1_get hx
    have gd : (r1 a.dou)[((i : Nat) : Int).toNat]? = some [i64 d] := r1_get hd
    have hstay : v = 3 ∨ v = x → advStep v s.hold tick i a = ⟨a.ver, a.dou.set i (-1), a.chg⟩ := fun hh => by simp [advStep, hx, hh]
    have hflip : ¬ (v = 3 ∨ v = x) → s.hold ≤ tick - sinceT d tick → advStep v s.hold tick i a = ⟨a.ver.set i v, a.dou.set i (-1), a.chg ++ [(i : Int)]⟩ := fun hh h2 => by simp [advStep, hx, hd, hh, h2]
    have hwait : ¬ (v = 3 ∨ v = x) → ¬ s.hold ≤ tick - sinceT d tick → advStep v s.hold tick i a = ⟨a.ver, a.dou.set i (sinceT d tick), a.chg⟩ := fun hh h2 => by simp [advStep, hx, hd, hh, h2]
    refine spE (fun h4 => ?_) (fun h4 => ?_) <;> conv => whnf
    · rw [hstay (.inl h4)] at hstep
      refine ⟨by omega, by omega, _, gd, ?_⟩
      conv => whnf
      refine gv (by first | omega | (simp only []; omega) | (simp; omega)) (by first | omega | (simp only []; omega) | (simp; omega)) ?_
      conv => whnf
      refine ⟨⟨hi', hi'⟩, [(2, some 2), (3, some 3), (50, some 50)], ?_⟩
      rw [hstep]
      repeat' (first | exact trivial | rfl | refine And.intro ?_ ?_)
      all_goals (conv => whnf)
      repeat' (first | exact trivial | rfl | refine And.intro ?_ ?_)
      exact (r1_set' _ _ _).symm
    refine ⟨by omega, by omega, _, gx, ?_⟩
    conv => whnf
    refine spE (fun h5 => ?_) (fun h5 => ?_) <;> conv => whnf
    · rw [hstay (.inr h5)] at hstep
      refine ⟨by omega, by omega, _, gd, ?_⟩
      conv => whnf
      refine gv (by first | omega | (simp only []; omega) | (simp; omega)) (by first | omega | (simp only []; omega) | (simp; omega)) ?_
      conv => whnf
      refine ⟨⟨hi', hi'⟩, [(2, some 2), (3, some 3), (50, some 50)], ?_⟩
      rw [hstep]
      repeat' (first | exact trivial | rfl | refine And.intro ?_ ?_)
      all_goals (conv => whnf)
      repeat' (first | exact trivial | rfl | refine And.intro ?_ ?_)
      exact (r1_set' _ _ _).symm
    have hgo : ¬ (v = 3 ∨ v = x) := by omega
    refine ⟨by omega, by omega, _, gd, ?_⟩
    conv => whnf
    refine spD (fun h6 => ?_) (fun h6 => ?_) <;> conv => whnf
    · have hsi : sinceT d tick = tick := by simp [sinceT, h6]
      have gt : ((r1 a.dou).set ((i : Nat) : Int).toNat [i64 tick])[((i : Nat) : Int).toNat]? = some [i64 tick] := by rw [List.getElem?_set]; simp; omega
      have hset : ((r1 a.dou).set ((i : Nat) : Int).toNat [i64 tick]).length = (r1 a.dou).length := by simp
      refine ⟨by omega, by omega, _, gd, ?_⟩
      conv => whnf
      refine ⟨by kernel_rfl, ?_⟩
      conv => whnf
      refine ⟨by omega, by rw [List.length_set]; omega, _, gt, ?_⟩
      conv => whnf
      refine gv (by first | omega | (simp only []; omega) | (simp; omega)) (by first | omega | (simp only []; omega) | (simp; omega)) ?_
      conv => whnf
      refine spD (fun h7 => ?_) (fun h7 => ?_) <;> conv => whnf
      · rw [hflip hgo (by rw [hsi]; exact h7)] at hstep
        refine ⟨by kernel_rfl, ?_⟩
        conv => whnf
        refine ⟨by omega, by omega, _, gx, ?_⟩
        conv => whnf
        refine ⟨by omega, by rw [List.length_set]; omega, _, gt, ?_⟩
        conv => whnf
        refine ⟨row1 _ rfl, ⟨by simp only [List.length_cons, List.length_nil]; omega⟩, ?_⟩
        conv => whnf
        refine gv (by first | omega | (simp only []; omega) | (simp; omega)) (by first | omega | (simp only []; omega) | (simp; omega)) ?_
        conv => whnf
        refine ⟨⟨hi', hi'⟩, [(2, some 2), (3, some 3), (50, some 52)], ?_⟩
        rw [hstep]
        repeat' (first | exact trivial | rfl | refine And.intro ?_ ?_)
        all_goals (conv => whnf)
        repeat' (first | exact trivial | rfl | refine And.intro ?_ ?_)
        · exact (r1_set' _ _ _).symm
        · rw [List.set_set]; exact (r1_set' _ _ _).symm
        · exact (r1_app _ _).symm
      · rw [hwait hgo (by rw [hsi]; exact h7), hsi] at hstep
        refine gv (by first | omega | (simp only []; omega) | (simp; omega)) (by first | omega | (simp only []; omega) | (simp; omega)) ?_
        conv => whnf
        refine ⟨⟨hi', hi'⟩, [(2, some 2), (3, some 3), (50, some 50)], ?_⟩
        rw [hstep]
        repeat' (first | exact trivial | rfl | refine And.intro ?_ ?_)
        all_goals (conv => whnf)
        repeat' (first | exact trivial | rfl | refine And.intro ?_ ?_)
        exact (r1_set' _ _ _).symm
    · have hsi : sinceT d tick = d := by simp [sinceT, h6]
      refine ⟨by kernel_rfl, ?_⟩
      conv => whnf
      refine ⟨by omega, by omega, _, gd, ?_⟩
      conv => whnf
      refine gv (by first | omega | (simp only []; omega) | (simp; omega)) (by first | omega | (simp only []; omega) | (simp; omega)) ?_
      conv => whnf
      refine spD (fun h7 => ?_) (fun h7 => ?_) <;> conv => whnf
      · rw [hflip hgo (by rw [hsi]; exact h7)] at hstep
        refine ⟨by kernel_rfl, ?_⟩
        conv => whnf
        refine ⟨by omega, by omega, _, gx, ?_⟩
        conv => whnf
        refine ⟨by omega, by omega, _, gd, ?_⟩
        conv => whnf
        refine ⟨row1 _ rfl, ⟨by simp only [List.length_cons, List.length_nil]; omega⟩, ?_⟩
        conv => whnf
        refine gv (by first | omega | (simp only []; omega) | (simp; omega)) (by first | omega | (simp only []; omega) | (simp; omega)) ?_
        conv => whnf
        refine ⟨⟨hi', hi'⟩, [(2, some 2), (3, some 3), (50, some 52)], ?_⟩
        rw [hstep]
        repeat' (first | exact trivial | rfl | refine And.intro ?_ ?_)
        all_goals (conv => whnf)
        repeat' (first | exact trivial | rfl | refine And.intro ?_ ?_)
        · exact (r1_set' _ _ _).symm
        · exact (r1_set' _ _ _).symm
        · exact (r1_app _ _).symm
      · rw [hwait hgo (by rw [hsi]; exact h7), hsi] at hstep
        refine gv (by first | omega | (simp only []; omega) | (simp; omega)) (by first | omega | (simp only []; omega) | (simp; omega)) ?_
        conv => whnf
        refine ⟨⟨hi', hi'⟩, [(2, some 2), (3, some 3), (50, some 50)], ?_⟩
        rw [hstep]
        repeat' (first | exact trivial | rfl | refine And.intro ?_ ?_)
        all_goals (conv => whnf)
        repeat' (first | exact trivial | rfl | refine And.intro ?_ ?_)
        exact (congrArg r1 (set_self hd))
  · have hi' : i = c.cells.length := by omega
    subst hi'
    rw [e1, e2, e3]
    refine ⟨[(0, some 0), (1, some 1), (2, some 2), (3, some 3), (4, some 50)], rfl, ?_⟩
    repeat' (first | exact trivial | rfl | refine And.intro ?_ ?_)
    all_goals (conv => whnf)
    repeat' (first | exact trivial | rfl | refine And.intro ?_ ?_)

end Go.Proofs.Ytladepmfgbfkpaa
