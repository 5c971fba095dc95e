/- Contracts: small functions of the reference of state; what is known of states. Conditions: those ahead of each theorem. -/
import Derived.Test.YtncckpieemmmfaaGreatEnt
namespace Go.Proofs.YtncckpieemmmfaaGreat
open Go Go.Cpl

/-- a cell, or none -/
def Cel (c : Cfg) (k : Int) : Prop := -1 ≤ k ∧ k < c.cells.length

structure TOk (c : Cfg) (t : TS) : Prop where
  home : Cel c t.home
  standby : Cel c t.standby
  next : Cel c t.next
  target : Cel c t.target
  wc : Cel c t.wc
  placed : t.placed = true → 0 ≤ t.home
  shed : t.shed = true → t.placed = true
  open_ : t.placed = false → t.target = -1
  apart : t.target = -1 ∨ t.target ≠ t.home
  epoch : 0 ≤ t.epoch ∧ t.epoch ≤ 1048576
  wf : 0 ≤ t.wf ∧ t.wf ≤ 1073741825
  wu : 0 ≤ t.wu ∧ t.wu ≤ 1073741825

structure COk (c : Cfg) (x : CS4) : Prop where
  running : 0 ≤ x.running ∧ x.running < c.versions.length
  wanted : 0 ≤ x.wanted ∧ x.wanted < c.versions.length
  since : 0 ≤ x.since ∧ x.since ≤ 1073741824

/-- the configurations of the laws -/
structure WG (c : Cfg) : Prop where
  good : Good c
  few : c.tenants.length ≤ 12
  vers : 1 ≤ c.versions.length ∧ c.versions.length ≤ 30
  lease : 1 ≤ c.lease ∧ c.lease ≤ 1000
  bake : 0 ≤ c.bake ∧ c.bake ≤ 10000
  caps : ∀ x ∈ c.cells, 1 ≤ x.2 ∧ x.2 ≤ 1000

structure StPre (c : Cfg) (s : St) : Prop where
  nt : s.ts.length = c.tenants.length
  nc : s.cs.length = c.cells.length
  t : ∀ x ∈ s.ts, TOk c x
  c : ∀ x ∈ s.cs, COk c x
  tick : 0 ≤ s.tick ∧ s.tick ≤ 1073741824
  count : 0 ≤ s.count ∧ s.count ≤ 4096
  schema : (0 ≤ s.low ∧ s.low ≤ 30) ∧ 0 ≤ s.high ∧ s.high ≤ 30

structure StOk (c : Cfg) (s : St) : Prop where
  pre : StPre c s
  cap : ∀ k : Nat, k < c.cells.length → bkF c s.ts s.ts.length k ≤ capOf c k

/-- a state, and an error; without one the state is right -/
def RS (c : Cfg) (gone : List HObj) (res : AV) (hout : List HObj) : Prop := ∃ s' bad, res = .tup [.inr (stC s'), .inl (.d (i64 bad))] ∧ hout = gone ∧ (bad = 0 → StOk c s')

theorem no_c (e : Int) : CallsH Tryz.prog 101 [I e] [] (.tup [.inr (stC noSt), .inl (.d (i64 e))]) [] := by
  refine callsR_of tab mixed Tryz.func101 rfl (by decide) rfl rfl ?_
  conv => whnf
  refine ⟨[], rfl, ?_⟩
  repeat' (first | exact trivial | rfl | refine And.intro ?_ ?_)
  all_goals (conv => whnf)
  repeat' (first | exact trivial | rfl | refine And.intro ?_ ?_)

theorem copied_c (s : St) (h1 : s.ts.length ≤ 1000) (h2 : s.cs.length ≤ 1000) : CallsH Tryz.prog 102 [stV s] [] (stO s 0 1) (stH s) := by
  have l1 := rTS_len s.ts
  have l2 := rCS_len s.cs
  refine callsR_of tab mixed Tryz.func102 rfl (by decide) rfl rfl ?_
  conv => whnf
  refine ⟨rTS_ok _, ⟨by simp only [List.length_nil]; omega⟩, ?_⟩
  conv => whnf
  refine ⟨rCS_ok _, ⟨by simp only [List.length_nil]; omega⟩, ?_⟩
  conv => whnf
  refine ⟨[(0, some 3), (1, some 5)], rfl, ?_⟩
  repeat' (first | exact trivial | rfl | refine And.intro ?_ ?_)
  all_goals (conv => whnf)
  repeat' (first | exact trivial | rfl | refine And.intro ?_ ?_)

def overL (c : Cfg) (ts : List TS) : List Int := upto (fun k => decide (capOf c k < bkF c ts ts.length k)) c.cells.length

theorem over11_c (c : Cfg) (s : St) (hg : Good c) (hn : s.ts.length = c.tenants.length) : CallsH Tryz.prog 152 [cfgV c, stV s] [] (.c (.gs 0)) [.arr 3 (r1 (overL c s.ts))] := by
  have hcl := r2_len c.cells
  have hC := hg.cells
  have hlb := r1_len (bkd c s.ts)
  rw [cl_len] at hlb
  refine callsR_of tab mixed Tryz.func152 rfl (by decide) rfl rfl ?_
  conv => whnf
  refine ⟨_, _, booked11_c c s hg hn, ?_⟩
  conv => whnf
  refine loopN tab mixed (fun i => i ≤ c.cells.length) c.cells.length (fun i => [(7, I i), (5, .c (.gs 50))]) (fun i => [(50, .arr 3 (r1 (upto (fun k => decide (capOf c k < bkF c s.ts s.ts.length k)) i)))]) 51 [(50, none)] (by omega) ?_
  conv => whnf
  refine ⟨?_, fun i hi => ?_⟩
  · repeat' (first | exact trivial | rfl | refine And.intro ?_ ?_)
    all_goals (conv => whnf)
    repeat' (first | exact trivial | rfl | refine And.intro ?_ ?_)
  conv => whnf
  refine spD (fun h1 => ?_) (fun h1 => ?_) <;> conv => whnf
  · have hi' : i < c.cells.length := by omega
    obtain ⟨x, hx⟩ := get_of hi'
    have hcap : capOf c i = x.2 := by simp [capOf, hx]
    refine ⟨by kernel_rfl, ?_⟩
    conv => whnf
    refine ⟨by omega, by omega, _, r1_get (cl_get (f := bkF c s.ts s.ts.length) hi'), ?_⟩
    conv => whnf
    refine ⟨by omega, _, r2_get hx, ?_⟩
    conv => whnf
    refine spD (fun h2 => ?_) (fun h2 => ?_) <;> conv => whnf
    · refine ⟨row1 _ rfl, up_fits hi' (by omega) _ rfl, ?_⟩
      conv => whnf
      refine gv (by first | omega | (simp only []; omega) | (simp; omega)) (by first | omega | (simp only []; omega) | (simp; omega)) ?_
      conv => whnf
      refine ⟨⟨hi', hi'⟩, [(50, some 52)], ?_⟩
      repeat' (first | exact trivial | rfl | refine And.intro ?_ ?_)
      all_goals (conv => whnf)
      repeat' (first | exact trivial | rfl | refine And.intro ?_ ?_)
      rw [upto_yes (by rw [hcap]; simpa using h2)]
      exact (r1_app _ _).symm
    · refine gv (by first | omega | (simp only []; omega) | (simp; omega)) (by first | omega | (simp only []; omega) | (simp; omega)) ?_
      conv => whnf
      refine ⟨⟨hi', hi'⟩, [(50, some 50)], ?_⟩
      repeat' (first | exact trivial | rfl | refine And.intro ?_ ?_)
      all_goals (conv => whnf)
      repeat' (first | exact trivial | rfl | refine And.intro ?_ ?_)
      rw [upto_no (by rw [hcap]; simpa using h2)]
  · have hi' : i = c.cells.length := by omega
    subst hi'
    exact ⟨[(0, some 50)], rfl, rfl, ⟨rfl, rfl⟩, trivial⟩

theorem over_nil {c : Cfg} {ts : List TS} (h : (overL c ts).length = 0) : ∀ k : Nat, k < c.cells.length → bkF c ts ts.length k ≤ capOf c k := by
  intro k hk
  rcases Int.lt_or_le (capOf c k) (bkF c ts ts.length k) with h1 | h1
  · have hm : (k : Int) ∈ overL c ts := by
      unfold overL
      have : ∀ n, k < n → (k : Int) ∈ upto (fun k => decide (capOf c k < bkF c ts ts.length k)) n := by
        intro n
        induction n with
        | zero => intro h; omega
        | succ n ih =>
          intro hlt
          by_cases he : k = n
          · subst he
            rw [upto_yes (by simpa using h1)]
            simp
          · have := ih (by omega)
            rw [upto]
            split
            · simp [this]
            · exact this
      exact this _ hk
    rw [List.length_eq_zero_iff.1 h] at hm
    cases hm
  · exact h1

theorem fit_q (c : Cfg) (s : St) (hg : Good c) (hp : StPre c s) : ExH Tryz.prog 132 [cfgV c, stO s 0 1] (stH s) (RS c [.gone, .gone]) := by
  refine callsE_of tab mixed noRel Tryz.func132 rfl (by decide) rfl rfl ?_
  conv => whnf
  refine ⟨_, _, over11_c c s hg hp.nt, ?_⟩
  conv => whnf
  have hl := r1_len (overL c s.ts)
  refine spD (fun h1 => ?_) (fun h1 => ?_) <;> conv => whnf
  · refine ⟨_, _, ⟨noSt, 10, rfl, rfl, fun h => (by cases h)⟩, [], rfl, ?_⟩
    repeat' (first | exact trivial | rfl | refine And.intro ?_ ?_)
    all_goals (conv => whnf)
    repeat' (first | exact trivial | rfl | refine And.intro ?_ ?_)
  · refine ⟨_, _, ⟨s, 0, rfl, rfl, fun _ => ⟨hp, over_nil (by omega)⟩⟩, [], rfl, ?_⟩
    repeat' (first | exact trivial | rfl | refine And.intro ?_ ?_)
    all_goals (conv => whnf)
    repeat' (first | exact trivial | rfl | refine And.intro ?_ ?_)

end Go.Proofs.YtncckpieemmmfaaGreat
