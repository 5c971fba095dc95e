/- Contracts: how the reference of state applies entries of tenants. Conditions: those ahead of each theorem. -/
import Derived.Test.YtncckpieemmmfaaGreatEnt
namespace Go.Proofs.YtncckpieemmmfaaGreat
open Go Go.Cpl

/-- a cell, or none -/
def Cel (c : Cfg) (k : Int) : Prop := -1 ≤ k ∧ k < c.cells.length

structure TOk (c : Cfg) (t : TS) : Prop where
  home : Cel c t.home
  standby : Cel c t.standby
  next : Cel c t.next
  target : Cel c t.target
  wc : Cel c t.wc
  placed : t.placed = true → 0 ≤ t.home
  shed : t.shed = true → t.placed = true
  open_ : t.placed = false → t.target = -1
  apart : t.target = -1 ∨ t.target ≠ t.home
  epoch : 0 ≤ t.epoch ∧ t.epoch ≤ 1048576
  wf : 0 ≤ t.wf ∧ t.wf ≤ 1073741825
  wu : 0 ≤ t.wu ∧ t.wu ≤ 1073741825

structure COk (c : Cfg) (x : CS4) : Prop where
  running : 0 ≤ x.running ∧ x.running < c.versions.length
  wanted : 0 ≤ x.wanted ∧ x.wanted < c.versions.length
  since : 0 ≤ x.since ∧ x.since ≤ 1073741824

/-- the configurations of the laws -/
structure WG (c : Cfg) : Prop where
  good : Good c
  few : c.tenants.length ≤ 12
  vers : 1 ≤ c.versions.length ∧ c.versions.length ≤ 30
  lease : 1 ≤ c.lease ∧ c.lease ≤ 1000
  bake : 0 ≤ c.bake ∧ c.bake ≤ 10000
  caps : ∀ x ∈ c.cells, 1 ≤ x.2 ∧ x.2 ≤ 1000

structure StPre (c : Cfg) (s : St) : Prop where
  nt : s.ts.length = c.tenants.length
  nc : s.cs.length = c.cells.length
  t : ∀ x ∈ s.ts, TOk c x
  c : ∀ x ∈ s.cs, COk c x
  tick : 0 ≤ s.tick ∧ s.tick ≤ 1073741824
  count : 0 ≤ s.count ∧ s.count ≤ 4096
  schema : (0 ≤ s.low ∧ s.low ≤ 30) ∧ 0 ≤ s.high ∧ s.high ≤ 30

structure StOk (c : Cfg) (s : St) : Prop where
  pre : StPre c s
  cap : ∀ k : Nat, k < c.cells.length → bkF c s.ts s.ts.length k ≤ capOf c k

/-- a state, and an error; without one the state is right -/
def RS (c : Cfg) (gone : List HObj) (res : AV) (hout : List HObj) : Prop := ∃ s' bad, res = .tup [.inr (stC s'), .inl (.d (i64 bad))] ∧ hout = gone ∧ (bad = 0 → StOk c s')

theorem no_c (e : Int) : CallsH Tryz.prog 101 [I e] [] (.tup [.inr (stC noSt), .inl (.d (i64 e))]) [] := by
  refine callsR_of tab mixed Tryz.func101 rfl (by decide) rfl rfl ?_
  conv => whnf
  refine ⟨[], rfl, ?_⟩
  repeat' (first | exact trivial | rfl | refine And.intro ?_ ?_)
  all_goals (conv => whnf)
  repeat' (first | exact trivial | rfl | refine And.intro ?_ ?_)

theorem copied_c (s : St) (h1 : s.ts.length ≤ 1000) (h2 : s.cs.length ≤ 1000) : CallsH Tryz.prog 102 [stV s] [] (stO s 0 1) (stH s) := by
  have l1 := rTS_len s.ts
  have l2 := rCS_len s.cs
  refine callsR_of tab mixed Tryz.func102 rfl (by decide) rfl rfl ?_
  conv => whnf
  refine ⟨rTS_ok _, ⟨by simp only [List.length_nil]; omega⟩, ?_⟩
  conv => whnf
  refine ⟨rCS_ok _, ⟨by simp only [List.length_nil]; omega⟩, ?_⟩
  conv => whnf
  refine ⟨[(0, some 3), (1, some 5)], rfl, ?_⟩
  repeat' (first | exact trivial | rfl | refine And.intro ?_ ?_)
  all_goals (conv => whnf)
  repeat' (first | exact trivial | rfl | refine And.intro ?_ ?_)

def overL (c : Cfg) (ts : List TS) : List Int := upto (fun k => decide (capOf c k < bkF c ts ts.length k)) c.cells.length

theorem over11_c (c : Cfg) (s : St) (hg : Good c) (hn : s.ts.length = c.tenants.length) : CallsH Tryz.prog 152 [cfgV c, stV s] [] (.c (.gs 0)) [.arr 3 (r1 (overL c s.ts))] := by
  have hcl := r2_len c.cells
  have hC := hg.cells
  have hlb := r1_len (bkd c s.ts)
  rw [cl_len] at hlb
  refine callsR_of tab mixed Tryz.func152 rfl (by decide) rfl rfl ?_
  conv => whnf
  refine ⟨_, _, booked11_c c s hg hn, ?_⟩
  conv => whnf
  refine loopN tab mixed (fun i => i ≤ c.cells.length) c.cells.length (fun i => [(7, I i), (5, .c (.gs 50))]) (fun i => [(50, .arr 3 (r1 (upto (fun k => decide (capOf c k < bkF c s.ts s.ts.length k)) i)))]) 51 [(50, none)] (by omega) ?_
  conv => whnf
  refine ⟨?_, fun i hi => ?_⟩
  · repeat' (first | exact trivial | rfl | refine And.intro ?_ ?_)
    all_goals (conv => whnf)
    repeat' (first | exact trivial | rfl | refine And.intro ?_ ?_)
  conv => whnf
  refine spD (fun h1 => ?_) (fun h1 => ?_) <;> conv => whnf
  · have hi' : i < c.cells.length := by omega
    obtain ⟨x, hx⟩ := get_of hi'
    have hcap : capOf c i = x.2 := by simp [capOf, hx]
    refine ⟨by kernel_rfl, ?_⟩
    conv => whnf
    refine ⟨by omega, by omega, _, r1_get (cl_get (f := bkF c s.ts s.ts.length) hi'), ?_⟩
    conv => whnf
    refine ⟨by omega, _, r2_get hx, ?_⟩
    conv => whnf
    refine spD (fun h2 => ?_) (fun h2 => ?_) <;> conv => whnf
    · refine ⟨row1 _ rfl, up_fits hi' (by omega) _ rfl, ?_⟩
      conv => whnf
      refine gv (by first | omega | (simp only []; omega) | (simp; omega)) (by first | omega | (simp only []; omega) | (simp; omega)) ?_
      conv => whnf
      refine ⟨⟨hi', hi'⟩, [(50, some 52)], ?_⟩
      repeat' (first | exact trivial | rfl | refine And.intro ?_ ?_)
      all_goals (conv => whnf)
      repeat' (first | exact trivial | rfl | refine And.intro ?_ ?_)
      rw [upto_yes (by rw [hcap]; simpa using h2)]
      exact (r1_app _ _).symm
    · refine gv (by first | omega | (simp only []; omega) | (simp; omega)) (by first | omega | (simp only []; omega) | (simp; omega)) ?_
      conv => whnf
      refine ⟨⟨hi', hi'⟩, [(50, some 50)], ?_⟩
      repeat' (first | exact trivial | rfl | refine And.intro ?_ ?_)
      all_goals (conv => whnf)
      repeat' (first | exact trivial | rfl | refine And.intro ?_ ?_)
      rw [upto_no (by rw [hcap]; simpa using h2)]
  · have hi' : i = c.cells.length := by omega
    subst hi'
    exact ⟨[(0, some 50)], rfl, rfl, ⟨rfl, rfl⟩, trivial⟩

theorem over_nil {c : Cfg} {ts : List TS} (h : (overL c ts).length = 0) : ∀ k : Nat, k < c.cells.length → bkF c ts ts.length k ≤ capOf c k := by
  intro k hk
  rcases Int.lt_or_le (capOf c k) (bkF c ts ts.length k) with h1 | h1
  · have hm : (k : Int) ∈ overL c ts := by
      unfold overL
      have : ∀ n, k < n → (k : Int) ∈ upto (fun k => decide (capOf c k < bkF c ts ts.length k)) n := by
        intro n
        induction n with
        | zero => intro h; omega
        | succ n ih =>
          intro hlt
          by_cases he : k = n
          · subst he
            rw [upto_yes (by simpa using h1)]
            simp
          · have := ih (by omega)
            rw [upto]
            split
            · simp [this]
            · exact this
      exact this _ hk
    rw [List.length_eq_zero_iff.1 h] at hm
    cases hm
  · exact h1

theorem fit_q (c : Cfg) (s : St) (hg : Good c) (hp : StPre c s) : ExH Tryz.prog 132 [cfgV c, stO s 0 1] (stH s) (RS c [.gone, .gone]) := by
  refine callsE_of tab mixed noRel Tryz.func132 rfl (by decide) rfl rfl ?_
  conv => whnf
  refine ⟨_, _, over11_c c s hg hp.nt, ?_⟩
  conv => whnf
  have hl := r1_len (overL c s.ts)
  refine spD (fun h1 => ?_) (fun h1 => ?_) <;> conv => whnf
  · refine ⟨_, _, ⟨noSt, 10, rfl, rfl, fun h => (by cases h)⟩, [], rfl, ?_⟩
    repeat' (first | exact trivial | rfl | refine And.intro ?_ ?_)
    all_goals (conv => whnf)
    repeat' (first | exact trivial | rfl | refine And.intro ?_ ?_)
  · refine ⟨_, _, ⟨s, 0, rfl, rfl, fun _ => ⟨hp, over_nil (by omega)⟩⟩, [], rfl, ?_⟩
    repeat' (first | exact trivial | rfl | refine And.intro ?_ ?_)
    all_goals (conv => whnf)
    repeat' (first | exact trivial | rfl | refine And.intro ?_ ?_)

end Go.Proofs.YtncckpieemmmfaaGreat

namespace Go.Proofs.YtncckpieemmmfaaGreat
open Go Go.Cpl

theorem frozen_c (c : Cfg) (s : St) (k : Int) (hc : Laid c) : CallsH Tryz.prog 129 [cfgV c, stV s, I k] [] (B (bit s.evac (regionOf c k))) [] := by
  refine callsR_of tab mixed Tryz.func129 rfl (by decide) rfl rfl ?_
  conv => whnf
  refine ⟨by kernel_rfl, ?_⟩
  conv => whnf
  refine ⟨_, _, refRegionOf_c c k hc, ?_⟩
  conv => whnf
  refine ⟨_, _, has_c _ _, ?_⟩
  conv => whnf
  refine ⟨[], rfl, ?_⟩
  repeat' (first | exact trivial | rfl | refine And.intro ?_ ?_)
  all_goals (conv => whnf)
  repeat' (first | exact trivial | rfl | refine And.intro ?_ ?_)

theorem together_c (c : Cfg) (a b : Int) (hc : Laid c) : CallsH Tryz.prog 131 [cfgV c, I a, I b] [] (B (decide (0 ≤ a) && decide (0 ≤ b) && !apart c a b)) [] := by
  refine callsR_of tab mixed Tryz.func131 rfl (by decide) rfl rfl ?_
  conv => whnf
  refine spD (fun h => ?_) (fun h => ?_) <;> conv => whnf
  · refine spD (fun h1 => ?_) (fun h1 => ?_) <;> conv => whnf
    · refine ⟨_, _, refApart_c c a b hc, ?_⟩
      conv => whnf
      refine ⟨[], rfl, ?_, trivial⟩
      simp [mtV, valOf, mtC, eqD, h, h1]
    · refine ⟨[], rfl, ?_, trivial⟩
      simp [mtV, valOf, mtC, eqD, h1]
  · refine ⟨[], rfl, ?_, trivial⟩
    simp [mtV, valOf, mtC, eqD, h]

theorem proven_c (s : St) (k : Int) : CallsH Tryz.prog 136 [stV s, I k] [] (B (bit s.proven k)) [] := by
  refine callsR_of tab mixed Tryz.func136 rfl (by decide) rfl rfl ?_
  conv => whnf
  refine ⟨_, _, has_c _ _, ?_⟩
  conv => whnf
  refine ⟨[], rfl, ?_⟩
  repeat' (first | exact trivial | rfl | refine And.intro ?_ ?_)
  all_goals (conv => whnf)
  repeat' (first | exact trivial | rfl | refine And.intro ?_ ?_)

def openOf (s : St) (x : CS4) : Bool := !bit s.proven x.running || !bit s.proven x.wanted

theorem open12_c (s : St) (k : Int) {x : CS4} (h0 : 0 ≤ k) (hk : s.cs[k.toNat]? = some x) : CallsH Tryz.prog 135 [stV s, I k] [] (B (openOf s x)) [] := by
  refine callsR_of tab mixed Tryz.func135 rfl (by decide) rfl rfl ?_
  conv => whnf
  refine ⟨by kernel_rfl, ?_⟩
  conv => whnf
  refine ⟨h0, _, rCS_get hk, ?_⟩
  conv => whnf
  refine ⟨_, _, proven_c s _, ?_⟩
  conv => whnf
  refine ⟨fun h => ?_, fun h => ?_⟩ <;> conv => whnf
  · refine ⟨[], rfl, ?_, trivial⟩
    simp_all [mtV, valOf, mtC, eqD, openOf]
  · refine ⟨h0, _, rCS_get hk, ?_⟩
    conv => whnf
    refine ⟨_, _, proven_c s _, ?_⟩
    conv => whnf
    refine ⟨[], rfl, ?_, trivial⟩
    simp_all [mtV, valOf, mtC, eqD, openOf]

/-- some number -/
def RI (res : AV) (hout : List HObj) : Prop := ∃ k : Int, res = I k ∧ hout = []

theorem granted_q (c : Cfg) (s : St) (e : Ent) {x : TS} {y : CS4} (t0 : 0 ≤ e.tenant) (ht : s.ts[e.tenant.toNat]? = some x) (c0 : 0 ≤ e.cell) (hy : s.cs[e.cell.toNat]? = some y) (hx : 0 ≤ x.epoch ∧ x.epoch ≤ 1048576) (h1 : 0 ≤ e.tick ∧ e.tick ≤ 1073741824) (h2 : 0 ≤ e.from_ ∧ e.from_ ≤ 1073741824) (h3 : 0 ≤ e.until_ ∧ e.until_ ≤ 1073741824) (h4 : 1 ≤ c.lease ∧ c.lease ≤ 1000) : ExH Tryz.prog 133 [cfgV c, stV s, entV e] [] RI := by
  refine callsE_of tab mixed noRel Tryz.func133 rfl (by decide) rfl rfl ?_
  conv => whnf
  refine ⟨t0, _, rTS_get ht, ?_⟩
  conv => whnf
  refine ⟨c0, _, rCS_get hy, ?_⟩
  conv => whnf
  repeat' (first | contradiction | (refine gv (by omega) (by omega) ?_; conv => whnf) | (refine ⟨by kernel_rfl, ?_⟩; conv => whnf) | (refine spD (fun _ => ?_) (fun _ => ?_) <;> conv => whnf) | (refine spN (fun _ => ?_) (fun _ => ?_) <;> conv => whnf) | (refine spE (fun _ => ?_) (fun _ => ?_) <;> conv => whnf) | (refine spNe (fun _ => ?_) (fun _ => ?_) <;> conv => whnf) | (refine gvu (by omega) (by omega) ?_; conv => whnf) | (refine spBn (fun _ => ?_) (fun _ => ?_) <;> conv => whnf) | (refine spG (fun _ => ?_) (fun _ => ?_) <;> conv => whnf))
  all_goals exact ⟨_, _, ⟨_, rfl, rfl⟩, [], rfl, ⟨rfl, rfl⟩, trivial⟩

end Go.Proofs.YtncckpieemmmfaaGreat

namespace Go.Proofs.YtncckpieemmmfaaGreat
open Go Go.Cpl

theorem StPre.setT {c : Cfg} {s : St} (h : StPre c s) (i : Nat) {x : TS} (hx : TOk c x) : StPre c { s with ts := s.ts.set i x } := by
  refine ⟨?_, h.nc, ?_, h.c, h.tick, h.count, h.schema⟩
  · show (s.ts.set i x).length = _
    rw [List.length_set]; exact h.nt
  · intro y hy
    rcases List.mem_or_eq_of_mem_set hy with h1 | h1
    · exact h.t y h1
    · rw [h1]; exact hx

theorem bad_rs {c : Cfg} {g : List HObj} {k : Int} (hk : k ≠ 0) : RS c g (.tup [.inr (stC noSt), .inl (.d (i64 k))]) g := ⟨noSt, k, rfl, rfl, fun h => absurd h hk⟩

theorem fit_r (c : Cfg) (s : St) (hg : Good c) (hp : StPre c s) {r1 r2 : List (List D)} (h1 : r1 = rTS s.ts) (h2 : r2 = rCS s.cs) : ExH Tryz.prog 132 [cfgV c, stO s 0 1] [.arr 58 r1, .arr 122 r2] (RS c [.gone, .gone]) := by
  rw [h1, h2]
  exact fit_q c s hg hp

theorem sg {l : List (List D)} {i : Nat} {r : List D} (h : i < l.length) : (l.set i r)[i]? = some r := by simp [h]

theorem sT {l : List TS} {i : Nat} {r : List (List D)} {x : TS} {d : List D} (h : ∀ y, r.set i y = (rTS l).set i y) (hd : d = tsD x) : r.set i d = rTS (l.set i x) := by
  rw [h, hd, rTS_set]

theorem opt_get {α : Type} [Inhabited α] {l : List α} {k : Int} (h : k < l.length) : ∃ z, 0 ≤ k → l[k.toNat]? = some z := by
  by_cases h0 : 0 ≤ k
  · obtain ⟨z, hz⟩ := get_int (l := l) h0 (by omega)
    exact ⟨z, fun _ => hz⟩
  · exact ⟨default, fun h1 => absurd h1 h0⟩

instance : Inhabited CS4 := ⟨⟨0, 0, 0, 0⟩⟩

instance : Inhabited TS := ⟨⟨false, false, 0, 0, 0, 0, 0, 0, 0, 0, 0, 0⟩⟩

theorem place_q (c : Cfg) (s : St) (e : Ent) (w : WG c) (h : StOk c s) (ht : 0 ≤ e.tenant ∧ e.tenant < c.tenants.length) (hc : 0 ≤ e.cell ∧ e.cell < c.cells.length) (ho : -1 ≤ e.other ∧ e.other < c.cells.length) : ExH Tryz.prog 103 [cfgV c, stO s 0 1, entV e] (stH s) (RS c [.gone, .gone]) := by
  have hg := w.good
  have hn := h.pre.nt
  have hnc := h.pre.nc
  have l1 := rTS_len s.ts
  have l2 := rCS_len s.cs
  obtain ⟨x, hx⟩ := get_int (l := s.ts) ht.1 (by omega)
  obtain ⟨y, hy⟩ := get_int (l := s.cs) hc.1 (by omega)
  have hxo := h.pre.t x (List.mem_of_getElem? hx)
  refine callsE_of tab mixed noRel Tryz.func103 rfl (by decide) rfl rfl ?_
  conv => whnf
  refine ⟨ht.1, by omega, ?_⟩
  conv => whnf
  refine ⟨_, rTS_get hx, ?_⟩
  conv => whnf
  refine spG (fun b1 => ?_) (fun b1 => ?_) <;> conv => whnf
  · refine ⟨_, _, no_c 4, ?_⟩
    conv => whnf
    all_goals try exact ⟨_, _, bad_rs (by decide), [], rfl, ⟨⟨⟨rfl, rfl⟩, ⟨rfl, rfl⟩, rfl, rfl, ⟨rfl, rfl⟩, ⟨rfl, rfl⟩, ⟨rfl, rfl⟩, ⟨rfl, rfl⟩, trivial⟩, ⟨rfl, rfl⟩, trivial⟩, trivial⟩
  refine ⟨hc.1, by omega, ?_⟩
  conv => whnf
  refine ⟨_, rCS_get hy, ?_⟩
  conv => whnf
  obtain ⟨z, hz⟩ := opt_get (l := s.cs) (k := e.other) (by omega)
  repeat' (first | contradiction | (refine gv (by omega) (by omega) ?_; conv => whnf) | (refine ⟨by kernel_rfl, ?_⟩; conv => whnf) | (refine ⟨_, _, no_c _, ?_⟩; conv => whnf) | (refine ⟨_, _, frozen_c c s _ hg.laid, ?_⟩; conv => whnf) | (refine ⟨_, _, refMay_c c _ _ hg.laid, ?_⟩; conv => whnf) | (refine ⟨_, _, together_c c _ _ hg.laid, ?_⟩; conv => whnf) | (refine ⟨by assumption, by omega, ?_⟩; conv => whnf) | (refine ⟨_, rCS_get (hz (by assumption)), ?_⟩; conv => whnf) | (refine spD (fun _ => ?_) (fun _ => ?_) <;> conv => whnf) | (refine spN (fun _ => ?_) (fun _ => ?_) <;> conv => whnf) | (refine spE (fun _ => ?_) (fun _ => ?_) <;> conv => whnf) | (refine spNe (fun _ => ?_) (fun _ => ?_) <;> conv => whnf) | (refine gvu (by omega) (by omega) ?_; conv => whnf) | (refine spBn (fun _ => ?_) (fun _ => ?_) <;> conv => whnf) | (refine spG (fun _ => ?_) (fun _ => ?_) <;> conv => whnf))
  all_goals try exact ⟨_, _, bad_rs (by decide), [], rfl, ⟨⟨⟨rfl, rfl⟩, ⟨rfl, rfl⟩, rfl, rfl, ⟨rfl, rfl⟩, ⟨rfl, rfl⟩, ⟨rfl, rfl⟩, ⟨rfl, rfl⟩, trivial⟩, ⟨rfl, rfl⟩, trivial⟩, trivial⟩
  all_goals
    refine ⟨_, rTS_get hx, ?_⟩
    conv => whnf
    refine ⟨_, sg (by omega), ?_⟩
    conv => whnf
    refine ⟨_, sg (by rw [List.length_set]; omega), ?_⟩
    conv => whnf
    refine exK (fit_r c { s with ts := s.ts.set e.tenant.toNat { x with placed := true, home := e.cell, standby := e.other } } hg (h.pre.setT _ ?_) (sT (by intro y; simp) rfl) rfl) ?_
    · exact { hxo with home := ⟨by show -1 ≤ e.cell; omega, hc.2⟩, standby := ho, placed := fun _ => hc.1, shed := fun _ => rfl, open_ := fun h => (by cases h), apart := .inl (hxo.open_ b1) }
    rintro _ _ ⟨s9, b9, rfl, rfl, h9⟩
    conv => whnf
    exact ⟨_, _, ⟨s9, b9, rfl, rfl, h9⟩, [], rfl, ⟨⟨⟨rfl, rfl⟩, ⟨rfl, rfl⟩, rfl, rfl, ⟨rfl, rfl⟩, ⟨rfl, rfl⟩, ⟨rfl, rfl⟩, ⟨rfl, rfl⟩, trivial⟩, ⟨rfl, rfl⟩, trivial⟩, trivial⟩

abbrev winT (x : TS) (e : Ent) : TS := { x with wc := e.cell, we := e.epoch, wv := e.n, wf := e.from_, wu := e.until_, epoch := e.epoch }

theorem tok_win {c : Cfg} {x : TS} {e : Ent} (h : TOk c x) (hc : 0 ≤ e.cell ∧ e.cell < c.cells.length) (h0 : 1 ≤ e.epoch ∧ e.epoch ≤ 1048576) (h2 : 0 ≤ e.from_ ∧ e.from_ ≤ 1073741824) (h3 : 0 ≤ e.until_ ∧ e.until_ ≤ 1073741824) : TOk c (winT x e) :=
  { h with wc := ⟨by show -1 ≤ e.cell; omega, hc.2⟩, epoch := ⟨by show 0 ≤ e.epoch; omega, h0.2⟩, wf := ⟨h2.1, by show e.from_ ≤ 1073741825; omega⟩, wu := ⟨h3.1, by show e.until_ ≤ 1073741825; omega⟩ }

theorem tok_up {c : Cfg} {x : TS} {k : Int} (h : TOk c x) (hc : 0 ≤ k ∧ k < c.cells.length) : TOk c { x with home := k, standby := -1, next := -1, target := -1, shed := false } :=
  { h with home := ⟨by show -1 ≤ k; omega, hc.2⟩, standby := ⟨by show (-1 : Int) ≤ -1; omega, by show (-1 : Int) < _; omega⟩, next := ⟨by show (-1 : Int) ≤ -1; omega, by show (-1 : Int) < _; omega⟩, target := ⟨by show (-1 : Int) ≤ -1; omega, by show (-1 : Int) < _; omega⟩, placed := fun _ => hc.1, shed := fun h => (by cases h), open_ := fun _ => rfl, apart := .inl rfl }

theorem tok_over {c : Cfg} {x : TS} {k : Int} (h : TOk c x) (hc : 0 ≤ k ∧ k < c.cells.length) : TOk c { x with home := k, target := -1 } :=
  { h with home := ⟨by show -1 ≤ k; omega, hc.2⟩, target := ⟨by show (-1 : Int) ≤ -1; omega, by show (-1 : Int) < _; omega⟩, placed := fun _ => hc.1, open_ := fun _ => rfl, apart := .inl rfl }

set_option maxHeartbeats 4000000 in
set_option maxRecDepth 100000 in
theorem grant_q (c : Cfg) (s : St) (e : Ent) (w : WG c) (h : StOk c s) (ht : 0 ≤ e.tenant ∧ e.tenant < c.tenants.length) (hc : 0 ≤ e.cell ∧ e.cell < c.cells.length) (h0 : 1 ≤ e.epoch ∧ e.epoch ≤ 1048576) (h1 : 0 ≤ e.tick ∧ e.tick ≤ 1073741824) (h2 : 0 ≤ e.from_ ∧ e.from_ ≤ 1073741824) (h3 : 0 ≤ e.until_ ∧ e.until_ ≤ 1073741824) : ExH Tryz.prog 104 [cfgV c, stO s 0 1, entV e] (stH s) (RS c [.gone, .gone]) := by
  have hg := w.good
  have hn := h.pre.nt
  have hnc := h.pre.nc
  have l1 := rTS_len s.ts
  obtain ⟨x, hx⟩ := get_int (l := s.ts) ht.1 (by omega)
  obtain ⟨y, hy⟩ := get_int (l := s.cs) hc.1 (by omega)
  have hxo := h.pre.t x (List.mem_of_getElem? hx)
  have hw := tok_win hxo hc h0 h2 h3
  refine callsE_of tab mixed noRel Tryz.func104 rfl (by decide) rfl rfl ?_
  conv => whnf
  refine ⟨ht.1, by omega, ?_⟩
  conv => whnf
  repeat' (first | contradiction | (refine gv (by omega) (by omega) ?_; conv => whnf) | (refine ⟨by kernel_rfl, ?_⟩; conv => whnf) | (refine ⟨_, _, no_c _, ?_⟩; conv => whnf) | (refine ⟨_, rTS_get hx, ?_⟩; conv => whnf) | (refine spD (fun _ => ?_) (fun _ => ?_) <;> conv => whnf) | (refine spN (fun _ => ?_) (fun _ => ?_) <;> conv => whnf) | (refine spE (fun _ => ?_) (fun _ => ?_) <;> conv => whnf) | (refine spNe (fun _ => ?_) (fun _ => ?_) <;> conv => whnf) | (refine gvu (by omega) (by omega) ?_; conv => whnf) | (refine spBn (fun _ => ?_) (fun _ => ?_) <;> conv => whnf) | (refine spG (fun _ => ?_) (fun _ => ?_) <;> conv => whnf))
  all_goals try exact ⟨_, _, bad_rs (by decide), [], rfl, ⟨⟨⟨rfl, rfl⟩, ⟨rfl, rfl⟩, rfl, rfl, ⟨rfl, rfl⟩, ⟨rfl, rfl⟩, ⟨rfl, rfl⟩, ⟨rfl, rfl⟩, trivial⟩, ⟨rfl, rfl⟩, trivial⟩, trivial⟩
  all_goals
    refine exK (granted_q c s e ht.1 hx hc.1 hy hxo.epoch h1 h2 h3 w.lease) ?_
    rintro _ _ ⟨k, rfl, rfl⟩
    conv => whnf
  repeat' (first | contradiction | (refine gv (by omega) (by omega) ?_; conv => whnf) | (refine ⟨by kernel_rfl, ?_⟩; conv => whnf) | (refine ⟨_, _, no_c _, ?_⟩; conv => whnf) | (refine ⟨_, rTS_get hx, ?_⟩; conv => whnf) | (refine ⟨_, sg (by first | omega | (simp only [List.length_set]; omega)), ?_⟩; conv => whnf) | (refine spD (fun _ => ?_) (fun _ => ?_) <;> conv => whnf) | (refine spN (fun _ => ?_) (fun _ => ?_) <;> conv => whnf) | (refine spE (fun _ => ?_) (fun _ => ?_) <;> conv => whnf) | (refine spNe (fun _ => ?_) (fun _ => ?_) <;> conv => whnf) | (refine gvu (by omega) (by omega) ?_; conv => whnf) | (refine spBn (fun _ => ?_) (fun _ => ?_) <;> conv => whnf) | (refine spG (fun _ => ?_) (fun _ => ?_) <;> conv => whnf))
  all_goals try exact ⟨_, _, bad_rs (by decide), [], rfl, ⟨⟨⟨rfl, rfl⟩, ⟨rfl, rfl⟩, rfl, rfl, ⟨rfl, rfl⟩, ⟨rfl, rfl⟩, ⟨rfl, rfl⟩, ⟨rfl, rfl⟩, trivial⟩, ⟨rfl, rfl⟩, trivial⟩, trivial⟩
  all_goals try exact ⟨_, _, bad_rs (by assumption), [], rfl, ⟨⟨⟨rfl, rfl⟩, ⟨rfl, rfl⟩, rfl, rfl, ⟨rfl, rfl⟩, ⟨rfl, rfl⟩, ⟨rfl, rfl⟩, ⟨rfl, rfl⟩, trivial⟩, ⟨rfl, rfl⟩, trivial⟩, trivial⟩
  all_goals first
    | refine exK (fit_r c { s with ts := s.ts.set e.tenant.toNat (winT x e) } hg (h.pre.setT _ hw) (sT (by intro y; simp) rfl) rfl) ?_
    | refine exK (fit_r c { s with ts := s.ts.set e.tenant.toNat { winT x e with home := e.cell, standby := -1, next := -1, target := -1, shed := false } } hg (h.pre.setT _ (tok_up hw hc)) (sT (by intro y; simp) rfl) rfl) ?_
    | refine exK (fit_r c { s with ts := s.ts.set e.tenant.toNat { winT x e with home := e.cell, target := -1 } } hg (h.pre.setT _ (tok_over hw hc)) (sT (by intro y; simp) rfl) rfl) ?_
  all_goals
    rintro _ _ ⟨s9, b9, rfl, rfl, h9⟩
    conv => whnf
    exact ⟨_, _, ⟨s9, b9, rfl, rfl, h9⟩, [], rfl, ⟨⟨⟨rfl, rfl⟩, ⟨rfl, rfl⟩, rfl, rfl, ⟨rfl, rfl⟩, ⟨rfl, rfl⟩, ⟨rfl, rfl⟩, ⟨rfl, rfl⟩, trivial⟩, ⟨rfl, rfl⟩, trivial⟩, trivial⟩

theorem bkF_le {c : Cfg} (hg : Good c) {ts : List TS} {i : Nat} {x x' : TS} (hx : ts[i]? = some x) {k : Int} (hle : ∀ ld sh : Int, 0 ≤ ld → 0 ≤ sh → con ld sh x' k ≤ con ld sh x k) : ∀ n, bkF c (ts.set i x') n k ≤ bkF c ts n k
  | 0 => by simp [bkF]
  | n + 1 => by
    have ih := bkF_le hg hx hle n
    have hl := hg.load n
    have hs := hg.shadow n
    rw [bkF, bkF, List.getElem?_set]
    by_cases h : i = n
    · subst h
      have hlt : i < ts.length := (List.getElem?_eq_some_iff.1 hx).1
      have := hle (loadOf c i) (shadowOf c i) hl.1 hs.1
      simp only [if_true, hlt, hx]
      omega
    · rw [if_neg h]
      omega

theorem StOk.setT {c : Cfg} (hg : Good c) {s : St} (h : StOk c s) {i : Nat} {x x' : TS} (hx : s.ts[i]? = some x) (ho : TOk c x') (hle : ∀ k ld sh : Int, 0 ≤ k → 0 ≤ ld → 0 ≤ sh → con ld sh x' k ≤ con ld sh x k) : StOk c { s with ts := s.ts.set i x' } := by
  refine ⟨h.pre.setT i ho, fun k hk => ?_⟩
  show bkF c (s.ts.set i x') (s.ts.set i x').length k ≤ _
  rw [List.length_set]
  exact Int.le_trans (bkF_le hg hx (fun ld sh => hle k ld sh (by omega)) _) (h.cap k hk)

set_option maxHeartbeats 4000000 in
set_option maxRecDepth 100000 in
theorem standby_q (c : Cfg) (s : St) (e : Ent) (w : WG c) (h : StOk c s) (ht : 0 ≤ e.tenant ∧ e.tenant < c.tenants.length) (hc : -1 ≤ e.cell ∧ e.cell < c.cells.length) : ExH Tryz.prog 106 [cfgV c, stO s 0 1, entV e] (stH s) (RS c [.gone, .gone]) := by
  have hg := w.good
  have hn := h.pre.nt
  have hnc := h.pre.nc
  have l1 := rTS_len s.ts
  have l2 := rCS_len s.cs
  obtain ⟨x, hx⟩ := get_int (l := s.ts) ht.1 (by omega)
  obtain ⟨y, hy⟩ := opt_get (l := s.cs) (k := e.cell) (by omega)
  have hxo := h.pre.t x (List.mem_of_getElem? hx)
  refine callsE_of tab mixed noRel Tryz.func106 rfl (by decide) rfl rfl ?_
  conv => whnf
  refine ⟨ht.1, by omega, ?_⟩
  conv => whnf
  repeat' (first | contradiction | (refine gv (by omega) (by omega) ?_; conv => whnf) | (refine ⟨by kernel_rfl, ?_⟩; conv => whnf) | (refine ⟨_, _, no_c _, ?_⟩; conv => whnf) | (refine ⟨_, _, frozen_c c s _ hg.laid, ?_⟩; conv => whnf) | (refine ⟨_, _, refMay_c c _ _ hg.laid, ?_⟩; conv => whnf) | (refine ⟨_, _, together_c c _ _ hg.laid, ?_⟩; conv => whnf) | (refine ⟨by omega, by omega, ?_⟩; conv => whnf) | (refine ⟨_, rTS_get hx, ?_⟩; conv => whnf) | (refine ⟨_, rCS_get (hy (by omega)), ?_⟩; conv => whnf) | (refine spD (fun _ => ?_) (fun _ => ?_) <;> conv => whnf) | (refine spN (fun _ => ?_) (fun _ => ?_) <;> conv => whnf) | (refine spE (fun _ => ?_) (fun _ => ?_) <;> conv => whnf) | (refine spNe (fun _ => ?_) (fun _ => ?_) <;> conv => whnf) | (refine gvu (by omega) (by omega) ?_; conv => whnf) | (refine spBn (fun _ => ?_) (fun _ => ?_) <;> conv => whnf) | (refine spG (fun _ => ?_) (fun _ => ?_) <;> conv => whnf))
  all_goals try exact ⟨_, _, bad_rs (by decide), [], rfl, ⟨⟨⟨rfl, rfl⟩, ⟨rfl, rfl⟩, rfl, rfl, ⟨rfl, rfl⟩, ⟨rfl, rfl⟩, ⟨rfl, rfl⟩, ⟨rfl, rfl⟩, trivial⟩, ⟨rfl, rfl⟩, trivial⟩, trivial⟩
  all_goals
    refine exK (fit_r c { s with ts := s.ts.set e.tenant.toNat { x with next := e.cell } } hg (h.pre.setT _ { hxo with next := hc }) (sT (by intro y; rfl) rfl) rfl) ?_
    rintro _ _ ⟨s9, b9, rfl, rfl, h9⟩
    conv => whnf
    exact ⟨_, _, ⟨s9, b9, rfl, rfl, h9⟩, [], rfl, ⟨⟨⟨rfl, rfl⟩, ⟨rfl, rfl⟩, rfl, rfl, ⟨rfl, rfl⟩, ⟨rfl, rfl⟩, ⟨rfl, rfl⟩, ⟨rfl, rfl⟩, trivial⟩, ⟨rfl, rfl⟩, trivial⟩, trivial⟩

set_option maxHeartbeats 4000000 in
set_option maxRecDepth 100000 in
theorem migrate_q (c : Cfg) (s : St) (e : Ent) (w : WG c) (h : StOk c s) (ht : 0 ≤ e.tenant ∧ e.tenant < c.tenants.length) (hc : 0 ≤ e.cell ∧ e.cell < c.cells.length) : ExH Tryz.prog 108 [cfgV c, stO s 0 1, entV e] (stH s) (RS c [.gone, .gone]) := by
  have hg := w.good
  have hn := h.pre.nt
  have hnc := h.pre.nc
  have l1 := rTS_len s.ts
  have l2 := rCS_len s.cs
  obtain ⟨x, hx⟩ := get_int (l := s.ts) ht.1 (by omega)
  obtain ⟨y, hy⟩ := get_int (l := s.cs) hc.1 (by omega)
  have hxo := h.pre.t x (List.mem_of_getElem? hx)
  refine callsE_of tab mixed noRel Tryz.func108 rfl (by decide) rfl rfl ?_
  conv => whnf
  refine ⟨ht.1, by omega, ?_⟩
  conv => whnf
  repeat' (first | contradiction | (refine gv (by omega) (by omega) ?_; conv => whnf) | (refine ⟨by kernel_rfl, ?_⟩; conv => whnf) | (refine ⟨_, _, no_c _, ?_⟩; conv => whnf) | (refine ⟨_, _, frozen_c c s _ hg.laid, ?_⟩; conv => whnf) | (refine ⟨_, _, refMay_c c _ _ hg.laid, ?_⟩; conv => whnf) | (refine ⟨_, _, together_c c _ _ hg.laid, ?_⟩; conv => whnf) | (refine ⟨hc.1, by omega, ?_⟩; conv => whnf) | (refine ⟨_, rTS_get hx, ?_⟩; conv => whnf) | (refine ⟨_, rCS_get hy, ?_⟩; conv => whnf) | (refine spD (fun _ => ?_) (fun _ => ?_) <;> conv => whnf) | (refine spN (fun _ => ?_) (fun _ => ?_) <;> conv => whnf) | (refine spE (fun _ => ?_) (fun _ => ?_) <;> conv => whnf) | (refine spNe (fun _ => ?_) (fun _ => ?_) <;> conv => whnf) | (refine gvu (by omega) (by omega) ?_; conv => whnf) | (refine spBn (fun _ => ?_) (fun _ => ?_) <;> conv => whnf) | (refine spG (fun _ => ?_) (fun _ => ?_) <;> conv => whnf))
  all_goals try exact ⟨_, _, bad_rs (by decide), [], rfl, ⟨⟨⟨rfl, rfl⟩, ⟨rfl, rfl⟩, rfl, rfl, ⟨rfl, rfl⟩, ⟨rfl, rfl⟩, ⟨rfl, rfl⟩, ⟨rfl, rfl⟩, trivial⟩, ⟨rfl, rfl⟩, trivial⟩, trivial⟩
  all_goals
    refine exK (fit_r c { s with ts := s.ts.set e.tenant.toNat { x with target := e.cell } } hg (h.pre.setT _ { hxo with target := ⟨by show -1 ≤ e.cell; omega, hc.2⟩, open_ := fun h => (by simp_all), apart := .inr (by assumption) }) (sT (by intro y; rfl) rfl) rfl) ?_
    rintro _ _ ⟨s9, b9, rfl, rfl, h9⟩
    conv => whnf
    exact ⟨_, _, ⟨s9, b9, rfl, rfl, h9⟩, [], rfl, ⟨⟨⟨rfl, rfl⟩, ⟨rfl, rfl⟩, rfl, rfl, ⟨rfl, rfl⟩, ⟨rfl, rfl⟩, ⟨rfl, rfl⟩, ⟨rfl, rfl⟩, trivial⟩, ⟨rfl, rfl⟩, trivial⟩, trivial⟩

end Go.Proofs.YtncckpieemmmfaaGreat
