/- States as plain data; contracts: what a state books (load and its reference), and small functions of the reference of state. Conditions: those ahead of each theorem. -/
import Derived.Test.YtncckpieemmmfaaGreatBook
namespace Go.Proofs.YtncckpieemmmfaaGreat
open Go Go.Cpl

structure TS where
  placed : Bool
  shed : Bool
  home : Int
  standby : Int
  next : Int
  target : Int
  epoch : Int
  wc : Int
  we : Int
  wv : Int
  wf : Int
  wu : Int

structure CS4 where
  mode : Int
  running : Int
  wanted : Int
  since : Int

structure St where
  tick : Int
  count : Int
  ts : List TS
  cs : List CS4
  proven : Int
  evac : Int
  low : Int
  high : Int

def tsD (x : TS) : List D := [.bool x.placed, .bool x.shed, i64 x.home, i64 x.standby, i64 x.next, i64 x.target, i64 x.epoch, i64 x.wc, i64 x.we, i64 x.wv, i64 x.wf, i64 x.wu]

def csD (x : CS4) : List D := [i64 x.mode, i64 x.running, i64 x.wanted, i64 x.since]

def rTS (l : List TS) : List (List D) := l.map tsD

def rCS (l : List CS4) : List (List D) := l.map csD

theorem rTS_len (l : List TS) : (rTS l).length = l.length := by simp [rTS]

theorem rCS_len (l : List CS4) : (rCS l).length = l.length := by simp [rCS]

theorem rTS_get {l : List TS} {i : Nat} {x : TS} (h : l[i]? = some x) : (rTS l)[i]? = some (tsD x) := by simp [rTS, h]

theorem rCS_get {l : List CS4} {i : Nat} {x : CS4} (h : l[i]? = some x) : (rCS l)[i]? = some (csD x) := by simp [rCS, h]

theorem rTS_ok (l : List TS) : ∀ r ∈ rTS l, r.length = 12 ∧ ∀ d ∈ r, d.scalar = true := by
  intro r hr
  obtain ⟨x, _, rfl⟩ := List.mem_map.1 hr
  simp [tsD, D.scalar]

theorem rCS_ok (l : List CS4) : ∀ r ∈ rCS l, r.length = 4 ∧ ∀ d ∈ r, d.scalar = true := by
  intro r hr
  obtain ⟨x, _, rfl⟩ := List.mem_map.1 hr
  simp [csD, D.scalar]

theorem rTS_set (l : List TS) (i : Nat) (x : TS) : (rTS l).set i (tsD x) = rTS (l.set i x) := by simp [rTS, List.map_set]

theorem rCS_set (l : List CS4) (i : Nat) (x : CS4) : (rCS l).set i (csD x) = rCS (l.set i x) := by simp [rCS, List.map_set]

abbrev stC (s : St) : List AC := [.d (i64 s.tick), .d (i64 s.count), .d (.sl (rTS s.ts)), .d (.sl (rCS s.cs)), .d (i64 s.proven), .d (i64 s.evac), .d (i64 s.low), .d (i64 s.high)]

abbrev stV (s : St) : AV := .agg (stC s)

/-- a state whose lists are owned -/
abbrev stO (s : St) (a b : Nat) : AV := .agg [.d (i64 s.tick), .d (i64 s.count), .gs a, .gs b, .d (i64 s.proven), .d (i64 s.evac), .d (i64 s.low), .d (i64 s.high)]

abbrev stH (s : St) : List HObj := [.arr 58 (rTS s.ts), .arr 122 (rCS s.cs)]

abbrev noSt : St := ⟨0, 0, [], [], 0, 0, 0, 0⟩

/-! ### what is booked -/

/-- what a tenant books at a cell -/
def con (ld sh : Int) (t : TS) (k : Int) : Int :=
  if t.placed then (if t.shed then 0 else (if t.home = k then ld else 0) + (if t.target = k then ld else 0)) + (if t.standby = k then sh else 0) + (if t.next = k then sh else 0) else 0

def bkF (c : Cfg) (ts : List TS) : Nat → Int → Int
  | 0, _ => 0
  | i + 1, k => bkF c ts i k + (match ts[i]? with
    | some t => con (loadOf c i) (shadowOf c i) t k
    | none => 0)

/-- a list of all cells -/
def cl (n : Nat) (f : Int → Int) : List Int := (List.range n).map fun k : Nat => f (k : Int)

theorem cl_len (n : Nat) (f : Int → Int) : (cl n f).length = n := by simp [cl]

theorem cl_get {n : Nat} {f : Int → Int} {k : Nat} (h : k < n) : (cl n f)[k]? = some (f (k : Int)) := by simp [cl, h]

theorem cl_ext {n : Nat} {f g : Int → Int} (h : ∀ k : Nat, k < n → f k = g k) : cl n f = cl n g := by
  unfold cl
  refine List.map_congr_left fun k hk => ?_
  exact h k (by simpa using hk)

theorem cl_add (n : Nat) (f : Int → Int) (i x : Int) : addAt (cl n f) i x = cl n fun k => f k + if i = k then x else 0 := by
  unfold addAt
  rw [cl_len]
  split
  · rename_i h
    apply List.ext_getElem?
    intro j
    rw [List.getElem?_set]
    split
    · rename_i hj
      subst hj
      rw [cl_len, if_pos (by omega), cl_get (by omega), cl_get (by omega)]
      have : ((i.toNat : Nat) : Int) = i := by omega
      simp [this]
    · rename_i hj
      by_cases hn : j < n
      · rw [cl_get hn, cl_get hn, if_neg (by omega)]; simp
      · rw [List.getElem?_eq_none (by rw [cl_len]; omega), List.getElem?_eq_none (by rw [cl_len]; omega)]
  · rename_i h
    refine cl_ext fun k hk => ?_
    rw [if_neg (by omega)]; simp

theorem cl_zero (n : Nat) : List.replicate n [i64 0] = r1 (cl n fun _ => 0) := by
  apply List.ext_getElem?
  intro j
  by_cases hn : j < n
  · simp [r1, cl, hn]
  · simp [r1, cl, hn]

abbrev bkL (c : Cfg) (ts : List TS) (m : Nat) : List Int := cl c.cells.length (bkF c ts m)

/-- what a state books -/
abbrev bkd (c : Cfg) (ts : List TS) : List Int := bkL c ts ts.length

theorem con_rng {ld sh : Int} (hl : 0 ≤ ld ∧ ld ≤ 65536) (hs : 0 ≤ sh ∧ sh ≤ 65536) (t : TS) (k : Int) : 0 ≤ con ld sh t k ∧ con ld sh t k ≤ 262144 := by
  unfold con
  repeat' split
  all_goals omega

theorem bkF_rng {c : Cfg} (hg : Good c) (ts : List TS) : ∀ (m : Nat) (k : Int), 0 ≤ bkF c ts m k ∧ bkF c ts m k ≤ 262144 * (m : Int)
  | 0, k => by simp [bkF]
  | m + 1, k => by
    have ih := bkF_rng hg ts m k
    have h1 := hg.load m
    have h2 := hg.shadow m
    rw [bkF]
    split
    · have := con_rng h1 ⟨h2.1, h2.2.1⟩ (by assumption) k
      omega
    · omega

theorem addAt_get {l : List Int} {i : Int} {x n : Int} (h0 : 0 ≤ i) (h1 : i < l.length) (hx : l[i.toNat]? = some x) : addAt l i n = l.set i.toNat (x + n) := by
  unfold addAt
  rw [if_pos ⟨h0, h1⟩, hx]
  rfl

theorem add11_c (l : List Int) (i n : Int) (hr : ∀ x ∈ l, -1000000000 ≤ x ∧ x ≤ 1000000000) (hn : -1000000000 ≤ n ∧ n ≤ 1000000000) : CallsH Tryz.prog 125 [.c (.gs 0), I i, I n] [.arr 3 (r1 l)] (.tup []) [.arr 3 (r1 (addAt l i n))] := by
  have hl1 := r1_len l
  refine callsR_of tab mixed Tryz.func125 rfl (by decide) rfl rfl ?_
  conv => whnf
  refine spD (fun h1 => ?_) (fun h1 => ?_) <;> conv => whnf
  · refine spD (fun h2 => ?_) (fun h2 => ?_) <;> conv => whnf
    · obtain ⟨x, hx⟩ := get_int (l := l) (i := i) h1 (by omega)
      have hxr := hr x (List.mem_of_getElem? hx)
      refine ⟨by omega, by omega, _, r1_get hx, ?_⟩
      conv => whnf
      refine gv (by first | omega | (simp only []; omega) | (simp; omega)) (by first | omega | (simp only []; omega) | (simp; omega)) ?_
      conv => whnf
      refine ⟨by omega, by omega, _, r1_get hx, ?_⟩
      conv => whnf
      refine ⟨[(0, some 0)], rfl, trivial, ⟨rfl, ?_⟩, trivial⟩
      rw [addAt_get h1 (by omega) hx]
      exact r1_set _ _ _
    · refine ⟨[(0, some 0)], rfl, trivial, ⟨rfl, ?_⟩, trivial⟩
      rw [addAt, if_neg (by omega)]
  · refine ⟨[(0, some 0)], rfl, trivial, ⟨rfl, ?_⟩, trivial⟩
    rw [addAt, if_neg (by omega)]

theorem loadAdd_c (l : List Int) (i n : Int) (hr : ∀ x ∈ l, -1000000000 ≤ x ∧ x ≤ 1000000000) (hn : -1000000000 ≤ n ∧ n ≤ 1000000000) : CallsH Tryz.prog 69 [.c (.gs 0), I i, I n] [.arr 3 (r1 l)] (.tup []) [.arr 3 (r1 (addAt l i n))] := by
  have hl1 := r1_len l
  refine callsR_of tab mixed Tryz.func69 rfl (by decide) rfl rfl ?_
  conv => whnf
  refine spD (fun h1 => ?_) (fun h1 => ?_) <;> conv => whnf
  · refine spD (fun h2 => ?_) (fun h2 => ?_) <;> conv => whnf
    · obtain ⟨x, hx⟩ := get_int (l := l) (i := i) h1 (by omega)
      have hxr := hr x (List.mem_of_getElem? hx)
      refine ⟨by omega, by omega, _, r1_get hx, ?_⟩
      conv => whnf
      refine gv (by first | omega | (simp only []; omega) | (simp; omega)) (by first | omega | (simp only []; omega) | (simp; omega)) ?_
      conv => whnf
      refine ⟨by omega, by omega, _, r1_get hx, ?_⟩
      conv => whnf
      refine ⟨[(0, some 0)], rfl, trivial, ⟨rfl, ?_⟩, trivial⟩
      rw [addAt_get h1 (by omega) hx]
      exact r1_set _ _ _
    · refine ⟨[(0, some 0)], rfl, trivial, ⟨rfl, ?_⟩, trivial⟩
      rw [addAt, if_neg (by omega)]
  · refine ⟨[(0, some 0)], rfl, trivial, ⟨rfl, ?_⟩, trivial⟩
    rw [addAt, if_neg (by omega)]

theorem cl_rng {n : Nat} {f : Int → Int} {a b : Int} (h : ∀ k, a ≤ f k ∧ f k ≤ b) : ∀ x ∈ cl n f, a ≤ x ∧ x ≤ b := by
  intro x hx
  obtain ⟨k, _, rfl⟩ := List.mem_map.1 hx
  exact h k

theorem spBn {b : Bool} {A C : Prop} (h1 : b = false → A) (h2 : b = true → C) : ((!b) = true → A) ∧ ((!b) = false → C) := ⟨fun h => h1 (by simpa using h), fun h => h2 (by simpa using h)⟩

theorem spBa {b : Bool} {A C : Prop} (h1 : b = false → A) (h2 : b = true → C) : ((true && !b) = true → A) ∧ ((true && !b) = false → C) := ⟨fun h => h1 (by simpa using h), fun h => h2 (by simpa using h)⟩

theorem count_c (c : Cfg) (s : St) : CallsH Tryz.prog 67 [cfgV c, stV s] [] (I (if ((rTS s.ts).length : Int) < ((rT c.tenants).length : Int) then ((rTS s.ts).length : Int) else ((rT c.tenants).length : Int))) [] := by
  refine callsR_of tab mixed Tryz.func67 rfl (by decide) rfl rfl ?_
  conv => whnf
  exact ⟨[], rfl, ⟨rfl, rfl⟩, trivial⟩

abbrev tsV (t : TS) : AV := .agg [.d (.bool t.placed), .d (.bool t.shed), .d (i64 t.home), .d (i64 t.standby), .d (i64 t.next), .d (i64 t.target), .d (i64 t.epoch), .d (i64 t.wc), .d (i64 t.we), .d (i64 t.wv), .d (i64 t.wf), .d (i64 t.wu)]

theorem active_c (t : TS) : CallsH Tryz.prog 68 [tsV t] [] (B (t.placed && !t.shed)) [] := by
  refine callsR_of tab mixed Tryz.func68 rfl (by decide) rfl rfl ?_
  conv => whnf
  refine ⟨fun h => ?_, fun h => ?_⟩ <;> conv => whnf
  · exact ⟨[], rfl, by simp [mtV, Cpl.valOf, mtC, eqD, h], trivial⟩
  · exact ⟨[], rfl, by simp [mtV, Cpl.valOf, mtC, eqD, h], trivial⟩

set_option maxHeartbeats 2000000 in
set_option maxRecDepth 100000 in
theorem booked11_c (c : Cfg) (s : St) (hg : Good c) (hn : s.ts.length = c.tenants.length) : CallsH Tryz.prog 90 [cfgV c, stV s] [] (.c (.gs 0)) [.arr 3 (r1 (bkd c s.ts))] := by
  have hlt := rT_len c.tenants
  have hls := rTS_len s.ts
  have hcl := r2_len c.cells
  have hC := hg.cells
  have hT := hg.tenants
  refine callsR_of tab mixed Tryz.func90 rfl (by decide) rfl rfl ?_
  conv => whnf
  refine ⟨by omega, by omega, ⟨by omega⟩, ?_⟩
  conv => whnf
  rw [show (((r2 c.cells).length : Nat) : Int).toNat = c.cells.length by omega, cl_zero]
  refine loopN tab mixed (fun i => i ≤ s.ts.length) s.ts.length (fun i => [(6, I i)]) (fun i => [(2, .arr 3 (r1 (bkL c s.ts i)))]) 51 [(2, some 2)] (by omega) ?_
  conv => whnf
  refine ⟨?_, fun i hi => ?_⟩
  · repeat' (first | exact trivial | rfl | refine And.intro ?_ ?_)
    all_goals (conv => whnf)
    repeat' (first | exact trivial | rfl | refine And.intro ?_ ?_)
  conv => whnf
  refine spD (fun h2 => ?_) (fun h2 => ?_) <;> conv => whnf
  · have hi' : i < s.ts.length := by omega
    obtain ⟨t, hx⟩ := get_of hi'
    obtain ⟨d, hd⟩ := get_of (l := c.tenants) (i := i) (by omega)
    have hL := hg.load i
    have hS := hg.shadow i
    have hload : loadOf c i = d.load := by simp [loadOf, hd]
    have hshad : shadowOf c i = d.shadow := by simp [shadowOf, hd]
    have hstep : ∀ k, bkF c s.ts (i + 1) k = bkF c s.ts i k + con d.load d.shadow t k := fun k => by simp [bkF, hx, hload, hshad]
    rw [hload] at hL hS
    rw [hshad] at hS
    refine ⟨by kernel_rfl, ?_⟩
    conv => whnf
    refine ⟨by omega, _, rTS_get hx, ?_⟩
    conv => whnf
    refine ⟨by omega, _, rT_get hd, ?_⟩
    conv => whnf
    refine spBn (fun h3 => ?_) (fun h3 => ?_) <;> conv => whnf
    · have e := hstep
      simp only [con, h3, Bool.false_eq_true, if_false, Int.add_zero] at e
      refine gv (by first | omega | (simp only []; omega) | (simp; omega)) (by first | omega | (simp only []; omega) | (simp; omega)) ?_
      conv => whnf
      refine ⟨⟨hi', hi'⟩, [(2, some 2)], ?_⟩
      repeat' (first | exact trivial | rfl | refine And.intro ?_ ?_)
      all_goals (conv => whnf)
      repeat' (first | exact trivial | rfl | refine And.intro ?_ ?_)
      exact congrArg r1 (cl_ext fun k _ => (e k).symm).symm
    refine spBn (fun h4 => ?_) (fun h4 => ?_) <;> conv => whnf
    · have e := hstep
      simp only [con, h3, h4, if_true, Bool.false_eq_true, if_false] at e
      refine ⟨_, _, add11_c _ _ _ (cl_rng fun k => by have := bkF_rng hg s.ts i k; (repeat' split) <;> omega) (by omega), ?_⟩
      conv => whnf
      rw [cl_add]
      refine ⟨_, _, add11_c _ _ _ (cl_rng fun k => by have := bkF_rng hg s.ts i k; (repeat' split) <;> omega) (by omega), ?_⟩
      conv => whnf
      rw [cl_add]
      refine ⟨_, _, add11_c _ _ _ (cl_rng fun k => by have := bkF_rng hg s.ts i k; (repeat' split) <;> omega) (by omega), ?_⟩
      conv => whnf
      rw [cl_add]
      refine ⟨_, _, add11_c _ _ _ (cl_rng fun k => by have := bkF_rng hg s.ts i k; (repeat' split) <;> omega) (by omega), ?_⟩
      conv => whnf
      rw [cl_add]
      refine gv (by first | omega | (simp only []; omega) | (simp; omega)) (by first | omega | (simp only []; omega) | (simp; omega)) ?_
      conv => whnf
      refine ⟨⟨hi', hi'⟩, [(2, some 2)], ?_⟩
      repeat' (first | exact trivial | rfl | refine And.intro ?_ ?_)
      all_goals (conv => whnf)
      repeat' (first | exact trivial | rfl | refine And.intro ?_ ?_)
      exact congrArg r1 (cl_ext fun k _ => by rw [e k]; omega)
    · have e := hstep
      simp only [con, h3, h4, if_true, Int.zero_add] at e
      refine ⟨_, _, add11_c _ _ _ (cl_rng fun k => by have := bkF_rng hg s.ts i k; (repeat' split) <;> omega) (by omega), ?_⟩
      conv => whnf
      rw [cl_add]
      refine ⟨_, _, add11_c _ _ _ (cl_rng fun k => by have := bkF_rng hg s.ts i k; (repeat' split) <;> omega) (by omega), ?_⟩
      conv => whnf
      rw [cl_add]
      refine gv (by first | omega | (simp only []; omega) | (simp; omega)) (by first | omega | (simp only []; omega) | (simp; omega)) ?_
      conv => whnf
      refine ⟨⟨hi', hi'⟩, [(2, some 2)], ?_⟩
      repeat' (first | exact trivial | rfl | refine And.intro ?_ ?_)
      all_goals (conv => whnf)
      repeat' (first | exact trivial | rfl | refine And.intro ?_ ?_)
      exact congrArg r1 (cl_ext fun k _ => by rw [e k]; omega)
  · have hi' : i = s.ts.length := by omega
    subst hi'
    refine ⟨[(0, some 2)], rfl, rfl, ⟨rfl, rfl⟩, trivial⟩

set_option maxHeartbeats 2000000 in
set_option maxRecDepth 100000 in
theorem loadBooked_c (c : Cfg) (s : St) (hg : Good c) (hn : s.ts.length = c.tenants.length) : CallsH Tryz.prog 28 [cfgV c, stV s] [] (.c (.gs 0)) [.arr 3 (r1 (bkd c s.ts))] := by
  have hlt := rT_len c.tenants
  have hls := rTS_len s.ts
  have hcl := r2_len c.cells
  have hC := hg.cells
  have hT := hg.tenants
  refine callsR_of tab mixed Tryz.func28 rfl (by decide) rfl rfl ?_
  conv => whnf
  refine ⟨by omega, by omega, ⟨by omega⟩, ?_⟩
  conv => whnf
  rw [show (((r2 c.cells).length : Nat) : Int).toNat = c.cells.length by omega, cl_zero]
  refine ⟨_, _, count_c c s, ?_⟩
  conv => whnf
  refine loopN tab mixed (fun i => i ≤ s.ts.length) s.ts.length (fun i => [(16, I i)]) (fun i => [(2, .arr 3 (r1 (bkL c s.ts i)))]) 51 [(2, some 2)] (by omega) ?_
  conv => whnf
  refine ⟨?_, fun i hi => ?_⟩
  · repeat' (first | exact trivial | rfl | refine And.intro ?_ ?_)
    all_goals (conv => whnf)
    repeat' (first | exact trivial | rfl | refine And.intro ?_ ?_)
  conv => whnf
  refine spD (fun h2 => ?_) (fun h2 => ?_) <;> conv => whnf
  · have hi' : i < s.ts.length := by omega
    obtain ⟨t, hx⟩ := get_of hi'
    obtain ⟨d, hd⟩ := get_of (l := c.tenants) (i := i) (by omega)
    have hL := hg.load i
    have hS := hg.shadow i
    have hload : loadOf c i = d.load := by simp [loadOf, hd]
    have hshad : shadowOf c i = d.shadow := by simp [shadowOf, hd]
    have hstep : ∀ k, bkF c s.ts (i + 1) k = bkF c s.ts i k + con d.load d.shadow t k := fun k => by simp [bkF, hx, hload, hshad]
    rw [hload] at hL hS
    rw [hshad] at hS
    refine ⟨by kernel_rfl, ?_⟩
    conv => whnf
    refine ⟨by omega, _, rT_get hd, ?_⟩
    conv => whnf
    refine ⟨by omega, _, rTS_get hx, ?_⟩
    conv => whnf
    refine spBn (fun h3 => ?_) (fun h3 => ?_) <;> conv => whnf
    · have e := hstep
      simp only [con, h3, Bool.false_eq_true, if_false, Int.add_zero] at e
      refine gv (by first | omega | (simp only []; omega) | (simp; omega)) (by first | omega | (simp only []; omega) | (simp; omega)) ?_
      conv => whnf
      refine ⟨⟨hi', hi'⟩, [(2, some 2)], ?_⟩
      repeat' (first | exact trivial | rfl | refine And.intro ?_ ?_)
      all_goals (conv => whnf)
      repeat' (first | exact trivial | rfl | refine And.intro ?_ ?_)
      exact congrArg r1 (cl_ext fun k _ => (e k).symm).symm
    refine ⟨_, _, active_c t, ?_⟩
    conv => whnf
    rw [h3]
    refine spBa (fun h4 => ?_) (fun h4 => ?_) <;> conv => whnf
    · have e := hstep
      simp only [con, h3, h4, if_true, Bool.false_eq_true, if_false] at e
      refine ⟨_, _, loadAdd_c _ _ _ (cl_rng fun k => by have := bkF_rng hg s.ts i k; (repeat' split) <;> omega) (by omega), ?_⟩
      conv => whnf
      rw [cl_add]
      refine ⟨_, _, loadAdd_c _ _ _ (cl_rng fun k => by have := bkF_rng hg s.ts i k; (repeat' split) <;> omega) (by omega), ?_⟩
      conv => whnf
      rw [cl_add]
      refine ⟨_, _, loadAdd_c _ _ _ (cl_rng fun k => by have := bkF_rng hg s.ts i k; (repeat' split) <;> omega) (by omega), ?_⟩
      conv => whnf
      rw [cl_add]
      refine ⟨_, _, loadAdd_c _ _ _ (cl_rng fun k => by have := bkF_rng hg s.ts i k; (repeat' split) <;> omega) (by omega), ?_⟩
      conv => whnf
      rw [cl_add]
      refine gv (by first | omega | (simp only []; omega) | (simp; omega)) (by first | omega | (simp only []; omega) | (simp; omega)) ?_
      conv => whnf
      refine ⟨⟨hi', hi'⟩, [(2, some 2)], ?_⟩
      repeat' (first | exact trivial | rfl | refine And.intro ?_ ?_)
      all_goals (conv => whnf)
      repeat' (first | exact trivial | rfl | refine And.intro ?_ ?_)
      exact congrArg r1 (cl_ext fun k _ => by rw [e k]; omega)
    · have e := hstep
      simp only [con, h3, h4, if_true, Int.zero_add] at e
      refine ⟨_, _, loadAdd_c _ _ _ (cl_rng fun k => by have := bkF_rng hg s.ts i k; (repeat' split) <;> omega) (by omega), ?_⟩
      conv => whnf
      rw [cl_add]
      refine ⟨_, _, loadAdd_c _ _ _ (cl_rng fun k => by have := bkF_rng hg s.ts i k; (repeat' split) <;> omega) (by omega), ?_⟩
      conv => whnf
      rw [cl_add]
      refine gv (by first | omega | (simp only []; omega) | (simp; omega)) (by first | omega | (simp only []; omega) | (simp; omega)) ?_
      conv => whnf
      refine ⟨⟨hi', hi'⟩, [(2, some 2)], ?_⟩
      repeat' (first | exact trivial | rfl | refine And.intro ?_ ?_)
      all_goals (conv => whnf)
      repeat' (first | exact trivial | rfl | refine And.intro ?_ ?_)
      exact congrArg r1 (cl_ext fun k _ => by rw [e k]; omega)
  · have hi' : i = s.ts.length := by omega
    subst hi'
    refine ⟨[(0, some 2)], rfl, rfl, ⟨rfl, rfl⟩, trivial⟩

end Go.Proofs.YtncckpieemmmfaaGreat
