/- Contract: plans of which something is changed (cellplanelaw35.bent). Conditions: those ahead of each theorem. -/
import Derived.Test.YtncckpieemmmfaaGreatEvZ
namespace Go.Proofs.YtncckpieemmmfaaGreat
open Go Go.Cpl

/-- the table of types, with the mark that an append to the last rows of a slice is shown for both of its ways -/
def TyF (t : Nat) : TyI := match Nat.beq t 1999999 with
  | true => { kind := 0, el := 4 }
  | false => Ty t

theorem tabF : TabOK Tryz.prog TyF := fun t => by
  unfold TyF
  split
  · exact .inl rfl
  · exact tab t

theorem addK_in {a b : Nat} {K : Nat → Prop} (h : K (a + b)) : addK a b K := by
  unfold addK
  split
  · simpa using h
  · simpa using h
  · exact h

theorem modX_c (v n : Int) (hn : 0 < n) (hn' : n ≤ 1000000) : CallsH Tryz.prog 14 [I v, I n] [] (I (v % n)) [] := by
  have h1 := Int.emod_nonneg v (b := n) (by omega)
  have h2 := Int.emod_lt_of_pos v hn
  have e := Int.tmod_eq_emod (a := v) (b := n)
  have hr : v.tmod n = v % n ∨ v.tmod n = v % n - n := by rw [e]; split <;> omega
  refine callsR_of tab mixed Tryz.func14 rfl (by decide) rfl rfl ?_
  conv => whnf
  refine ⟨by omega, .intro (v.tmod n) rfl ?_⟩
  conv => whnf
  refine spD (fun h => ?_) (fun h => ?_) <;> conv => whnf
  · refine gv (by first | omega | (simp only []; omega) | (simp; omega)) (by first | omega | (simp only []; omega) | (simp; omega)) ?_
    conv => whnf
    have : v.tmod n + n = v % n := by omega
    rw [this]
    exact ⟨[], rfl, ⟨rfl, rfl⟩, trivial⟩
  · have : v.tmod n = v % n := by omega
    rw [this]
    exact ⟨[], rfl, ⟨rfl, rfl⟩, trivial⟩

/-- the next number of a tape, and where it stands then -/
def nxt (l : List Int) (a n : Int) : Int × Int := if a < l.length then (atI l a % n, a + 1) else (0, a)

theorem nxt_rng {l : List Int} {a n : Int} (hn : 0 < n) (ha : 0 ≤ a ∧ a ≤ l.length) : (0 ≤ (nxt l a n).1 ∧ (nxt l a n).1 < n) ∧ a ≤ (nxt l a n).2 ∧ (nxt l a n).2 ≤ l.length ∧ (a < l.length → (nxt l a n).2 = a + 1) := by
  have h1 := Int.emod_nonneg (atI l a) (b := n) (by omega)
  have h2 := Int.emod_lt_of_pos (atI l a) hn
  unfold nxt
  split
  · dsimp only; omega
  · dsimp only; omega

theorem nextX_c {l : List Int} {a n : Int} (ha : 0 ≤ a ∧ a ≤ l.length) (hl : l.length ≤ 100000) (hn : 0 < n) (hn' : n ≤ 1000000) : CallsH Tryz.prog 50 [.c (.ptr 0 0 0), I n] [tapeO l a] (I (nxt l a n).1) [tapeO l (nxt l a n).2] := by
  have hl1 := r1_len l
  rcases Int.lt_or_le a l.length with h1 | h1
  · obtain ⟨x, hx⟩ := get_int (l := l) ha.1 (by omega)
    have hc := modX_c x n hn hn'
    have e : nxt l a n = (x % n, a + 1) := by unfold nxt; rw [if_pos h1, atI_get hx]
    rw [e]
    refine callsR_of tab mixed Tryz.func50 rfl (by decide) rfl rfl ?_
    conv => whnf
    refine ⟨by kernel_rfl, ?_⟩
    conv => whnf
    refine spD (fun h => ?_) (fun h => ?_) <;> conv => whnf
    · omega
    · refine gv (by first | omega | (simp only []; omega) | (simp; omega)) (by first | omega | (simp only []; omega) | (simp; omega)) ?_
      conv => whnf
      refine ⟨by kernel_rfl, ?_⟩
      conv => whnf
      refine gv (by first | omega | (simp only []; omega) | (simp; omega)) (by first | omega | (simp only []; omega) | (simp; omega)) ?_
      conv => whnf
      have e : a + 1 - 1 = a := by omega
      refine ⟨by omega, _, r1_get (by rw [e]; exact hx), ?_⟩
      conv => whnf
      refine ⟨_, _, hc, ?_⟩
      conv => whnf
      exact ⟨[(0, some 0)], rfl, ⟨rfl, rfl⟩, ⟨⟨rfl, ⟨rfl, rfl⟩, trivial⟩, trivial⟩⟩
  · have e : nxt l a n = (0, a) := by unfold nxt; rw [if_neg (by omega)]
    rw [e]
    refine callsR_of tab mixed Tryz.func50 rfl (by decide) rfl rfl ?_
    conv => whnf
    refine ⟨by kernel_rfl, ?_⟩
    conv => whnf
    refine spD (fun h => ?_) (fun h => ?_) <;> conv => whnf
    · exact ⟨[(0, some 0)], rfl, ⟨rfl, rfl⟩, ⟨⟨rfl, ⟨rfl, rfl⟩, trivial⟩, trivial⟩⟩
    · omega

theorem rangeX_c {l : List Int} {a : Int} (ha : 0 ≤ a ∧ a ≤ l.length) (hl : l.length ≤ 100000) : CallsH Tryz.prog 49 [.c (.ptr 0 0 0), I 1, I 2] [tapeO l a] (I (1 + (nxt l a 2).1)) [tapeO l (nxt l a 2).2] := by
  have hr := nxt_rng (l := l) (a := a) (n := 2) (by omega) ha
  refine callsR_of tab mixed Tryz.func49 rfl (by decide) rfl rfl ?_
  conv => whnf
  refine gv (by first | omega | (simp only []; omega) | (simp; omega)) (by first | omega | (simp only []; omega) | (simp; omega)) ?_
  conv => whnf
  refine gv (by first | omega | (simp only []; omega) | (simp; omega)) (by first | omega | (simp only []; omega) | (simp; omega)) ?_
  conv => whnf
  refine ⟨_, _, nextX_c ha hl (by omega) (by omega), ?_⟩
  conv => whnf
  refine gv (by first | omega | (simp only []; omega) | (simp; omega)) (by first | omega | (simp only []; omega) | (simp; omega)) ?_
  conv => whnf
  exact ⟨[(0, some 0)], rfl, ⟨rfl, rfl⟩, ⟨⟨rfl, ⟨rfl, rfl⟩, trivial⟩, trivial⟩⟩

structure Bt where
  a : Int
  st : List Stp
  lf : List Int

/-- the numbers that one change takes: the step, its place, and what is done -/
def btX (c : Cfg) (l : List Int) (a : Int) : Stp × Int :=
  (⟨1 + (nxt l a 2).1, (nxt l (nxt l a 2).2 (c.tenants.length + 1)).1, (nxt l (nxt l (nxt l a 2).2 (c.tenants.length + 1)).2 c.cells.length).1⟩, (nxt l (nxt l (nxt l a 2).2 (c.tenants.length + 1)).2 c.cells.length).2)

def bentStep (c : Cfg) (l : List Int) (b : Bt) : Bt :=
  let x := (btX c l b.a).1
  let k := nxt l (btX c l b.a).2 (b.st.length + 1)
  let d := nxt l k.2 6
  if d.1 = 0 then ⟨d.2, b.st.take k.1.toNat ++ x :: b.st.drop k.1.toNat, b.lf⟩
  else if d.1 = 1 then ⟨d.2, b.st.set k.1.toNat x, b.lf⟩
  else if d.1 = 2 then ⟨d.2, b.st.take k.1.toNat ++ b.st.drop (k.1.toNat + 1), b.lf⟩
  else if d.1 = 3 then ⟨d.2, b.st, b.lf ++ [x.tenant]⟩
  else if d.1 = 4 then ⟨d.2, b.st, b.lf.drop 1⟩
  else ⟨l.length, b.st, b.lf⟩

def bentGo (c : Cfg) (l : List Int) : Nat → Bt → Bt
  | 0, b => b
  | n + 1, b => if b.a < l.length ∧ b.st.length < 12 then bentGo c l n (bentStep c l b) else b

theorem bentGo_stop {c : Cfg} {l : List Int} {n : Nat} {b : Bt} (h : ¬ (b.a < l.length ∧ b.st.length < 12)) : bentGo c l n b = b := by
  cases n with
  | zero => rfl
  | succ n => rw [bentGo, if_neg h]

/-- what is known of one change -/
theorem bentStep_len (c : Cfg) (l : List Int) (b : Bt) : (bentStep c l b).st.length ≤ b.st.length + 1 := by
  unfold bentStep
  dsimp only
  repeat' split
  all_goals simp
  all_goals omega

theorem bentGo_len {c : Cfg} {l : List Int} {m : Nat} (hm : 12 ≤ m) : ∀ (n : Nat) (b : Bt), b.st.length ≤ m → (bentGo c l n b).st.length ≤ m
  | 0, b, h => h
  | n + 1, b, h => by
    rw [bentGo]
    split
    · rename_i hh
      have := bentStep_len c l b
      exact bentGo_len hm n _ (by omega)
    · exact h

structure BJ (c : Cfg) (l : List Int) (m q : Nat) (F : Bt) where
  n : Nat
  a : Int
  st : List Stp
  lf : List Int
  pre : List Int
  ha : 0 ≤ a ∧ a ≤ l.length
  hn : (l.length : Int) - a ≤ n
  hst : st.length ≤ m
  hlf : (lf.length : Int) ≤ q + a
  hF : bentGo c l n ⟨a, st, lf⟩ = F

theorem ins_rowsS (st : List Stp) (k : Nat) (x : Stp) : rSt (st.take k ++ x :: st.drop k) = [] ++ List.take k (List.drop 0 (rSt st)) ++ [stD x] ++ List.take ((rSt st).length - k) (List.drop k (rSt st)) := by
  rw [List.take_of_length_le (l := List.drop k (rSt st)) (by simp)]
  simp [rSt, List.map_take, List.map_drop]

theorem cut_rowsS (st : List Stp) (k : Nat) : rSt (st.take k ++ st.drop (k + 1)) = [] ++ List.take k (List.drop 0 (rSt st)) ++ List.take ((rSt st).length - (k + 1)) (List.drop (k + 1) (rSt st)) := by
  rw [List.take_of_length_le (l := List.drop (k + 1) (rSt st)) (by simp)]
  simp [rSt, List.map_take, List.map_drop]

theorem rSt_setS (l : List Stp) (i : Nat) (x : Stp) : (rSt l).set i (stD x) = rSt (l.set i x) := by simp [rSt, List.map_set]

theorem drop_rows (pre lf : List Int) (v : Int) : r1 ([] ++ (lf ++ [v])) = List.drop pre.length (r1 (pre ++ lf)) ++ [[i64 v]] := by
  have : r1 (pre ++ lf) = r1 pre ++ r1 lf := by simp [r1]
  rw [this, List.drop_left' (by rw [r1_len])]
  simp [r1]

theorem tail_rows (pre lf : List Int) : r1 lf = List.take lf.length (List.drop pre.length (r1 (pre ++ lf))) := by
  have : r1 (pre ++ lf) = r1 pre ++ r1 lf := by simp [r1]
  rw [this, List.drop_left' (by rw [r1_len]), List.take_of_length_le (by rw [r1_len]; omega)]

set_option maxHeartbeats 8000000 in
set_option maxRecDepth 100000 in
theorem bent_c (c : Cfg) (r : Int) (steps : List Stp) (left l : List Int) (hg : Good c) (hl : l.length ≤ 1000) (hs : steps.length ≤ 1000) (hlf : left.length ≤ 1000) : CallsH Tryz.prog 17 [cfgV c, evV r steps left, .c (.d (.sl (r1 l)))] [] (evV r (bentGo c l l.length ⟨0, steps, left⟩).st (bentGo c l l.length ⟨0, steps, left⟩).lf) [] := by
  have hC := hg.cells
  have hT := hg.tenants
  have l1 := rT_len c.tenants
  have l2 := r2_len c.cells
  obtain ⟨F, hF⟩ : ∃ F, bentGo c l l.length ⟨0, steps, left⟩ = F := ⟨_, rfl⟩
  rw [hF]
  refine callsR_of tabF mixed Tryz.func17 rfl (by decide) rfl rfl ?_
  conv => whnf
  refine ⟨_, _, newM_c l, ?_⟩
  conv => whnf
  refine ⟨by kernel_rfl, ?_⟩
  conv => whnf
  refine ⟨rSt_ok _, ⟨by simp [rSt]; omega⟩, ?_⟩
  conv => whnf
  refine ⟨r1_okE _, ⟨by simp [r1]; omega⟩, ?_⟩
  conv => whnf
  refine loopR tabF mixed (ι := BJ c l (max steps.length 12) left.length F) (fun k => [(18, .top), (22, .top), (23, .top)]) (fun k => [(3, tapeO l k.a), (8, .box [.d (i64 r), .gs 5, .gv 7 k.pre.length k.lf.length]), (5, .arr 60 (rSt k.st)), (7, .arr 3 (r1 (k.pre ++ k.lf)))]) 61 (fun k => (l.length - k.a).toNat) ⟨l.length, 0, steps, left, [], by omega, by omega, by omega, by omega, hF⟩ [(3, some 3), (8, some 8), (5, some 5), (7, some 7)] ?_
  conv => whnf
  refine ⟨?_, fun k => ?_⟩
  · repeat' (first | exact trivial | rfl | refine And.intro ?_ ?_)
    all_goals (conv => whnf)
    repeat' (first | exact trivial | rfl | refine And.intro ?_ ?_)
    all_goals simp [r1]
  obtain ⟨n, a, st, lf, pre, ha, hn, hst, hlf2, hF2⟩ := k
  have l3 := rSt_len st
  have l4 := r1_len (pre ++ lf)
  rw [List.length_append] at l4
  have hstop : ¬ (a < l.length ∧ st.length < 12) → F = ⟨a, st, lf⟩ := fun hh => by rw [← hF2]; exact bentGo_stop hh
  have hmx : st.length ≤ 1000 := by omega
  dsimp only
  conv => whnf
  refine ⟨_, _, moreM_c l a, ?_⟩
  conv => whnf
  refine spD (fun q1 => ?_) (fun q1 => ?_) <;> conv => whnf
  rotate_left 1
  · rw [hstop (fun hh => q1 hh.1)]
    refine ⟨[], rfl, ?_⟩
    repeat' (first | exact trivial | rfl | refine And.intro ?_ ?_)
    all_goals (conv => whnf)
    repeat' (first | exact trivial | rfl | refine And.intro ?_ ?_)
    all_goals exact tail_rows pre lf
  refine spD (fun q2 => ?_) (fun q2 => ?_) <;> conv => whnf
  rotate_left 1
  · rw [hstop (fun hh => q2 (by omega))]
    refine ⟨[], rfl, ?_⟩
    repeat' (first | exact trivial | rfl | refine And.intro ?_ ?_)
    all_goals (conv => whnf)
    repeat' (first | exact trivial | rfl | refine And.intro ?_ ?_)
    all_goals exact tail_rows pre lf
  obtain ⟨n, rfl⟩ : ∃ m, n = m + 1 := ⟨n - 1, by omega⟩
  rw [bentGo, if_pos ⟨q1, by dsimp only; omega⟩] at hF2
  have r1h := nxt_rng (l := l) (a := a) (n := 2) (by omega) ha
  have r2h := nxt_rng (l := l) (a := (nxt l a 2).2) (n := c.tenants.length + 1) (by omega) (by omega)
  have r3h := nxt_rng (l := l) (a := (nxt l (nxt l a 2).2 (c.tenants.length + 1)).2) (n := c.cells.length) (by omega) (by omega)
  have c1 := rangeX_c (l := l) (a := a) ha (by omega)
  have c2 := nextX_c (l := l) (a := (nxt l a 2).2) (n := c.tenants.length + 1) (by omega) (by omega) (by omega) (by omega)
  have c3 := nextX_c (l := l) (a := (nxt l (nxt l a 2).2 (c.tenants.length + 1)).2) (n := c.cells.length) (by omega) (by omega) (by omega) (by omega)
  have r4h := nxt_rng (l := l) (a := (nxt l (nxt l (nxt l a 2).2 (c.tenants.length + 1)).2 c.cells.length).2) (n := st.length + 1) (by omega) (by omega)
  have c4 := nextX_c (l := l) (a := (nxt l (nxt l (nxt l a 2).2 (c.tenants.length + 1)).2 c.cells.length).2) (n := st.length + 1) (by omega) (by omega) (by omega) (by omega)
  have r5h := nxt_rng (l := l) (a := (nxt l (nxt l (nxt l (nxt l a 2).2 (c.tenants.length + 1)).2 c.cells.length).2 (st.length + 1)).2) (n := 6) (by omega) (by omega)
  have c5 := nextX_c (l := l) (a := (nxt l (nxt l (nxt l (nxt l a 2).2 (c.tenants.length + 1)).2 c.cells.length).2 (st.length + 1)).2) (n := 6) (by omega) (by omega) (by omega) (by omega)
  unfold bentStep btX at hF2
  dsimp only at hF2
  generalize nxt l (nxt l (nxt l (nxt l (nxt l a 2).2 (c.tenants.length + 1)).2 c.cells.length).2 (st.length + 1)).2 6 = n5 at *
  generalize nxt l (nxt l (nxt l (nxt l a 2).2 (c.tenants.length + 1)).2 c.cells.length).2 (st.length + 1) = n4 at *
  generalize nxt l (nxt l (nxt l a 2).2 (c.tenants.length + 1)).2 c.cells.length = n3 at *
  generalize nxt l (nxt l a 2).2 (c.tenants.length + 1) = n2 at *
  generalize nxt l a 2 = n1 at *
  obtain ⟨v1, a1⟩ := n1
  obtain ⟨v2, a2⟩ := n2
  obtain ⟨v3, a3⟩ := n3
  obtain ⟨v4, a4⟩ := n4
  obtain ⟨v5, a5⟩ := n5
  dsimp only at *
  refine ⟨by kernel_rfl, ?_⟩
  conv => whnf
  refine ⟨_, _, c1, ?_⟩
  conv => whnf
  refine gv (by first | omega | (simp only []; omega) | (simp; omega)) (by first | omega | (simp only []; omega) | (simp; omega)) ?_
  conv => whnf
  rw [l1]
  refine ⟨_, _, c2, ?_⟩
  conv => whnf
  rw [l2]
  refine ⟨_, _, c3, ?_⟩
  conv => whnf
  refine gv (by first | omega | (simp only []; omega) | (simp; omega)) (by first | omega | (simp only []; omega) | (simp; omega)) ?_
  conv => whnf
  rw [l3]
  refine ⟨_, _, c4, ?_⟩
  conv => whnf
  refine ⟨_, _, c5, ?_⟩
  conv => whnf
  refine spE (fun d0 => ?_) (fun d0 => ?_) <;> (try dsimp only at d0) <;> conv => whnf
  · -- put in
    rw [if_pos d0] at hF2
    refine ⟨by kernel_rfl, ?_⟩
    conv => whnf
    refine ⟨by omega, by omega, ?_⟩
    conv => whnf
    refine ⟨fun r hr => rSt_ok st r (List.mem_of_mem_drop (List.mem_of_mem_take hr)), ⟨by simp; omega⟩, ?_⟩
    conv => whnf
    refine ⟨rSt_ok [⟨1 + v1, v2, v3⟩], ⟨by simp; omega⟩, ?_⟩
    conv => whnf
    refine ⟨by omega, by omega, ?_⟩
    conv => whnf
    refine ⟨fun r hr => rSt_ok st r (List.mem_of_mem_drop (List.mem_of_mem_take hr)), ⟨by simp; omega⟩, ?_⟩
    conv => whnf
    refine ⟨⟨n, a5, st.take v4.toNat ++ ⟨1 + v1, v2, v3⟩ :: st.drop v4.toNat, lf, pre, by omega, by omega, by simp; omega, by omega, hF2⟩, [(3, some 3), (8, some 8), (5, some 66), (7, some 7)], ?_, by show ((l.length : Int) - a5).toNat < ((l.length : Int) - a).toNat; omega⟩
    repeat' (first | exact trivial | rfl | refine And.intro ?_ ?_)
    all_goals (conv => whnf)
    repeat' (first | exact trivial | rfl | refine And.intro ?_ ?_)
    all_goals exact ins_rowsS st v4.toNat _
  rw [if_neg d0] at hF2
  refine spE (fun d1 => ?_) (fun d1 => ?_) <;> (try dsimp only at d1) <;> conv => whnf
  · -- put in place of another one
    rw [if_pos d1] at hF2
    refine spD (fun q3 => ?_) (fun q3 => ?_) <;> conv => whnf
    · obtain ⟨x4, hx4⟩ := get_int (l := st) (i := v4) (by omega) (by omega)
      refine ⟨by omega, by omega, _, rSt_get hx4, ?_⟩
      conv => whnf
      refine ⟨⟨n, a5, st.set v4.toNat ⟨1 + v1, v2, v3⟩, lf, pre, by omega, by omega, by simp; omega, by omega, hF2⟩, [(3, some 3), (8, some 8), (5, some 5), (7, some 7)], ?_, by show ((l.length : Int) - a5).toNat < ((l.length : Int) - a).toNat; omega⟩
      repeat' (first | exact trivial | rfl | refine And.intro ?_ ?_)
      all_goals (conv => whnf)
      repeat' (first | exact trivial | rfl | refine And.intro ?_ ?_)
      all_goals exact (rSt_setS st v4.toNat _).symm
    · rw [List.set_eq_of_length_le (by omega)] at hF2
      refine ⟨⟨n, a5, st, lf, pre, by omega, by omega, by omega, by omega, hF2⟩, [(3, some 3), (8, some 8), (5, some 5), (7, some 7)], ?_, by show ((l.length : Int) - a5).toNat < ((l.length : Int) - a).toNat; omega⟩
      repeat' (first | exact trivial | rfl | refine And.intro ?_ ?_)
      all_goals (conv => whnf)
      repeat' (first | exact trivial | rfl | refine And.intro ?_ ?_)
  rw [if_neg d1] at hF2
  refine spE (fun d2 => ?_) (fun d2 => ?_) <;> (try dsimp only at d2) <;> conv => whnf
  · -- left out
    rw [if_pos d2] at hF2
    refine spD (fun q3 => ?_) (fun q3 => ?_) <;> conv => whnf
    · refine ⟨by kernel_rfl, ?_⟩
      conv => whnf
      refine ⟨by omega, by omega, ?_⟩
      conv => whnf
      refine ⟨fun r hr => rSt_ok st r (List.mem_of_mem_drop (List.mem_of_mem_take hr)), ⟨by simp; omega⟩, ?_⟩
      conv => whnf
      refine gv (by first | omega | (simp only []; omega) | (simp; omega)) (by first | omega | (simp only []; omega) | (simp; omega)) ?_
      conv => whnf
      refine ⟨by omega, by omega, ?_⟩
      conv => whnf
      refine ⟨fun r hr => rSt_ok st r (List.mem_of_mem_drop (List.mem_of_mem_take hr)), ⟨by simp; omega⟩, ?_⟩
      conv => whnf
      refine ⟨⟨n, a5, st.take v4.toNat ++ st.drop (v4.toNat + 1), lf, pre, by omega, by omega, by simp; omega, by omega, hF2⟩, [(3, some 3), (8, some 8), (5, some 64), (7, some 7)], ?_, by show ((l.length : Int) - a5).toNat < ((l.length : Int) - a).toNat; omega⟩
      repeat' (first | exact trivial | rfl | refine And.intro ?_ ?_)
      all_goals (conv => whnf)
      repeat' (first | exact trivial | rfl | refine And.intro ?_ ?_)
      all_goals (rw [show (v4 + 1).toNat = v4.toNat + 1 by omega]; exact cut_rowsS st v4.toNat)
    · rw [List.take_of_length_le (by omega), List.drop_eq_nil_of_le (by omega), List.append_nil] at hF2
      refine ⟨⟨n, a5, st, lf, pre, by omega, by omega, by omega, by omega, hF2⟩, [(3, some 3), (8, some 8), (5, some 5), (7, some 7)], ?_, by show ((l.length : Int) - a5).toNat < ((l.length : Int) - a).toNat; omega⟩
      repeat' (first | exact trivial | rfl | refine And.intro ?_ ?_)
      all_goals (conv => whnf)
      repeat' (first | exact trivial | rfl | refine And.intro ?_ ?_)
  rw [if_neg d2] at hF2
  refine spE (fun d3 => ?_) (fun d3 => ?_) <;> (try dsimp only at d3) <;> conv => whnf
  · -- left behind
    rw [if_pos d3] at hF2
    refine ⟨row1 _ rfl, by simp, by omega, ⟨by simp; omega⟩, ?_⟩
    conv => whnf
    refine addK_in ?_
    refine ⟨?_, ?_⟩ <;> conv => whnf
    · refine ⟨⟨n, a5, st, lf ++ [v2], pre, by omega, by omega, by omega, by simp; omega, hF2⟩, [(3, some 3), (8, some 8), (5, some 5), (7, some 63)], ?_, by show ((l.length : Int) - a5).toNat < ((l.length : Int) - a).toNat; omega⟩
      repeat' (first | exact trivial | rfl | refine And.intro ?_ ?_)
      all_goals (conv => whnf)
      repeat' (first | exact trivial | rfl | refine And.intro ?_ ?_)
      · simp
      · simp [r1]
    · refine ⟨⟨n, a5, st, lf ++ [v2], [], by omega, by omega, by omega, by simp; omega, hF2⟩, [(3, some 3), (8, some 8), (5, some 5), (7, some 63)], ?_, by show ((l.length : Int) - a5).toNat < ((l.length : Int) - a).toNat; omega⟩
      repeat' (first | exact trivial | rfl | refine And.intro ?_ ?_)
      all_goals (conv => whnf)
      repeat' (first | exact trivial | rfl | refine And.intro ?_ ?_)
      · simp
      · exact drop_rows pre lf v2
  rw [if_neg d3] at hF2
  refine spE (fun d4 => ?_) (fun d4 => ?_) <;> (try dsimp only at d4) <;> conv => whnf
  · -- the first one not left
    rw [if_pos d4] at hF2
    refine spD (fun q3 => ?_) (fun q3 => ?_) <;> conv => whnf
    · obtain ⟨h0, tl, rfl⟩ : ∃ h0 tl, lf = h0 :: tl := by
        cases lf with
        | nil => simp at q3
        | cons h0 tl => exact ⟨h0, tl, rfl⟩
      refine ⟨by omega, by simp, ?_⟩
      conv => whnf
      refine addK_in ?_
      conv => whnf
      refine ⟨⟨n, a5, st, tl, pre ++ [h0], by omega, by omega, by omega, by simp at hlf2; omega, by simpa using hF2⟩, [(3, some 3), (8, some 8), (5, some 5), (7, some 7)], ?_, by show ((l.length : Int) - a5).toNat < ((l.length : Int) - a).toNat; omega⟩
      repeat' (first | exact trivial | rfl | refine And.intro ?_ ?_)
      all_goals (conv => whnf)
      repeat' (first | exact trivial | rfl | refine And.intro ?_ ?_)
      all_goals simp [r1]
    · have : lf = [] := List.length_eq_zero_iff.1 (by omega)
      subst this
      refine ⟨⟨n, a5, st, [], pre, by omega, by omega, by omega, by simp; omega, by simpa using hF2⟩, [(3, some 3), (8, some 8), (5, some 5), (7, some 7)], ?_, by show ((l.length : Int) - a5).toNat < ((l.length : Int) - a).toNat; omega⟩
      repeat' (first | exact trivial | rfl | refine And.intro ?_ ?_)
      all_goals (conv => whnf)
      repeat' (first | exact trivial | rfl | refine And.intro ?_ ?_)
  rw [if_neg d4] at hF2
  refine ⟨⟨n, l.length, st, lf, pre, by omega, by omega, by omega, by omega, hF2⟩, [(3, some 3), (8, some 8), (5, some 5), (7, some 7)], ?_, by show ((l.length : Int) - l.length).toNat < ((l.length : Int) - a).toNat; omega⟩
  repeat' (first | exact trivial | rfl | refine And.intro ?_ ?_)
  all_goals (conv => whnf)
  repeat' (first | exact trivial | rfl | refine And.intro ?_ ?_)
  all_goals (dsimp only; rw [r1_len])

end Go.Proofs.YtncckpieemmmfaaGreat
