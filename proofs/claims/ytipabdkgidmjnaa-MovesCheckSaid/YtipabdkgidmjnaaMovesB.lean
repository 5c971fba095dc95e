/- Contracts: what moves.Blocked, its reference and the comparisons return. Conditions: those ahead of each theorem. -/
import Derived.Test.YtipabdkgidmjnaaMovesR
namespace Go.Proofs.Ytipabdkgidmjnaa
open Go Go.Cpl

theorem eqB2 (a b : Int × Int) : eqB [i64 a.1, i64 a.2] [i64 b.1, i64 b.2] = decide (a = b) := by
  obtain ⟨a1, a2⟩ := a; obtain ⟨b1, b2⟩ := b
  rw [Bool.eq_iff_iff]
  simp [eqB, Prod.ext_iff]

theorem eqB3 (a b : Re) : eqB [i64 a.t, i64 a.h, i64 a.s] [i64 b.t, i64 b.h, i64 b.s] = decide (a = b) := by
  obtain ⟨a1, a2, a3⟩ := a; obtain ⟨b1, b2, b3⟩ := b
  rw [Bool.eq_iff_iff]
  simp [eqB]

theorem apart_comm (c : Cfg) (a b : Int) : apart c a b = apart c b a := by
  unfold apart
  rw [Bool.eq_iff_iff, decide_eq_true_iff, decide_eq_true_iff]
  constructor <;> rintro ⟨h1, h2, h3⟩ <;> exact ⟨h2, h1, h3.symm⟩

/-- the next change of a tenant -/
def nextOf (c : Cfg) (t : Nat) (a b : Int × Int) : List Re :=
  if a = b then [] else if a.1 ≠ b.1 then (if b.1 ≠ -1 ∧ a.2 ≠ -1 ∧ apart c b.1 a.2 = false then [⟨t, a.1, -1⟩] else [⟨t, b.1, a.2⟩]) else [⟨t, a.1, b.2⟩]

def blk (c : Cfg) (l m : List (Int × Int)) : Nat → List Re
  | 0 => []
  | k + 1 => match l[k]?, m[k]? with
    | some a, some b => blk c l m k ++ nextOf c k a b
    | _, _ => blk c l m k

def blocked (c : Cfg) (l m : List (Int × Int)) : List Re := if Fit c l ∧ Fit c m then blk c l m l.length else []

theorem nextOf_len (c : Cfg) (t : Nat) (a b : Int × Int) : (nextOf c t a b).length ≤ 1 := by
  unfold nextOf; repeat' split
  all_goals simp

theorem blk_len (c : Cfg) (l m : List (Int × Int)) : ∀ k, (blk c l m k).length ≤ k
  | 0 => by simp [blk]
  | k + 1 => by
    have := blk_len c l m k
    simp only [blk]
    split
    · rename_i a b _ _
      have := nextOf_len c k a b
      rw [List.length_append]; omega
    · omega

set_option maxRecDepth 100000 in
set_option maxHeartbeats 2000000 in
theorem blocked_c (c : Cfg) (l m : List (Int × Int)) (hc : c.cells.length ≤ 20) : CallsH Try.prog 23 [cfgV c, plV l, plV m] [] (.c (.gs 0)) [.arr 25 (rR (blocked c l m))] := by
  have hl := r2_len l
  refine callsR_of tab mixed Try.func23 rfl (by decide) rfl rfl ?_
  conv => whnf
  refine ⟨_, _, whole_c c hc, ?_⟩
  conv => whnf
  refine ⟨_, _, fit_c c (wholeU c) false l, ?_⟩
  conv => whnf
  refine spN (fun h => ?_) (fun hf => ?_) <;> conv => whnf
  · rw [show blocked c l m = [] from if_neg fun k => h k.1]
    exact ⟨[(0, none)], rfl, rfl, rfl, trivial⟩
  refine ⟨_, _, whole_c c hc, ?_⟩
  conv => whnf
  refine ⟨_, _, fit_c c (wholeU c) false m, ?_⟩
  conv => whnf
  refine spN (fun h => ?_) (fun hf2 => ?_) <;> conv => whnf
  · rw [show blocked c l m = [] from if_neg fun k => h k.2]
    exact ⟨[(0, none)], rfl, rfl, rfl, trivial⟩
  rw [show blocked c l m = blk c l m l.length from if_pos ⟨hf, hf2⟩]
  have hg := good_of hf.val
  have hT := hg.tenants
  have hlen := hf.len
  have hlen2 := hf2.len
  refine loopN tab mixed (fun i => i ≤ l.length) l.length (fun i => [(26, I i), (7, .c (.gs 50))]) (fun i => [(50, .arr 25 (rR (blk c l m i)))]) 51 [(50, none)] (by omega) ?_
  conv => whnf
  refine ⟨?_, fun i hi => ?_⟩
  · repeat' (first | exact trivial | rfl | refine And.intro ?_ ?_)
    all_goals (conv => whnf)
    repeat' (first | exact trivial | rfl | refine And.intro ?_ ?_)
  conv => whnf
  have hbl := blk_len c l m i
  have hb1 := rR_len (blk c l m i)
  refine spD (fun h => ?_) (fun h => ?_) <;> conv => whnf
  · have hi' : i < l.length := by omega
    obtain ⟨a, ha⟩ := get_of hi'
    obtain ⟨b, hb⟩ := get_of (l := m) (i := i) (by omega)
    have hstep : blk c l m (i + 1) = blk c l m i ++ nextOf c i a b := by simp [blk, ha, hb]
    refine ⟨by omega, _, r2_get ha, ?_⟩
    conv => whnf
    refine ⟨by omega, _, r2_get hb, ?_⟩
    conv => whnf
    refine ⟨by kernel_rfl, ?_⟩
    conv => whnf
    rw [show eqB _ _ = _ from eqB2 a b]
    refine spD (fun h1 => ?_) (fun h1 => ?_) <;> conv => whnf
    · refine gv (by first | omega | (simp only []; omega) | (simp; omega)) (by first | omega | (simp only []; omega) | (simp; omega)) ?_
      conv => whnf
      refine ⟨⟨hi', hi'⟩, [(50, some 50)], ?_⟩
      repeat' (first | exact trivial | rfl | refine And.intro ?_ ?_)
      all_goals (conv => whnf)
      repeat' (first | exact trivial | rfl | refine And.intro ?_ ?_)
      rw [hstep]; simp [nextOf, h1]
    refine spNe (fun h2 => ?_) (fun h2 => ?_) <;> conv => whnf
    · refine ⟨by kernel_rfl, ?_⟩
      conv => whnf
      refine spNe (fun h3 => ?_) (fun h3 => ?_) <;> conv => whnf
      · refine spNe (fun h4 => ?_) (fun h4 => ?_) <;> conv => whnf
        · refine ⟨_, _, apart_c c a.2 b.1 hg.laid, ?_⟩
          conv => whnf
          refine ⟨fun hap => ?_, fun hap => ?_⟩ <;> conv => whnf
          · refine ⟨row3 _ _ _, ⟨by simp; omega⟩, ?_⟩
            conv => whnf
            refine gv (by first | omega | (simp only []; omega) | (simp; omega)) (by first | omega | (simp only []; omega) | (simp; omega)) ?_
            conv => whnf
            refine ⟨⟨hi', hi'⟩, [(50, some 55)], ?_⟩
            repeat' (first | exact trivial | rfl | refine And.intro ?_ ?_)
            all_goals (conv => whnf)
            repeat' (first | exact trivial | rfl | refine And.intro ?_ ?_)
            have hap' : apart c b.1 a.2 = false := by rw [apart_comm]; simpa using hap
            rw [hstep, show nextOf c i a b = [⟨i, a.1, -1⟩] by unfold nextOf; rw [if_neg h1, if_pos h2, if_pos ⟨h4, h3, hap'⟩]]
            exact (rR_app _ _ _ _).symm
          · refine ⟨row3 _ _ _, ⟨by simp; omega⟩, ?_⟩
            conv => whnf
            refine gv (by first | omega | (simp only []; omega) | (simp; omega)) (by first | omega | (simp only []; omega) | (simp; omega)) ?_
            conv => whnf
            refine ⟨⟨hi', hi'⟩, [(50, some 55)], ?_⟩
            repeat' (first | exact trivial | rfl | refine And.intro ?_ ?_)
            all_goals (conv => whnf)
            repeat' (first | exact trivial | rfl | refine And.intro ?_ ?_)
            have hap' : apart c b.1 a.2 = true := by rw [apart_comm]; simpa using hap
            rw [hstep, show nextOf c i a b = [⟨i, b.1, a.2⟩] by unfold nextOf; rw [if_neg h1, if_pos h2, if_neg (fun k => by rw [hap'] at k; exact absurd k.2.2 (by decide))]]
            exact (rR_app _ _ _ _).symm
        · refine ⟨row3 _ _ _, ⟨by simp; omega⟩, ?_⟩
          conv => whnf
          refine gv (by first | omega | (simp only []; omega) | (simp; omega)) (by first | omega | (simp only []; omega) | (simp; omega)) ?_
          conv => whnf
          refine ⟨⟨hi', hi'⟩, [(50, some 55)], ?_⟩
          repeat' (first | exact trivial | rfl | refine And.intro ?_ ?_)
          all_goals (conv => whnf)
          repeat' (first | exact trivial | rfl | refine And.intro ?_ ?_)
          rw [hstep, show nextOf c i a b = [⟨i, b.1, a.2⟩] by unfold nextOf; rw [if_neg h1, if_pos h2, if_neg (fun k => k.1 h4)]]
          exact (rR_app _ _ _ _).symm
      · refine ⟨row3 _ _ _, ⟨by simp; omega⟩, ?_⟩
        conv => whnf
        refine gv (by first | omega | (simp only []; omega) | (simp; omega)) (by first | omega | (simp only []; omega) | (simp; omega)) ?_
        conv => whnf
        refine ⟨⟨hi', hi'⟩, [(50, some 55)], ?_⟩
        repeat' (first | exact trivial | rfl | refine And.intro ?_ ?_)
        all_goals (conv => whnf)
        repeat' (first | exact trivial | rfl | refine And.intro ?_ ?_)
        rw [hstep, show nextOf c i a b = [⟨i, b.1, a.2⟩] by unfold nextOf; rw [if_neg h1, if_pos h2, if_neg (fun k => k.2.1 h3)]]
        exact (rR_app _ _ _ _).symm
    · refine ⟨row3 _ _ _, ⟨by simp; omega⟩, ?_⟩
      conv => whnf
      refine gv (by first | omega | (simp only []; omega) | (simp; omega)) (by first | omega | (simp only []; omega) | (simp; omega)) ?_
      conv => whnf
      refine ⟨⟨hi', hi'⟩, [(50, some 55)], ?_⟩
      repeat' (first | exact trivial | rfl | refine And.intro ?_ ?_)
      all_goals (conv => whnf)
      repeat' (first | exact trivial | rfl | refine And.intro ?_ ?_)
      rw [hstep, show nextOf c i a b = [⟨i, a.1, b.2⟩] by unfold nextOf; rw [if_neg h1, if_neg (fun k => k h2)]]
      exact (rR_app _ _ _ _).symm
  · refine ⟨[(0, some 50)], rfl, rfl, ⟨rfl, ?_⟩, trivial⟩
    have hi' : i = l.length := by omega
    rw [hi']

set_option maxRecDepth 100000 in
set_option maxHeartbeats 2000000 in
theorem refBlocked_c (c : Cfg) (l m : List (Int × Int)) : CallsH Try.prog 24 [cfgV c, plV l, plV m] [] (.c (.gs 0)) [.arr 25 (rR (blocked c l m))] := by
  have hl := r2_len l
  refine callsR_of tab mixed Try.func24 rfl (by decide) rfl rfl ?_
  conv => whnf
  refine ⟨_, _, refValid21_c c l, ?_⟩
  conv => whnf
  refine spN (fun h => ?_) (fun hf => ?_) <;> conv => whnf
  · rw [show blocked c l m = [] from if_neg fun k => h k.1]
    exact ⟨[(0, none)], rfl, rfl, rfl, trivial⟩
  refine ⟨_, _, refValid21_c c m, ?_⟩
  conv => whnf
  refine spN (fun h => ?_) (fun hf2 => ?_) <;> conv => whnf
  · rw [show blocked c l m = [] from if_neg fun k => h k.2]
    exact ⟨[(0, none)], rfl, rfl, rfl, trivial⟩
  rw [show blocked c l m = blk c l m l.length from if_pos ⟨hf, hf2⟩]
  have hg := good_of hf.val
  have hT := hg.tenants
  have hlen := hf.len
  have hlen2 := hf2.len
  refine loopN tab mixed (fun i => i ≤ l.length) l.length (fun i => [(8, I i), (7, .c (.gs 50))]) (fun i => [(50, .arr 25 (rR (blk c l m i)))]) 51 [(50, none)] (by omega) ?_
  conv => whnf
  refine ⟨?_, fun i hi => ?_⟩
  · repeat' (first | exact trivial | rfl | refine And.intro ?_ ?_)
    all_goals (conv => whnf)
    repeat' (first | exact trivial | rfl | refine And.intro ?_ ?_)
  conv => whnf
  have hbl := blk_len c l m i
  have hb1 := rR_len (blk c l m i)
  refine spD (fun h => ?_) (fun h => ?_) <;> conv => whnf
  · have hi' : i < l.length := by omega
    obtain ⟨a, ha⟩ := get_of hi'
    obtain ⟨b, hb⟩ := get_of (l := m) (i := i) (by omega)
    have har := hf.rng a (List.mem_of_getElem? ha)
    have hbr := hf2.rng b (List.mem_of_getElem? hb)
    have hstep : blk c l m (i + 1) = blk c l m i ++ nextOf c i a b := by simp [blk, ha, hb]
    have hone : a.1 ≠ b.1 → ¬ (b.1 ≠ -1 ∧ a.2 ≠ -1 ∧ apart c b.1 a.2 = false) → a ≠ b → nextOf c i a b = [⟨i, b.1, a.2⟩] := fun h2 h3 h1 => by
      unfold nextOf; rw [if_neg h1, if_pos h2, if_neg h3]
    refine ⟨by kernel_rfl, ?_⟩
    conv => whnf
    refine ⟨by omega, _, r2_get ha, ?_⟩
    conv => whnf
    refine ⟨by omega, _, r2_get hb, ?_⟩
    conv => whnf
    refine ⟨by kernel_rfl, ?_⟩
    conv => whnf
    rw [show eqB _ _ = _ from eqB2 a b]
    refine spD (fun h1 => ?_) (fun h1 => ?_) <;> conv => whnf
    · refine gv (by first | omega | (simp only []; omega) | (simp; omega)) (by first | omega | (simp only []; omega) | (simp; omega)) ?_
      conv => whnf
      refine ⟨⟨hi', hi'⟩, [(50, some 50)], ?_⟩
      repeat' (first | exact trivial | rfl | refine And.intro ?_ ?_)
      all_goals (conv => whnf)
      repeat' (first | exact trivial | rfl | refine And.intro ?_ ?_)
      rw [hstep]; simp [nextOf, h1]
    refine spNe (fun h2 => ?_) (fun h2 => ?_) <;> conv => whnf
    · refine spD (fun h3 => ?_) (fun h3 => ?_) <;> conv => whnf
      · refine spD (fun h4 => ?_) (fun h4 => ?_) <;> conv => whnf
        · refine ⟨_, _, refApart_c c b.1 a.2 hg.laid, ?_⟩
          conv => whnf
          refine ⟨fun hap => ?_, fun hap => ?_⟩ <;> conv => whnf
          · refine ⟨row3 _ _ _, ⟨by simp; omega⟩, ?_⟩
            conv => whnf
            refine gv (by first | omega | (simp only []; omega) | (simp; omega)) (by first | omega | (simp only []; omega) | (simp; omega)) ?_
            conv => whnf
            refine ⟨⟨hi', hi'⟩, [(50, some 54)], ?_⟩
            repeat' (first | exact trivial | rfl | refine And.intro ?_ ?_)
            all_goals (conv => whnf)
            repeat' (first | exact trivial | rfl | refine And.intro ?_ ?_)
            have hap' : apart c b.1 a.2 = false := by simpa using hap
            rw [hstep, show nextOf c i a b = [⟨i, a.1, -1⟩] by unfold nextOf; rw [if_neg h1, if_pos h2, if_pos ⟨by omega, by omega, hap'⟩]]
            exact (rR_app _ _ _ _).symm
          · refine spNe (fun h5 => ?_) (fun h5 => absurd h5 h2)
            conv => whnf
            refine ⟨row3 _ _ _, ⟨by simp; omega⟩, ?_⟩
            conv => whnf
            refine gv (by first | omega | (simp only []; omega) | (simp; omega)) (by first | omega | (simp only []; omega) | (simp; omega)) ?_
            conv => whnf
            refine ⟨⟨hi', hi'⟩, [(50, some 54)], ?_⟩
            repeat' (first | exact trivial | rfl | refine And.intro ?_ ?_)
            all_goals (conv => whnf)
            repeat' (first | exact trivial | rfl | refine And.intro ?_ ?_)
            have hap' : apart c b.1 a.2 = true := by simpa using hap
            rw [hstep, hone h2 (fun k => by rw [hap'] at k; exact absurd k.2.2 (by decide)) h1]
            exact (rR_app _ _ _ _).symm
        · refine spNe (fun h5 => ?_) (fun h5 => absurd h5 h2)
          conv => whnf
          refine ⟨row3 _ _ _, ⟨by simp; omega⟩, ?_⟩
          conv => whnf
          refine gv (by first | omega | (simp only []; omega) | (simp; omega)) (by first | omega | (simp only []; omega) | (simp; omega)) ?_
          conv => whnf
          refine ⟨⟨hi', hi'⟩, [(50, some 54)], ?_⟩
          repeat' (first | exact trivial | rfl | refine And.intro ?_ ?_)
          all_goals (conv => whnf)
          repeat' (first | exact trivial | rfl | refine And.intro ?_ ?_)
          rw [hstep, hone h2 (fun k => by omega) h1]
          exact (rR_app _ _ _ _).symm
      · refine spNe (fun h5 => ?_) (fun h5 => absurd h5 h2)
        conv => whnf
        refine ⟨row3 _ _ _, ⟨by simp; omega⟩, ?_⟩
        conv => whnf
        refine gv (by first | omega | (simp only []; omega) | (simp; omega)) (by first | omega | (simp only []; omega) | (simp; omega)) ?_
        conv => whnf
        refine ⟨⟨hi', hi'⟩, [(50, some 54)], ?_⟩
        repeat' (first | exact trivial | rfl | refine And.intro ?_ ?_)
        all_goals (conv => whnf)
        repeat' (first | exact trivial | rfl | refine And.intro ?_ ?_)
        rw [hstep, hone h2 (fun k => by omega) h1]
        exact (rR_app _ _ _ _).symm
    · refine spNe (fun h5 => absurd h2 h5) (fun _ => ?_)
      conv => whnf
      refine ⟨row3 _ _ _, ⟨by simp; omega⟩, ?_⟩
      conv => whnf
      refine gv (by first | omega | (simp only []; omega) | (simp; omega)) (by first | omega | (simp only []; omega) | (simp; omega)) ?_
      conv => whnf
      refine ⟨⟨hi', hi'⟩, [(50, some 54)], ?_⟩
      repeat' (first | exact trivial | rfl | refine And.intro ?_ ?_)
      all_goals (conv => whnf)
      repeat' (first | exact trivial | rfl | refine And.intro ?_ ?_)
      rw [hstep, show nextOf c i a b = [⟨i, a.1, b.2⟩] by unfold nextOf; rw [if_neg h1, if_neg (fun k => k h2)]]
      exact (rR_app _ _ _ _).symm
  · refine ⟨[(0, some 50)], rfl, rfl, ⟨rfl, ?_⟩, trivial⟩
    have hi' : i = l.length := by omega
    rw [hi']

theorem sameRe_c (a b : List Re) (ha : a.length ≤ 1000000) : CallsH Try.prog 22 [.c (.d (.sl (rR a))), .c (.d (.sl (rR b)))] [] (B (decide (a = b))) [] := by
  refine callsR_of tab mixed Try.func22 rfl (by decide) rfl rfl ?_
  conv => whnf
  have hla := rR_len a
  have hlb := rR_len b
  refine spNe (fun h => ?_) (fun h => ?_) <;> conv => whnf
  · refine ⟨[], rfl, ?_, trivial⟩
    have : a ≠ b := fun e => h (by rw [e])
    simp [mtV, valOf, mtC, eqD, this]
  have hab : a.length = b.length := by omega
  refine loopN tab mixed (fun i => i ≤ a.length ∧ a.take i = b.take i) a.length (fun i => [(5, I i)]) (fun _ => []) 51 [] ⟨by omega, by simp⟩ ?_
  conv => whnf
  refine ⟨?_, fun i ⟨hi, hj⟩ => ?_⟩
  · repeat' (first | exact trivial | rfl | refine And.intro ?_ ?_)
    all_goals (conv => whnf)
    repeat' (first | exact trivial | rfl | refine And.intro ?_ ?_)
  conv => whnf
  refine spD (fun h => ?_) (fun h => ?_) <;> conv => whnf
  · have hi' : i < a.length := by omega
    obtain ⟨x, hx⟩ := get_of hi'
    obtain ⟨y, hy⟩ := get_of (l := b) (i := i) (by omega)
    refine ⟨by kernel_rfl, ?_⟩
    conv => whnf
    refine ⟨by omega, _, rR_get hx, ?_⟩
    conv => whnf
    refine ⟨by omega, _, rR_get hy, ?_⟩
    conv => whnf
    refine ⟨by kernel_rfl, ?_⟩
    conv => whnf
    rw [show eqB _ _ = _ from eqB3 x y]
    refine spN (fun hp => ?_) (fun hp => ?_) <;> conv => whnf
    · refine ⟨[], rfl, ?_, trivial⟩
      have : a ≠ b := fun e => hp (by rw [e, hy] at hx; simpa using hx.symm)
      simp [mtV, valOf, mtC, eqD, this]
    · refine gv (by first | omega | (simp only []; omega) | (simp; omega)) (by first | omega | (simp only []; omega) | (simp; omega)) ?_
      conv => whnf
      refine ⟨⟨hi', hi', ?_⟩, [], ?_⟩
      · rw [take_succ_of hx, take_succ_of hy, hj, hp]
      · repeat' (first | exact trivial | rfl | refine And.intro ?_ ?_)
        all_goals (conv => whnf)
        repeat' (first | exact trivial | rfl | refine And.intro ?_ ?_)
  · refine ⟨[], rfl, ?_, trivial⟩
    have hi' : i = a.length := by omega
    rw [hi', List.take_length, hab, List.take_length] at hj
    simp [mtV, valOf, mtC, eqD, hj]

theorem samePlaces_c (a b : List (Int × Int)) (ha : a.length ≤ 1000000) : CallsH Try.prog 27 [.c (.d (.sl (r2 a))), .c (.d (.sl (r2 b)))] [] (B (decide (a = b))) [] := by
  refine callsR_of tab mixed Try.func27 rfl (by decide) rfl rfl ?_
  conv => whnf
  have hla := r2_len a
  have hlb := r2_len b
  refine spNe (fun h => ?_) (fun h => ?_) <;> conv => whnf
  · refine ⟨[], rfl, ?_, trivial⟩
    have : a ≠ b := fun e => h (by rw [e])
    simp [mtV, valOf, mtC, eqD, this]
  have hab : a.length = b.length := by omega
  refine loopN tab mixed (fun i => i ≤ a.length ∧ a.take i = b.take i) a.length (fun i => [(5, I i)]) (fun _ => []) 51 [] ⟨by omega, by simp⟩ ?_
  conv => whnf
  refine ⟨?_, fun i ⟨hi, hj⟩ => ?_⟩
  · repeat' (first | exact trivial | rfl | refine And.intro ?_ ?_)
    all_goals (conv => whnf)
    repeat' (first | exact trivial | rfl | refine And.intro ?_ ?_)
  conv => whnf
  refine spD (fun h => ?_) (fun h => ?_) <;> conv => whnf
  · have hi' : i < a.length := by omega
    obtain ⟨x, hx⟩ := get_of hi'
    obtain ⟨y, hy⟩ := get_of (l := b) (i := i) (by omega)
    refine ⟨by kernel_rfl, ?_⟩
    conv => whnf
    refine ⟨by omega, _, r2_get hx, ?_⟩
    conv => whnf
    refine ⟨by omega, _, r2_get hy, ?_⟩
    conv => whnf
    refine ⟨by kernel_rfl, ?_⟩
    conv => whnf
    rw [show eqB _ _ = _ from eqB2 x y]
    refine spN (fun hp => ?_) (fun hp => ?_) <;> conv => whnf
    · refine ⟨[], rfl, ?_, trivial⟩
      have : a ≠ b := fun e => hp (by rw [e, hy] at hx; simpa using hx.symm)
      simp [mtV, valOf, mtC, eqD, this]
    · refine gv (by first | omega | (simp only []; omega) | (simp; omega)) (by first | omega | (simp only []; omega) | (simp; omega)) ?_
      conv => whnf
      refine ⟨⟨hi', hi', ?_⟩, [], ?_⟩
      · rw [take_succ_of hx, take_succ_of hy, hj, hp]
      · repeat' (first | exact trivial | rfl | refine And.intro ?_ ?_)
        all_goals (conv => whnf)
        repeat' (first | exact trivial | rfl | refine And.intro ?_ ?_)
  · refine ⟨[], rfl, ?_, trivial⟩
    have hi' : i = a.length := by omega
    rw [hi', List.take_length, hab, List.take_length] at hj
    simp [mtV, valOf, mtC, eqD, hj]

end Go.Proofs.Ytipabdkgidmjnaa
