/- Contracts: what the functions of rules return, for problems that are valid and placements that fit. Conditions: those ahead of each theorem. -/
import Derived.Test.YtelnligfebjjiaaGreatBoundR
namespace Go.Proofs.YtelnligfebjjiaaGreat
open Go Go.Cpl

structure Brk where
  rule : Int
  tenant : Int
  other : Int
  cell : Int
  region : Int
deriving DecidableEq

def rB (l : List Brk) : List (List D) := l.map fun x => [i64 x.rule, i64 x.tenant, i64 x.other, i64 x.cell, i64 x.region]

theorem rB_len (l : List Brk) : (rB l).length = l.length := by simp [rB]

theorem rB_app (l : List Brk) (a b c d e : Int) : rB l ++ [[i64 a, i64 b, i64 c, i64 d, i64 e]] = rB (l ++ [⟨a, b, c, d, e⟩]) := by simp [rB]

theorem rB_apps (a b : List Brk) : rB a ++ rB b = rB (a ++ b) := by simp [rB]

theorem rB_ok (l : List Brk) : ∀ r ∈ rB l, r.length = 5 ∧ ∀ d ∈ r, d.scalar = true := by
  intro r hr; obtain ⟨x, _, rfl⟩ := List.mem_map.1 hr; simp [D.scalar]

theorem row5 (a b c d e : Int) : ∀ r ∈ [[i64 a, i64 b, i64 c, i64 d, i64 e]], r.length = 5 ∧ ∀ d ∈ r, d.scalar = true := by simp [D.scalar]

theorem rulesHas_c (s i : Int) (hi : i < 62) : CallsH Tryz.prog 128 [I s, I i] [] (B (bit s i)) [] := by
  refine callsR_of tab mixed Tryz.func128 rfl (by decide) rfl rfl ?_
  conv => whnf
  refine spD (fun h0 => ?_) (fun h0 => ?_) <;> conv => whnf
  · refine spD (fun h1 => ?_) (fun h1 => ?_) <;> conv => whnf
    · refine ⟨h0, shr_eq h0 hi ?_⟩
      conv => whnf
      refine .intro _ (and1 _) ?_
      conv => whnf
      refine ⟨[], rfl, ?_, trivial⟩
      simp only [mtV, valOf, mtC, eqD, bit, h0, hi, true_and]
      exact (Bool.beq_eq_decide_eq _ _).symm
    · omega
  · exact ⟨[], rfl, by simp [mtV, valOf, mtC, eqD, bit, h0], trivial⟩

/-! rules of single places -/

def eachT (rule : Int) (bad : Nat → Int → Bool) (t : Nat) (cell : Int) : List Brk := if decide (cell ≠ -1) && bad t cell then [⟨rule, t, -1, cell, -1⟩] else []

def eachL (rule : Int) (bad : Nat → Int → Bool) (l : List (Int × Int)) : Nat → List Brk
  | 0 => []
  | k + 1 => match l[k]? with
    | some p => eachL rule bad l k ++ eachT rule bad k p.1 ++ eachT rule bad k p.2
    | none => eachL rule bad l k

theorem eachT_len (rule : Int) (bad : Nat → Int → Bool) (t : Nat) (cell : Int) : (eachT rule bad t cell).length ≤ 1 := by
  unfold eachT; split <;> simp

theorem eachL_len (rule : Int) (bad : Nat → Int → Bool) (l : List (Int × Int)) : ∀ k, (eachL rule bad l k).length ≤ 2 * k
  | 0 => by simp [eachL]
  | k + 1 => by
    have := eachL_len rule bad l k
    simp only [eachL]
    split
    · rename_i p _
      have := eachT_len rule bad k p.1
      have := eachT_len rule bad k p.2
      simp only [List.length_append]; omega
    · omega

def eachU (u : Int) : Nat → Int → Bool := fun _ cell => !bit u cell

def eachA (c : Cfg) : Nat → Int → Bool := fun t cell => !may c t cell

def usableL (u : Int) (l : List (Int × Int)) : List Brk := eachL 3 (eachU u) l l.length

def allowedL (c : Cfg) (l : List (Int × Int)) : List Brk := eachL 4 (eachA c) l l.length

theorem usable1_c (c : Cfg) (u : Int) (hd : Bool) (t cell : Int) (hc : cell < 62) : CallsH Tryz.prog 127 [I t, I cell, .c (.ptr 0 0 0)] [.box (probC c u hd)] (B (!bit u cell)) [.box (probC c u hd)] := by
  refine callsR_of tab mixed Tryz.func127 rfl (by decide) rfl rfl ?_
  conv => whnf
  refine ⟨_, _, rulesHas_c u cell hc, ?_⟩
  conv => whnf
  exact ⟨[(0, some 0)], rfl, rfl, ⟨⟨⟨rfl, rfl⟩, rfl, rfl, rfl, rfl, rfl, rfl, ⟨rfl, rfl⟩, ⟨rfl, rfl⟩, ⟨rfl, rfl⟩, ⟨rfl, rfl⟩, rfl, trivial⟩, trivial⟩⟩

theorem allowed1_c (c : Cfg) (u : Int) (hd : Bool) (t cell : Int) (hg : Good c) : CallsH Tryz.prog 129 [I t, I cell, .c (.ptr 0 0 0)] [.box (probC c u hd)] (B (!may c t cell)) [.box (probC c u hd)] := by
  have := hg.tenants
  refine callsR_of tab mixed Tryz.func129 rfl (by decide) rfl rfl ?_
  conv => whnf
  refine ⟨_, _, may_c c t cell hg.laid (by omega), ?_⟩
  conv => whnf
  exact ⟨[(0, some 0)], rfl, rfl, ⟨⟨⟨rfl, rfl⟩, rfl, rfl, rfl, rfl, rfl, rfl, ⟨rfl, rfl⟩, ⟨rfl, rfl⟩, ⟨rfl, rfl⟩, ⟨rfl, rfl⟩, rfl, trivial⟩, trivial⟩⟩

theorem eachU_c (c : Cfg) (u : Int) (hd : Bool) (l : List (Int × Int)) (hg : Good c) (hlen : l.length ≤ 32) (hrng : ∀ p ∈ l, (-1 ≤ p.1 ∧ p.1 < c.cells.length) ∧ (-1 ≤ p.2 ∧ p.2 < c.cells.length)) :
    CallsH Tryz.prog 126 [I 3, plV l, .fn 127 [.ptr 0 0 0]] [.box (probC c u hd)] (.c (.gs 1)) [.box (probC c u hd), .arr 66 (rB (eachL 3 (eachU u) l l.length))] := by
  have hp := r2_len l
  have hC := hg.cells
  refine callsR_of tab mixed Tryz.func126 rfl (by decide) rfl rfl ?_
  conv => whnf
  refine loopN tab mixed (fun i => i ≤ l.length) l.length (fun i => [(14, I i), (7, .c (.gs 50))]) (fun i => [(50, .arr 66 (rB (eachL 3 (eachU u) l i)))]) 51 [(50, none)] (by omega) ?_
  conv => whnf
  refine ⟨?_, fun i hi => ?_⟩
  · repeat' (first | exact trivial | rfl | refine And.intro ?_ ?_)
    all_goals (conv => whnf)
    repeat' (first | exact trivial | rfl | refine And.intro ?_ ?_)
  conv => whnf
  refine spD (fun h => ?_) (fun h => ?_) <;> conv => whnf
  · have hi' : i < l.length := by omega
    obtain ⟨p, hx⟩ := get_of hi'
    have hrg := hrng p (List.mem_of_getElem? hx)
    have hL := eachL_len 3 (eachU u) l i
    have hT1 := eachT_len 3 (eachU u) i p.1
    have hstep : eachL 3 (eachU u) l (i + 1) = eachL 3 (eachU u) l i ++ eachT 3 (eachU u) i p.1 ++ eachT 3 (eachU u) i p.2 := by simp [eachL, hx]
    refine ⟨by omega, _, r2_get hx, ?_⟩
    conv => whnf
    refine loopN tab mixed (fun k => k ≤ 2) 2 (fun k => [(25, I k), (7, .c (.gs 50))]) (fun k => [(50, .arr 66 (rB (if k = 0 then eachL 3 (eachU u) l i else if k = 1 then eachL 3 (eachU u) l i ++ eachT 3 (eachU u) i p.1 else eachL 3 (eachU u) l (i + 1))))]) 61 [(50, some 50)] (by omega) ?_
    conv => whnf
    refine ⟨?_, fun k hk => ?_⟩
    · repeat' (first | exact trivial | rfl | refine And.intro ?_ ?_)
      all_goals (conv => whnf)
      repeat' (first | exact trivial | rfl | refine And.intro ?_ ?_)
    conv => whnf
    refine spD (fun h1 => ?_) (fun h1 => ?_) <;> conv => whnf
    · have hk' : k = 0 ∨ k = 1 := by have : (k : Int) < 2 := h1; omega
      rcases hk' with rfl | rfl
      · refine ⟨by simp, by simp, _, rfl, ?_⟩
        conv => whnf
        refine spNe (fun h2 => ?_) (fun h2 => ?_) <;> conv => whnf
        · refine ⟨_, _, usable1_c c u hd i p.1 (by omega), ?_⟩
          conv => whnf
          refine ⟨fun h3 => ?_, fun h3 => ?_⟩ <;> conv => whnf
          · refine ⟨row5 _ _ _ _ _, ⟨by rw [if_pos rfl, rB_len]; simp; omega⟩, ?_⟩
            conv => whnf
            refine gv (by decide) (by decide) ?_
            conv => whnf
            refine ⟨⟨by decide, by decide⟩, [(50, some 62)], ?_⟩
            repeat' (first | exact trivial | rfl | refine And.intro ?_ ?_)
            all_goals (conv => whnf)
            repeat' (first | exact trivial | rfl | refine And.intro ?_ ?_)
            simp only [if_true, if_neg (show ¬ 0 + 1 = 0 by decide), eachT, eachU, h2, h3, ne_eq, not_false_eq_true, decide_true, Bool.and_self]
            exact (rB_app _ _ _ _ _ _).symm
          · refine gv (by decide) (by decide) ?_
            conv => whnf
            refine ⟨⟨by decide, by decide⟩, [(50, some 50)], ?_⟩
            repeat' (first | exact trivial | rfl | refine And.intro ?_ ?_)
            all_goals (conv => whnf)
            repeat' (first | exact trivial | rfl | refine And.intro ?_ ?_)
            simp [eachT, eachU, h3]
        · refine gv (by decide) (by decide) ?_
          conv => whnf
          refine ⟨⟨by decide, by decide⟩, [(50, some 50)], ?_⟩
          repeat' (first | exact trivial | rfl | refine And.intro ?_ ?_)
          all_goals (conv => whnf)
          repeat' (first | exact trivial | rfl | refine And.intro ?_ ?_)
          simp [eachT, h2]
      · refine ⟨by simp, by simp, _, rfl, ?_⟩
        conv => whnf
        refine spNe (fun h2 => ?_) (fun h2 => ?_) <;> conv => whnf
        · refine ⟨_, _, usable1_c c u hd i p.2 (by omega), ?_⟩
          conv => whnf
          refine ⟨fun h3 => ?_, fun h3 => ?_⟩ <;> conv => whnf
          · refine ⟨row5 _ _ _ _ _, ⟨by rw [if_neg (by decide), if_pos rfl, rB_len]; simp; omega⟩, ?_⟩
            conv => whnf
            refine gv (by decide) (by decide) ?_
            conv => whnf
            refine ⟨⟨by decide, by decide⟩, [(50, some 62)], ?_⟩
            repeat' (first | exact trivial | rfl | refine And.intro ?_ ?_)
            all_goals (conv => whnf)
            repeat' (first | exact trivial | rfl | refine And.intro ?_ ?_)
            rw [if_neg (by decide), if_neg (by decide), if_neg (by decide), if_pos rfl, hstep]
            simp only [eachT, eachU, h2, h3, ne_eq, not_false_eq_true, decide_true, Bool.and_self, if_true]
            exact (rB_app _ _ _ _ _ _).symm
          · refine gv (by decide) (by decide) ?_
            conv => whnf
            refine ⟨⟨by decide, by decide⟩, [(50, some 50)], ?_⟩
            repeat' (first | exact trivial | rfl | refine And.intro ?_ ?_)
            all_goals (conv => whnf)
            repeat' (first | exact trivial | rfl | refine And.intro ?_ ?_)
            rw [if_neg (by decide), if_neg (by decide), if_neg (by decide), if_pos rfl, hstep]
            simp [eachT, eachU, h3]
        · refine gv (by decide) (by decide) ?_
          conv => whnf
          refine ⟨⟨by decide, by decide⟩, [(50, some 50)], ?_⟩
          repeat' (first | exact trivial | rfl | refine And.intro ?_ ?_)
          all_goals (conv => whnf)
          repeat' (first | exact trivial | rfl | refine And.intro ?_ ?_)
          rw [if_neg (by decide), if_neg (by decide), if_neg (by decide), if_pos rfl, hstep]
          simp [eachT, h2]
    · have hk' : k = 2 := by have : ¬ (k : Int) < 2 := h1; omega
      subst hk'
      refine gv (by first | omega | (simp only []; omega) | (simp; omega)) (by first | omega | (simp only []; omega) | (simp; omega)) ?_
      conv => whnf
      refine ⟨⟨hi', hi'⟩, [(50, some 50)], ?_⟩
      repeat' (first | exact trivial | rfl | refine And.intro ?_ ?_)
      all_goals (conv => whnf)
      repeat' (first | exact trivial | rfl | refine And.intro ?_ ?_)
  · refine ⟨[(0, some 0), (1, some 50)], rfl, rfl, ⟨⟨⟨rfl, rfl⟩, rfl, rfl, rfl, rfl, rfl, rfl, ⟨rfl, rfl⟩, ⟨rfl, rfl⟩, ⟨rfl, rfl⟩, ⟨rfl, rfl⟩, rfl, trivial⟩, ⟨rfl, ?_⟩, trivial⟩⟩
    have hi' : i = l.length := by omega
    rw [hi']

theorem usable_c (c : Cfg) (u : Int) (hd : Bool) (l : List (Int × Int)) (hf : Fit c l) : CallsH Tryz.prog 92 [probV c u hd, plV l] [] (.c (.gs 0)) [.arr 66 (rB (usableL u l))] := by
  have hg := good_of hf.val
  have := hg.tenants
  have := hf.len
  refine callsR_of tab mixed Tryz.func92 rfl (by decide) rfl rfl ?_
  conv => whnf
  refine ⟨_, _, eachU_c c u hd l hg (by omega) hf.rng, ?_⟩
  conv => whnf
  exact ⟨[(0, some 1)], rfl, rfl, ⟨⟨rfl, rfl⟩, trivial⟩⟩

theorem eachA_c (c : Cfg) (u : Int) (hd : Bool) (l : List (Int × Int)) (hg : Good c) (hlen : l.length ≤ 32) (hrng : ∀ p ∈ l, (-1 ≤ p.1 ∧ p.1 < c.cells.length) ∧ (-1 ≤ p.2 ∧ p.2 < c.cells.length)) :
    CallsH Tryz.prog 126 [I 4, plV l, .fn 129 [.ptr 0 0 0]] [.box (probC c u hd)] (.c (.gs 1)) [.box (probC c u hd), .arr 66 (rB (eachL 4 (eachA c) l l.length))] := by
  have hp := r2_len l
  have hC := hg.cells
  refine callsR_of tab mixed Tryz.func126 rfl (by decide) rfl rfl ?_
  conv => whnf
  refine loopN tab mixed (fun i => i ≤ l.length) l.length (fun i => [(14, I i), (7, .c (.gs 50))]) (fun i => [(50, .arr 66 (rB (eachL 4 (eachA c) l i)))]) 51 [(50, none)] (by omega) ?_
  conv => whnf
  refine ⟨?_, fun i hi => ?_⟩
  · repeat' (first | exact trivial | rfl | refine And.intro ?_ ?_)
    all_goals (conv => whnf)
    repeat' (first | exact trivial | rfl | refine And.intro ?_ ?_)
  conv => whnf
  refine spD (fun h => ?_) (fun h => ?_) <;> conv => whnf
  · have hi' : i < l.length := by omega
    obtain ⟨p, hx⟩ := get_of hi'
    have hrg := hrng p (List.mem_of_getElem? hx)
    have hL := eachL_len 4 (eachA c) l i
    have hT1 := eachT_len 4 (eachA c) i p.1
    have hstep : eachL 4 (eachA c) l (i + 1) = eachL 4 (eachA c) l i ++ eachT 4 (eachA c) i p.1 ++ eachT 4 (eachA c) i p.2 := by simp [eachL, hx]
    refine ⟨by omega, _, r2_get hx, ?_⟩
    conv => whnf
    refine loopN tab mixed (fun k => k ≤ 2) 2 (fun k => [(25, I k), (7, .c (.gs 50))]) (fun k => [(50, .arr 66 (rB (if k = 0 then eachL 4 (eachA c) l i else if k = 1 then eachL 4 (eachA c) l i ++ eachT 4 (eachA c) i p.1 else eachL 4 (eachA c) l (i + 1))))]) 61 [(50, some 50)] (by omega) ?_
    conv => whnf
    refine ⟨?_, fun k hk => ?_⟩
    · repeat' (first | exact trivial | rfl | refine And.intro ?_ ?_)
      all_goals (conv => whnf)
      repeat' (first | exact trivial | rfl | refine And.intro ?_ ?_)
    conv => whnf
    refine spD (fun h1 => ?_) (fun h1 => ?_) <;> conv => whnf
    · have hk' : k = 0 ∨ k = 1 := by have : (k : Int) < 2 := h1; omega
      rcases hk' with rfl | rfl
      · refine ⟨by simp, by simp, _, rfl, ?_⟩
        conv => whnf
        refine spNe (fun h2 => ?_) (fun h2 => ?_) <;> conv => whnf
        · refine ⟨_, _, allowed1_c c u hd i p.1 hg, ?_⟩
          conv => whnf
          refine ⟨fun h3 => ?_, fun h3 => ?_⟩ <;> conv => whnf
          · refine ⟨row5 _ _ _ _ _, ⟨by rw [if_pos rfl, rB_len]; simp; omega⟩, ?_⟩
            conv => whnf
            refine gv (by decide) (by decide) ?_
            conv => whnf
            refine ⟨⟨by decide, by decide⟩, [(50, some 62)], ?_⟩
            repeat' (first | exact trivial | rfl | refine And.intro ?_ ?_)
            all_goals (conv => whnf)
            repeat' (first | exact trivial | rfl | refine And.intro ?_ ?_)
            simp only [if_true, if_neg (show ¬ 0 + 1 = 0 by decide), eachT, eachA, h2, h3, ne_eq, not_false_eq_true, decide_true, Bool.and_self]
            exact (rB_app _ _ _ _ _ _).symm
          · refine gv (by decide) (by decide) ?_
            conv => whnf
            refine ⟨⟨by decide, by decide⟩, [(50, some 50)], ?_⟩
            repeat' (first | exact trivial | rfl | refine And.intro ?_ ?_)
            all_goals (conv => whnf)
            repeat' (first | exact trivial | rfl | refine And.intro ?_ ?_)
            simp [eachT, eachA, h3]
        · refine gv (by decide) (by decide) ?_
          conv => whnf
          refine ⟨⟨by decide, by decide⟩, [(50, some 50)], ?_⟩
          repeat' (first | exact trivial | rfl | refine And.intro ?_ ?_)
          all_goals (conv => whnf)
          repeat' (first | exact trivial | rfl | refine And.intro ?_ ?_)
          simp [eachT, h2]
      · refine ⟨by simp, by simp, _, rfl, ?_⟩
        conv => whnf
        refine spNe (fun h2 => ?_) (fun h2 => ?_) <;> conv => whnf
        · refine ⟨_, _, allowed1_c c u hd i p.2 hg, ?_⟩
          conv => whnf
          refine ⟨fun h3 => ?_, fun h3 => ?_⟩ <;> conv => whnf
          · refine ⟨row5 _ _ _ _ _, ⟨by rw [if_neg (by decide), if_pos rfl, rB_len]; simp; omega⟩, ?_⟩
            conv => whnf
            refine gv (by decide) (by decide) ?_
            conv => whnf
            refine ⟨⟨by decide, by decide⟩, [(50, some 62)], ?_⟩
            repeat' (first | exact trivial | rfl | refine And.intro ?_ ?_)
            all_goals (conv => whnf)
            repeat' (first | exact trivial | rfl | refine And.intro ?_ ?_)
            rw [if_neg (by decide), if_neg (by decide), if_neg (by decide), if_pos rfl, hstep]
            simp only [eachT, eachA, h2, h3, ne_eq, not_false_eq_true, decide_true, Bool.and_self, if_true]
            exact (rB_app _ _ _ _ _ _).symm
          · refine gv (by decide) (by decide) ?_
            conv => whnf
            refine ⟨⟨by decide, by decide⟩, [(50, some 50)], ?_⟩
            repeat' (first | exact trivial | rfl | refine And.intro ?_ ?_)
            all_goals (conv => whnf)
            repeat' (first | exact trivial | rfl | refine And.intro ?_ ?_)
            rw [if_neg (by decide), if_neg (by decide), if_neg (by decide), if_pos rfl, hstep]
            simp [eachT, eachA, h3]
        · refine gv (by decide) (by decide) ?_
          conv => whnf
          refine ⟨⟨by decide, by decide⟩, [(50, some 50)], ?_⟩
          repeat' (first | exact trivial | rfl | refine And.intro ?_ ?_)
          all_goals (conv => whnf)
          repeat' (first | exact trivial | rfl | refine And.intro ?_ ?_)
          rw [if_neg (by decide), if_neg (by decide), if_neg (by decide), if_pos rfl, hstep]
          simp [eachT, h2]
    · have hk' : k = 2 := by have : ¬ (k : Int) < 2 := h1; omega
      subst hk'
      refine gv (by first | omega | (simp only []; omega) | (simp; omega)) (by first | omega | (simp only []; omega) | (simp; omega)) ?_
      conv => whnf
      refine ⟨⟨hi', hi'⟩, [(50, some 50)], ?_⟩
      repeat' (first | exact trivial | rfl | refine And.intro ?_ ?_)
      all_goals (conv => whnf)
      repeat' (first | exact trivial | rfl | refine And.intro ?_ ?_)
  · refine ⟨[(0, some 0), (1, some 50)], rfl, rfl, ⟨⟨⟨rfl, rfl⟩, rfl, rfl, rfl, rfl, rfl, rfl, ⟨rfl, rfl⟩, ⟨rfl, rfl⟩, ⟨rfl, rfl⟩, ⟨rfl, rfl⟩, rfl, trivial⟩, ⟨rfl, ?_⟩, trivial⟩⟩
    have hi' : i = l.length := by omega
    rw [hi']

theorem allowed_c (c : Cfg) (u : Int) (hd : Bool) (l : List (Int × Int)) (hf : Fit c l) : CallsH Tryz.prog 93 [probV c u hd, plV l] [] (.c (.gs 0)) [.arr 66 (rB (allowedL c l))] := by
  have hg := good_of hf.val
  have := hg.tenants
  have := hf.len
  refine callsR_of tab mixed Tryz.func93 rfl (by decide) rfl rfl ?_
  conv => whnf
  refine ⟨_, _, eachA_c c u hd l hg (by omega) hf.rng, ?_⟩
  conv => whnf
  exact ⟨[(0, some 1)], rfl, rfl, ⟨⟨rfl, rfl⟩, trivial⟩⟩

end Go.Proofs.YtelnligfebjjiaaGreat
