/- Contracts: what the reference of rules returns: the same lists as rules, for problems that are valid and placements that fit. Conditions: those ahead of each theorem. -/
import Derived.Test.YtelnligfebjjiaaGreatRules3
namespace Go.Proofs.YtelnligfebjjiaaGreat
open Go Go.Cpl

abbrev brk5V (a b c d e : Int) : AV := .agg [.d (i64 a), .d (i64 b), .d (i64 c), .d (i64 d), .d (i64 e)]

theorem broken_c (a b c d e : Int) : CallsH Tryz.prog 67 [I a, I b, I c, I d, I e] [] (brk5V a b c d e) [] := by
  refine callsR_of tab mixed Tryz.func67 rfl (by decide) rfl rfl ?_
  conv => whnf
  exact ⟨[], rfl, ⟨⟨rfl, rfl⟩, ⟨rfl, rfl⟩, ⟨rfl, rfl⟩, ⟨rfl, rfl⟩, ⟨rfl, rfl⟩, trivial⟩, trivial⟩

theorem refRegion_c (c : Cfg) (u : Int) (hd : Bool) (cell : Int) (hg : Good c) : CallsH Tryz.prog 103 [probV c u hd, I cell] [] (I (regionOf c cell)) [] := by
  refine callsR_of tab mixed Tryz.func103 rfl (by decide) rfl rfl ?_
  conv => whnf
  refine ⟨_, _, refRegionOf_c c cell hg.laid, ?_⟩
  conv => whnf
  exact ⟨[], rfl, ⟨rfl, rfl⟩, trivial⟩

theorem refSingle_c (c : Cfg) (u : Int) (hd : Bool) (t : Int) (hg : Good c) : CallsH Tryz.prog 60 [probV c u hd, I t] [] (B (single c t)) [] := by
  have hl := rT_len c.tenants
  have hR := hg.regions
  refine callsR_of tab mixed Tryz.func60 rfl (by decide) rfl rfl ?_
  conv => whnf
  refine spD (fun h => ?_) (fun h => ?_) <;> conv => whnf
  · refine ⟨[], rfl, ?_, trivial⟩
    have : allowedOf c t = 0 := by simp [allowedOf]; omega
    simp [mtV, valOf, mtC, eqD, single, this, bc_zero]
  refine spD (fun h1 => ?_) (fun h1 => ?_) <;> conv => whnf
  · refine ⟨[], rfl, ?_, trivial⟩
    have : allowedOf c t = 0 := by simp [allowedOf, get_no (l := c.tenants) (i := t) (by omega) (by omega)]
    simp [mtV, valOf, mtC, eqD, single, this, bc_zero]
  obtain ⟨x, hx⟩ := get_int (l := c.tenants) (i := t) (by omega) (by omega)
  have ha : allowedOf c t = x.allowed := by simp [allowedOf, hx]; omega
  have hbc : ∀ k, bc (allowedOf c t) k ≤ k := fun k => by
    induction k with
    | zero => simp [bc]
    | succ k ih => simp only [bc]; split <;> omega
  refine loopN tab mixed (fun i => i ≤ c.regions.toNat) c.regions.toNat (fun i => [(6, I i), (5, I (bc (allowedOf c t) i : Nat))]) (fun _ => []) 51 [] (by omega) ?_
  conv => whnf
  refine ⟨?_, fun i hi => ?_⟩
  · repeat' (first | exact trivial | rfl | refine And.intro ?_ ?_)
    all_goals (conv => whnf)
    repeat' (first | exact trivial | rfl | refine And.intro ?_ ?_)
  conv => whnf
  have hb := hbc i
  refine spD (fun h2 => ?_) (fun h2 => ?_) <;> conv => whnf
  · have hi' : i < c.regions.toNat := by omega
    refine ⟨by omega, _, rT_get hx, ?_⟩
    conv => whnf
    refine ⟨_, _, has_c _ i, ?_⟩
    conv => whnf
    rw [← ha]
    refine ⟨fun h3 => ?_, fun h3 => ?_⟩ <;> conv => whnf
    · refine gv (by first | omega | (simp only []; omega) | (simp; omega)) (by first | omega | (simp only []; omega) | (simp; omega)) ?_
      conv => whnf
      refine gv (by first | omega | (simp only []; omega) | (simp; omega)) (by first | omega | (simp only []; omega) | (simp; omega)) ?_
      conv => whnf
      refine ⟨⟨hi', hi'⟩, [], ?_⟩
      repeat' (first | exact trivial | rfl | refine And.intro ?_ ?_)
      all_goals (conv => whnf)
      repeat' (first | exact trivial | rfl | refine And.intro ?_ ?_)
      simp [bc, h3]
    · refine gv (by first | omega | (simp only []; omega) | (simp; omega)) (by first | omega | (simp only []; omega) | (simp; omega)) ?_
      conv => whnf
      refine ⟨⟨hi', hi'⟩, [], ?_⟩
      repeat' (first | exact trivial | rfl | refine And.intro ?_ ?_)
      all_goals (conv => whnf)
      repeat' (first | exact trivial | rfl | refine And.intro ?_ ?_)
      simp [bc, h3]
  · refine ⟨[], rfl, ?_, trivial⟩
    have hi' : i = c.regions.toNat := by omega
    subst hi'
    simp only [mtV, valOf, mtC, eqD, single]
    rw [Bool.beq_eq_decide_eq]
    congr 1
    apply propext
    omega

set_option maxRecDepth 100000 in
set_option maxHeartbeats 2000000 in
theorem refExtra_c (c : Cfg) (u : Int) (hd : Bool) (l : List (Int × Int)) (r : Int) (hf : Fit c l) : CallsH Tryz.prog 106 [probV c u hd, plV l, I r] [] (.c (.gs 0)) [.arr 3 (r1 (extra c l r))] := by
  have hg := good_of hf.val
  have hlt := rT_len c.tenants
  have hp := r2_len l
  have hcl := r2_len c.cells
  have hC := hg.cells
  have hT := hg.tenants
  have hlen := hf.len
  refine callsR_of tab mixed Tryz.func106 rfl (by decide) rfl rfl ?_
  conv => whnf
  refine ⟨by omega, by omega, ⟨by omega⟩, ?_⟩
  conv => whnf
  refine loopN tab mixed (fun i => i ≤ l.length) l.length (fun i => [(8, I i)]) (fun i => [(1, .arr 3 (r1 (ex c l r i)))]) 51 [(1, some 1)] (by omega) ?_
  conv => whnf
  refine ⟨?_, fun i hi => ?_⟩
  · repeat' (first | exact trivial | rfl | refine And.intro ?_ ?_)
    all_goals (conv => whnf)
    repeat' (first | exact trivial | rfl | refine And.intro ?_ ?_)
    rw [ex, hcl]; simp [r1]
  conv => whnf
  refine spD (fun h2 => ?_) (fun h2 => ?_) <;> conv => whnf
  · have hi' : i < l.length := by omega
    obtain ⟨p, hx⟩ := get_of hi'
    obtain ⟨t, ht⟩ := get_of (l := c.tenants) (i := i) (by omega)
    have hrng := hf.rng p (List.mem_of_getElem? hx)
    have hbr := ex_rng hg l r i
    have hL := hg.load i
    have hS := hg.shadow i
    have hload : loadOf c i = t.load := by simp [loadOf, ht]
    have hshad : shadowOf c i = t.shadow := by simp [shadowOf, ht]
    have hno : exC c r p = false → ex c l r (i + 1) = ex c l r i := fun h => by simp [ex, hx, h]
    refine ⟨by kernel_rfl, ?_⟩
    conv => whnf
    refine ⟨by omega, _, r2_get hx, ?_⟩
    conv => whnf
    refine spD (fun h3 => ?_) (fun h3 => ?_) <;> conv => whnf
    · refine ⟨by omega, _, r2_get hx, ?_⟩
      conv => whnf
      refine ⟨_, _, refRegion_c c u hd p.1 hg, ?_⟩
      conv => whnf
      refine spE (fun h4 => ?_) (fun h4 => ?_) <;> conv => whnf
      · refine ⟨by omega, _, r2_get hx, ?_⟩
        conv => whnf
        refine spD (fun h5 => ?_) (fun h5 => ?_) <;> conv => whnf
        · refine ⟨by omega, _, r2_get hx, ?_⟩
          conv => whnf
          refine ⟨_, _, refRegion_c c u hd p.2 hg, ?_⟩
          conv => whnf
          refine spNe (fun h6 => ?_) (fun h6 => ?_) <;> conv => whnf
          · have e1 : addAt (ex c l r i) p.2 (t.load - t.shadow) = ex c l r (i + 1) := by
              have g1 : p.1 ≠ -1 := by omega
              have g2 : p.2 ≠ -1 := by omega
              have : exC c r p = true := by simp [exC, g1, g2, h4, h6]
              simp [ex, hx, this, hload, hshad]
            refine ⟨by kernel_rfl, ?_⟩
            conv => whnf
            refine ⟨by omega, _, r2_get hx, ?_⟩
            conv => whnf
            refine ⟨by omega, _, rT_get ht, ?_⟩
            conv => whnf
            refine ⟨by omega, _, rT_get ht, ?_⟩
            conv => whnf
            refine gv (by first | omega | (simp only []; omega) | (simp; omega)) (by first | omega | (simp only []; omega) | (simp; omega)) ?_
            conv => whnf
            refine ⟨_, _, add_c _ _ _ (fun x hx => by have := hbr x hx; omega) (by omega), ?_⟩
            conv => whnf
            rw [e1]
            refine gv (by first | omega | (simp only []; omega) | (simp; omega)) (by first | omega | (simp only []; omega) | (simp; omega)) ?_
            conv => whnf
            refine ⟨⟨hi', hi'⟩, [(1, some 1)], ?_⟩
            repeat' (first | exact trivial | rfl | refine And.intro ?_ ?_)
            all_goals (conv => whnf)
            repeat' (first | exact trivial | rfl | refine And.intro ?_ ?_)
          · refine gv (by first | omega | (simp only []; omega) | (simp; omega)) (by first | omega | (simp only []; omega) | (simp; omega)) ?_
            conv => whnf
            refine ⟨⟨hi', hi'⟩, [(1, some 1)], ?_⟩
            repeat' (first | exact trivial | rfl | refine And.intro ?_ ?_)
            all_goals (conv => whnf)
            repeat' (first | exact trivial | rfl | refine And.intro ?_ ?_)
            rw [hno (by simp [exC, h6])]
        · refine gv (by first | omega | (simp only []; omega) | (simp; omega)) (by first | omega | (simp only []; omega) | (simp; omega)) ?_
          conv => whnf
          refine ⟨⟨hi', hi'⟩, [(1, some 1)], ?_⟩
          repeat' (first | exact trivial | rfl | refine And.intro ?_ ?_)
          all_goals (conv => whnf)
          repeat' (first | exact trivial | rfl | refine And.intro ?_ ?_)
          rw [hno (by simp [exC]; omega)]
      · refine gv (by first | omega | (simp only []; omega) | (simp; omega)) (by first | omega | (simp only []; omega) | (simp; omega)) ?_
        conv => whnf
        refine ⟨⟨hi', hi'⟩, [(1, some 1)], ?_⟩
        repeat' (first | exact trivial | rfl | refine And.intro ?_ ?_)
        all_goals (conv => whnf)
        repeat' (first | exact trivial | rfl | refine And.intro ?_ ?_)
        rw [hno (by simp [exC, h4])]
    · refine gv (by first | omega | (simp only []; omega) | (simp; omega)) (by first | omega | (simp only []; omega) | (simp; omega)) ?_
      conv => whnf
      refine ⟨⟨hi', hi'⟩, [(1, some 1)], ?_⟩
      repeat' (first | exact trivial | rfl | refine And.intro ?_ ?_)
      all_goals (conv => whnf)
      repeat' (first | exact trivial | rfl | refine And.intro ?_ ?_)
      rw [hno (by simp [exC]; omega)]
  · refine ⟨[(0, some 1)], rfl, rfl, ⟨rfl, ?_⟩, trivial⟩
    have hi' : i = l.length := by omega
    simp [extra, hi']

set_option maxRecDepth 100000 in
set_option maxHeartbeats 4000000 in
theorem refSingleU_c (c : Cfg) (u : Int) (hd : Bool) (l : List (Int × Int)) (hf : Fit c l) : CallsH Tryz.prog 102 [probV c u hd, plV l, I 3] [] (.c (.gs 0)) [.arr 66 (rB (usableL u l))] := by
  have hg := good_of hf.val
  have hp := r2_len l
  have hC := hg.cells
  have hT := hg.tenants
  have hlen := hf.len
  refine callsR_of tab mixed Tryz.func102 rfl (by decide) rfl rfl ?_
  conv => whnf
  refine loopN tab mixed (fun i => i ≤ l.length) l.length (fun i => [(8, I i), (7, .c (.gs 50))]) (fun i => [(50, .arr 66 (rB (eachL 3 (eachU u) l i)))]) 51 [(50, none)] (by omega) ?_
  conv => whnf
  refine ⟨?_, fun i hi => ?_⟩
  · repeat' (first | exact trivial | rfl | refine And.intro ?_ ?_)
    all_goals (conv => whnf)
    repeat' (first | exact trivial | rfl | refine And.intro ?_ ?_)
  conv => whnf
  refine spD (fun h => ?_) (fun h => ?_) <;> conv => whnf
  · have hi' : i < l.length := by omega
    obtain ⟨p, hx⟩ := get_of hi'
    have hrg := hf.rng p (List.mem_of_getElem? hx)
    have hL := eachL_len 3 (eachU u) l i
    have hT1 := eachT_len 3 (eachU u) i p.1
    have hstep : eachL 3 (eachU u) l (i + 1) = eachL 3 (eachU u) l i ++ eachT 3 (eachU u) i p.1 ++ eachT 3 (eachU u) i p.2 := by simp [eachL, hx]
    refine ⟨by kernel_rfl, ?_⟩
    conv => whnf
    refine ⟨by omega, _, r2_get hx, ?_⟩
    conv => whnf
    refine ⟨by omega, _, r2_get hx, ?_⟩
    conv => whnf
    refine ⟨by kernel_rfl, ?_⟩
    conv => whnf
    refine ⟨by kernel_rfl, ?_⟩
    conv => whnf
    refine ⟨by kernel_rfl, ?_⟩
    conv => whnf
    refine loopN tab mixed (fun k => k ≤ 2) 2 (fun k => [(10, I k), (7, .c (.gs 50))]) (fun k => [(50, .arr 66 (rB (if k = 0 then eachL 3 (eachU u) l i else if k = 1 then eachL 3 (eachU u) l i ++ eachT 3 (eachU u) i p.1 else eachL 3 (eachU u) l (i + 1))))]) 61 [(50, some 50)] (by omega) ?_
    conv => whnf
    refine ⟨?_, fun k hk => ?_⟩
    · repeat' (first | exact trivial | rfl | refine And.intro ?_ ?_)
      all_goals (conv => whnf)
      repeat' (first | exact trivial | rfl | refine And.intro ?_ ?_)
    conv => whnf
    refine spD (fun h1 => ?_) (fun h1 => ?_) <;> conv => whnf
    · have hk' : k = 0 ∨ k = 1 := by have : (k : Int) < 2 := h1; omega
      rcases hk' with rfl | rfl
      · refine ⟨by kernel_rfl, ?_⟩
        conv => whnf
        refine ⟨by kernel_rfl, ?_⟩
        conv => whnf
        refine ⟨by decide, by decide, ?_⟩
        conv => whnf
        refine ⟨_, _, has_c u p.1, ?_⟩
        conv => whnf
        refine spE (fun h9 => absurd h9 (by decide)) (fun _ => ?_)
        conv => whnf
        refine ⟨by kernel_rfl, ?_⟩
        conv => whnf
        refine ⟨by decide, by decide, ?_⟩
        conv => whnf
        refine spD (fun h2 => ?_) (fun h2 => ?_) <;> conv => whnf
        · have g2 : p.1 ≠ -1 := by omega
          refine ⟨fun h3 => ?_, fun h3 => ?_⟩ <;> conv => whnf
          · refine ⟨by kernel_rfl, ?_⟩
            conv => whnf
            refine ⟨by decide, by decide, ?_⟩
            conv => whnf
            refine ⟨_, _, broken_c _ _ _ _ _, ?_⟩
            conv => whnf
            refine ⟨row5 _ _ _ _ _, ⟨by rw [if_pos rfl, rB_len]; simp; omega⟩, ?_⟩
            conv => whnf
            refine gv (by decide) (by decide) ?_
            conv => whnf
            refine ⟨⟨by decide, by decide⟩, [(50, some 62)], ?_⟩
            repeat' (first | exact trivial | rfl | refine And.intro ?_ ?_)
            all_goals (conv => whnf)
            repeat' (first | exact trivial | rfl | refine And.intro ?_ ?_)
            simp only [if_true, if_neg (show ¬ 0 + 1 = 0 by decide), eachT, eachU, g2, h3, ne_eq, not_false_eq_true, decide_true, Bool.and_self]
            exact (rB_app _ _ _ _ _ _).symm
          · refine gv (by decide) (by decide) ?_
            conv => whnf
            refine ⟨⟨by decide, by decide⟩, [(50, some 50)], ?_⟩
            repeat' (first | exact trivial | rfl | refine And.intro ?_ ?_)
            all_goals (conv => whnf)
            repeat' (first | exact trivial | rfl | refine And.intro ?_ ?_)
            simp [eachT, eachU, h3]
        · have g2 : p.1 = -1 := by omega
          refine gv (by decide) (by decide) ?_
          conv => whnf
          refine ⟨⟨by decide, by decide⟩, [(50, some 50)], ?_⟩
          repeat' (first | exact trivial | rfl | refine And.intro ?_ ?_)
          all_goals (conv => whnf)
          repeat' (first | exact trivial | rfl | refine And.intro ?_ ?_)
          simp [eachT, g2]
      · refine ⟨by kernel_rfl, ?_⟩
        conv => whnf
        refine ⟨by kernel_rfl, ?_⟩
        conv => whnf
        refine ⟨by decide, by decide, ?_⟩
        conv => whnf
        refine ⟨_, _, has_c u p.2, ?_⟩
        conv => whnf
        refine spE (fun h9 => absurd h9 (by decide)) (fun _ => ?_)
        conv => whnf
        refine ⟨by kernel_rfl, ?_⟩
        conv => whnf
        refine ⟨by decide, by decide, ?_⟩
        conv => whnf
        refine spD (fun h2 => ?_) (fun h2 => ?_) <;> conv => whnf
        · have g2 : p.2 ≠ -1 := by omega
          refine ⟨fun h3 => ?_, fun h3 => ?_⟩ <;> conv => whnf
          · refine ⟨by kernel_rfl, ?_⟩
            conv => whnf
            refine ⟨by decide, by decide, ?_⟩
            conv => whnf
            refine ⟨_, _, broken_c _ _ _ _ _, ?_⟩
            conv => whnf
            refine ⟨row5 _ _ _ _ _, ⟨by rw [if_neg (by decide), if_pos rfl, rB_len]; simp; omega⟩, ?_⟩
            conv => whnf
            refine gv (by decide) (by decide) ?_
            conv => whnf
            refine ⟨⟨by decide, by decide⟩, [(50, some 62)], ?_⟩
            repeat' (first | exact trivial | rfl | refine And.intro ?_ ?_)
            all_goals (conv => whnf)
            repeat' (first | exact trivial | rfl | refine And.intro ?_ ?_)
            rw [if_neg (by decide), if_neg (by decide), if_neg (by decide), if_pos rfl, hstep]
            simp only [eachT, eachU, g2, h3, ne_eq, not_false_eq_true, decide_true, Bool.and_self, if_true]
            exact (rB_app _ _ _ _ _ _).symm
          · refine gv (by decide) (by decide) ?_
            conv => whnf
            refine ⟨⟨by decide, by decide⟩, [(50, some 50)], ?_⟩
            repeat' (first | exact trivial | rfl | refine And.intro ?_ ?_)
            all_goals (conv => whnf)
            repeat' (first | exact trivial | rfl | refine And.intro ?_ ?_)
            rw [if_neg (by decide), if_neg (by decide), if_neg (by decide), if_pos rfl, hstep]
            simp [eachT, eachU, h3]
        · have g2 : p.2 = -1 := by omega
          refine gv (by decide) (by decide) ?_
          conv => whnf
          refine ⟨⟨by decide, by decide⟩, [(50, some 50)], ?_⟩
          repeat' (first | exact trivial | rfl | refine And.intro ?_ ?_)
          all_goals (conv => whnf)
          repeat' (first | exact trivial | rfl | refine And.intro ?_ ?_)
          rw [if_neg (by decide), if_neg (by decide), if_neg (by decide), if_pos rfl, hstep]
          simp [eachT, g2]
    · have hk' : k = 2 := by have : ¬ (k : Int) < 2 := h1; omega
      subst hk'
      refine gv (by first | omega | (simp only []; omega) | (simp; omega)) (by first | omega | (simp only []; omega) | (simp; omega)) ?_
      conv => whnf
      refine ⟨⟨hi', hi'⟩, [(50, some 50)], ?_⟩
      repeat' (first | exact trivial | rfl | refine And.intro ?_ ?_)
      all_goals (conv => whnf)
      repeat' (first | exact trivial | rfl | refine And.intro ?_ ?_)
  · refine ⟨[(0, some 50)], rfl, rfl, ⟨rfl, ?_⟩, trivial⟩
    have hi' : i = l.length := by omega
    rw [hi']; rfl

set_option maxRecDepth 100000 in
set_option maxHeartbeats 4000000 in
theorem refSingleA_c (c : Cfg) (u : Int) (hd : Bool) (l : List (Int × Int)) (hf : Fit c l) : CallsH Tryz.prog 102 [probV c u hd, plV l, I 4] [] (.c (.gs 0)) [.arr 66 (rB (allowedL c l))] := by
  have hg := good_of hf.val
  have hp := r2_len l
  have hC := hg.cells
  have hT := hg.tenants
  have hlen := hf.len
  refine callsR_of tab mixed Tryz.func102 rfl (by decide) rfl rfl ?_
  conv => whnf
  refine loopN tab mixed (fun i => i ≤ l.length) l.length (fun i => [(8, I i), (7, .c (.gs 50))]) (fun i => [(50, .arr 66 (rB (eachL 4 (eachA c) l i)))]) 51 [(50, none)] (by omega) ?_
  conv => whnf
  refine ⟨?_, fun i hi => ?_⟩
  · repeat' (first | exact trivial | rfl | refine And.intro ?_ ?_)
    all_goals (conv => whnf)
    repeat' (first | exact trivial | rfl | refine And.intro ?_ ?_)
  conv => whnf
  refine spD (fun h => ?_) (fun h => ?_) <;> conv => whnf
  · have hi' : i < l.length := by omega
    obtain ⟨p, hx⟩ := get_of hi'
    have hrg := hf.rng p (List.mem_of_getElem? hx)
    have hL := eachL_len 4 (eachA c) l i
    have hT1 := eachT_len 4 (eachA c) i p.1
    have hstep : eachL 4 (eachA c) l (i + 1) = eachL 4 (eachA c) l i ++ eachT 4 (eachA c) i p.1 ++ eachT 4 (eachA c) i p.2 := by simp [eachL, hx]
    refine ⟨by kernel_rfl, ?_⟩
    conv => whnf
    refine ⟨by omega, _, r2_get hx, ?_⟩
    conv => whnf
    refine ⟨by omega, _, r2_get hx, ?_⟩
    conv => whnf
    refine ⟨by kernel_rfl, ?_⟩
    conv => whnf
    refine ⟨by kernel_rfl, ?_⟩
    conv => whnf
    refine ⟨by kernel_rfl, ?_⟩
    conv => whnf
    refine loopN tab mixed (fun k => k ≤ 2) 2 (fun k => [(10, I k), (7, .c (.gs 50))]) (fun k => [(50, .arr 66 (rB (if k = 0 then eachL 4 (eachA c) l i else if k = 1 then eachL 4 (eachA c) l i ++ eachT 4 (eachA c) i p.1 else eachL 4 (eachA c) l (i + 1))))]) 61 [(50, some 50)] (by omega) ?_
    conv => whnf
    refine ⟨?_, fun k hk => ?_⟩
    · repeat' (first | exact trivial | rfl | refine And.intro ?_ ?_)
      all_goals (conv => whnf)
      repeat' (first | exact trivial | rfl | refine And.intro ?_ ?_)
    conv => whnf
    refine spD (fun h1 => ?_) (fun h1 => ?_) <;> conv => whnf
    · have hk' : k = 0 ∨ k = 1 := by have : (k : Int) < 2 := h1; omega
      rcases hk' with rfl | rfl
      · refine ⟨by kernel_rfl, ?_⟩
        conv => whnf
        refine ⟨by kernel_rfl, ?_⟩
        conv => whnf
        refine ⟨by decide, by decide, ?_⟩
        conv => whnf
        refine ⟨_, _, has_c u p.1, ?_⟩
        conv => whnf
        refine spE (fun _ => ?_) (fun h9 => absurd rfl h9)
        conv => whnf
        refine ⟨by kernel_rfl, ?_⟩
        conv => whnf
        refine ⟨by kernel_rfl, ?_⟩
        conv => whnf
        refine ⟨by decide, by decide, ?_⟩
        conv => whnf
        refine ⟨_, _, refMay_c c i p.1 hg.laid, ?_⟩
        conv => whnf
        refine ⟨by kernel_rfl, ?_⟩
        conv => whnf
        refine ⟨by decide, by decide, ?_⟩
        conv => whnf
        refine spD (fun h2 => ?_) (fun h2 => ?_) <;> conv => whnf
        · have g2 : p.1 ≠ -1 := by omega
          refine ⟨fun h3 => ?_, fun h3 => ?_⟩ <;> conv => whnf
          · refine ⟨by kernel_rfl, ?_⟩
            conv => whnf
            refine ⟨by decide, by decide, ?_⟩
            conv => whnf
            refine ⟨_, _, broken_c _ _ _ _ _, ?_⟩
            conv => whnf
            refine ⟨row5 _ _ _ _ _, ⟨by rw [if_pos rfl, rB_len]; simp; omega⟩, ?_⟩
            conv => whnf
            refine gv (by decide) (by decide) ?_
            conv => whnf
            refine ⟨⟨by decide, by decide⟩, [(50, some 62)], ?_⟩
            repeat' (first | exact trivial | rfl | refine And.intro ?_ ?_)
            all_goals (conv => whnf)
            repeat' (first | exact trivial | rfl | refine And.intro ?_ ?_)
            simp only [if_true, if_neg (show ¬ 0 + 1 = 0 by decide), eachT, eachA, g2, h3, ne_eq, not_false_eq_true, decide_true, Bool.and_self]
            exact (rB_app _ _ _ _ _ _).symm
          · refine gv (by decide) (by decide) ?_
            conv => whnf
            refine ⟨⟨by decide, by decide⟩, [(50, some 50)], ?_⟩
            repeat' (first | exact trivial | rfl | refine And.intro ?_ ?_)
            all_goals (conv => whnf)
            repeat' (first | exact trivial | rfl | refine And.intro ?_ ?_)
            simp [eachT, eachA, h3]
        · have g2 : p.1 = -1 := by omega
          refine gv (by decide) (by decide) ?_
          conv => whnf
          refine ⟨⟨by decide, by decide⟩, [(50, some 50)], ?_⟩
          repeat' (first | exact trivial | rfl | refine And.intro ?_ ?_)
          all_goals (conv => whnf)
          repeat' (first | exact trivial | rfl | refine And.intro ?_ ?_)
          simp [eachT, g2]
      · refine ⟨by kernel_rfl, ?_⟩
        conv => whnf
        refine ⟨by kernel_rfl, ?_⟩
        conv => whnf
        refine ⟨by decide, by decide, ?_⟩
        conv => whnf
        refine ⟨_, _, has_c u p.2, ?_⟩
        conv => whnf
        refine spE (fun _ => ?_) (fun h9 => absurd rfl h9)
        conv => whnf
        refine ⟨by kernel_rfl, ?_⟩
        conv => whnf
        refine ⟨by kernel_rfl, ?_⟩
        conv => whnf
        refine ⟨by decide, by decide, ?_⟩
        conv => whnf
        refine ⟨_, _, refMay_c c i p.2 hg.laid, ?_⟩
        conv => whnf
        refine ⟨by kernel_rfl, ?_⟩
        conv => whnf
        refine ⟨by decide, by decide, ?_⟩
        conv => whnf
        refine spD (fun h2 => ?_) (fun h2 => ?_) <;> conv => whnf
        · have g2 : p.2 ≠ -1 := by omega
          refine ⟨fun h3 => ?_, fun h3 => ?_⟩ <;> conv => whnf
          · refine ⟨by kernel_rfl, ?_⟩
            conv => whnf
            refine ⟨by decide, by decide, ?_⟩
            conv => whnf
            refine ⟨_, _, broken_c _ _ _ _ _, ?_⟩
            conv => whnf
            refine ⟨row5 _ _ _ _ _, ⟨by rw [if_neg (by decide), if_pos rfl, rB_len]; simp; omega⟩, ?_⟩
            conv => whnf
            refine gv (by decide) (by decide) ?_
            conv => whnf
            refine ⟨⟨by decide, by decide⟩, [(50, some 62)], ?_⟩
            repeat' (first | exact trivial | rfl | refine And.intro ?_ ?_)
            all_goals (conv => whnf)
            repeat' (first | exact trivial | rfl | refine And.intro ?_ ?_)
            rw [if_neg (by decide), if_neg (by decide), if_neg (by decide), if_pos rfl, hstep]
            simp only [eachT, eachA, g2, h3, ne_eq, not_false_eq_true, decide_true, Bool.and_self, if_true]
            exact (rB_app _ _ _ _ _ _).symm
          · refine gv (by decide) (by decide) ?_
            conv => whnf
            refine ⟨⟨by decide, by decide⟩, [(50, some 50)], ?_⟩
            repeat' (first | exact trivial | rfl | refine And.intro ?_ ?_)
            all_goals (conv => whnf)
            repeat' (first | exact trivial | rfl | refine And.intro ?_ ?_)
            rw [if_neg (by decide), if_neg (by decide), if_neg (by decide), if_pos rfl, hstep]
            simp [eachT, eachA, h3]
        · have g2 : p.2 = -1 := by omega
          refine gv (by decide) (by decide) ?_
          conv => whnf
          refine ⟨⟨by decide, by decide⟩, [(50, some 50)], ?_⟩
          repeat' (first | exact trivial | rfl | refine And.intro ?_ ?_)
          all_goals (conv => whnf)
          repeat' (first | exact trivial | rfl | refine And.intro ?_ ?_)
          rw [if_neg (by decide), if_neg (by decide), if_neg (by decide), if_pos rfl, hstep]
          simp [eachT, g2]
    · have hk' : k = 2 := by have : ¬ (k : Int) < 2 := h1; omega
      subst hk'
      refine gv (by first | omega | (simp only []; omega) | (simp; omega)) (by first | omega | (simp only []; omega) | (simp; omega)) ?_
      conv => whnf
      refine ⟨⟨hi', hi'⟩, [(50, some 50)], ?_⟩
      repeat' (first | exact trivial | rfl | refine And.intro ?_ ?_)
      all_goals (conv => whnf)
      repeat' (first | exact trivial | rfl | refine And.intro ?_ ?_)
  · refine ⟨[(0, some 50)], rfl, rfl, ⟨rfl, ?_⟩, trivial⟩
    have hi' : i = l.length := by omega
    rw [hi']; rfl

end Go.Proofs.YtelnligfebjjiaaGreat
