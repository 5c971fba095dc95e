/- Contracts: what the other functions of rules return. Conditions: those ahead of each theorem. -/
import Derived.Test.YtelnligfebjjiaaGreatRules
namespace Go.Proofs.YtelnligfebjjiaaGreat
open Go Go.Cpl

/-! home and standby apart -/

def apT (c : Cfg) (t : Nat) (p : Int × Int) : List Brk := if decide (p.1 ≠ -1) && (decide (p.2 ≠ -1) && !apart c p.1 p.2) then [⟨5, t, -1, p.2, -1⟩] else []

def apL (c : Cfg) (l : List (Int × Int)) : Nat → List Brk
  | 0 => []
  | k + 1 => match l[k]? with
    | some p => apL c l k ++ apT c k p
    | none => apL c l k

theorem apL_len (c : Cfg) (l : List (Int × Int)) : ∀ k, (apL c l k).length ≤ k
  | 0 => by simp [apL]
  | k + 1 => by
    have := apL_len c l k
    simp only [apL]
    split
    · rename_i p _
      have : (apT c k p).length ≤ 1 := by unfold apT; split <;> simp
      simp only [List.length_append]; omega
    · omega

theorem rulesApart_c (c : Cfg) (u : Int) (hd : Bool) (l : List (Int × Int)) (hf : Fit c l) : CallsH Tryz.prog 94 [probV c u hd, plV l] [] (.c (.gs 0)) [.arr 66 (rB (apL c l l.length))] := by
  have hg := good_of hf.val
  have hT := hg.tenants
  have hlen := hf.len
  have hp := r2_len l
  refine callsR_of tab mixed Tryz.func94 rfl (by decide) rfl rfl ?_
  conv => whnf
  refine loopN tab mixed (fun i => i ≤ l.length) l.length (fun i => [(10, I i), (5, .c (.gs 50))]) (fun i => [(50, .arr 66 (rB (apL c l i)))]) 51 [(50, none)] (by omega) ?_
  conv => whnf
  refine ⟨?_, fun i hi => ?_⟩
  · repeat' (first | exact trivial | rfl | refine And.intro ?_ ?_)
    all_goals (conv => whnf)
    repeat' (first | exact trivial | rfl | refine And.intro ?_ ?_)
  conv => whnf
  refine spD (fun h => ?_) (fun h => ?_) <;> conv => whnf
  · have hi' : i < l.length := by omega
    obtain ⟨p, hx⟩ := get_of hi'
    have hL := apL_len c l i
    have hstep : apL c l (i + 1) = apL c l i ++ apT c i p := by simp [apL, hx]
    refine ⟨by omega, _, r2_get hx, ?_⟩
    conv => whnf
    refine spNe (fun h1 => ?_) (fun h1 => ?_) <;> conv => whnf
    · refine spNe (fun h2 => ?_) (fun h2 => ?_) <;> conv => whnf
      · refine ⟨_, _, apart_c c p.1 p.2 hg.laid, ?_⟩
        conv => whnf
        refine ⟨fun h3 => ?_, fun h3 => ?_⟩ <;> conv => whnf
        · refine ⟨row5 _ _ _ _ _, ⟨by rw [rB_len]; simp; omega⟩, ?_⟩
          conv => whnf
          refine gv (by first | omega | (simp only []; omega) | (simp; omega)) (by first | omega | (simp only []; omega) | (simp; omega)) ?_
          conv => whnf
          refine ⟨⟨hi', hi'⟩, [(50, some 53)], ?_⟩
          repeat' (first | exact trivial | rfl | refine And.intro ?_ ?_)
          all_goals (conv => whnf)
          repeat' (first | exact trivial | rfl | refine And.intro ?_ ?_)
          rw [hstep]
          simp only [apT, h1, h2, h3, ne_eq, not_false_eq_true, decide_true, Bool.and_self, if_true]
          exact (rB_app _ _ _ _ _ _).symm
        · refine gv (by first | omega | (simp only []; omega) | (simp; omega)) (by first | omega | (simp only []; omega) | (simp; omega)) ?_
          conv => whnf
          refine ⟨⟨hi', hi'⟩, [(50, some 50)], ?_⟩
          repeat' (first | exact trivial | rfl | refine And.intro ?_ ?_)
          all_goals (conv => whnf)
          repeat' (first | exact trivial | rfl | refine And.intro ?_ ?_)
          rw [hstep]; simp [apT, h3]
      · refine gv (by first | omega | (simp only []; omega) | (simp; omega)) (by first | omega | (simp only []; omega) | (simp; omega)) ?_
        conv => whnf
        refine ⟨⟨hi', hi'⟩, [(50, some 50)], ?_⟩
        repeat' (first | exact trivial | rfl | refine And.intro ?_ ?_)
        all_goals (conv => whnf)
        repeat' (first | exact trivial | rfl | refine And.intro ?_ ?_)
        rw [hstep]; simp [apT, h2]
    · refine gv (by first | omega | (simp only []; omega) | (simp; omega)) (by first | omega | (simp only []; omega) | (simp; omega)) ?_
      conv => whnf
      refine ⟨⟨hi', hi'⟩, [(50, some 50)], ?_⟩
      repeat' (first | exact trivial | rfl | refine And.intro ?_ ?_)
      all_goals (conv => whnf)
      repeat' (first | exact trivial | rfl | refine And.intro ?_ ?_)
      rw [hstep]; simp [apT, h1]
  · refine ⟨[(0, some 50)], rfl, rfl, ⟨rfl, ?_⟩, trivial⟩
    have hi' : i = l.length := by omega
    rw [hi']

/-! rules of two tenants -/

def homeAt (l : List (Int × Int)) (t : Nat) : Int := ((l[t]?).map (·.1)).getD (-1)

def prT (rule : Int) (bad : Nat → Nat → Bool) (l : List (Int × Int)) (a b : Nat) : List Brk :=
  if decide (homeAt l a ≠ -1) && (decide (homeAt l b ≠ -1) && bad a b) then [⟨rule, a, b, homeAt l b, -1⟩] else []

def prB (rule : Int) (bad : Nat → Nat → Bool) (l : List (Int × Int)) (a : Nat) : Nat → List Brk
  | 0 => []
  | k + 1 => prB rule bad l a k ++ prT rule bad l a k

def prL (rule : Int) (bad : Nat → Nat → Bool) (l : List (Int × Int)) : Nat → List Brk
  | 0 => []
  | k + 1 => prL rule bad l k ++ prB rule bad l k k

theorem prB_len (rule : Int) (bad : Nat → Nat → Bool) (l : List (Int × Int)) (a : Nat) : ∀ k, (prB rule bad l a k).length ≤ k
  | 0 => by simp [prB]
  | k + 1 => by
    have := prB_len rule bad l a k
    have : (prT rule bad l a k).length ≤ 1 := by unfold prT; split <;> simp
    simp only [prB, List.length_append]; omega

theorem prL_len (rule : Int) (bad : Nat → Nat → Bool) (l : List (Int × Int)) : ∀ k, k ≤ 40 → (prL rule bad l k).length ≤ 40 * k
  | 0, _ => by simp [prL]
  | k + 1, hk => by
    have := prL_len rule bad l k (by omega)
    have := prB_len rule bad l k k
    simp only [prL, List.length_append]; omega

def groupOf (c : Cfg) (t : Nat) : Int := ((c.tenants[t]?).map (·.group)).getD 0

def noisyOf (c : Cfg) (t : Nat) : Bool := ((c.tenants[t]?).map (·.noisy)).getD false

def badG (c : Cfg) (l : List (Int × Int)) : Nat → Nat → Bool := fun a b => decide (0 < groupOf c a) && (decide (groupOf c a = groupOf c b) && decide (zoneOf c (homeAt l a) = zoneOf c (homeAt l b)))

def badN (c : Cfg) (l : List (Int × Int)) : Nat → Nat → Bool := fun a b => noisyOf c a && (noisyOf c b && decide (homeAt l a = homeAt l b))

set_option maxRecDepth 100000 in
theorem group1_c (c : Cfg) (u : Int) (hd : Bool) (l : List (Int × Int)) (hf : Fit c l) (a b : Nat) (ha : a < l.length) (hb : b < l.length) :
    CallsH Tryz.prog 133 [I a, I b, .c (.ptr 0 0 0), .c (.ptr 1 0 0)] [.box (probC c u hd), .box [.d (.sl (r2 l))]] (B (badG c l a b)) [.box (probC c u hd), .box [.d (.sl (r2 l))]] := by
  have hg := good_of hf.val
  have hlen := hf.len
  have hl := hg.laid
  obtain ⟨x, hx⟩ := get_of (l := c.tenants) (i := a) (by omega)
  obtain ⟨y, hy⟩ := get_of (l := c.tenants) (i := b) (by omega)
  obtain ⟨p, hp⟩ := get_of ha
  obtain ⟨q, hq⟩ := get_of hb
  have e1 : groupOf c a = x.group := by simp [groupOf, hx]
  have e2 : groupOf c b = y.group := by simp [groupOf, hy]
  have e3 : homeAt l a = p.1 := by simp [homeAt, hp]
  have e4 : homeAt l b = q.1 := by simp [homeAt, hq]
  have fin : ∀ v : Bool, v = badG c l a b → ∃ ρ : Ren, (nodupB (renIds ρ) && keepB 2 ρ (hpL 0 [.box (probC c u hd), .box [.d (.sl (r2 l))]])) = true ∧ badG c l a b = v ∧ mtHp true ρ [(0, .box (probC c u hd)), (1, .box [.d (.sl (r2 l))])] (hpL 0 [.box (probC c u hd), .box [.d (.sl (r2 l))]]) := fun v hv =>
    ⟨[(0, some 0), (1, some 1)], rfl, hv.symm, ⟨⟨⟨rfl, rfl⟩, rfl, rfl, rfl, rfl, rfl, rfl, ⟨rfl, rfl⟩, ⟨rfl, rfl⟩, ⟨rfl, rfl⟩, ⟨rfl, rfl⟩, rfl, trivial⟩, ⟨rfl, trivial⟩, trivial⟩⟩
  refine callsR_of tab mixed Tryz.func133 rfl (by decide) rfl rfl ?_
  conv => whnf
  refine ⟨by omega, _, rT_get hx, ?_⟩
  conv => whnf
  refine ⟨by kernel_rfl, ?_⟩
  conv => whnf
  refine spD (fun h1 => ?_) (fun h1 => ?_) <;> conv => whnf
  · refine ⟨by omega, _, rT_get hy, ?_⟩
    conv => whnf
    refine spE (fun h2 => ?_) (fun h2 => ?_) <;> conv => whnf
    · refine ⟨by omega, _, r2_get hp, ?_⟩
      conv => whnf
      refine ⟨_, _, zoneOf_c c p.1 hl.cells, ?_⟩
      conv => whnf
      refine ⟨by omega, _, r2_get hq, ?_⟩
      conv => whnf
      refine ⟨_, _, zoneOf_c c q.1 hl.cells, ?_⟩
      conv => whnf
      exact fin _ (by
        have h1' : 0 < y.group := h2 ▸ h1
        simp [badG, e1, e2, e3, e4, h2, h1', Bool.beq_eq_decide_eq])
    · exact fin _ (by simp [badG, e1, e2, h2])
  · exact fin _ (by simp [badG, e1, h1])

set_option maxRecDepth 100000 in
theorem noisy1_c (c : Cfg) (u : Int) (hd : Bool) (l : List (Int × Int)) (hf : Fit c l) (a b : Nat) (ha : a < l.length) (hb : b < l.length) :
    CallsH Tryz.prog 135 [I a, I b, .c (.ptr 0 0 0), .c (.ptr 1 0 0)] [.box (probC c u hd), .box [.d (.sl (r2 l))]] (B (badN c l a b)) [.box (probC c u hd), .box [.d (.sl (r2 l))]] := by
  have hlen := hf.len
  obtain ⟨x, hx⟩ := get_of (l := c.tenants) (i := a) (by omega)
  obtain ⟨y, hy⟩ := get_of (l := c.tenants) (i := b) (by omega)
  obtain ⟨p, hp⟩ := get_of ha
  obtain ⟨q, hq⟩ := get_of hb
  have e1 : noisyOf c a = x.noisy := by simp [noisyOf, hx]
  have e2 : noisyOf c b = y.noisy := by simp [noisyOf, hy]
  have e3 : homeAt l a = p.1 := by simp [homeAt, hp]
  have e4 : homeAt l b = q.1 := by simp [homeAt, hq]
  have fin : ∀ v : Bool, v = badN c l a b → ∃ ρ : Ren, (nodupB (renIds ρ) && keepB 2 ρ (hpL 0 [.box (probC c u hd), .box [.d (.sl (r2 l))]])) = true ∧ badN c l a b = v ∧ mtHp true ρ [(0, .box (probC c u hd)), (1, .box [.d (.sl (r2 l))])] (hpL 0 [.box (probC c u hd), .box [.d (.sl (r2 l))]]) := fun v hv =>
    ⟨[(0, some 0), (1, some 1)], rfl, hv.symm, ⟨⟨⟨rfl, rfl⟩, rfl, rfl, rfl, rfl, rfl, rfl, ⟨rfl, rfl⟩, ⟨rfl, rfl⟩, ⟨rfl, rfl⟩, ⟨rfl, rfl⟩, rfl, trivial⟩, ⟨rfl, trivial⟩, trivial⟩⟩
  refine callsR_of tab mixed Tryz.func135 rfl (by decide) rfl rfl ?_
  conv => whnf
  refine ⟨by kernel_rfl, ?_⟩
  conv => whnf
  refine ⟨by omega, _, rT_get hx, ?_⟩
  conv => whnf
  refine ⟨fun h1 => ?_, fun h1 => ?_⟩ <;> conv => whnf
  · refine ⟨by omega, _, rT_get hy, ?_⟩
    conv => whnf
    refine ⟨fun h2 => ?_, fun h2 => ?_⟩ <;> conv => whnf
    · refine ⟨by omega, _, r2_get hp, ?_⟩
      conv => whnf
      refine ⟨by omega, _, r2_get hq, ?_⟩
      conv => whnf
      exact fin _ (by simp [badN, e1, e2, e3, e4, h1, h2, Bool.beq_eq_decide_eq])
    · exact fin _ (by simp [badN, e2, h2])
  · exact fin _ (by simp [badN, e1, h1])

set_option maxHeartbeats 2000000 in
theorem pairsG_c (c : Cfg) (u : Int) (hd : Bool) (l : List (Int × Int)) (hf : Fit c l) :
    CallsH Tryz.prog 132 [I 6, plV l, .fn 133 [.ptr 0 0 0, .ptr 1 0 0]] [.box (probC c u hd), .box [.d (.sl (r2 l))]] (.c (.gs 2)) [.box (probC c u hd), .box [.d (.sl (r2 l))], .arr 66 (rB (prL 6 (badG c l) l l.length))] := by
  have hg := good_of hf.val
  have hT := hg.tenants
  have hlen := hf.len
  have hp := r2_len l
  refine callsR_of tab mixed Tryz.func132 rfl (by decide) rfl rfl ?_
  conv => whnf
  refine loopN tab mixed (fun i => i ≤ l.length) l.length (fun i => [(12, I i), (7, .c (.gs 50))]) (fun i => [(50, .arr 66 (rB (prL 6 (badG c l) l i)))]) 51 [(50, none)] (by omega) ?_
  conv => whnf
  refine ⟨?_, fun i hi => ?_⟩
  · repeat' (first | exact trivial | rfl | refine And.intro ?_ ?_)
    all_goals (conv => whnf)
    repeat' (first | exact trivial | rfl | refine And.intro ?_ ?_)
  conv => whnf
  refine spD (fun h => ?_) (fun h => ?_) <;> conv => whnf
  · have hi' : i < l.length := by omega
    obtain ⟨p, hx⟩ := get_of hi'
    have e3 : homeAt l i = p.1 := by simp [homeAt, hx]
    have hL := prL_len 6 (badG c l) l i (by omega)
    refine loopN tab mixed (fun k => k ≤ i) i (fun k => [(16, I k), (7, .c (.gs 50))]) (fun k => [(50, .arr 66 (rB (prL 6 (badG c l) l i ++ prB 6 (badG c l) l i k)))]) 61 [(50, some 50)] (by omega) ?_
    conv => whnf
    refine ⟨?_, fun k hk => ?_⟩
    · repeat' (first | exact trivial | rfl | refine And.intro ?_ ?_)
      all_goals (conv => whnf)
      repeat' (first | exact trivial | rfl | refine And.intro ?_ ?_)
      simp [prB]
    conv => whnf
    refine spD (fun h1 => ?_) (fun h1 => ?_) <;> conv => whnf
    · have hk' : k < i := by have : (k : Int) < i := h1; omega
      obtain ⟨q, hq⟩ := get_of (l := l) (i := k) (by omega)
      have e4 : homeAt l k = q.1 := by simp [homeAt, hq]
      have hB := prB_len 6 (badG c l) l i k
      refine ⟨by omega, _, r2_get hx, ?_⟩
      conv => whnf
      refine spNe (fun h2 => ?_) (fun h2 => ?_) <;> conv => whnf
      · refine ⟨by omega, _, r2_get hq, ?_⟩
        conv => whnf
        refine spNe (fun h3 => ?_) (fun h3 => ?_) <;> conv => whnf
        · refine ⟨_, _, group1_c c u hd l hf i k hi' (by omega), ?_⟩
          conv => whnf
          refine ⟨fun h4 => ?_, fun h4 => ?_⟩ <;> conv => whnf
          · refine ⟨by omega, _, r2_get hq, ?_⟩
            conv => whnf
            refine ⟨row5 _ _ _ _ _, ⟨by rw [rB_len]; simp; omega⟩, ?_⟩
            conv => whnf
            refine gv (by first | omega | (simp only []; omega) | (simp; omega)) (by first | omega | (simp only []; omega) | (simp; omega)) ?_
            conv => whnf
            refine ⟨⟨hk', hk'⟩, [(50, some 62)], ?_⟩
            repeat' (first | exact trivial | rfl | refine And.intro ?_ ?_)
            all_goals (conv => whnf)
            repeat' (first | exact trivial | rfl | refine And.intro ?_ ?_)
            simp only [prB, prT, e3, e4, h2, h3, h4, ne_eq, not_false_eq_true, decide_true, Bool.and_self, if_true, ← List.append_assoc]
            exact (rB_app _ _ _ _ _ _).symm
          · refine gv (by first | omega | (simp only []; omega) | (simp; omega)) (by first | omega | (simp only []; omega) | (simp; omega)) ?_
            conv => whnf
            refine ⟨⟨hk', hk'⟩, [(50, some 50)], ?_⟩
            repeat' (first | exact trivial | rfl | refine And.intro ?_ ?_)
            all_goals (conv => whnf)
            repeat' (first | exact trivial | rfl | refine And.intro ?_ ?_)
            simp [prB, prT, h4]
        · refine gv (by first | omega | (simp only []; omega) | (simp; omega)) (by first | omega | (simp only []; omega) | (simp; omega)) ?_
          conv => whnf
          refine ⟨⟨hk', hk'⟩, [(50, some 50)], ?_⟩
          repeat' (first | exact trivial | rfl | refine And.intro ?_ ?_)
          all_goals (conv => whnf)
          repeat' (first | exact trivial | rfl | refine And.intro ?_ ?_)
          simp [prB, prT, e4, h3]
      · refine gv (by first | omega | (simp only []; omega) | (simp; omega)) (by first | omega | (simp only []; omega) | (simp; omega)) ?_
        conv => whnf
        refine ⟨⟨hk', hk'⟩, [(50, some 50)], ?_⟩
        repeat' (first | exact trivial | rfl | refine And.intro ?_ ?_)
        all_goals (conv => whnf)
        repeat' (first | exact trivial | rfl | refine And.intro ?_ ?_)
        simp [prB, prT, e3, h2]
    · have hk' : k = i := by have : ¬ (k : Int) < i := h1; omega
      subst hk'
      refine gv (by first | omega | (simp only []; omega) | (simp; omega)) (by first | omega | (simp only []; omega) | (simp; omega)) ?_
      conv => whnf
      refine ⟨⟨hi', hi'⟩, [(50, some 50)], ?_⟩
      repeat' (first | exact trivial | rfl | refine And.intro ?_ ?_)
      all_goals (conv => whnf)
      repeat' (first | exact trivial | rfl | refine And.intro ?_ ?_)
  · refine ⟨[(0, some 0), (1, some 1), (2, some 50)], rfl, rfl, ⟨⟨⟨rfl, rfl⟩, rfl, rfl, rfl, rfl, rfl, rfl, ⟨rfl, rfl⟩, ⟨rfl, rfl⟩, ⟨rfl, rfl⟩, ⟨rfl, rfl⟩, rfl, trivial⟩, ⟨rfl, trivial⟩, ⟨rfl, ?_⟩, trivial⟩⟩
    have hi' : i = l.length := by omega
    rw [hi']

theorem group_c (c : Cfg) (u : Int) (hd : Bool) (l : List (Int × Int)) (hf : Fit c l) : CallsH Tryz.prog 95 [probV c u hd, plV l] [] (.c (.gs 0)) [.arr 66 (rB (prL 6 (badG c l) l l.length))] := by
  refine callsR_of tab mixed Tryz.func95 rfl (by decide) rfl rfl ?_
  conv => whnf
  refine ⟨_, _, pairsG_c c u hd l hf, ?_⟩
  conv => whnf
  exact ⟨[(0, some 2)], rfl, rfl, ⟨⟨rfl, rfl⟩, trivial⟩⟩

set_option maxHeartbeats 2000000 in
theorem pairsN_c (c : Cfg) (u : Int) (hd : Bool) (l : List (Int × Int)) (hf : Fit c l) :
    CallsH Tryz.prog 132 [I 7, plV l, .fn 135 [.ptr 0 0 0, .ptr 1 0 0]] [.box (probC c u hd), .box [.d (.sl (r2 l))]] (.c (.gs 2)) [.box (probC c u hd), .box [.d (.sl (r2 l))], .arr 66 (rB (prL 7 (badN c l) l l.length))] := by
  have hg := good_of hf.val
  have hT := hg.tenants
  have hlen := hf.len
  have hp := r2_len l
  refine callsR_of tab mixed Tryz.func132 rfl (by decide) rfl rfl ?_
  conv => whnf
  refine loopN tab mixed (fun i => i ≤ l.length) l.length (fun i => [(12, I i), (7, .c (.gs 50))]) (fun i => [(50, .arr 66 (rB (prL 7 (badN c l) l i)))]) 51 [(50, none)] (by omega) ?_
  conv => whnf
  refine ⟨?_, fun i hi => ?_⟩
  · repeat' (first | exact trivial | rfl | refine And.intro ?_ ?_)
    all_goals (conv => whnf)
    repeat' (first | exact trivial | rfl | refine And.intro ?_ ?_)
  conv => whnf
  refine spD (fun h => ?_) (fun h => ?_) <;> conv => whnf
  · have hi' : i < l.length := by omega
    obtain ⟨p, hx⟩ := get_of hi'
    have e3 : homeAt l i = p.1 := by simp [homeAt, hx]
    have hL := prL_len 7 (badN c l) l i (by omega)
    refine loopN tab mixed (fun k => k ≤ i) i (fun k => [(16, I k), (7, .c (.gs 50))]) (fun k => [(50, .arr 66 (rB (prL 7 (badN c l) l i ++ prB 7 (badN c l) l i k)))]) 61 [(50, some 50)] (by omega) ?_
    conv => whnf
    refine ⟨?_, fun k hk => ?_⟩
    · repeat' (first | exact trivial | rfl | refine And.intro ?_ ?_)
      all_goals (conv => whnf)
      repeat' (first | exact trivial | rfl | refine And.intro ?_ ?_)
      simp [prB]
    conv => whnf
    refine spD (fun h1 => ?_) (fun h1 => ?_) <;> conv => whnf
    · have hk' : k < i := by have : (k : Int) < i := h1; omega
      obtain ⟨q, hq⟩ := get_of (l := l) (i := k) (by omega)
      have e4 : homeAt l k = q.1 := by simp [homeAt, hq]
      have hB := prB_len 7 (badN c l) l i k
      refine ⟨by omega, _, r2_get hx, ?_⟩
      conv => whnf
      refine spNe (fun h2 => ?_) (fun h2 => ?_) <;> conv => whnf
      · refine ⟨by omega, _, r2_get hq, ?_⟩
        conv => whnf
        refine spNe (fun h3 => ?_) (fun h3 => ?_) <;> conv => whnf
        · refine ⟨_, _, noisy1_c c u hd l hf i k hi' (by omega), ?_⟩
          conv => whnf
          refine ⟨fun h4 => ?_, fun h4 => ?_⟩ <;> conv => whnf
          · refine ⟨by omega, _, r2_get hq, ?_⟩
            conv => whnf
            refine ⟨row5 _ _ _ _ _, ⟨by rw [rB_len]; simp; omega⟩, ?_⟩
            conv => whnf
            refine gv (by first | omega | (simp only []; omega) | (simp; omega)) (by first | omega | (simp only []; omega) | (simp; omega)) ?_
            conv => whnf
            refine ⟨⟨hk', hk'⟩, [(50, some 62)], ?_⟩
            repeat' (first | exact trivial | rfl | refine And.intro ?_ ?_)
            all_goals (conv => whnf)
            repeat' (first | exact trivial | rfl | refine And.intro ?_ ?_)
            simp only [prB, prT, e3, e4, h2, h3, h4, ne_eq, not_false_eq_true, decide_true, Bool.and_self, if_true, ← List.append_assoc]
            exact (rB_app _ _ _ _ _ _).symm
          · refine gv (by first | omega | (simp only []; omega) | (simp; omega)) (by first | omega | (simp only []; omega) | (simp; omega)) ?_
            conv => whnf
            refine ⟨⟨hk', hk'⟩, [(50, some 50)], ?_⟩
            repeat' (first | exact trivial | rfl | refine And.intro ?_ ?_)
            all_goals (conv => whnf)
            repeat' (first | exact trivial | rfl | refine And.intro ?_ ?_)
            simp [prB, prT, h4]
        · refine gv (by first | omega | (simp only []; omega) | (simp; omega)) (by first | omega | (simp only []; omega) | (simp; omega)) ?_
          conv => whnf
          refine ⟨⟨hk', hk'⟩, [(50, some 50)], ?_⟩
          repeat' (first | exact trivial | rfl | refine And.intro ?_ ?_)
          all_goals (conv => whnf)
          repeat' (first | exact trivial | rfl | refine And.intro ?_ ?_)
          simp [prB, prT, e4, h3]
      · refine gv (by first | omega | (simp only []; omega) | (simp; omega)) (by first | omega | (simp only []; omega) | (simp; omega)) ?_
        conv => whnf
        refine ⟨⟨hk', hk'⟩, [(50, some 50)], ?_⟩
        repeat' (first | exact trivial | rfl | refine And.intro ?_ ?_)
        all_goals (conv => whnf)
        repeat' (first | exact trivial | rfl | refine And.intro ?_ ?_)
        simp [prB, prT, e3, h2]
    · have hk' : k = i := by have : ¬ (k : Int) < i := h1; omega
      subst hk'
      refine gv (by first | omega | (simp only []; omega) | (simp; omega)) (by first | omega | (simp only []; omega) | (simp; omega)) ?_
      conv => whnf
      refine ⟨⟨hi', hi'⟩, [(50, some 50)], ?_⟩
      repeat' (first | exact trivial | rfl | refine And.intro ?_ ?_)
      all_goals (conv => whnf)
      repeat' (first | exact trivial | rfl | refine And.intro ?_ ?_)
  · refine ⟨[(0, some 0), (1, some 1), (2, some 50)], rfl, rfl, ⟨⟨⟨rfl, rfl⟩, rfl, rfl, rfl, rfl, rfl, rfl, ⟨rfl, rfl⟩, ⟨rfl, rfl⟩, ⟨rfl, rfl⟩, ⟨rfl, rfl⟩, rfl, trivial⟩, ⟨rfl, trivial⟩, ⟨rfl, ?_⟩, trivial⟩⟩
    have hi' : i = l.length := by omega
    rw [hi']

theorem noisy_c (c : Cfg) (u : Int) (hd : Bool) (l : List (Int × Int)) (hf : Fit c l) : CallsH Tryz.prog 96 [probV c u hd, plV l] [] (.c (.gs 0)) [.arr 66 (rB (prL 7 (badN c l) l l.length))] := by
  refine callsR_of tab mixed Tryz.func96 rfl (by decide) rfl rfl ?_
  conv => whnf
  refine ⟨_, _, pairsN_c c u hd l hf, ?_⟩
  conv => whnf
  exact ⟨[(0, some 2)], rfl, rfl, ⟨⟨rfl, rfl⟩, trivial⟩⟩

/-! cells that are booked beyond their capacity -/

def cpT (c : Cfg) (bl : List Int) (k : Nat) : List Brk := if capOf c k < (bl[k]?).getD 0 then [⟨8, -1, -1, k, -1⟩] else []

def cpL (c : Cfg) (bl : List Int) : Nat → List Brk
  | 0 => []
  | k + 1 => cpL c bl k ++ cpT c bl k

theorem cpL_len (c : Cfg) (bl : List Int) : ∀ k, (cpL c bl k).length ≤ k
  | 0 => by simp [cpL]
  | k + 1 => by
    have := cpL_len c bl k
    have : (cpT c bl k).length ≤ 1 := by unfold cpT; split <;> simp
    simp only [cpL, List.length_append]; omega

theorem rulesCapacity1_c (c : Cfg) (u : Int) (hd : Bool) (bl : List Int) (hg : Good c) (hb : bl.length = c.cells.length) : CallsH Tryz.prog 97 [probV c u hd, .c (.d (.sl (r1 bl)))] [] (.c (.gs 0)) [.arr 66 (rB (cpL c bl c.cells.length))] := by
  have hC := hg.cells
  have hcl := r2_len c.cells
  have hb1 := r1_len bl
  refine callsR_of tab mixed Tryz.func97 rfl (by decide) rfl rfl ?_
  conv => whnf
  refine loopN tab mixed (fun i => i ≤ c.cells.length) c.cells.length (fun i => [(12, I i), (5, .c (.gs 50))]) (fun i => [(50, .arr 66 (rB (cpL c bl i)))]) 51 [(50, none)] (by omega) ?_
  conv => whnf
  refine ⟨?_, fun i hi => ?_⟩
  · repeat' (first | exact trivial | rfl | refine And.intro ?_ ?_)
    all_goals (conv => whnf)
    repeat' (first | exact trivial | rfl | refine And.intro ?_ ?_)
  conv => whnf
  refine spD (fun h => ?_) (fun h => ?_) <;> conv => whnf
  · have hi' : i < c.cells.length := by omega
    obtain ⟨x, hx⟩ := get_of hi'
    obtain ⟨y, hy⟩ := get_of (l := bl) (i := i) (by omega)
    have hcap : capOf c i = x.2 := by simp [capOf, hx]
    have hL := cpL_len c bl i
    refine ⟨by omega, _, r2_get hx, ?_⟩
    conv => whnf
    refine ⟨by kernel_rfl, ?_⟩
    conv => whnf
    refine ⟨by omega, _, r1_get hy, ?_⟩
    conv => whnf
    refine spD (fun h1 => ?_) (fun h1 => ?_) <;> conv => whnf
    · refine ⟨row5 _ _ _ _ _, ⟨by rw [rB_len]; simp; omega⟩, ?_⟩
      conv => whnf
      refine gv (by first | omega | (simp only []; omega) | (simp; omega)) (by first | omega | (simp only []; omega) | (simp; omega)) ?_
      conv => whnf
      refine ⟨⟨hi', hi'⟩, [(50, some 53)], ?_⟩
      repeat' (first | exact trivial | rfl | refine And.intro ?_ ?_)
      all_goals (conv => whnf)
      repeat' (first | exact trivial | rfl | refine And.intro ?_ ?_)
      simp only [cpL, cpT, hcap, hy, Option.getD_some, h1, if_true]
      exact (rB_app _ _ _ _ _ _).symm
    · refine gv (by first | omega | (simp only []; omega) | (simp; omega)) (by first | omega | (simp only []; omega) | (simp; omega)) ?_
      conv => whnf
      refine ⟨⟨hi', hi'⟩, [(50, some 50)], ?_⟩
      repeat' (first | exact trivial | rfl | refine And.intro ?_ ?_)
      all_goals (conv => whnf)
      repeat' (first | exact trivial | rfl | refine And.intro ?_ ?_)
      simp [cpL, cpT, hcap, hy, h1]
  · refine ⟨[(0, some 50)], rfl, rfl, ⟨rfl, ?_⟩, trivial⟩
    have hi' : i = c.cells.length := by omega
    rw [hi']

/-! what a lost region would bring -/

def exC (c : Cfg) (r : Int) (p : Int × Int) : Bool := decide (p.1 ≠ -1) && (decide (p.2 ≠ -1) && (decide (regionOf c p.1 = r) && decide (regionOf c p.2 ≠ r)))

def ex (c : Cfg) (l : List (Int × Int)) (r : Int) : Nat → List Int
  | 0 => List.replicate c.cells.length 0
  | k + 1 => match l[k]? with
    | some p => if exC c r p then addAt (ex c l r k) p.2 (loadOf c k - shadowOf c k) else ex c l r k
    | none => ex c l r k

def extra (c : Cfg) (l : List (Int × Int)) (r : Int) : List Int := ex c l r l.length

theorem ex_len (c : Cfg) (l : List (Int × Int)) (r : Int) : ∀ k, (ex c l r k).length = c.cells.length
  | 0 => by simp [ex]
  | k + 1 => by
    simp only [ex]
    split
    · split
      · rw [addAt_len, ex_len c l r k]
      · exact ex_len c l r k
    · exact ex_len c l r k

theorem ex_rng {c : Cfg} (hg : Good c) (l : List (Int × Int)) (r : Int) : ∀ k : Nat, ∀ x ∈ ex c l r k, 0 ≤ x ∧ x ≤ 65536 * (k : Int)
  | 0, x, hx => by simp [ex] at hx; omega
  | k + 1, x, hx => by
    have ih := ex_rng hg l r k
    have h1 := hg.load k
    have h2 := hg.shadow k
    simp only [ex] at hx
    split at hx
    · split at hx
      · rename_i p _ _
        have := addAt_rng (i := p.2) ih (n := loadOf c k - shadowOf c k) (a' := 0) (b' := 65536) (by omega) (by omega) (by omega) x hx
        omega
      · have := ih x hx; omega
    · have := ih x hx; omega

theorem extra_c (c : Cfg) (u : Int) (hd : Bool) (l : List (Int × Int)) (r : Int) (hf : Fit c l) : CallsH Tryz.prog 136 [probV c u hd, plV l, I r] [] (.c (.gs 0)) [.arr 3 (r1 (extra c l r))] := by
  have hg := good_of hf.val
  have hlt := rT_len c.tenants
  have hp := r2_len l
  have hcl := r2_len c.cells
  have hC := hg.cells
  have hT := hg.tenants
  have hlen := hf.len
  have hla := hg.laid
  refine callsR_of tab mixed Tryz.func136 rfl (by decide) rfl rfl ?_
  conv => whnf
  refine ⟨_, _, fit_c c u hd l, ?_⟩
  conv => whnf
  refine spN (fun h => (h hf).elim) (fun _ => ?_) <;> conv => whnf
  refine ⟨by omega, by omega, ⟨by omega⟩, ?_⟩
  conv => whnf
  refine loopN tab mixed (fun i => i ≤ l.length) l.length (fun i => [(21, I i)]) (fun i => [(1, .arr 3 (r1 (ex c l r i)))]) 51 [(1, some 1)] (by omega) ?_
  conv => whnf
  refine ⟨?_, fun i hi => ?_⟩
  · repeat' (first | exact trivial | rfl | refine And.intro ?_ ?_)
    all_goals (conv => whnf)
    repeat' (first | exact trivial | rfl | refine And.intro ?_ ?_)
    rw [ex, hcl]; simp [r1]
  conv => whnf
  refine spD (fun h2 => ?_) (fun h2 => ?_) <;> conv => whnf
  · have hi' : i < l.length := by omega
    obtain ⟨p, hx⟩ := get_of hi'
    obtain ⟨t, ht⟩ := get_of (l := c.tenants) (i := i) (by omega)
    have hrng := hf.rng p (List.mem_of_getElem? hx)
    have hbl := ex_len c l r i
    have hb1 := r1_len (ex c l r i)
    have hbr := ex_rng hg l r i
    have hL := hg.load i
    have hS := hg.shadow i
    have hload : loadOf c i = t.load := by simp [loadOf, ht]
    have hshad : shadowOf c i = t.shadow := by simp [shadowOf, ht]
    have hno : exC c r p = false → ex c l r (i + 1) = ex c l r i := fun h => by simp [ex, hx, h]
    refine ⟨by omega, _, r2_get hx, ?_⟩
    conv => whnf
    refine spE (fun h3 => ?_) (fun h3 => ?_) <;> conv => whnf
    · refine gv (by first | omega | (simp only []; omega) | (simp; omega)) (by first | omega | (simp only []; omega) | (simp; omega)) ?_
      conv => whnf
      refine ⟨⟨hi', hi'⟩, [(1, some 1)], ?_⟩
      repeat' (first | exact trivial | rfl | refine And.intro ?_ ?_)
      all_goals (conv => whnf)
      repeat' (first | exact trivial | rfl | refine And.intro ?_ ?_)
      rw [hno (by simp [exC, h3])]
    refine spE (fun h4 => ?_) (fun h4 => ?_) <;> conv => whnf
    · refine gv (by first | omega | (simp only []; omega) | (simp; omega)) (by first | omega | (simp only []; omega) | (simp; omega)) ?_
      conv => whnf
      refine ⟨⟨hi', hi'⟩, [(1, some 1)], ?_⟩
      repeat' (first | exact trivial | rfl | refine And.intro ?_ ?_)
      all_goals (conv => whnf)
      repeat' (first | exact trivial | rfl | refine And.intro ?_ ?_)
      rw [hno (by simp [exC, h4])]
    refine ⟨_, _, regionOf_c c p.1 hla.cells hla.zones, ?_⟩
    conv => whnf
    refine spE (fun h5 => ?_) (fun h5 => ?_) <;> conv => whnf
    · refine ⟨_, _, regionOf_c c p.2 hla.cells hla.zones, ?_⟩
      conv => whnf
      refine spNe (fun h6 => ?_) (fun h6 => ?_) <;> conv => whnf
      · obtain ⟨x, hbx⟩ := get_int (l := ex c l r i) (i := p.2) (by omega) (by omega)
        have hxr := hbr x (List.mem_of_getElem? hbx)
        have e1 : ex c l r (i + 1) = (ex c l r i).set p.2.toNat (x + (t.load - t.shadow)) := by
          have : exC c r p = true := by simp [exC, h3, h4, h5, h6]
          have h7 : ex c l r (i + 1) = addAt (ex c l r i) p.2 (t.load - t.shadow) := by simp [ex, hx, this, hload, hshad]
          rw [h7]
          exact addAt_in (by omega) (by omega) hbx
        refine ⟨by kernel_rfl, ?_⟩
        conv => whnf
        refine ⟨by omega, by omega, _, r1_get hbx, ?_⟩
        conv => whnf
        refine ⟨by omega, _, rT_get ht, ?_⟩
        conv => whnf
        refine ⟨by omega, _, rT_get ht, ?_⟩
        conv => whnf
        refine gv (by first | omega | (simp only []; omega) | (simp; omega)) (by first | omega | (simp only []; omega) | (simp; omega)) ?_
        conv => whnf
        refine gv (by first | omega | (simp only []; omega) | (simp; omega)) (by first | omega | (simp only []; omega) | (simp; omega)) ?_
        conv => whnf
        refine ⟨by omega, by omega, _, r1_get hbx, ?_⟩
        conv => whnf
        refine gv (by first | omega | (simp only []; omega) | (simp; omega)) (by first | omega | (simp only []; omega) | (simp; omega)) ?_
        conv => whnf
        refine ⟨⟨hi', hi'⟩, [(1, some 1)], ?_⟩
        repeat' (first | exact trivial | rfl | refine And.intro ?_ ?_)
        all_goals (conv => whnf)
        repeat' (first | exact trivial | rfl | refine And.intro ?_ ?_)
        rw [← r1_set, ← e1]
      · refine gv (by first | omega | (simp only []; omega) | (simp; omega)) (by first | omega | (simp only []; omega) | (simp; omega)) ?_
        conv => whnf
        refine ⟨⟨hi', hi'⟩, [(1, some 1)], ?_⟩
        repeat' (first | exact trivial | rfl | refine And.intro ?_ ?_)
        all_goals (conv => whnf)
        repeat' (first | exact trivial | rfl | refine And.intro ?_ ?_)
        rw [hno (by simp [exC, h6])]
    · refine gv (by first | omega | (simp only []; omega) | (simp; omega)) (by first | omega | (simp only []; omega) | (simp; omega)) ?_
      conv => whnf
      refine ⟨⟨hi', hi'⟩, [(1, some 1)], ?_⟩
      repeat' (first | exact trivial | rfl | refine And.intro ?_ ?_)
      all_goals (conv => whnf)
      repeat' (first | exact trivial | rfl | refine And.intro ?_ ?_)
      rw [hno (by simp [exC, h5])]
  · refine ⟨[(0, some 1)], rfl, rfl, ⟨rfl, ?_⟩, trivial⟩
    have hi' : i = l.length := by omega
    simp [extra, hi']

/-! headroom -/

def hrT (c : Cfg) (bl xl : List Int) (r : Nat) (k : Nat) : List Brk := if decide (regionOf c k ≠ (r : Int)) && decide (capOf c k < (bl[k]?).getD 0 + (xl[k]?).getD 0) then [⟨9, -1, -1, k, r⟩] else []

def hrB (c : Cfg) (bl xl : List Int) (r : Nat) : Nat → List Brk
  | 0 => []
  | k + 1 => hrB c bl xl r k ++ hrT c bl xl r k

def hrL (c : Cfg) (bl : List Int) (l : List (Int × Int)) : Nat → List Brk
  | 0 => []
  | r + 1 => hrL c bl l r ++ hrB c bl (extra c l r) r c.cells.length

theorem hrB_len (c : Cfg) (bl xl : List Int) (r : Nat) : ∀ k, (hrB c bl xl r k).length ≤ k
  | 0 => by simp [hrB]
  | k + 1 => by
    have := hrB_len c bl xl r k
    have : (hrT c bl xl r k).length ≤ 1 := by unfold hrT; split <;> simp
    simp only [hrB, List.length_append]; omega

theorem hrL_len {c : Cfg} (hg : Good c) (bl : List Int) (l : List (Int × Int)) : ∀ r, (hrL c bl l r).length ≤ 16 * r
  | 0 => by simp [hrL]
  | r + 1 => by
    have := hrL_len hg bl l r
    have := hrB_len c bl (extra c l r) r c.cells.length
    have := hg.cells
    simp only [hrL, List.length_append]; omega

def headL (c : Cfg) (hd : Bool) (l : List (Int × Int)) : List Brk := if hd then hrL c (booked c l) l c.regions.toNat else []

set_option maxHeartbeats 2000000 in
set_option maxRecDepth 100000 in
theorem headroom_c (c : Cfg) (u : Int) (hd : Bool) (l : List (Int × Int)) (hf : Fit c l) : CallsH Tryz.prog 98 [probV c u hd, plV l, .c (.d (.sl (r1 (booked c l))))] [] (.c (.gs 0)) [.arr 66 (rB (headL c hd l))] := by
  have hg := good_of hf.val
  have hcl := r2_len c.cells
  have hC := hg.cells
  have hR := hg.regions
  have hla := hg.laid
  have hT := hg.tenants
  have hlen := hf.len
  have hbl : (booked c l).length = c.cells.length := bk_len c l l.length
  have hb1 := r1_len (booked c l)
  have hbr := booked_rng hg hf.len
  refine callsR_of tab mixed Tryz.func98 rfl (by decide) rfl rfl ?_
  conv => whnf
  cases hd with
  | false =>
    refine ⟨fun _ => ?_, fun h => (by simp at h)⟩
    conv => whnf
    exact ⟨[(0, none)], rfl, rfl, ⟨rfl, trivial⟩⟩
  | true =>
    refine ⟨fun h => (by simp at h), fun _ => ?_⟩
    conv => whnf
    refine loopN tab mixed (fun i => i ≤ c.regions.toNat) c.regions.toNat (fun i => [(18, I i), (7, .c (.gs 50))]) (fun i => [(50, .arr 66 (rB (hrL c (booked c l) l i)))]) 51 [(50, none)] (by omega) ?_
    conv => whnf
    refine ⟨?_, fun i hi => ?_⟩
    · repeat' (first | exact trivial | rfl | refine And.intro ?_ ?_)
      all_goals (conv => whnf)
      repeat' (first | exact trivial | rfl | refine And.intro ?_ ?_)
    conv => whnf
    refine spD (fun h => ?_) (fun h => ?_) <;> conv => whnf
    · have hi' : i < c.regions.toNat := by omega
      have hxl : (extra c l i).length = c.cells.length := ex_len c l i l.length
      have hx1 := r1_len (extra c l i)
      have hxr : ∀ x ∈ extra c l i, 0 ≤ x ∧ x ≤ 65536 * (l.length : Int) := ex_rng hg l i l.length
      have hL := hrL_len hg (booked c l) l i
      refine ⟨_, _, (extra_c c u true l i hf).frozen, ?_⟩
      conv => whnf
      refine loopN tab mixed (fun k => k ≤ c.cells.length) c.cells.length (fun k => [(29, I k), (7, .c (.gs 50))]) (fun k => [(50, .arr 66 (rB (hrL c (booked c l) l i ++ hrB c (booked c l) (extra c l i) i k)))]) 61 [(50, some 50)] (by omega) ?_
      conv => whnf
      refine ⟨?_, fun k hk => ?_⟩
      · repeat' (first | exact trivial | rfl | refine And.intro ?_ ?_)
        all_goals (conv => whnf)
        repeat' (first | exact trivial | rfl | refine And.intro ?_ ?_)
        simp [hrB]
      conv => whnf
      refine spD (fun h1 => ?_) (fun h1 => ?_) <;> conv => whnf
      · have hk' : k < c.cells.length := by omega
        obtain ⟨x, hx⟩ := get_of hk'
        obtain ⟨y, hy⟩ := get_of (l := booked c l) (i := k) (by omega)
        obtain ⟨z, hz⟩ := get_of (l := extra c l i) (i := k) (by omega)
        have hyr := hbr y (List.mem_of_getElem? hy)
        have hzr := hxr z (List.mem_of_getElem? hz)
        have hcap : capOf c k = x.2 := by simp [capOf, hx]
        have hB := hrB_len c (booked c l) (extra c l i) i k
        refine ⟨by omega, _, r2_get hx, ?_⟩
        conv => whnf
        refine ⟨by kernel_rfl, ?_⟩
        conv => whnf
        refine ⟨_, _, regionOf_c c k hla.cells hla.zones, ?_⟩
        conv => whnf
        refine spNe (fun h2 => ?_) (fun h2 => ?_) <;> conv => whnf
        · refine ⟨by omega, _, r1_get hy, ?_⟩
          conv => whnf
          refine ⟨by omega, _, r1_get hz, ?_⟩
          conv => whnf
          refine gv (by first | omega | (simp only []; omega) | (simp; omega)) (by first | omega | (simp only []; omega) | (simp; omega)) ?_
          conv => whnf
          refine spD (fun h3 => ?_) (fun h3 => ?_) <;> conv => whnf
          · refine ⟨row5 _ _ _ _ _, ⟨by rw [rB_len]; simp; omega⟩, ?_⟩
            conv => whnf
            refine gv (by first | omega | (simp only []; omega) | (simp; omega)) (by first | omega | (simp only []; omega) | (simp; omega)) ?_
            conv => whnf
            refine ⟨⟨hk', hk'⟩, [(50, some 63)], ?_⟩
            repeat' (first | exact trivial | rfl | refine And.intro ?_ ?_)
            all_goals (conv => whnf)
            repeat' (first | exact trivial | rfl | refine And.intro ?_ ?_)
            simp only [hrB, hrT, hcap, hy, hz, Option.getD_some, h2, h3, ne_eq, not_false_eq_true, decide_true, Bool.and_self, if_true, ← List.append_assoc]
            exact (rB_app _ _ _ _ _ _).symm
          · refine gv (by first | omega | (simp only []; omega) | (simp; omega)) (by first | omega | (simp only []; omega) | (simp; omega)) ?_
            conv => whnf
            refine ⟨⟨hk', hk'⟩, [(50, some 50)], ?_⟩
            repeat' (first | exact trivial | rfl | refine And.intro ?_ ?_)
            all_goals (conv => whnf)
            repeat' (first | exact trivial | rfl | refine And.intro ?_ ?_)
            simp [hrB, hrT, hcap, hy, hz, h3]
        · refine gv (by first | omega | (simp only []; omega) | (simp; omega)) (by first | omega | (simp only []; omega) | (simp; omega)) ?_
          conv => whnf
          refine ⟨⟨hk', hk'⟩, [(50, some 50)], ?_⟩
          repeat' (first | exact trivial | rfl | refine And.intro ?_ ?_)
          all_goals (conv => whnf)
          repeat' (first | exact trivial | rfl | refine And.intro ?_ ?_)
          simp [hrB, hrT, h2]
      · have hk' : k = c.cells.length := by omega
        subst hk'
        refine gv (by first | omega | (simp only []; omega) | (simp; omega)) (by first | omega | (simp only []; omega) | (simp; omega)) ?_
        conv => whnf
        refine ⟨⟨hi', hi'⟩, [(50, some 50)], ?_⟩
        repeat' (first | exact trivial | rfl | refine And.intro ?_ ?_)
        all_goals (conv => whnf)
        repeat' (first | exact trivial | rfl | refine And.intro ?_ ?_)
    · refine ⟨[(0, some 50)], rfl, rfl, ⟨rfl, ?_⟩, trivial⟩
      have hi' : i = c.regions.toNat := by omega
      simp [headL, hi']

end Go.Proofs.YtelnligfebjjiaaGreat
