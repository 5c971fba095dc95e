/- Contract: the law HealthZones returns true at every input. No conditions. -/
import Derived.Test.YtladepmfgbfkpaaLaw23
namespace Go.Proofs.Ytladepmfgbfkpaa
open Go Go.Cpl

def zl (f : Nat → Nat) (n : Nat) : List Int := (List.range n).map fun z => (f z : Int)

theorem zl_len (f : Nat → Nat) (n : Nat) : (zl f n).length = n := by simp [zl]

theorem zl_get {f : Nat → Nat} {n z : Nat} (h : z < n) : (zl f n)[z]? = some (f z : Int) := by simp [zl, h]

theorem zl_set {f g : Nat → Nat} {n z : Nat} {x : Int} (hx : x = (g z : Int)) (h : ∀ y, y ≠ z → g y = f y) : (zl f n).set z x = zl g n := by
  apply List.ext_getElem?
  intro j
  by_cases hj : z = j
  · subst hj
    by_cases hn : z < n
    · simp [zl, hn, hx]
    · simp [zl, hn]
  · simp only [List.getElem?_set, hj, if_false]
    by_cases hn : j < n
    · rw [zl_get hn, zl_get hn, h j (Ne.symm hj)]
    · simp [zl, hn]

theorem zl_zero (n : Nat) : List.replicate n [i64 0] = r1 (zl (fun _ => 0) n) := by
  apply List.ext_getElem?
  intro j
  by_cases hn : j < n
  · simp [r1, zl, hn]
  · simp [r1, zl, hn]

theorem upto_cnt (p : Nat → Bool) (q : Int → Bool) : ∀ n, cnt q (upto p n) = cntTo (fun j => p j && q j) n
  | 0 => rfl
  | n + 1 => by
    have ih := upto_cnt p q n
    rw [cntTo, upto]
    cases hp : p n with
    | true => simp only [if_true, Bool.true_and]; rw [cnt_app, ih]
    | false => simpa using ih

theorem upto_length (p : Nat → Bool) : ∀ n, (upto p n).length = cntTo p n
  | 0 => rfl
  | n + 1 => by
    have ih := upto_length p n
    rw [cntTo, upto]
    cases hp : p n with
    | true => simp [ih]
    | false => simpa using ih

theorem cntTo_mono {p q : Nat → Bool} : ∀ {n : Nat}, (∀ i, p i = true → q i = true) → cntTo p n ≤ cntTo q n
  | 0, _ => Nat.le_refl _
  | n + 1, h => by
    have ih := cntTo_mono (n := n) h
    rw [cntTo, cntTo]
    cases hp : p n with
    | true => rw [h n hp]; simp; omega
    | false => simp; omega

def inZ (c : Cfg) (z j : Nat) : Bool := decide (zoneOf c j = z)

def badZ (c : Cfg) (ver : List Int) (z j : Nat) : Bool := decide (zoneOf c j = z) && decide (verdAt ver j = 2)

theorem inZone_cnt (c : Cfg) (z : Nat) : (inZone c z).length = cntTo (inZ c z) c.cells.length := upto_length _ _

theorem badIn_cnt (c : Cfg) (ver : List Int) (z : Nat) : badIn ver (inZone c z) = cntTo (badZ c ver z) c.cells.length := upto_cnt _ _ _

theorem zone_two {c : Cfg} {ver : List Int} {z : Nat} : zoneV c ver z = 2 ↔ (cntTo (inZ c z) c.cells.length : Int) < 2 * (cntTo (badZ c ver z) c.cells.length : Int) := by
  have hle : cntTo (badZ c ver z) c.cells.length ≤ cntTo (inZ c z) c.cells.length := cntTo_mono fun i h => by
    simp only [badZ, Bool.and_eq_true] at h
    exact h.1
  unfold zoneV verdictOf
  rw [inZone_cnt, badIn_cnt]
  by_cases h0 : (cntTo (inZ c z) c.cells.length : Int) = 0
  · rw [if_pos h0]; omega
  · rw [if_neg h0]; split <;> omega

theorem zone_three {c : Cfg} {ver : List Int} {z : Nat} : zoneV c ver z = 3 ↔ (cntTo (inZ c z) c.cells.length : Int) = 0 := by
  have := zoneV_three (c := c) (ver := ver) (z := (z : Int))
  rw [inZone_cnt] at this
  rw [this]
  omega

theorem region_le (c : Cfg) (ver : List Int) (g : Int) : cntTo (badReg c ver g) c.zones.length ≤ cntTo (inReg c g) c.zones.length := cntTo_mono fun i h => by
  simp only [badReg, inReg, decide_eq_true_eq] at *
  exact ⟨h.1, h.2.1⟩

theorem region_two {c : Cfg} {ver : List Int} {g : Int} : regionV c ver g = 2 ↔ (cntTo (inReg c g) c.zones.length : Int) < 2 * (cntTo (badReg c ver g) c.zones.length : Int) := by
  have hle := region_le c ver g
  unfold regionV verdictOf
  by_cases h0 : (cntTo (inReg c g) c.zones.length : Int) = 0
  · rw [if_pos h0]; omega
  · rw [if_neg h0]; split <;> omega

theorem region_three {c : Cfg} {ver : List Int} {g : Int} : regionV c ver g = 3 ↔ (cntTo (inReg c g) c.zones.length : Int) = 0 := by
  unfold regionV verdictOf
  by_cases h0 : (cntTo (inReg c g) c.zones.length : Int) = 0
  · rw [if_pos h0]; omega
  · rw [if_neg h0]; split <;> omega

theorem spBB {x y : Bool} {A C : Prop} (h : x = y) (k : C) : ((!(x == y)) = true → A) ∧ ((!(x == y)) = false → C) := ⟨fun h' => by subst h; simp at h', fun _ => k⟩

theorem dec_iff {p q : Prop} [Decidable p] [Decidable q] (h : p ↔ q) : decide p = decide q := by
  by_cases hp : p
  · rw [decide_eq_true hp, decide_eq_true (h.1 hp)]
  · rw [decide_eq_false hp, decide_eq_false (fun hq => hp (h.2 hq))]

theorem beq_dec (a b : Int) : (a == b) = decide (a = b) := by
  by_cases h : a = b
  · simp [h]
  · simp [h]

set_option maxHeartbeats 4000000 in
set_option maxRecDepth 100000 in
theorem healthZones_c (l : List Int) (a b : Int) (steps : List (Int × Int × Int × Int × Bool)) : CallsH Try.prog 8 [.c (.d (.sl (r1 l))), polV a b, .c (.d (.sl (rS steps)))] [] (B true) [] := by
  obtain ⟨c, hm, hc⟩ := config_c l
  have hS := rS_len steps
  have hobs := hm.observers
  have hval := hm.valid5
  have hn : valid5 c = 0 ∧ polOk (a % 12) (b % 8) := ⟨hval, pol_ok a b⟩
  have hw := new_ok hn (by omega)
  have hcl := hm.cells
  have hzl := hm.zones
  have hrg := hm.regions
  have hrz := r1_len c.zones
  have hrc := r2_len c.cells
  have hL := hm.laid
  refine callsR_of tab mixed Try.func8 rfl (by decide) rfl rfl ?_
  conv => whnf
  refine ⟨_, _, light_c l, ?_⟩
  conv => whnf
  refine spN (fun h1 => ?_) (fun h1 => ?_) <;> conv => whnf
  · refine ⟨_, _, awake23_c, ?_⟩
    conv => whnf
    exact ⟨[], rfl, rfl, trivial⟩
  refine spD (fun h2 => ?_) (fun h2 => ?_) <;> conv => whnf
  · refine ⟨_, _, awake23_c, ?_⟩
    conv => whnf
    exact ⟨[], rfl, rfl, trivial⟩
  refine ⟨_, _, hc, ?_⟩
  conv => whnf
  refine ⟨by kernel_rfl, ?_⟩
  conv => whnf
  refine ⟨_, _, pol_c a b, ?_⟩
  conv => whnf
  refine ⟨_, _, newOk_c c _ _ hn, ?_⟩
  conv => whnf
  refine ⟨by kernel_rfl, ?_⟩
  conv => whnf
  refine ⟨_, _, pol_c a b, ?_⟩
  conv => whnf
  refine ⟨_, _, newROk_c c _ _ hn, ?_⟩
  conv => whnf
  refine ⟨fun h => by simp at h, fun _ => ?_⟩
  conv => whnf
  refine spSame rfl ?_
  conv => whnf
  refine loopR tab mixed (ι := { x : Nat × W23 × W23 // x.1 ≤ steps.length ∧ x.2.1.reps.length ≤ x.1 ∧ Rel c x.2.1 x.2.2 }) (fun x => [(12, I x.1.1)])
    (fun x => [(2, wBox c x.1.2.1 3 4 5), (6, rBox c x.1.2.2 7 8 9), (3, .arr 3 (r1 x.1.2.1.ver)), (4, .arr 3 (r1 x.1.2.1.dou)), (5, wM x.1.2.1), (7, .arr 45 (rR x.1.2.2.reps)), (8, .arr 3 (r1 x.1.2.2.ver)), (9, .arr 3 (r1 x.1.2.2.dou))])
    51 (fun x => steps.length - x.1.1) ⟨(0, w0 c (a % 12) (b % 8), w0 c (a % 12) (b % 8)), by omega, by simp, rel_new hw⟩ [(2, some 2), (6, some 6), (3, some 3), (4, some 4), (5, some 5), (7, some 7), (8, some 8), (9, some 9)] ?_
  conv => whnf
  refine ⟨?_, ?_⟩
  · repeat' (first | exact trivial | rfl | refine And.intro ?_ ?_)
    all_goals (conv => whnf)
    repeat' (first | exact trivial | rfl | refine And.intro ?_ ?_)
  rintro ⟨⟨i, s, s'⟩, hi, hle, hrel⟩
  dsimp only at hi hle hrel ⊢
  conv => whnf
  refine spD (fun h4 => ?_) (fun h4 => ?_) <;> conv => whnf
  · have hi' : i < steps.length := by omega
    obtain ⟨⟨which, o, ce, ti, bad⟩, hx⟩ := get_of hi'
    obtain ⟨s2, s2', hrel2, hle2, hcall⟩ := both_c c s s' which ⟨o, ce, ti, bad⟩ hrel (by omega)
    refine ⟨by omega, _, rS_get hx, ?_⟩
    conv => whnf
    refine ⟨_, _, hcall, ?_⟩
    conv => whnf
    refine gv (by first | omega | (simp only []; omega) | (simp; omega)) (by first | omega | (simp only []; omega) | (simp; omega)) ?_
    conv => whnf
    refine ⟨⟨(i + 1, s2, s2'), hi', by show s2.reps.length ≤ i + 1; omega, hrel2⟩, [(2, some 2), (6, some 6), (3, some 3), (4, some 4), (5, some 5), (7, some 51), (8, some 8), (9, some 9)], ?_, by show steps.length - (i + 1) < steps.length - i; omega⟩
    repeat' (first | exact trivial | rfl | refine And.intro ?_ ?_)
    all_goals (conv => whnf)
    repeat' (first | exact trivial | rfl | refine And.intro ?_ ?_)
  refine ⟨by omega, by omega, ⟨by omega⟩, ?_⟩
  conv => whnf
  refine ⟨by omega, by omega, ⟨by omega⟩, ?_⟩
  conv => whnf
  rw [show (((r1 c.zones).length : Nat) : Int).toNat = c.zones.length by omega, zl_zero]
  refine loopN tab mixed (fun i => i ≤ c.cells.length) c.cells.length (fun i => [(15, I i)]) (fun i => [(51, .arr 3 (r1 (zl (fun z => cntTo (badZ c s.ver z) i) c.zones.length))), (52, .arr 3 (r1 (zl (fun z => cntTo (inZ c z) i) c.zones.length)))]) 53 [(51, some 51), (52, some 52)] (by omega) ?_
  conv => whnf
  refine ⟨?_, fun i hi => ?_⟩
  · repeat' (first | exact trivial | rfl | refine And.intro ?_ ?_)
    all_goals (conv => whnf)
    repeat' (first | exact trivial | rfl | refine And.intro ?_ ?_)
  conv => whnf
  refine spD (fun h5 => ?_) (fun h5 => ?_) <;> conv => whnf
  · have hi' : i < c.cells.length := by omega
    obtain ⟨x, hx⟩ := get_of hi'
    have hz := zoneOf_nat hx
    have hzr := hL.cell x (List.mem_of_getElem? hx)
    have hn1 := cntTo_le (inZ c x.1.toNat) i
    have hn2 := cntTo_le (badZ c s.ver x.1.toNat) i
    have hl1 := r1_len (zl (fun z => cntTo (inZ c z) i) c.zones.length)
    have hl2 := r1_len (zl (fun z => cntTo (badZ c s.ver z) i) c.zones.length)
    rw [zl_len] at hl1 hl2
    have g1 := r1_get (zl_get (f := fun z => cntTo (inZ c z) i) (n := c.zones.length) (z := x.1.toNat) (by omega))
    have g2 := r1_get (zl_get (f := fun z => cntTo (badZ c s.ver z) i) (n := c.zones.length) (z := x.1.toNat) (by omega))
    have e1 : inZ c x.1.toNat i = true := by simp only [inZ, decide_eq_true_eq]; omega
    have e2 : ∀ y, y ≠ x.1.toNat → inZ c y i = false := fun y hy => by simp only [inZ, decide_eq_false_iff_not]; omega
    have s1 : (r1 (zl (fun z => cntTo (inZ c z) i) c.zones.length)).set x.1.toNat [i64 ((cntTo (inZ c x.1.toNat) i : Int) + 1)] = r1 (zl (fun z => cntTo (inZ c z) (i + 1)) c.zones.length) := by
      rw [r1_set']
      congr 1
      refine zl_set ?_ fun y hy => ?_
      · simp only [cntTo, e1, if_true]; omega
      · simp [cntTo, e2 y hy]
    refine ⟨by omega, _, r2_get hx, ?_⟩
    conv => whnf
    refine ⟨by omega, by omega, _, g1, ?_⟩
    conv => whnf
    refine gv (by first | omega | (simp only []; omega) | (simp; omega)) (by first | omega | (simp only []; omega) | (simp; omega)) ?_
    conv => whnf
    refine ⟨by omega, by omega, _, g1, ?_⟩
    conv => whnf
    rw [s1]
    refine ⟨_, _, cellW_c' c s i hrel.ok, ?_⟩
    conv => whnf
    refine spE (fun h6 => ?_) (fun h6 => ?_) <;> conv => whnf
    · have e3 : badZ c s.ver x.1.toNat i = true := by simp only [badZ, Bool.and_eq_true, decide_eq_true_eq]; omega
      have e4 : ∀ y, y ≠ x.1.toNat → badZ c s.ver y i = false := fun y hy => by
        have := e2 y hy
        simp only [inZ] at this
        simp [badZ, this]
      have s2 : (r1 (zl (fun z => cntTo (badZ c s.ver z) i) c.zones.length)).set x.1.toNat [i64 ((cntTo (badZ c s.ver x.1.toNat) i : Int) + 1)] = r1 (zl (fun z => cntTo (badZ c s.ver z) (i + 1)) c.zones.length) := by
        rw [r1_set']
        congr 1
        refine zl_set ?_ fun y hy => ?_
        · simp only [cntTo, e3, if_true]; omega
        · simp [cntTo, e4 y hy]
      refine ⟨by omega, _, r2_get hx, ?_⟩
      conv => whnf
      refine ⟨by omega, by omega, _, g2, ?_⟩
      conv => whnf
      refine gv (by first | omega | (simp only []; omega) | (simp; omega)) (by first | omega | (simp only []; omega) | (simp; omega)) ?_
      conv => whnf
      refine ⟨by omega, by omega, _, g2, ?_⟩
      conv => whnf
      rw [s2]
      refine gv (by first | omega | (simp only []; omega) | (simp; omega)) (by first | omega | (simp only []; omega) | (simp; omega)) ?_
      conv => whnf
      refine ⟨⟨hi', hi'⟩, [(51, some 51), (52, some 52)], ?_⟩
      repeat' (first | exact trivial | rfl | refine And.intro ?_ ?_)
      all_goals (conv => whnf)
      repeat' (first | exact trivial | rfl | refine And.intro ?_ ?_)
    · have e4 : ∀ y, badZ c s.ver y i = false := fun y => by simp [badZ, h6]
      refine gv (by first | omega | (simp only []; omega) | (simp; omega)) (by first | omega | (simp only []; omega) | (simp; omega)) ?_
      conv => whnf
      refine ⟨⟨hi', hi'⟩, [(51, some 51), (52, some 52)], ?_⟩
      repeat' (first | exact trivial | rfl | refine And.intro ?_ ?_)
      all_goals (conv => whnf)
      repeat' (first | exact trivial | rfl | refine And.intro ?_ ?_)
      congr 2
      funext z
      simp [cntTo, e4 z]
  have hi' : i = c.cells.length := by omega
  subst hi'
  have hl1 := r1_len (zl (fun z => cntTo (inZ c z) c.cells.length) c.zones.length)
  have hl2 := r1_len (zl (fun z => cntTo (badZ c s.ver z) c.cells.length) c.zones.length)
  rw [zl_len] at hl1 hl2
  refine loopN tab mixed (fun z => z ≤ c.zones.length) c.zones.length (fun z => [(16, I z)]) (fun _ => []) 53 [] (by omega) ?_
  conv => whnf
  refine ⟨?_, fun z hz => ?_⟩
  · repeat' (first | exact trivial | rfl | refine And.intro ?_ ?_)
    all_goals (conv => whnf)
    repeat' (first | exact trivial | rfl | refine And.intro ?_ ?_)
  conv => whnf
  refine spD (fun h5 => ?_) (fun h5 => ?_) <;> conv => whnf
  · have hz' : z < c.zones.length := by omega
    have g1 := r1_get (zl_get (f := fun z => cntTo (inZ c z) c.cells.length) (n := c.zones.length) hz')
    have g2 := r1_get (zl_get (f := fun z => cntTo (badZ c s.ver z) c.cells.length) (n := c.zones.length) hz')
    have hn1 := cntTo_le (inZ c z) c.cells.length
    have hn2 := cntTo_le (badZ c s.ver z) c.cells.length
    refine ⟨by kernel_rfl, ?_⟩
    conv => whnf
    refine ⟨_, _, zoneW_c c s z hrel.ok, ?_⟩
    conv => whnf
    refine ⟨by omega, by omega, _, g2, ?_⟩
    conv => whnf
    refine gv (by first | omega | (simp only []; omega) | (simp; omega)) (by first | omega | (simp only []; omega) | (simp; omega)) ?_
    conv => whnf
    refine ⟨by omega, by omega, _, g1, ?_⟩
    conv => whnf
    refine spBB (by rw [beq_dec]; exact dec_iff zone_two) ?_
    conv => whnf
    refine ⟨_, _, zoneW_c c s z hrel.ok, ?_⟩
    conv => whnf
    refine ⟨by omega, by omega, _, g1, ?_⟩
    conv => whnf
    refine spBB (by rw [beq_dec, beq_dec]; exact dec_iff zone_three) ?_
    conv => whnf
    refine gv (by first | omega | (simp only []; omega) | (simp; omega)) (by first | omega | (simp only []; omega) | (simp; omega)) ?_
    conv => whnf
    refine ⟨⟨hz', hz'⟩, [], ?_⟩
    repeat' (first | exact trivial | rfl | refine And.intro ?_ ?_)
    all_goals (conv => whnf)
    repeat' (first | exact trivial | rfl | refine And.intro ?_ ?_)
  refine loopN tab mixed (fun g => (g : Int) ≤ c.regions) c.regions.toNat (fun g => [(17, I g)]) (fun _ => []) 53 [] (by omega) ?_
  conv => whnf
  refine ⟨?_, fun g hg => ?_⟩
  · repeat' (first | exact trivial | rfl | refine And.intro ?_ ?_)
    all_goals (conv => whnf)
    repeat' (first | exact trivial | rfl | refine And.intro ?_ ?_)
  conv => whnf
  refine spD (fun h6 => ?_) (fun h6 => ?_) <;> conv => whnf
  · refine loopN tab mixed (fun z => z ≤ c.zones.length) c.zones.length (fun z => [(20, I z), (18, I (cntTo (inReg c g) z)), (19, I (cntTo (badReg c s.ver g) z))]) (fun _ => []) 53 [] (by omega) ?_
    conv => whnf
    refine ⟨?_, fun z hz => ?_⟩
    · repeat' (first | exact trivial | rfl | refine And.intro ?_ ?_)
      all_goals (conv => whnf)
      repeat' (first | exact trivial | rfl | refine And.intro ?_ ?_)
    conv => whnf
    have hle1 := cntTo_le (inReg c g) z
    have hle2 := cntTo_le (badReg c s.ver g) z
    refine spD (fun h7 => ?_) (fun h7 => ?_) <;> conv => whnf
    · have hz' : z < c.zones.length := by omega
      obtain ⟨x, hx⟩ := get_of hz'
      have g1 := r1_get (zl_get (f := fun z => cntTo (inZ c z) c.cells.length) (n := c.zones.length) hz')
      have g2 := r1_get (zl_get (f := fun z => cntTo (badZ c s.ver z) c.cells.length) (n := c.zones.length) hz')
      have hn1 := cntTo_le (inZ c z) c.cells.length
      have hn2 := cntTo_le (badZ c s.ver z) c.cells.length
      have hs1 : cntTo (inReg c g) (z + 1) = cntTo (inReg c g) z + if inReg c g z then 1 else 0 := rfl
      have hs2 : cntTo (badReg c s.ver g) (z + 1) = cntTo (badReg c s.ver g) z + if badReg c s.ver g z then 1 else 0 := rfl
      have hin : inReg c g z = decide (x = (g : Int) ∧ 0 < (cntTo (inZ c z) c.cells.length : Int)) := by
        unfold inReg
        rw [inZone_cnt, hx]
        refine dec_iff ?_
        simp only [Option.some.injEq]
        omega
      have hbd : badReg c s.ver g z = decide (x = (g : Int) ∧ 0 < (cntTo (inZ c z) c.cells.length : Int) ∧ (cntTo (inZ c z) c.cells.length : Int) < 2 * (cntTo (badZ c s.ver z) c.cells.length : Int)) := by
        unfold badReg
        rw [inZone_cnt, hx]
        refine dec_iff ?_
        rw [zone_two]
        simp only [Option.some.injEq]
        omega
      rw [hin] at hs1
      rw [hbd] at hs2
      refine ⟨by omega, _, r1_get hx, ?_⟩
      conv => whnf
      refine spE (fun h8 => ?_) (fun h8 => ?_) <;> conv => whnf
      · refine ⟨by omega, by omega, _, g1, ?_⟩
        conv => whnf
        refine spD (fun h9 => ?_) (fun h9 => ?_) <;> conv => whnf
        · rw [decide_eq_true ⟨h8, h9⟩] at hs1
          simp only [if_true] at hs1
          refine gv (by first | omega | (simp only []; omega) | (simp; omega)) (by first | omega | (simp only []; omega) | (simp; omega)) ?_
          conv => whnf
          refine ⟨by kernel_rfl, ?_⟩
          conv => whnf
          refine ⟨by omega, by omega, _, g2, ?_⟩
          conv => whnf
          refine gv (by first | omega | (simp only []; omega) | (simp; omega)) (by first | omega | (simp only []; omega) | (simp; omega)) ?_
          conv => whnf
          refine ⟨by omega, by omega, _, g1, ?_⟩
          conv => whnf
          refine spD (fun h10 => ?_) (fun h10 => ?_) <;> conv => whnf
          · rw [decide_eq_true ⟨h8, h9, h10⟩] at hs2
            simp only [if_true] at hs2
            refine gv (by first | omega | (simp only []; omega) | (simp; omega)) (by first | omega | (simp only []; omega) | (simp; omega)) ?_
            conv => whnf
            refine gv (by first | omega | (simp only []; omega) | (simp; omega)) (by first | omega | (simp only []; omega) | (simp; omega)) ?_
            conv => whnf
            refine ⟨⟨hz', hz'⟩, [], ?_⟩
            repeat' (first | exact trivial | rfl | refine And.intro ?_ ?_)
            all_goals (conv => whnf)
            repeat' (first | exact trivial | rfl | refine And.intro ?_ ?_)
            all_goals omega
          · rw [decide_eq_false (fun hh => h10 hh.2.2)] at hs2
            simp only [Bool.false_eq_true, if_false, Nat.add_zero] at hs2
            refine gv (by first | omega | (simp only []; omega) | (simp; omega)) (by first | omega | (simp only []; omega) | (simp; omega)) ?_
            conv => whnf
            refine ⟨⟨hz', hz'⟩, [], ?_⟩
            repeat' (first | exact trivial | rfl | refine And.intro ?_ ?_)
            all_goals (conv => whnf)
            repeat' (first | exact trivial | rfl | refine And.intro ?_ ?_)
            all_goals omega
        · rw [decide_eq_false (fun hh => h9 hh.2)] at hs1
          rw [decide_eq_false (fun hh => h9 hh.2.1)] at hs2
          simp only [Bool.false_eq_true, if_false, Nat.add_zero] at hs1 hs2
          refine gv (by first | omega | (simp only []; omega) | (simp; omega)) (by first | omega | (simp only []; omega) | (simp; omega)) ?_
          conv => whnf
          refine ⟨⟨hz', hz'⟩, [], ?_⟩
          repeat' (first | exact trivial | rfl | refine And.intro ?_ ?_)
          all_goals (conv => whnf)
          repeat' (first | exact trivial | rfl | refine And.intro ?_ ?_)
          all_goals omega
      · rw [decide_eq_false (fun hh => h8 hh.1)] at hs1
        rw [decide_eq_false (fun hh => h8 hh.1)] at hs2
        simp only [Bool.false_eq_true, if_false, Nat.add_zero] at hs1 hs2
        refine gv (by first | omega | (simp only []; omega) | (simp; omega)) (by first | omega | (simp only []; omega) | (simp; omega)) ?_
        conv => whnf
        refine ⟨⟨hz', hz'⟩, [], ?_⟩
        repeat' (first | exact trivial | rfl | refine And.intro ?_ ?_)
        all_goals (conv => whnf)
        repeat' (first | exact trivial | rfl | refine And.intro ?_ ?_)
        all_goals omega
    · have hz' : z = c.zones.length := by omega
      subst hz'
      refine ⟨_, _, regionW_c c s g hrel.ok, ?_⟩
      conv => whnf
      refine gv (by first | omega | (simp only []; omega) | (simp; omega)) (by first | omega | (simp only []; omega) | (simp; omega)) ?_
      conv => whnf
      refine spBB (by rw [beq_dec]; exact dec_iff region_two) ?_
      conv => whnf
      refine ⟨_, _, regionW_c c s g hrel.ok, ?_⟩
      conv => whnf
      refine spBB (by rw [beq_dec, beq_dec]; exact dec_iff region_three) ?_
      conv => whnf
      refine gv (by first | omega | (simp only []; omega) | (simp; omega)) (by first | omega | (simp only []; omega) | (simp; omega)) ?_
      conv => whnf
      refine ⟨⟨by omega, by omega⟩, [], ?_⟩
      repeat' (first | exact trivial | rfl | refine And.intro ?_ ?_)
      all_goals (conv => whnf)
      repeat' (first | exact trivial | rfl | refine And.intro ?_ ?_)
  · refine ⟨_, _, awake23_c, ?_⟩
    conv => whnf
    exact ⟨[], rfl, rfl, trivial⟩

end Go.Proofs.Ytladepmfgbfkpaa
