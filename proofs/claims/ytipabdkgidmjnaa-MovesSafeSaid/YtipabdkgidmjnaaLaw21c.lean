/- Contract: MovesSafe returns true at every input. No conditions. -/
import Derived.Test.YtipabdkgidmjnaaLaw21b
namespace Go.Proofs.Ytipabdkgidmjnaa
open Go Go.Cpl

/-! ### what a change books -/

theorem addAt_getD' (l : List Int) (i n : Int) (k : Nat) : ((addAt l i n)[k]?).getD 0 = (l[k]?).getD 0 + if (k : Int) = i ∧ k < l.length then n else 0 := by
  by_cases h : 0 ≤ i ∧ i < l.length
  · obtain ⟨x, hx⟩ := get_of (l := l) (i := i.toNat) (by omega)
    rw [addAt_in h.1 h.2 hx]
    by_cases h1 : (k : Int) = i
    · have e : i.toNat = k := by omega
      rw [e] at hx ⊢
      rw [List.getElem?_set_self (by omega), hx, if_pos ⟨h1, by omega⟩]
      simp
    · rw [List.getElem?_set_ne (by omega), if_neg (fun hh => h1 hh.1)]
      omega
  · rw [addAt_out h]
    have : ¬ ((k : Int) = i ∧ k < l.length) := by omega
    simp [this]

/-- what a place of tenant t takes at cell i -/
def wAt (c : Cfg) (t : Nat) (p : Int × Int) (i : Nat) : Int := (if (i : Int) = p.1 then loadOf c t else 0) + (if (i : Int) = p.2 then shadowOf c t else 0)

theorem bk_set {c : Cfg} {l : List (Int × Int)} {t : Nat} {p p' : Int × Int} (hp : l[t]? = some p) {i : Nat} (hi : i < c.cells.length) : ∀ k, ((bk c (l.set t p') k)[i]?).getD 0 = ((bk c l k)[i]?).getD 0 + if t < k then wAt c t p' i - wAt c t p i else 0
  | 0 => by simp [bk]
  | k + 1 => by
    have ih := bk_set (p' := p') hp hi k
    have htl := (List.getElem?_eq_some_iff.1 hp).1
    by_cases hk : t = k
    · subst hk
      have e1 : bk c l (t + 1) = addAt (addAt (bk c l t) p.1 (loadOf c t)) p.2 (shadowOf c t) := by simp [bk, hp]
      have e2 : bk c (l.set t p') (t + 1) = addAt (addAt (bk c (l.set t p') t) p'.1 (loadOf c t)) p'.2 (shadowOf c t) := by simp [bk, List.getElem?_set_self htl]
      rw [e1, e2, addAt_getD', addAt_getD', addAt_getD', addAt_getD']
      simp only [addAt_len, bk_len, hi, and_true]
      rw [ih, if_neg (Nat.lt_irrefl t), if_pos (Nat.lt_succ_self t)]
      unfold wAt
      omega
    · have hget : (l.set t p')[k]? = l[k]? := List.getElem?_set_ne hk
      rcases hx : l[k]? with _ | q
      · have e1 : bk c l (k + 1) = bk c l k := by simp [bk, hx]
        have e2 : bk c (l.set t p') (k + 1) = bk c (l.set t p') k := by simp [bk, hget, hx]
        rw [e1, e2, ih]
        have hkl : l.length ≤ k := List.getElem?_eq_none_iff.1 hx
        rw [if_pos (by omega), if_pos (by omega)]
      · have e1 : bk c l (k + 1) = addAt (addAt (bk c l k) q.1 (loadOf c k)) q.2 (shadowOf c k) := by simp [bk, hx]
        have e2 : bk c (l.set t p') (k + 1) = addAt (addAt (bk c (l.set t p') k) q.1 (loadOf c k)) q.2 (shadowOf c k) := by simp [bk, hget, hx]
        rw [e1, e2, addAt_getD', addAt_getD', addAt_getD', addAt_getD']
        simp only [addAt_len, bk_len, hi, and_true]
        rw [ih]
        have : (t < k + 1) ↔ (t < k) := by omega
        simp only [this]
        omega

def bookN (c : Cfg) (l : List (Int × Int)) (i : Nat) : Int := ((booked c l)[i]?).getD 0

/-- no cell is booked beyond its capacity -/
def Under (c : Cfg) (l : List (Int × Int)) : Prop := ∀ i, i < c.cells.length → bookN c l i ≤ capOf c i

instance (c : Cfg) (l : List (Int × Int)) : Decidable (Under c l) := by unfold Under; exact inferInstance

/-- the cell that a change fills, and what it takes there -/
theorem safe_step {c : Cfg} {l : List (Int × Int)} {x : Re} {p : Int × Int} (hfit : fitsP c l x) (hp : l[x.t.toNat]? = some p) (hu : Under c l) :
    Under c (putP l x) ∧ ∀ i, i < c.cells.length → bookN c l i + (if x.h ≠ p.1 ∧ 0 ≤ x.h ∧ (i : Int) = x.h then loadOf c x.t.toNat else 0) + (if x.s ≠ p.2 ∧ 0 ≤ x.s ∧ (i : Int) = x.s then shadowOf c x.t.toNat else 0) ≤ capOf c i := by
  obtain ⟨hf, ht, hh, hs, h5, h6, h7, h8⟩ := hfit
  have hg := good_of hf.val
  have hnow : nowOf l x.t = p := by unfold nowOf; rw [hp]; rfl
  rw [hnow] at h5 h6 h8
  have hL := hg.load x.t.toNat
  have hS := hg.shadow x.t.toNat
  have hboth : ∀ i, i < c.cells.length → bookN c l i + (if x.h ≠ p.1 ∧ 0 ≤ x.h ∧ (i : Int) = x.h then loadOf c x.t.toNat else 0) + (if x.s ≠ p.2 ∧ 0 ≤ x.s ∧ (i : Int) = x.s then shadowOf c x.t.toNat else 0) ≤ capOf c i := fun i hi => by
    have hui := hu i hi
    rcases h5 with ⟨h5a, h5b⟩ | ⟨h5a, h5b⟩
    · rw [if_pos h5a] at h8
      rw [if_neg (fun h : x.s ≠ p.2 ∧ 0 ≤ x.s ∧ (i : Int) = x.s => h.1 h5b)]
      split
      · rename_i hc
        have e : (i : Int) = x.h := hc.2.2
        have e2 : x.h.toNat = i := by omega
        rcases h8 with h8 | h8
        · omega
        · unfold bookAt at h8; rw [e2] at h8; unfold bookN; rw [← e] at h8; omega
      · omega
    · rw [if_neg (fun h => h h5a)] at h8
      rw [if_neg (fun h : x.h ≠ p.1 ∧ 0 ≤ x.h ∧ (i : Int) = x.h => h.1 h5a)]
      split
      · rename_i hc
        have e : (i : Int) = x.s := hc.2.2
        have e2 : x.s.toNat = i := by omega
        rcases h8 with h8 | h8
        · omega
        · unfold bookAt at h8; rw [e2] at h8; unfold bookN; rw [← e] at h8; omega
      · omega
  refine ⟨fun i hi => ?_, hboth⟩
  have hb := hboth i hi
  have hset := bk_set (p' := (x.h, x.s)) hp hi l.length
  have e1 : bookN c (putP l x) i = ((bk c (l.set x.t.toNat (x.h, x.s)) l.length)[i]?).getD 0 := by
    unfold bookN booked putP; rw [List.length_set]
  rw [e1, hset, if_pos (by omega)]
  unfold bookN booked at hb
  unfold wAt
  simp only
  have g1 : (if (i : Int) = x.h then loadOf c x.t.toNat else 0) - (if (i : Int) = p.1 then loadOf c x.t.toNat else 0) ≤ if x.h ≠ p.1 ∧ 0 ≤ x.h ∧ (i : Int) = x.h then loadOf c x.t.toNat else 0 := by
    by_cases a1 : (i : Int) = x.h <;> by_cases a2 : (i : Int) = p.1
    · rw [if_pos a1, if_pos a2]; split <;> omega
    · rw [if_pos a1, if_neg a2, if_pos ⟨by omega, by omega, a1⟩]; omega
    · rw [if_neg a1, if_pos a2]; split <;> omega
    · rw [if_neg a1, if_neg a2]; split <;> omega
  have g2 : (if (i : Int) = x.s then shadowOf c x.t.toNat else 0) - (if (i : Int) = p.2 then shadowOf c x.t.toNat else 0) ≤ if x.s ≠ p.2 ∧ 0 ≤ x.s ∧ (i : Int) = x.s then shadowOf c x.t.toNat else 0 := by
    by_cases a1 : (i : Int) = x.s <;> by_cases a2 : (i : Int) = p.2
    · rw [if_pos a1, if_pos a2]; split <;> omega
    · rw [if_pos a1, if_neg a2, if_pos ⟨by omega, by omega, a1⟩]; omega
    · rw [if_neg a1, if_pos a2]; split <;> omega
    · rw [if_neg a1, if_neg a2]; split <;> omega
  omega

theorem fits21_c (c : Cfg) (l : List (Int × Int)) (hf : Fit c l) : CallsH Try.prog 28 [cfgV c, plV l] [] (B (decide (Under c l))) [] := by
  have hbl : (booked c l).length = c.cells.length := bk_len c l l.length
  have hb1 := r1_len (booked c l)
  have hc1 := r2_len c.cells
  have hcc := (good_of hf.val).cells
  refine callsR_of tab mixed Try.func28 rfl (by decide) rfl rfl ?_
  conv => whnf
  refine ⟨_, _, lawAll_c c, ?_⟩
  conv => whnf
  refine ⟨_, _, (refBooked_c c 65535 false l hf).frozen, ?_⟩
  conv => whnf
  refine loopN tab mixed (fun i => i ≤ c.cells.length ∧ ∀ j, j < i → bookN c l j ≤ capOf c j) c.cells.length (fun i => [(6, I i)]) (fun _ => []) 51 [] ⟨by omega, fun j hj => absurd hj (Nat.not_lt_zero j)⟩ ?_
  conv => whnf
  refine ⟨?_, fun i ⟨hi, hj⟩ => ?_⟩
  · repeat' (first | exact trivial | rfl | refine And.intro ?_ ?_)
    all_goals (conv => whnf)
    repeat' (first | exact trivial | rfl | refine And.intro ?_ ?_)
  conv => whnf
  refine spD (fun h => ?_) (fun h => ?_) <;> conv => whnf
  · have hi' : i < c.cells.length := by omega
    obtain ⟨z, hz⟩ := get_of (l := booked c l) (i := i) (by omega)
    obtain ⟨q, hq⟩ := get_of (l := c.cells) hi'
    have e1 : bookN c l i = z := by unfold bookN; rw [hz]; rfl
    have e2 : capOf c i = q.2 := by unfold capOf; simp [hq]
    refine ⟨by kernel_rfl, ?_⟩
    conv => whnf
    refine ⟨by omega, _, r1_get hz, ?_⟩
    conv => whnf
    refine ⟨by omega, _, r2_get hq, ?_⟩
    conv => whnf
    refine spD (fun hp => ?_) (fun hp => ?_) <;> conv => whnf
    · refine ⟨[], rfl, ?_, trivial⟩
      have : ¬ Under c l := fun hu => by have := hu i hi'; omega
      simp [mtV, Cpl.valOf, mtC, eqD, this]
    · refine gv (by first | omega | (simp only []; omega) | (simp; omega)) (by first | omega | (simp only []; omega) | (simp; omega)) ?_
      conv => whnf
      refine ⟨⟨hi', hi', fun j hj' => ?_⟩, [], ?_⟩
      · rcases Nat.lt_or_ge j i with g | g
        · exact hj j g
        · have : j = i := by omega
          subst this; omega
      · repeat' (first | exact trivial | rfl | refine And.intro ?_ ?_)
        all_goals (conv => whnf)
        repeat' (first | exact trivial | rfl | refine And.intro ?_ ?_)
  · refine ⟨[], rfl, ?_, trivial⟩
    have : Under c l := fun j hj' => hj j (by omega)
    simp [mtV, Cpl.valOf, mtC, eqD, this]

set_option maxRecDepth 100000 in
set_option maxHeartbeats 8000000 in
theorem movesSafe_c (l a b : List Int) : CallsH Try.prog 5 [.c (.d (.sl (r1 l))), .c (.d (.sl (r1 a))), .c (.d (.sl (r1 b)))] [] (B true) [] := by
  obtain ⟨c, hm, hconf⟩ := config_c l
  have hf := hm.fit21 a
  have hpl := hm.places21 a
  generalize pl a c c.tenants.length = from_ at hf hpl
  have hf2 := hm.fit21 b
  have hpl2 := hm.places21 b
  generalize pl b c c.tenants.length = to_ at hf2 hpl2
  have hg := good_of hf.val
  have hT := hg.tenants
  have hcc := hg.cells
  have hlen := hf.len
  have hlf := r2_len from_
  have hc1 := r2_len c.cells
  have hT1 := rT_len c.tenants
  obtain ⟨N, s, hP⟩ := ord_made hf hf2
  have e1 := frozenT rfl (order21_c c from_ to_ hf hf2 hP)
  have hle := hP.le hf
  have hJ := hP.inv N (Nat.le_refl _)
  have hfitting := hJ.fitting
  have hat := hJ.at_
  rw [hat] at e1
  generalize hdn : (s N).2 = done at *
  have hrd := rR_len done
  refine callsR_of tab mixed Try.func5 rfl (by decide) rfl rfl ?_
  conv => whnf
  refine ⟨_, _, light_c l, ?_⟩
  conv => whnf
  refine spN (fun h => ?_) (fun h => ?_) <;> conv => whnf
  · refine ⟨_, _, awake21_c, ?_⟩
    conv => whnf
    exact ⟨[], rfl, rfl, trivial⟩
  refine ⟨_, _, light_c a, ?_⟩
  conv => whnf
  refine spN (fun h => ?_) (fun h => ?_) <;> conv => whnf
  · refine ⟨_, _, awake21_c, ?_⟩
    conv => whnf
    exact ⟨[], rfl, rfl, trivial⟩
  refine ⟨_, _, light_c b, ?_⟩
  conv => whnf
  refine spN (fun h => ?_) (fun h => ?_) <;> conv => whnf
  · refine ⟨_, _, awake21_c, ?_⟩
    conv => whnf
    exact ⟨[], rfl, rfl, trivial⟩
  refine ⟨_, _, hconf, ?_⟩
  conv => whnf
  refine ⟨by kernel_rfl, ?_⟩
  conv => whnf
  refine ⟨_, _, hpl, ?_⟩
  conv => whnf
  refine ⟨_, _, hpl2, ?_⟩
  conv => whnf
  refine ⟨_, _, fits21_c c from_ hf, ?_⟩
  conv => whnf
  refine spN (fun h => ?_) (fun hu => ?_) <;> conv => whnf
  · refine ⟨_, _, awake21_c, ?_⟩
    conv => whnf
    exact ⟨[], rfl, rfl, trivial⟩
  refine ⟨_, _, e1, ?_⟩
  conv => whnf
  refine ⟨fun r hr => by obtain ⟨x, _, rfl⟩ := List.mem_map.1 hr; simp [D.scalar], ⟨by simp; omega⟩, ?_⟩
  conv => whnf
  refine loopN tab mixed (fun i => i ≤ done.length ∧ Under c (atN from_ done i)) done.length (fun i => [(13, I i), (12, .c (.gs 2)), (54, .top)]) (fun i => [(2, .arr 39 (r2 (atN from_ done i)))]) 51 [(2, some 2)] ⟨by omega, hu⟩ ?_
  conv => whnf
  refine ⟨?_, fun i ⟨hi, hui⟩ => ?_⟩
  · repeat' (first | exact trivial | rfl | refine And.intro ?_ ?_)
    all_goals (conv => whnf)
    repeat' (first | exact trivial | rfl | refine And.intro ?_ ?_)
  conv => whnf
  have hal := atN_len from_ done i
  have har := r2_len (atN from_ done i)
  refine spD (fun h => ?_) (fun h => ?_) <;> conv => whnf
  · have hi' : i < done.length := by omega
    obtain ⟨x, hx⟩ := get_of hi'
    have hfit := hfitting i x hi' hx
    have hfi := hfit.1
    have ht := hfit.2.1
    obtain ⟨p, hp⟩ := get_of (l := atN from_ done i) (i := x.t.toNat) (by omega)
    obtain ⟨hnext, hboth⟩ := safe_step hfit hp hui
    have hfn := fit_put hfit
    have hnext' := hnext
    rw [← atN_succ hx] at hnext
    obtain ⟨tn, htn⟩ := get_of (l := c.tenants) (i := x.t.toNat) (by omega)
    have hload : loadOf c x.t.toNat = tn.load := by unfold loadOf; simp [htn]
    have hshad : shadowOf c x.t.toNat = tn.shadow := by unfold shadowOf; simp [htn]
    have hL := hg.load x.t.toNat
    have hS := hg.shadow x.t.toNat
    have hbl : (booked c (atN from_ done i)).length = c.cells.length := bk_len _ _ _
    have hb1 := r1_len (booked c (atN from_ done i))
    have hbr0 := bk_rng hg (atN from_ done i) (atN from_ done i).length
    have hset : ([] ++ r2 (atN from_ done i)).set x.t.toNat [i64 x.h, i64 x.s] = r2 (putP (atN from_ done i) x) := by rw [putP, r2_set]; rfl
    refine ⟨by omega, _, rR_get hx, ?_⟩
    conv => whnf
    refine spD (fun h => by omega) (fun _ => ?_)
    conv => whnf
    refine spD (fun h => by omega) (fun _ => ?_)
    conv => whnf
    refine ⟨fun r hr => by obtain ⟨x, _, rfl⟩ := List.mem_map.1 hr; simp [D.scalar], ⟨by simp; omega⟩, ?_⟩
    conv => whnf
    refine ⟨by kernel_rfl, ?_⟩
    conv => whnf
    refine ⟨by omega, _, rR_get hx, ?_⟩
    conv => whnf
    refine ⟨by omega, _, rR_get hx, ?_⟩
    conv => whnf
    refine ⟨by omega, by simp; omega, ?_⟩
    conv => whnf
    refine ⟨_, by simpa using r2_get hp, ?_⟩
    conv => whnf
    rw [hset]
    refine ⟨_, _, lawAll_c c, ?_⟩
    conv => whnf
    refine ⟨_, _, fit_c c 65535 false (putP (atN from_ done i) x), ?_⟩
    conv => whnf
    refine spN (fun h => absurd hfn h) (fun _ => ?_)
    conv => whnf
    refine ⟨_, _, fits21_c c (putP (atN from_ done i) x) hfn, ?_⟩
    conv => whnf
    refine spN (fun h => absurd hnext' h) (fun _ => ?_)
    conv => whnf
    refine ⟨_, _, lawAll_c c, ?_⟩
    conv => whnf
    refine ⟨_, _, refBooked_c c 65535 false (atN from_ done i) hfi, ?_⟩
    conv => whnf
    refine ⟨by kernel_rfl, ?_⟩
    conv => whnf
    refine ⟨by omega, _, rR_get hx, ?_⟩
    conv => whnf
    refine ⟨by omega, by omega, ?_⟩
    conv => whnf
    refine ⟨_, r2_get hp, ?_⟩
    conv => whnf
    have h5 := hfit.2.2.2.2.1
    have h6 := hfit.2.2.2.2.2.1
    have hh := hfit.2.2.1
    have hs := hfit.2.2.2.1
    have hnow : nowOf (atN from_ done i) x.t = p := by unfold nowOf; rw [hp]; rfl
    rw [hnow] at h5 h6
    generalize hbk : booked c (atN from_ done i) = bl at *
    have hbook : ∀ (k : Nat) (z : Int), bl[k]? = some z → bookN c (atN from_ done i) k = z := fun k z hz => by unfold bookN; rw [hbk, hz]; rfl
    refine spNe (fun h1 => ?_) (fun h1 => ?_) <;> conv => whnf
    · refine ⟨by omega, _, rR_get hx, ?_⟩
      conv => whnf
      refine spD (fun h2 => ?_) (fun h2 => by omega)
      conv => whnf
      have h3 : x.s = p.2 := by omega
      obtain ⟨z, hz⟩ := get_of (l := bl) (i := x.h.toNat) (by omega)
      have hzr := hbr0 z (by rw [show bk c (atN from_ done i) (atN from_ done i).length = bl from hbk]; exact List.mem_of_getElem? hz)
      have hbc : ∀ (k : Nat) (w : Int), (bl.set x.h.toNat (z + tn.load))[k]? = some w → w ≤ capOf c k := fun k w hw => by
        have hk : k < c.cells.length := by have := (List.getElem?_eq_some_iff.1 hw).1; simp at this; omega
        have hb := hboth k hk
        rw [if_neg (fun h : x.s ≠ p.2 ∧ 0 ≤ x.s ∧ (k : Int) = x.s => h.1 h3)] at hb
        by_cases he : x.h.toNat = k
        · rw [he, List.getElem?_set_self (by omega)] at hw
          simp at hw
          rw [if_pos ⟨h1, h2, by omega⟩, hbook k z (by rw [← he]; exact hz), hload] at hb
          omega
        · rw [List.getElem?_set_ne he] at hw
          rw [if_neg (by omega), hbook k w hw] at hb
          omega
      have hset2 : (r1 bl).set x.h.toNat [i64 (z + tn.load)] = r1 (bl.set x.h.toNat (z + tn.load)) := by rw [r1_set]
      have hbl2 : (bl.set x.h.toNat (z + tn.load)).length = c.cells.length := by rw [List.length_set]; exact hbl
      refine ⟨by kernel_rfl, ?_⟩
      conv => whnf
      refine ⟨by omega, _, rR_get hx, ?_⟩
      conv => whnf
      refine ⟨by omega, _, rR_get hx, ?_⟩
      conv => whnf
      refine ⟨by omega, by omega, ?_⟩
      conv => whnf
      refine ⟨_, r1_get hz, ?_⟩
      conv => whnf
      refine ⟨by omega, _, rT_get htn, ?_⟩
      conv => whnf
      refine gv (by first | omega | (simp only []; omega) | (simp; omega)) (by first | omega | (simp only []; omega) | (simp; omega)) ?_
      conv => whnf
      refine ⟨by omega, by omega, ?_⟩
      conv => whnf
      refine ⟨_, r1_get hz, ?_⟩
      conv => whnf
      rw [hset2]
      refine ⟨by kernel_rfl, ?_⟩
      conv => whnf
      refine ⟨by omega, _, rR_get hx, ?_⟩
      conv => whnf
      refine ⟨by omega, by omega, ?_⟩
      conv => whnf
      refine ⟨_, r2_get hp, ?_⟩
      conv => whnf
      refine spNe (fun h => absurd h3 h) (fun _ => ?_)
      conv => whnf
      have hbr := r1_len (bl.set x.h.toNat (z + tn.load))
      refine loopN tab mixed (fun k => k ≤ c.cells.length) c.cells.length (fun k => [(17, I k)]) (fun _ => []) 61 [] (by omega) ?_
      conv => whnf
      refine ⟨?_, fun k hk => ?_⟩
      · repeat' (first | exact trivial | rfl | refine And.intro ?_ ?_)
        all_goals (conv => whnf)
        repeat' (first | exact trivial | rfl | refine And.intro ?_ ?_)
      conv => whnf
      refine spD (fun h9 => ?_) (fun h9 => ?_) <;> conv => whnf
      · have hk' : k < c.cells.length := by omega
        obtain ⟨z, hz⟩ := get_of (l := bl.set x.h.toNat (z + tn.load)) (i := k) (by omega)
        obtain ⟨q, hq⟩ := get_of (l := c.cells) hk'
        have e2 : capOf c k = q.2 := by unfold capOf; simp [hq]
        have hcap := hbc k z hz
        refine ⟨by kernel_rfl, ?_⟩
        conv => whnf
        refine ⟨by omega, by omega, ?_⟩
        conv => whnf
        refine ⟨_, r1_get hz, ?_⟩
        conv => whnf
        refine ⟨by omega, _, r2_get hq, ?_⟩
        conv => whnf
        refine spD (fun hp => by omega) (fun _ => ?_)
        conv => whnf
        refine gv (by first | omega | (simp only []; omega) | (simp; omega)) (by first | omega | (simp only []; omega) | (simp; omega)) ?_
        conv => whnf
        refine ⟨⟨hk', hk'⟩, [], ?_⟩
        repeat' (first | exact trivial | rfl | refine And.intro ?_ ?_)
        all_goals (conv => whnf)
        repeat' (first | exact trivial | rfl | refine And.intro ?_ ?_)
      · refine gv (by first | omega | (simp only []; omega) | (simp; omega)) (by first | omega | (simp only []; omega) | (simp; omega)) ?_
        conv => whnf
        refine ⟨⟨hi', hi', hnext⟩, [(2, some 52)], ?_⟩
        repeat' (first | exact trivial | rfl | refine And.intro ?_ ?_)
        all_goals (conv => whnf)
        repeat' (first | exact trivial | rfl | refine And.intro ?_ ?_)
        rw [atN_succ hx]
    · have h3 : x.s ≠ p.2 := by omega
      refine ⟨by kernel_rfl, ?_⟩
      conv => whnf
      refine ⟨by omega, _, rR_get hx, ?_⟩
      conv => whnf
      refine ⟨by omega, by omega, ?_⟩
      conv => whnf
      refine ⟨_, r2_get hp, ?_⟩
      conv => whnf
      refine spNe (fun _ => ?_) (fun h => absurd h h3)
      conv => whnf
      refine ⟨by omega, _, rR_get hx, ?_⟩
      conv => whnf
      refine spD (fun h2 => ?_) (fun h2 => ?_) <;> conv => whnf
      · obtain ⟨z, hz⟩ := get_of (l := bl) (i := x.s.toNat) (by omega)
        have hzr := hbr0 z (by rw [show bk c (atN from_ done i) (atN from_ done i).length = bl from hbk]; exact List.mem_of_getElem? hz)
        have hbc : ∀ (k : Nat) (w : Int), (bl.set x.s.toNat (z + tn.shadow))[k]? = some w → w ≤ capOf c k := fun k w hw => by
          have hk : k < c.cells.length := by have := (List.getElem?_eq_some_iff.1 hw).1; simp at this; omega
          have hb := hboth k hk
          rw [if_neg (fun h : x.h ≠ p.1 ∧ 0 ≤ x.h ∧ (k : Int) = x.h => h.1 h1)] at hb
          by_cases he : x.s.toNat = k
          · rw [he, List.getElem?_set_self (by omega)] at hw
            simp at hw
            rw [if_pos ⟨h3, h2, by omega⟩, hbook k z (by rw [← he]; exact hz), hshad] at hb
            omega
          · rw [List.getElem?_set_ne he] at hw
            rw [if_neg (by omega), hbook k w hw] at hb
            omega
        have hset2 : (r1 bl).set x.s.toNat [i64 (z + tn.shadow)] = r1 (bl.set x.s.toNat (z + tn.shadow)) := by rw [r1_set]
        have hbl2 : (bl.set x.s.toNat (z + tn.shadow)).length = c.cells.length := by rw [List.length_set]; exact hbl
        refine ⟨by kernel_rfl, ?_⟩
        conv => whnf
        refine ⟨by omega, _, rR_get hx, ?_⟩
        conv => whnf
        refine ⟨by omega, _, rR_get hx, ?_⟩
        conv => whnf
        refine ⟨by omega, by omega, ?_⟩
        conv => whnf
        refine ⟨_, r1_get hz, ?_⟩
        conv => whnf
        refine ⟨by omega, _, rT_get htn, ?_⟩
        conv => whnf
        refine gv (by first | omega | (simp only []; omega) | (simp; omega)) (by first | omega | (simp only []; omega) | (simp; omega)) ?_
        conv => whnf
        refine ⟨by omega, by omega, ?_⟩
        conv => whnf
        refine ⟨_, r1_get hz, ?_⟩
        conv => whnf
        rw [hset2]
        have hbr := r1_len (bl.set x.s.toNat (z + tn.shadow))
        refine loopN tab mixed (fun k => k ≤ c.cells.length) c.cells.length (fun k => [(17, I k)]) (fun _ => []) 61 [] (by omega) ?_
        conv => whnf
        refine ⟨?_, fun k hk => ?_⟩
        · repeat' (first | exact trivial | rfl | refine And.intro ?_ ?_)
          all_goals (conv => whnf)
          repeat' (first | exact trivial | rfl | refine And.intro ?_ ?_)
        conv => whnf
        refine spD (fun h9 => ?_) (fun h9 => ?_) <;> conv => whnf
        · have hk' : k < c.cells.length := by omega
          obtain ⟨z, hz⟩ := get_of (l := bl.set x.s.toNat (z + tn.shadow)) (i := k) (by omega)
          obtain ⟨q, hq⟩ := get_of (l := c.cells) hk'
          have e2 : capOf c k = q.2 := by unfold capOf; simp [hq]
          have hcap := hbc k z hz
          refine ⟨by kernel_rfl, ?_⟩
          conv => whnf
          refine ⟨by omega, by omega, ?_⟩
          conv => whnf
          refine ⟨_, r1_get hz, ?_⟩
          conv => whnf
          refine ⟨by omega, _, r2_get hq, ?_⟩
          conv => whnf
          refine spD (fun hp => by omega) (fun _ => ?_)
          conv => whnf
          refine gv (by first | omega | (simp only []; omega) | (simp; omega)) (by first | omega | (simp only []; omega) | (simp; omega)) ?_
          conv => whnf
          refine ⟨⟨hk', hk'⟩, [], ?_⟩
          repeat' (first | exact trivial | rfl | refine And.intro ?_ ?_)
          all_goals (conv => whnf)
          repeat' (first | exact trivial | rfl | refine And.intro ?_ ?_)
        · refine gv (by first | omega | (simp only []; omega) | (simp; omega)) (by first | omega | (simp only []; omega) | (simp; omega)) ?_
          conv => whnf
          refine ⟨⟨hi', hi', hnext⟩, [(2, some 52)], ?_⟩
          repeat' (first | exact trivial | rfl | refine And.intro ?_ ?_)
          all_goals (conv => whnf)
          repeat' (first | exact trivial | rfl | refine And.intro ?_ ?_)
          rw [atN_succ hx]
      · have hbc : ∀ (k : Nat) (w : Int), bl[k]? = some w → w ≤ capOf c k := fun k w hw => by
          have hk : k < c.cells.length := by have := (List.getElem?_eq_some_iff.1 hw).1; omega
          have hb := hboth k hk
          rw [if_neg (by omega), if_neg (by omega), hbook k w hw] at hb
          omega
        have hbr := r1_len (bl)
        refine loopN tab mixed (fun k => k ≤ c.cells.length) c.cells.length (fun k => [(17, I k)]) (fun _ => []) 61 [] (by omega) ?_
        conv => whnf
        refine ⟨?_, fun k hk => ?_⟩
        · repeat' (first | exact trivial | rfl | refine And.intro ?_ ?_)
          all_goals (conv => whnf)
          repeat' (first | exact trivial | rfl | refine And.intro ?_ ?_)
        conv => whnf
        refine spD (fun h9 => ?_) (fun h9 => ?_) <;> conv => whnf
        · have hk' : k < c.cells.length := by omega
          obtain ⟨z, hz⟩ := get_of (l := bl) (i := k) (by omega)
          obtain ⟨q, hq⟩ := get_of (l := c.cells) hk'
          have e2 : capOf c k = q.2 := by unfold capOf; simp [hq]
          have hcap := hbc k z hz
          refine ⟨by kernel_rfl, ?_⟩
          conv => whnf
          refine ⟨by omega, by omega, ?_⟩
          conv => whnf
          refine ⟨_, r1_get hz, ?_⟩
          conv => whnf
          refine ⟨by omega, _, r2_get hq, ?_⟩
          conv => whnf
          refine spD (fun hp => by omega) (fun _ => ?_)
          conv => whnf
          refine gv (by first | omega | (simp only []; omega) | (simp; omega)) (by first | omega | (simp only []; omega) | (simp; omega)) ?_
          conv => whnf
          refine ⟨⟨hk', hk'⟩, [], ?_⟩
          repeat' (first | exact trivial | rfl | refine And.intro ?_ ?_)
          all_goals (conv => whnf)
          repeat' (first | exact trivial | rfl | refine And.intro ?_ ?_)
        · refine gv (by first | omega | (simp only []; omega) | (simp; omega)) (by first | omega | (simp only []; omega) | (simp; omega)) ?_
          conv => whnf
          refine ⟨⟨hi', hi', hnext⟩, [(2, some 52)], ?_⟩
          repeat' (first | exact trivial | rfl | refine And.intro ?_ ?_)
          all_goals (conv => whnf)
          repeat' (first | exact trivial | rfl | refine And.intro ?_ ?_)
          rw [atN_succ hx]
  · have hi' : i = done.length := by omega
    subst hi'
    refine ⟨_, _, awake21_c, ?_⟩
    conv => whnf
    refine ⟨fun _ => ?_, fun h => by cases h⟩
    conv => whnf
    refine spN (fun h3 => ?_) (fun h3 => ?_) <;> conv => whnf
    · exact ⟨[], rfl, by simp [mtV, Cpl.valOf, mtC, eqD], trivial⟩
    · refine ⟨_, _, samePlaces_c (atN from_ done done.length) to_ (by omega), ?_⟩
      conv => whnf
      exact ⟨[], rfl, by simp [mtV, Cpl.valOf, mtC, eqD, h3], trivial⟩

end Go.Proofs.Ytipabdkgidmjnaa
