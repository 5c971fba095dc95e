/- Contracts: what the functions of moves and of its reference return (changes that fit, and those that are next). Conditions: those ahead of each theorem. -/
import Derived.Test.YtipabdkgidmjnaaBook
namespace Go.Proofs.Ytipabdkgidmjnaa
open Go Go.Cpl

structure Re where
  t : Int
  h : Int
  s : Int
deriving DecidableEq

def rR (l : List Re) : List (List D) := l.map fun x => [i64 x.t, i64 x.h, i64 x.s]

abbrev reV (x : Re) : AV := .agg [.d (i64 x.t), .d (i64 x.h), .d (i64 x.s)]

theorem rR_len (l : List Re) : (rR l).length = l.length := by simp [rR]

theorem rR_get {l : List Re} {i : Nat} {x : Re} (h : l[i]? = some x) : (rR l)[i]? = some [i64 x.t, i64 x.h, i64 x.s] := by simp [rR, h]

theorem rR_app (l : List Re) (a b c : Int) : rR l ++ [[i64 a, i64 b, i64 c]] = rR (l ++ [⟨a, b, c⟩]) := by simp [rR]

theorem row3 (a b c : Int) : ∀ r ∈ [[i64 a, i64 b, i64 c]], r.length = 3 ∧ ∀ d ∈ r, d.scalar = true := by simp [D.scalar]

def wholeU (c : Cfg) : Int := 2 ^ c.cells.length - 1

theorem whole_c (c : Cfg) (hc : c.cells.length ≤ 20) : CallsH Try.prog 62 [cfgV c] [] (probV c (wholeU c) false) [] := by
  have hl := r2_len c.cells
  have hs := shlc (n := c.cells.length) (by omega)
  refine callsR_of tab mixed Try.func62 rfl (by decide) rfl rfl ?_
  conv => whnf
  refine ⟨by kernel_rfl, ?_⟩
  conv => whnf
  rw [hl]
  refine ⟨by omega, .intro _ hs.1 ?_⟩
  conv => whnf
  refine gv (by first | omega | (simp only []; omega) | (simp; omega)) (by first | omega | (simp only []; omega) | (simp; omega)) ?_
  conv => whnf
  exact ⟨[], rfl, ⟨⟨rfl, rfl⟩, rfl, rfl, rfl, rfl, rfl, rfl, ⟨rfl, rfl⟩, ⟨rfl, rfl⟩, ⟨rfl, rfl⟩, ⟨rfl, rfl⟩, rfl, trivial⟩, trivial⟩

theorem isCell_c (c : Cfg) (i : Int) : CallsH Try.prog 63 [cfgV c, I i] [] (B (decide (0 ≤ i ∧ i < c.cells.length))) [] := by
  have hl := r2_len c.cells
  refine callsR_of tab mixed Try.func63 rfl (by decide) rfl rfl ?_
  conv => whnf
  refine spD (fun h => ?_) (fun h => ?_) <;> conv => whnf
  · refine ⟨[], rfl, ?_, trivial⟩
    simp [mtV, valOf, mtC, eqD, h, hl]
  · exact ⟨[], rfl, by simp [mtV, valOf, mtC, eqD, h], trivial⟩

theorem refAll_c (c : Cfg) : CallsH Try.prog 66 [cfgV c] [] (probV c 65535 false) [] := by
  refine callsR_of tab mixed Try.func66 rfl (by decide) rfl rfl ?_
  conv => whnf
  exact ⟨[], rfl, ⟨⟨rfl, rfl⟩, rfl, rfl, rfl, rfl, rfl, rfl, ⟨rfl, rfl⟩, ⟨rfl, rfl⟩, ⟨rfl, rfl⟩, ⟨rfl, rfl⟩, rfl, trivial⟩, trivial⟩

theorem lawAll_c (c : Cfg) : CallsH Try.prog 31 [cfgV c] [] (probV c 65535 false) [] := by
  refine callsR_of tab mixed Try.func31 rfl (by decide) rfl rfl ?_
  conv => whnf
  exact ⟨[], rfl, ⟨⟨rfl, rfl⟩, rfl, rfl, rfl, rfl, rfl, rfl, ⟨rfl, rfl⟩, ⟨rfl, rfl⟩, ⟨rfl, rfl⟩, ⟨rfl, rfl⟩, rfl, trivial⟩, trivial⟩

theorem refValid21_c (c : Cfg) (l : List (Int × Int)) : CallsH Try.prog 65 [cfgV c, plV l] [] (B (decide (Fit c l))) [] := by
  refine callsR_of tab mixed Try.func65 rfl (by decide) rfl rfl ?_
  conv => whnf
  refine ⟨_, _, refAll_c c, ?_⟩
  conv => whnf
  refine ⟨_, _, refFit_c c 65535 false l, ?_⟩
  conv => whnf
  exact ⟨[], rfl, by simp [mtV, valOf, mtC, eqD], trivial⟩

def nowOf (l : List (Int × Int)) (t : Int) : Int × Int := (l[t.toNat]?).getD (0, 0)

def bookAt (c : Cfg) (l : List (Int × Int)) (i : Int) : Int := ((booked c l)[i.toNat]?).getD 0

/-- a change can be made -/
def fitsP (c : Cfg) (l : List (Int × Int)) (x : Re) : Prop :=
  Fit c l ∧ (0 ≤ x.t ∧ x.t < l.length) ∧ (-1 ≤ x.h ∧ x.h < c.cells.length) ∧ (-1 ≤ x.s ∧ x.s < c.cells.length) ∧
  ((x.h ≠ (nowOf l x.t).1 ∧ x.s = (nowOf l x.t).2) ∨ (x.h = (nowOf l x.t).1 ∧ x.s ≠ (nowOf l x.t).2)) ∧ ¬ (x.h = -1 ∧ (nowOf l x.t).1 ≠ -1) ∧
  (x.h ≠ -1 → x.s ≠ -1 → apart c x.h x.s = true) ∧
  (if x.h ≠ (nowOf l x.t).1 then x.h = -1 ∨ bookAt c l x.h + loadOf c x.t.toNat ≤ capOf c x.h else x.s = -1 ∨ bookAt c l x.s + shadowOf c x.t.toNat ≤ capOf c x.s)

instance (c : Cfg) (l : List (Int × Int)) (x : Re) : Decidable (fitsP c l x) := by unfold fitsP; exact inferInstance

theorem eqBB {a b : Int} {c d : Int} {A C : Prop} (h1 : (a ≠ b ↔ c ≠ d) → A) (h2 : ¬ (a ≠ b ↔ c ≠ d) → C) : (((a != b) == (c != d)) = true → A) ∧ (((a != b) == (c != d)) = false → C) := by
  have e : ((a != b) == (c != d)) = decide (a ≠ b ↔ c ≠ d) := by
    by_cases h : a = b <;> by_cases h' : c = d <;> simp [h, h', bne_iff_ne.2]
  rw [e]; exact spD h1 h2

theorem fits_iff {c : Cfg} {l : List (Int × Int)} {x : Re} {p : Int × Int} (hf : Fit c l) (ht : 0 ≤ x.t ∧ x.t < l.length) (hh : -1 ≤ x.h ∧ x.h < c.cells.length) (hs : -1 ≤ x.s ∧ x.s < c.cells.length) (hnow : nowOf l x.t = p)
    (h5 : ¬ (x.h ≠ p.1 ↔ x.s ≠ p.2)) (h6 : ¬ (x.h = -1 ∧ p.1 ≠ -1)) (h7 : x.h ≠ -1 → x.s ≠ -1 → apart c x.h x.s = true) :
    fitsP c l x ↔ (if x.h ≠ p.1 then x.h = -1 ∨ bookAt c l x.h + loadOf c x.t.toNat ≤ capOf c x.h else x.s = -1 ∨ bookAt c l x.s + shadowOf c x.t.toNat ≤ capOf c x.s) := by
  unfold fitsP
  rw [hnow]
  constructor
  · rintro ⟨_, _, _, _, _, _, _, k⟩; exact k
  · intro k; exact ⟨hf, ht, hh, hs, by omega, h6, h7, k⟩

set_option maxRecDepth 100000 in
set_option maxHeartbeats 4000000 in
theorem fits_c (c : Cfg) (l : List (Int × Int)) (x : Re) (hc : c.cells.length ≤ 20) : CallsH Try.prog 20 [cfgV c, plV l, reV x] [] (B (decide (fitsP c l x))) [] := by
  have hl := r2_len l
  have hcl := r2_len c.cells
  have hlT := rT_len c.tenants
  refine callsR_of tab mixed Try.func20 rfl (by decide) rfl rfl ?_
  conv => whnf
  refine ⟨_, _, whole_c c hc, ?_⟩
  conv => whnf
  refine ⟨_, _, fit_c c (wholeU c) false l, ?_⟩
  conv => whnf
  refine spN (fun h => ?_) (fun hf => ?_) <;> conv => whnf
  · exact ⟨[], rfl, by simp [mtV, valOf, mtC, eqD, show ¬ fitsP c l x from fun k => h k.1], trivial⟩
  refine spD (fun h => ?_) (fun h1 => ?_) <;> conv => whnf
  · exact ⟨[], rfl, by simp [mtV, valOf, mtC, eqD, show ¬ fitsP c l x from fun k => by have := k.2.1; omega], trivial⟩
  refine spD (fun h => ?_) (fun h2 => ?_) <;> conv => whnf
  · exact ⟨[], rfl, by simp [mtV, valOf, mtC, eqD, show ¬ fitsP c l x from fun k => by have := k.2.1; omega], trivial⟩
  obtain ⟨p, hp⟩ := get_int (l := l) (i := x.t) (by omega) (by omega)
  have hnow : nowOf l x.t = p := by simp [nowOf, hp]
  have hprg := hf.rng p (List.mem_of_getElem? hp)
  have hg := good_of hf.val
  have hflen := hf.len
  have hT := hg.tenants
  obtain ⟨tt, ht⟩ := get_int (l := c.tenants) (i := x.t) (by omega) (by omega)
  have hload : loadOf c x.t.toNat = tt.load := by simp [loadOf, ht]
  have hshad : shadowOf c x.t.toNat = tt.shadow := by simp [shadowOf, ht]
  have hL := hg.load x.t.toNat
  have hS := hg.shadow x.t.toNat
  have hbl : (booked c l).length = c.cells.length := bk_len c l l.length
  have hb1 := r1_len (booked c l)
  have hbr := bk_rng hg l l.length
  refine spNe (fun h3 => ?_) (fun h3 => ?_) <;> conv => whnf
  · refine ⟨_, _, isCell_c c x.h, ?_⟩
    conv => whnf
    refine spN (fun h => ?_) (fun h3' => ?_) <;> conv => whnf
    · exact ⟨[], rfl, by simp [mtV, valOf, mtC, eqD, show ¬ fitsP c l x from fun k => by have := k.2.2.1; have := k.2.2.2.1; omega], trivial⟩
    refine spNe (fun h4 => ?_) (fun h4 => ?_) <;> conv => whnf
    · refine ⟨_, _, isCell_c c x.s, ?_⟩
      conv => whnf
      refine spN (fun h => ?_) (fun h4' => ?_) <;> conv => whnf
      · exact ⟨[], rfl, by simp [mtV, valOf, mtC, eqD, show ¬ fitsP c l x from fun k => by have := k.2.2.1; have := k.2.2.2.1; omega], trivial⟩
      have hh : -1 ≤ x.h ∧ x.h < c.cells.length := by omega
      have hs : -1 ≤ x.s ∧ x.s < c.cells.length := by omega
      refine ⟨by omega, _, r2_get hp, ?_⟩
      conv => whnf
      refine eqBB (fun h5 => ?_) (fun h5 => ?_) <;> conv => whnf
      · exact ⟨[], rfl, by simp [mtV, valOf, mtC, eqD, show ¬ fitsP c l x from fun k => by obtain ⟨_, _, _, _, k5, k6, k7, k8⟩ := k; rw [hnow] at k5 k6; omega], trivial⟩
      refine spE (fun h6' => ?_) (fun h6' => ?_) <;> conv => whnf
      · refine spNe (fun h6'' => ?_) (fun h6'' => ?_) <;> conv => whnf
        · exact ⟨[], rfl, by simp [mtV, valOf, mtC, eqD, show ¬ fitsP c l x from fun k => by obtain ⟨_, _, _, _, k5, k6, k7, k8⟩ := k; rw [hnow] at k5 k6; omega], trivial⟩
        have h6 : ¬ (x.h = -1 ∧ p.1 ≠ -1) := fun k => k.2 h6''
        refine spNe (fun h8 => ?_) (fun h8 => ?_) <;> conv => whnf
        · refine spNe (fun h9 => ?_) (fun h9 => ?_) <;> conv => whnf
          · refine ⟨_, _, apart_c c x.h x.s hg.laid, ?_⟩
            conv => whnf
            refine ⟨fun hap => ?_, fun hap => ?_⟩ <;> conv => whnf
            · have hap' : apart c x.h x.s = false := by simpa using hap
              exact ⟨[], rfl, by simp [mtV, valOf, mtC, eqD, show ¬ fitsP c l x from fun k => by have := k.2.2.2.2.2.2.1 h8 h9; rw [hap'] at this; cases this], trivial⟩
            · have h7 : x.h ≠ -1 → x.s ≠ -1 → apart c x.h x.s = true := fun _ _ => by simpa using hap
              refine ⟨by kernel_rfl, ?_⟩
              conv => whnf
              refine ⟨by omega, _, rT_get ht, ?_⟩
              conv => whnf
              refine spNe (fun h10 => ?_) (fun h10 => ?_) <;> conv => whnf
              · refine ⟨by kernel_rfl, ?_⟩
                conv => whnf
                refine ⟨by omega, _, rT_get ht, ?_⟩
                conv => whnf
                refine ⟨by kernel_rfl, ?_⟩
                conv => whnf
                refine spE (fun h11 => ?_) (fun h11 => ?_) <;> conv => whnf
                · refine ⟨[], rfl, ?_, trivial⟩
                  have := (fits_iff hf ⟨by omega, by omega⟩ hh hs hnow h5 h6 h7).2 (by rw [if_pos h10]; exact .inl h11)
                  simp [mtV, valOf, mtC, eqD, this]
                · obtain ⟨z, hz⟩ := get_int (l := booked c l) (i := x.h) (by omega) (by omega)
                  obtain ⟨y, hy⟩ := get_int (l := c.cells) (i := x.h) (by omega) (by omega)
                  have hzr := hbr z (List.mem_of_getElem? hz)
                  have hcap : capOf c x.h = y.2 := by simp [capOf, hy]
                  have hbk : bookAt c l x.h = z := by simp [bookAt, hz]
                  refine ⟨_, _, whole_c c hc, ?_⟩
                  conv => whnf
                  refine ⟨_, _, booked_c c (wholeU c) false l hf, ?_⟩
                  conv => whnf
                  refine ⟨by omega, by omega, _, r1_get hz, ?_⟩
                  conv => whnf
                  refine gv (by first | omega | (simp only []; omega) | (simp; omega)) (by first | omega | (simp only []; omega) | (simp; omega)) ?_
                  conv => whnf
                  refine ⟨by omega, _, r2_get hy, ?_⟩
                  conv => whnf
                  refine ⟨[], rfl, ?_, trivial⟩
                  have := fits_iff hf ⟨by omega, by omega⟩ hh hs hnow h5 h6 h7
                  rw [if_pos h10, hcap, hbk, hload] at this
                  have e : decide (fitsP c l x) = decide (z + tt.load ≤ y.2) := decide_eq_decide.2 (this.trans ⟨fun k => k.resolve_left h11, .inr⟩)
                  simp [mtV, valOf, mtC, eqD, e]
              · refine ⟨by kernel_rfl, ?_⟩
                conv => whnf
                refine spE (fun h11 => ?_) (fun h11 => ?_) <;> conv => whnf
                · refine ⟨[], rfl, ?_, trivial⟩
                  have := (fits_iff hf ⟨by omega, by omega⟩ hh hs hnow h5 h6 h7).2 (by rw [if_neg (fun h => h h10)]; exact .inl h11)
                  simp [mtV, valOf, mtC, eqD, this]
                · obtain ⟨z, hz⟩ := get_int (l := booked c l) (i := x.s) (by omega) (by omega)
                  obtain ⟨y, hy⟩ := get_int (l := c.cells) (i := x.s) (by omega) (by omega)
                  have hzr := hbr z (List.mem_of_getElem? hz)
                  have hcap : capOf c x.s = y.2 := by simp [capOf, hy]
                  have hbk : bookAt c l x.s = z := by simp [bookAt, hz]
                  refine ⟨_, _, whole_c c hc, ?_⟩
                  conv => whnf
                  refine ⟨_, _, booked_c c (wholeU c) false l hf, ?_⟩
                  conv => whnf
                  refine ⟨by omega, by omega, _, r1_get hz, ?_⟩
                  conv => whnf
                  refine gv (by first | omega | (simp only []; omega) | (simp; omega)) (by first | omega | (simp only []; omega) | (simp; omega)) ?_
                  conv => whnf
                  refine ⟨by omega, _, r2_get hy, ?_⟩
                  conv => whnf
                  refine ⟨[], rfl, ?_, trivial⟩
                  have := fits_iff hf ⟨by omega, by omega⟩ hh hs hnow h5 h6 h7
                  rw [if_neg (fun h => h h10), hcap, hbk, hshad] at this
                  have e : decide (fitsP c l x) = decide (z + tt.shadow ≤ y.2) := decide_eq_decide.2 (this.trans ⟨fun k => k.resolve_left h11, .inr⟩)
                  simp [mtV, valOf, mtC, eqD, e]
          · have h7 : x.h ≠ -1 → x.s ≠ -1 → apart c x.h x.s = true := fun _ h => absurd h9 h
            refine ⟨by kernel_rfl, ?_⟩
            conv => whnf
            refine ⟨by omega, _, rT_get ht, ?_⟩
            conv => whnf
            refine spNe (fun h10 => ?_) (fun h10 => ?_) <;> conv => whnf
            · refine ⟨by kernel_rfl, ?_⟩
              conv => whnf
              refine ⟨by omega, _, rT_get ht, ?_⟩
              conv => whnf
              refine ⟨by kernel_rfl, ?_⟩
              conv => whnf
              refine spE (fun h11 => ?_) (fun h11 => ?_) <;> conv => whnf
              · refine ⟨[], rfl, ?_, trivial⟩
                have := (fits_iff hf ⟨by omega, by omega⟩ hh hs hnow h5 h6 h7).2 (by rw [if_pos h10]; exact .inl h11)
                simp [mtV, valOf, mtC, eqD, this]
              · obtain ⟨z, hz⟩ := get_int (l := booked c l) (i := x.h) (by omega) (by omega)
                obtain ⟨y, hy⟩ := get_int (l := c.cells) (i := x.h) (by omega) (by omega)
                have hzr := hbr z (List.mem_of_getElem? hz)
                have hcap : capOf c x.h = y.2 := by simp [capOf, hy]
                have hbk : bookAt c l x.h = z := by simp [bookAt, hz]
                refine ⟨_, _, whole_c c hc, ?_⟩
                conv => whnf
                refine ⟨_, _, booked_c c (wholeU c) false l hf, ?_⟩
                conv => whnf
                refine ⟨by omega, by omega, _, r1_get hz, ?_⟩
                conv => whnf
                refine gv (by first | omega | (simp only []; omega) | (simp; omega)) (by first | omega | (simp only []; omega) | (simp; omega)) ?_
                conv => whnf
                refine ⟨by omega, _, r2_get hy, ?_⟩
                conv => whnf
                refine ⟨[], rfl, ?_, trivial⟩
                have := fits_iff hf ⟨by omega, by omega⟩ hh hs hnow h5 h6 h7
                rw [if_pos h10, hcap, hbk, hload] at this
                have e : decide (fitsP c l x) = decide (z + tt.load ≤ y.2) := decide_eq_decide.2 (this.trans ⟨fun k => k.resolve_left h11, .inr⟩)
                simp [mtV, valOf, mtC, eqD, e]
            · refine ⟨by kernel_rfl, ?_⟩
              conv => whnf
              refine spE (fun h11 => ?_) (fun h11 => ?_) <;> conv => whnf
              · refine ⟨[], rfl, ?_, trivial⟩
                have := (fits_iff hf ⟨by omega, by omega⟩ hh hs hnow h5 h6 h7).2 (by rw [if_neg (fun h => h h10)]; exact .inl h11)
                simp [mtV, valOf, mtC, eqD, this]
              · obtain ⟨z, hz⟩ := get_int (l := booked c l) (i := x.s) (by omega) (by omega)
                obtain ⟨y, hy⟩ := get_int (l := c.cells) (i := x.s) (by omega) (by omega)
                have hzr := hbr z (List.mem_of_getElem? hz)
                have hcap : capOf c x.s = y.2 := by simp [capOf, hy]
                have hbk : bookAt c l x.s = z := by simp [bookAt, hz]
                refine ⟨_, _, whole_c c hc, ?_⟩
                conv => whnf
                refine ⟨_, _, booked_c c (wholeU c) false l hf, ?_⟩
                conv => whnf
                refine ⟨by omega, by omega, _, r1_get hz, ?_⟩
                conv => whnf
                refine gv (by first | omega | (simp only []; omega) | (simp; omega)) (by first | omega | (simp only []; omega) | (simp; omega)) ?_
                conv => whnf
                refine ⟨by omega, _, r2_get hy, ?_⟩
                conv => whnf
                refine ⟨[], rfl, ?_, trivial⟩
                have := fits_iff hf ⟨by omega, by omega⟩ hh hs hnow h5 h6 h7
                rw [if_neg (fun h => h h10), hcap, hbk, hshad] at this
                have e : decide (fitsP c l x) = decide (z + tt.shadow ≤ y.2) := decide_eq_decide.2 (this.trans ⟨fun k => k.resolve_left h11, .inr⟩)
                simp [mtV, valOf, mtC, eqD, e]
        · have h7 : x.h ≠ -1 → x.s ≠ -1 → apart c x.h x.s = true := fun h _ => absurd h8 h
          refine ⟨by kernel_rfl, ?_⟩
          conv => whnf
          refine ⟨by omega, _, rT_get ht, ?_⟩
          conv => whnf
          refine spNe (fun h10 => ?_) (fun h10 => ?_) <;> conv => whnf
          · refine ⟨by kernel_rfl, ?_⟩
            conv => whnf
            refine ⟨by omega, _, rT_get ht, ?_⟩
            conv => whnf
            refine ⟨by kernel_rfl, ?_⟩
            conv => whnf
            refine spE (fun h11 => ?_) (fun h11 => ?_) <;> conv => whnf
            · refine ⟨[], rfl, ?_, trivial⟩
              have := (fits_iff hf ⟨by omega, by omega⟩ hh hs hnow h5 h6 h7).2 (by rw [if_pos h10]; exact .inl h11)
              simp [mtV, valOf, mtC, eqD, this]
            · obtain ⟨z, hz⟩ := get_int (l := booked c l) (i := x.h) (by omega) (by omega)
              obtain ⟨y, hy⟩ := get_int (l := c.cells) (i := x.h) (by omega) (by omega)
              have hzr := hbr z (List.mem_of_getElem? hz)
              have hcap : capOf c x.h = y.2 := by simp [capOf, hy]
              have hbk : bookAt c l x.h = z := by simp [bookAt, hz]
              refine ⟨_, _, whole_c c hc, ?_⟩
              conv => whnf
              refine ⟨_, _, booked_c c (wholeU c) false l hf, ?_⟩
              conv => whnf
              refine ⟨by omega, by omega, _, r1_get hz, ?_⟩
              conv => whnf
              refine gv (by first | omega | (simp only []; omega) | (simp; omega)) (by first | omega | (simp only []; omega) | (simp; omega)) ?_
              conv => whnf
              refine ⟨by omega, _, r2_get hy, ?_⟩
              conv => whnf
              refine ⟨[], rfl, ?_, trivial⟩
              have := fits_iff hf ⟨by omega, by omega⟩ hh hs hnow h5 h6 h7
              rw [if_pos h10, hcap, hbk, hload] at this
              have e : decide (fitsP c l x) = decide (z + tt.load ≤ y.2) := decide_eq_decide.2 (this.trans ⟨fun k => k.resolve_left h11, .inr⟩)
              simp [mtV, valOf, mtC, eqD, e]
          · refine ⟨by kernel_rfl, ?_⟩
            conv => whnf
            refine spE (fun h11 => ?_) (fun h11 => ?_) <;> conv => whnf
            · refine ⟨[], rfl, ?_, trivial⟩
              have := (fits_iff hf ⟨by omega, by omega⟩ hh hs hnow h5 h6 h7).2 (by rw [if_neg (fun h => h h10)]; exact .inl h11)
              simp [mtV, valOf, mtC, eqD, this]
            · obtain ⟨z, hz⟩ := get_int (l := booked c l) (i := x.s) (by omega) (by omega)
              obtain ⟨y, hy⟩ := get_int (l := c.cells) (i := x.s) (by omega) (by omega)
              have hzr := hbr z (List.mem_of_getElem? hz)
              have hcap : capOf c x.s = y.2 := by simp [capOf, hy]
              have hbk : bookAt c l x.s = z := by simp [bookAt, hz]
              refine ⟨_, _, whole_c c hc, ?_⟩
              conv => whnf
              refine ⟨_, _, booked_c c (wholeU c) false l hf, ?_⟩
              conv => whnf
              refine ⟨by omega, by omega, _, r1_get hz, ?_⟩
              conv => whnf
              refine gv (by first | omega | (simp only []; omega) | (simp; omega)) (by first | omega | (simp only []; omega) | (simp; omega)) ?_
              conv => whnf
              refine ⟨by omega, _, r2_get hy, ?_⟩
              conv => whnf
              refine ⟨[], rfl, ?_, trivial⟩
              have := fits_iff hf ⟨by omega, by omega⟩ hh hs hnow h5 h6 h7
              rw [if_neg (fun h => h h10), hcap, hbk, hshad] at this
              have e : decide (fitsP c l x) = decide (z + tt.shadow ≤ y.2) := decide_eq_decide.2 (this.trans ⟨fun k => k.resolve_left h11, .inr⟩)
              simp [mtV, valOf, mtC, eqD, e]
      · have h6 : ¬ (x.h = -1 ∧ p.1 ≠ -1) := fun k => h6' k.1
        refine spNe (fun h8 => ?_) (fun h8 => ?_) <;> conv => whnf
        · refine spNe (fun h9 => ?_) (fun h9 => ?_) <;> conv => whnf
          · refine ⟨_, _, apart_c c x.h x.s hg.laid, ?_⟩
            conv => whnf
            refine ⟨fun hap => ?_, fun hap => ?_⟩ <;> conv => whnf
            · have hap' : apart c x.h x.s = false := by simpa using hap
              exact ⟨[], rfl, by simp [mtV, valOf, mtC, eqD, show ¬ fitsP c l x from fun k => by have := k.2.2.2.2.2.2.1 h8 h9; rw [hap'] at this; cases this], trivial⟩
            · have h7 : x.h ≠ -1 → x.s ≠ -1 → apart c x.h x.s = true := fun _ _ => by simpa using hap
              refine ⟨by kernel_rfl, ?_⟩
              conv => whnf
              refine ⟨by omega, _, rT_get ht, ?_⟩
              conv => whnf
              refine spNe (fun h10 => ?_) (fun h10 => ?_) <;> conv => whnf
              · refine ⟨by kernel_rfl, ?_⟩
                conv => whnf
                refine ⟨by omega, _, rT_get ht, ?_⟩
                conv => whnf
                refine ⟨by kernel_rfl, ?_⟩
                conv => whnf
                refine spE (fun h11 => ?_) (fun h11 => ?_) <;> conv => whnf
                · refine ⟨[], rfl, ?_, trivial⟩
                  have := (fits_iff hf ⟨by omega, by omega⟩ hh hs hnow h5 h6 h7).2 (by rw [if_pos h10]; exact .inl h11)
                  simp [mtV, valOf, mtC, eqD, this]
                · obtain ⟨z, hz⟩ := get_int (l := booked c l) (i := x.h) (by omega) (by omega)
                  obtain ⟨y, hy⟩ := get_int (l := c.cells) (i := x.h) (by omega) (by omega)
                  have hzr := hbr z (List.mem_of_getElem? hz)
                  have hcap : capOf c x.h = y.2 := by simp [capOf, hy]
                  have hbk : bookAt c l x.h = z := by simp [bookAt, hz]
                  refine ⟨_, _, whole_c c hc, ?_⟩
                  conv => whnf
                  refine ⟨_, _, booked_c c (wholeU c) false l hf, ?_⟩
                  conv => whnf
                  refine ⟨by omega, by omega, _, r1_get hz, ?_⟩
                  conv => whnf
                  refine gv (by first | omega | (simp only []; omega) | (simp; omega)) (by first | omega | (simp only []; omega) | (simp; omega)) ?_
                  conv => whnf
                  refine ⟨by omega, _, r2_get hy, ?_⟩
                  conv => whnf
                  refine ⟨[], rfl, ?_, trivial⟩
                  have := fits_iff hf ⟨by omega, by omega⟩ hh hs hnow h5 h6 h7
                  rw [if_pos h10, hcap, hbk, hload] at this
                  have e : decide (fitsP c l x) = decide (z + tt.load ≤ y.2) := decide_eq_decide.2 (this.trans ⟨fun k => k.resolve_left h11, .inr⟩)
                  simp [mtV, valOf, mtC, eqD, e]
              · refine ⟨by kernel_rfl, ?_⟩
                conv => whnf
                refine spE (fun h11 => ?_) (fun h11 => ?_) <;> conv => whnf
                · refine ⟨[], rfl, ?_, trivial⟩
                  have := (fits_iff hf ⟨by omega, by omega⟩ hh hs hnow h5 h6 h7).2 (by rw [if_neg (fun h => h h10)]; exact .inl h11)
                  simp [mtV, valOf, mtC, eqD, this]
                · obtain ⟨z, hz⟩ := get_int (l := booked c l) (i := x.s) (by omega) (by omega)
                  obtain ⟨y, hy⟩ := get_int (l := c.cells) (i := x.s) (by omega) (by omega)
                  have hzr := hbr z (List.mem_of_getElem? hz)
                  have hcap : capOf c x.s = y.2 := by simp [capOf, hy]
                  have hbk : bookAt c l x.s = z := by simp [bookAt, hz]
                  refine ⟨_, _, whole_c c hc, ?_⟩
                  conv => whnf
                  refine ⟨_, _, booked_c c (wholeU c) false l hf, ?_⟩
                  conv => whnf
                  refine ⟨by omega, by omega, _, r1_get hz, ?_⟩
                  conv => whnf
                  refine gv (by first | omega | (simp only []; omega) | (simp; omega)) (by first | omega | (simp only []; omega) | (simp; omega)) ?_
                  conv => whnf
                  refine ⟨by omega, _, r2_get hy, ?_⟩
                  conv => whnf
                  refine ⟨[], rfl, ?_, trivial⟩
                  have := fits_iff hf ⟨by omega, by omega⟩ hh hs hnow h5 h6 h7
                  rw [if_neg (fun h => h h10), hcap, hbk, hshad] at this
                  have e : decide (fitsP c l x) = decide (z + tt.shadow ≤ y.2) := decide_eq_decide.2 (this.trans ⟨fun k => k.resolve_left h11, .inr⟩)
                  simp [mtV, valOf, mtC, eqD, e]
          · have h7 : x.h ≠ -1 → x.s ≠ -1 → apart c x.h x.s = true := fun _ h => absurd h9 h
            refine ⟨by kernel_rfl, ?_⟩
            conv => whnf
            refine ⟨by omega, _, rT_get ht, ?_⟩
            conv => whnf
            refine spNe (fun h10 => ?_) (fun h10 => ?_) <;> conv => whnf
            · refine ⟨by kernel_rfl, ?_⟩
              conv => whnf
              refine ⟨by omega, _, rT_get ht, ?_⟩
              conv => whnf
              refine ⟨by kernel_rfl, ?_⟩
              conv => whnf
              refine spE (fun h11 => ?_) (fun h11 => ?_) <;> conv => whnf
              · refine ⟨[], rfl, ?_, trivial⟩
                have := (fits_iff hf ⟨by omega, by omega⟩ hh hs hnow h5 h6 h7).2 (by rw [if_pos h10]; exact .inl h11)
                simp [mtV, valOf, mtC, eqD, this]
              · obtain ⟨z, hz⟩ := get_int (l := booked c l) (i := x.h) (by omega) (by omega)
                obtain ⟨y, hy⟩ := get_int (l := c.cells) (i := x.h) (by omega) (by omega)
                have hzr := hbr z (List.mem_of_getElem? hz)
                have hcap : capOf c x.h = y.2 := by simp [capOf, hy]
                have hbk : bookAt c l x.h = z := by simp [bookAt, hz]
                refine ⟨_, _, whole_c c hc, ?_⟩
                conv => whnf
                refine ⟨_, _, booked_c c (wholeU c) false l hf, ?_⟩
                conv => whnf
                refine ⟨by omega, by omega, _, r1_get hz, ?_⟩
                conv => whnf
                refine gv (by first | omega | (simp only []; omega) | (simp; omega)) (by first | omega | (simp only []; omega) | (simp; omega)) ?_
                conv => whnf
                refine ⟨by omega, _, r2_get hy, ?_⟩
                conv => whnf
                refine ⟨[], rfl, ?_, trivial⟩
                have := fits_iff hf ⟨by omega, by omega⟩ hh hs hnow h5 h6 h7
                rw [if_pos h10, hcap, hbk, hload] at this
                have e : decide (fitsP c l x) = decide (z + tt.load ≤ y.2) := decide_eq_decide.2 (this.trans ⟨fun k => k.resolve_left h11, .inr⟩)
                simp [mtV, valOf, mtC, eqD, e]
            · refine ⟨by kernel_rfl, ?_⟩
              conv => whnf
              refine spE (fun h11 => ?_) (fun h11 => ?_) <;> conv => whnf
              · refine ⟨[], rfl, ?_, trivial⟩
                have := (fits_iff hf ⟨by omega, by omega⟩ hh hs hnow h5 h6 h7).2 (by rw [if_neg (fun h => h h10)]; exact .inl h11)
                simp [mtV, valOf, mtC, eqD, this]
              · obtain ⟨z, hz⟩ := get_int (l := booked c l) (i := x.s) (by omega) (by omega)
                obtain ⟨y, hy⟩ := get_int (l := c.cells) (i := x.s) (by omega) (by omega)
                have hzr := hbr z (List.mem_of_getElem? hz)
                have hcap : capOf c x.s = y.2 := by simp [capOf, hy]
                have hbk : bookAt c l x.s = z := by simp [bookAt, hz]
                refine ⟨_, _, whole_c c hc, ?_⟩
                conv => whnf
                refine ⟨_, _, booked_c c (wholeU c) false l hf, ?_⟩
                conv => whnf
                refine ⟨by omega, by omega, _, r1_get hz, ?_⟩
                conv => whnf
                refine gv (by first | omega | (simp only []; omega) | (simp; omega)) (by first | omega | (simp only []; omega) | (simp; omega)) ?_
                conv => whnf
                refine ⟨by omega, _, r2_get hy, ?_⟩
                conv => whnf
                refine ⟨[], rfl, ?_, trivial⟩
                have := fits_iff hf ⟨by omega, by omega⟩ hh hs hnow h5 h6 h7
                rw [if_neg (fun h => h h10), hcap, hbk, hshad] at this
                have e : decide (fitsP c l x) = decide (z + tt.shadow ≤ y.2) := decide_eq_decide.2 (this.trans ⟨fun k => k.resolve_left h11, .inr⟩)
                simp [mtV, valOf, mtC, eqD, e]
        · have h7 : x.h ≠ -1 → x.s ≠ -1 → apart c x.h x.s = true := fun h _ => absurd h8 h
          refine ⟨by kernel_rfl, ?_⟩
          conv => whnf
          refine ⟨by omega, _, rT_get ht, ?_⟩
          conv => whnf
          refine spNe (fun h10 => ?_) (fun h10 => ?_) <;> conv => whnf
          · refine ⟨by kernel_rfl, ?_⟩
            conv => whnf
            refine ⟨by omega, _, rT_get ht, ?_⟩
            conv => whnf
            refine ⟨by kernel_rfl, ?_⟩
            conv => whnf
            refine spE (fun h11 => ?_) (fun h11 => ?_) <;> conv => whnf
            · refine ⟨[], rfl, ?_, trivial⟩
              have := (fits_iff hf ⟨by omega, by omega⟩ hh hs hnow h5 h6 h7).2 (by rw [if_pos h10]; exact .inl h11)
              simp [mtV, valOf, mtC, eqD, this]
            · obtain ⟨z, hz⟩ := get_int (l := booked c l) (i := x.h) (by omega) (by omega)
              obtain ⟨y, hy⟩ := get_int (l := c.cells) (i := x.h) (by omega) (by omega)
              have hzr := hbr z (List.mem_of_getElem? hz)
              have hcap : capOf c x.h = y.2 := by simp [capOf, hy]
              have hbk : bookAt c l x.h = z := by simp [bookAt, hz]
              refine ⟨_, _, whole_c c hc, ?_⟩
              conv => whnf
              refine ⟨_, _, booked_c c (wholeU c) false l hf, ?_⟩
              conv => whnf
              refine ⟨by omega, by omega, _, r1_get hz, ?_⟩
              conv => whnf
              refine gv (by first | omega | (simp only []; omega) | (simp; omega)) (by first | omega | (simp only []; omega) | (simp; omega)) ?_
              conv => whnf
              refine ⟨by omega, _, r2_get hy, ?_⟩
              conv => whnf
              refine ⟨[], rfl, ?_, trivial⟩
              have := fits_iff hf ⟨by omega, by omega⟩ hh hs hnow h5 h6 h7
              rw [if_pos h10, hcap, hbk, hload] at this
              have e : decide (fitsP c l x) = decide (z + tt.load ≤ y.2) := decide_eq_decide.2 (this.trans ⟨fun k => k.resolve_left h11, .inr⟩)
              simp [mtV, valOf, mtC, eqD, e]
          · refine ⟨by kernel_rfl, ?_⟩
            conv => whnf
            refine spE (fun h11 => ?_) (fun h11 => ?_) <;> conv => whnf
            · refine ⟨[], rfl, ?_, trivial⟩
              have := (fits_iff hf ⟨by omega, by omega⟩ hh hs hnow h5 h6 h7).2 (by rw [if_neg (fun h => h h10)]; exact .inl h11)
              simp [mtV, valOf, mtC, eqD, this]
            · obtain ⟨z, hz⟩ := get_int (l := booked c l) (i := x.s) (by omega) (by omega)
              obtain ⟨y, hy⟩ := get_int (l := c.cells) (i := x.s) (by omega) (by omega)
              have hzr := hbr z (List.mem_of_getElem? hz)
              have hcap : capOf c x.s = y.2 := by simp [capOf, hy]
              have hbk : bookAt c l x.s = z := by simp [bookAt, hz]
              refine ⟨_, _, whole_c c hc, ?_⟩
              conv => whnf
              refine ⟨_, _, booked_c c (wholeU c) false l hf, ?_⟩
              conv => whnf
              refine ⟨by omega, by omega, _, r1_get hz, ?_⟩
              conv => whnf
              refine gv (by first | omega | (simp only []; omega) | (simp; omega)) (by first | omega | (simp only []; omega) | (simp; omega)) ?_
              conv => whnf
              refine ⟨by omega, _, r2_get hy, ?_⟩
              conv => whnf
              refine ⟨[], rfl, ?_, trivial⟩
              have := fits_iff hf ⟨by omega, by omega⟩ hh hs hnow h5 h6 h7
              rw [if_neg (fun h => h h10), hcap, hbk, hshad] at this
              have e : decide (fitsP c l x) = decide (z + tt.shadow ≤ y.2) := decide_eq_decide.2 (this.trans ⟨fun k => k.resolve_left h11, .inr⟩)
              simp [mtV, valOf, mtC, eqD, e]
    · have hh : -1 ≤ x.h ∧ x.h < c.cells.length := by omega
      have hs : -1 ≤ x.s ∧ x.s < c.cells.length := by omega
      refine ⟨by omega, _, r2_get hp, ?_⟩
      conv => whnf
      refine eqBB (fun h5 => ?_) (fun h5 => ?_) <;> conv => whnf
      · exact ⟨[], rfl, by simp [mtV, valOf, mtC, eqD, show ¬ fitsP c l x from fun k => by obtain ⟨_, _, _, _, k5, k6, k7, k8⟩ := k; rw [hnow] at k5 k6; omega], trivial⟩
      refine spE (fun h6' => ?_) (fun h6' => ?_) <;> conv => whnf
      · refine spNe (fun h6'' => ?_) (fun h6'' => ?_) <;> conv => whnf
        · exact ⟨[], rfl, by simp [mtV, valOf, mtC, eqD, show ¬ fitsP c l x from fun k => by obtain ⟨_, _, _, _, k5, k6, k7, k8⟩ := k; rw [hnow] at k5 k6; omega], trivial⟩
        have h6 : ¬ (x.h = -1 ∧ p.1 ≠ -1) := fun k => k.2 h6''
        refine spNe (fun h8 => ?_) (fun h8 => ?_) <;> conv => whnf
        · refine spNe (fun h9 => ?_) (fun h9 => ?_) <;> conv => whnf
          · refine ⟨_, _, apart_c c x.h x.s hg.laid, ?_⟩
            conv => whnf
            refine ⟨fun hap => ?_, fun hap => ?_⟩ <;> conv => whnf
            · have hap' : apart c x.h x.s = false := by simpa using hap
              exact ⟨[], rfl, by simp [mtV, valOf, mtC, eqD, show ¬ fitsP c l x from fun k => by have := k.2.2.2.2.2.2.1 h8 h9; rw [hap'] at this; cases this], trivial⟩
            · have h7 : x.h ≠ -1 → x.s ≠ -1 → apart c x.h x.s = true := fun _ _ => by simpa using hap
              refine ⟨by kernel_rfl, ?_⟩
              conv => whnf
              refine ⟨by omega, _, rT_get ht, ?_⟩
              conv => whnf
              refine spNe (fun h10 => ?_) (fun h10 => ?_) <;> conv => whnf
              · refine ⟨by kernel_rfl, ?_⟩
                conv => whnf
                refine ⟨by omega, _, rT_get ht, ?_⟩
                conv => whnf
                refine ⟨by kernel_rfl, ?_⟩
                conv => whnf
                refine spE (fun h11 => ?_) (fun h11 => ?_) <;> conv => whnf
                · refine ⟨[], rfl, ?_, trivial⟩
                  have := (fits_iff hf ⟨by omega, by omega⟩ hh hs hnow h5 h6 h7).2 (by rw [if_pos h10]; exact .inl h11)
                  simp [mtV, valOf, mtC, eqD, this]
                · obtain ⟨z, hz⟩ := get_int (l := booked c l) (i := x.h) (by omega) (by omega)
                  obtain ⟨y, hy⟩ := get_int (l := c.cells) (i := x.h) (by omega) (by omega)
                  have hzr := hbr z (List.mem_of_getElem? hz)
                  have hcap : capOf c x.h = y.2 := by simp [capOf, hy]
                  have hbk : bookAt c l x.h = z := by simp [bookAt, hz]
                  refine ⟨_, _, whole_c c hc, ?_⟩
                  conv => whnf
                  refine ⟨_, _, booked_c c (wholeU c) false l hf, ?_⟩
                  conv => whnf
                  refine ⟨by omega, by omega, _, r1_get hz, ?_⟩
                  conv => whnf
                  refine gv (by first | omega | (simp only []; omega) | (simp; omega)) (by first | omega | (simp only []; omega) | (simp; omega)) ?_
                  conv => whnf
                  refine ⟨by omega, _, r2_get hy, ?_⟩
                  conv => whnf
                  refine ⟨[], rfl, ?_, trivial⟩
                  have := fits_iff hf ⟨by omega, by omega⟩ hh hs hnow h5 h6 h7
                  rw [if_pos h10, hcap, hbk, hload] at this
                  have e : decide (fitsP c l x) = decide (z + tt.load ≤ y.2) := decide_eq_decide.2 (this.trans ⟨fun k => k.resolve_left h11, .inr⟩)
                  simp [mtV, valOf, mtC, eqD, e]
              · refine ⟨by kernel_rfl, ?_⟩
                conv => whnf
                refine spE (fun h11 => ?_) (fun h11 => ?_) <;> conv => whnf
                · refine ⟨[], rfl, ?_, trivial⟩
                  have := (fits_iff hf ⟨by omega, by omega⟩ hh hs hnow h5 h6 h7).2 (by rw [if_neg (fun h => h h10)]; exact .inl h11)
                  simp [mtV, valOf, mtC, eqD, this]
                · obtain ⟨z, hz⟩ := get_int (l := booked c l) (i := x.s) (by omega) (by omega)
                  obtain ⟨y, hy⟩ := get_int (l := c.cells) (i := x.s) (by omega) (by omega)
                  have hzr := hbr z (List.mem_of_getElem? hz)
                  have hcap : capOf c x.s = y.2 := by simp [capOf, hy]
                  have hbk : bookAt c l x.s = z := by simp [bookAt, hz]
                  refine ⟨_, _, whole_c c hc, ?_⟩
                  conv => whnf
                  refine ⟨_, _, booked_c c (wholeU c) false l hf, ?_⟩
                  conv => whnf
                  refine ⟨by omega, by omega, _, r1_get hz, ?_⟩
                  conv => whnf
                  refine gv (by first | omega | (simp only []; omega) | (simp; omega)) (by first | omega | (simp only []; omega) | (simp; omega)) ?_
                  conv => whnf
                  refine ⟨by omega, _, r2_get hy, ?_⟩
                  conv => whnf
                  refine ⟨[], rfl, ?_, trivial⟩
                  have := fits_iff hf ⟨by omega, by omega⟩ hh hs hnow h5 h6 h7
                  rw [if_neg (fun h => h h10), hcap, hbk, hshad] at this
                  have e : decide (fitsP c l x) = decide (z + tt.shadow ≤ y.2) := decide_eq_decide.2 (this.trans ⟨fun k => k.resolve_left h11, .inr⟩)
                  simp [mtV, valOf, mtC, eqD, e]
          · have h7 : x.h ≠ -1 → x.s ≠ -1 → apart c x.h x.s = true := fun _ h => absurd h9 h
            refine ⟨by kernel_rfl, ?_⟩
            conv => whnf
            refine ⟨by omega, _, rT_get ht, ?_⟩
            conv => whnf
            refine spNe (fun h10 => ?_) (fun h10 => ?_) <;> conv => whnf
            · refine ⟨by kernel_rfl, ?_⟩
              conv => whnf
              refine ⟨by omega, _, rT_get ht, ?_⟩
              conv => whnf
              refine ⟨by kernel_rfl, ?_⟩
              conv => whnf
              refine spE (fun h11 => ?_) (fun h11 => ?_) <;> conv => whnf
              · refine ⟨[], rfl, ?_, trivial⟩
                have := (fits_iff hf ⟨by omega, by omega⟩ hh hs hnow h5 h6 h7).2 (by rw [if_pos h10]; exact .inl h11)
                simp [mtV, valOf, mtC, eqD, this]
              · obtain ⟨z, hz⟩ := get_int (l := booked c l) (i := x.h) (by omega) (by omega)
                obtain ⟨y, hy⟩ := get_int (l := c.cells) (i := x.h) (by omega) (by omega)
                have hzr := hbr z (List.mem_of_getElem? hz)
                have hcap : capOf c x.h = y.2 := by simp [capOf, hy]
                have hbk : bookAt c l x.h = z := by simp [bookAt, hz]
                refine ⟨_, _, whole_c c hc, ?_⟩
                conv => whnf
                refine ⟨_, _, booked_c c (wholeU c) false l hf, ?_⟩
                conv => whnf
                refine ⟨by omega, by omega, _, r1_get hz, ?_⟩
                conv => whnf
                refine gv (by first | omega | (simp only []; omega) | (simp; omega)) (by first | omega | (simp only []; omega) | (simp; omega)) ?_
                conv => whnf
                refine ⟨by omega, _, r2_get hy, ?_⟩
                conv => whnf
                refine ⟨[], rfl, ?_, trivial⟩
                have := fits_iff hf ⟨by omega, by omega⟩ hh hs hnow h5 h6 h7
                rw [if_pos h10, hcap, hbk, hload] at this
                have e : decide (fitsP c l x) = decide (z + tt.load ≤ y.2) := decide_eq_decide.2 (this.trans ⟨fun k => k.resolve_left h11, .inr⟩)
                simp [mtV, valOf, mtC, eqD, e]
            · refine ⟨by kernel_rfl, ?_⟩
              conv => whnf
              refine spE (fun h11 => ?_) (fun h11 => ?_) <;> conv => whnf
              · refine ⟨[], rfl, ?_, trivial⟩
                have := (fits_iff hf ⟨by omega, by omega⟩ hh hs hnow h5 h6 h7).2 (by rw [if_neg (fun h => h h10)]; exact .inl h11)
                simp [mtV, valOf, mtC, eqD, this]
              · obtain ⟨z, hz⟩ := get_int (l := booked c l) (i := x.s) (by omega) (by omega)
                obtain ⟨y, hy⟩ := get_int (l := c.cells) (i := x.s) (by omega) (by omega)
                have hzr := hbr z (List.mem_of_getElem? hz)
                have hcap : capOf c x.s = y.2 := by simp [capOf, hy]
                have hbk : bookAt c l x.s = z := by simp [bookAt, hz]
                refine ⟨_, _, whole_c c hc, ?_⟩
                conv => whnf
                refine ⟨_, _, booked_c c (wholeU c) false l hf, ?_⟩
                conv => whnf
                refine ⟨by omega, by omega, _, r1_get hz, ?_⟩
                conv => whnf
                refine gv (by first | omega | (simp only []; omega) | (simp; omega)) (by first | omega | (simp only []; omega) | (simp; omega)) ?_
                conv => whnf
                refine ⟨by omega, _, r2_get hy, ?_⟩
                conv => whnf
                refine ⟨[], rfl, ?_, trivial⟩
                have := fits_iff hf ⟨by omega, by omega⟩ hh hs hnow h5 h6 h7
                rw [if_neg (fun h => h h10), hcap, hbk, hshad] at this
                have e : decide (fitsP c l x) = decide (z + tt.shadow ≤ y.2) := decide_eq_decide.2 (this.trans ⟨fun k => k.resolve_left h11, .inr⟩)
                simp [mtV, valOf, mtC, eqD, e]
        · have h7 : x.h ≠ -1 → x.s ≠ -1 → apart c x.h x.s = true := fun h _ => absurd h8 h
          refine ⟨by kernel_rfl, ?_⟩
          conv => whnf
          refine ⟨by omega, _, rT_get ht, ?_⟩
          conv => whnf
          refine spNe (fun h10 => ?_) (fun h10 => ?_) <;> conv => whnf
          · refine ⟨by kernel_rfl, ?_⟩
            conv => whnf
            refine ⟨by omega, _, rT_get ht, ?_⟩
            conv => whnf
            refine ⟨by kernel_rfl, ?_⟩
            conv => whnf
            refine spE (fun h11 => ?_) (fun h11 => ?_) <;> conv => whnf
            · refine ⟨[], rfl, ?_, trivial⟩
              have := (fits_iff hf ⟨by omega, by omega⟩ hh hs hnow h5 h6 h7).2 (by rw [if_pos h10]; exact .inl h11)
              simp [mtV, valOf, mtC, eqD, this]
            · obtain ⟨z, hz⟩ := get_int (l := booked c l) (i := x.h) (by omega) (by omega)
              obtain ⟨y, hy⟩ := get_int (l := c.cells) (i := x.h) (by omega) (by omega)
              have hzr := hbr z (List.mem_of_getElem? hz)
              have hcap : capOf c x.h = y.2 := by simp [capOf, hy]
              have hbk : bookAt c l x.h = z := by simp [bookAt, hz]
              refine ⟨_, _, whole_c c hc, ?_⟩
              conv => whnf
              refine ⟨_, _, booked_c c (wholeU c) false l hf, ?_⟩
              conv => whnf
              refine ⟨by omega, by omega, _, r1_get hz, ?_⟩
              conv => whnf
              refine gv (by first | omega | (simp only []; omega) | (simp; omega)) (by first | omega | (simp only []; omega) | (simp; omega)) ?_
              conv => whnf
              refine ⟨by omega, _, r2_get hy, ?_⟩
              conv => whnf
              refine ⟨[], rfl, ?_, trivial⟩
              have := fits_iff hf ⟨by omega, by omega⟩ hh hs hnow h5 h6 h7
              rw [if_pos h10, hcap, hbk, hload] at this
              have e : decide (fitsP c l x) = decide (z + tt.load ≤ y.2) := decide_eq_decide.2 (this.trans ⟨fun k => k.resolve_left h11, .inr⟩)
              simp [mtV, valOf, mtC, eqD, e]
          · refine ⟨by kernel_rfl, ?_⟩
            conv => whnf
            refine spE (fun h11 => ?_) (fun h11 => ?_) <;> conv => whnf
            · refine ⟨[], rfl, ?_, trivial⟩
              have := (fits_iff hf ⟨by omega, by omega⟩ hh hs hnow h5 h6 h7).2 (by rw [if_neg (fun h => h h10)]; exact .inl h11)
              simp [mtV, valOf, mtC, eqD, this]
            · obtain ⟨z, hz⟩ := get_int (l := booked c l) (i := x.s) (by omega) (by omega)
              obtain ⟨y, hy⟩ := get_int (l := c.cells) (i := x.s) (by omega) (by omega)
              have hzr := hbr z (List.mem_of_getElem? hz)
              have hcap : capOf c x.s = y.2 := by simp [capOf, hy]
              have hbk : bookAt c l x.s = z := by simp [bookAt, hz]
              refine ⟨_, _, whole_c c hc, ?_⟩
              conv => whnf
              refine ⟨_, _, booked_c c (wholeU c) false l hf, ?_⟩
              conv => whnf
              refine ⟨by omega, by omega, _, r1_get hz, ?_⟩
              conv => whnf
              refine gv (by first | omega | (simp only []; omega) | (simp; omega)) (by first | omega | (simp only []; omega) | (simp; omega)) ?_
              conv => whnf
              refine ⟨by omega, _, r2_get hy, ?_⟩
              conv => whnf
              refine ⟨[], rfl, ?_, trivial⟩
              have := fits_iff hf ⟨by omega, by omega⟩ hh hs hnow h5 h6 h7
              rw [if_neg (fun h => h h10), hcap, hbk, hshad] at this
              have e : decide (fitsP c l x) = decide (z + tt.shadow ≤ y.2) := decide_eq_decide.2 (this.trans ⟨fun k => k.resolve_left h11, .inr⟩)
              simp [mtV, valOf, mtC, eqD, e]
      · have h6 : ¬ (x.h = -1 ∧ p.1 ≠ -1) := fun k => h6' k.1
        refine spNe (fun h8 => ?_) (fun h8 => ?_) <;> conv => whnf
        · refine spNe (fun h9 => ?_) (fun h9 => ?_) <;> conv => whnf
          · refine ⟨_, _, apart_c c x.h x.s hg.laid, ?_⟩
            conv => whnf
            refine ⟨fun hap => ?_, fun hap => ?_⟩ <;> conv => whnf
            · have hap' : apart c x.h x.s = false := by simpa using hap
              exact ⟨[], rfl, by simp [mtV, valOf, mtC, eqD, show ¬ fitsP c l x from fun k => by have := k.2.2.2.2.2.2.1 h8 h9; rw [hap'] at this; cases this], trivial⟩
            · have h7 : x.h ≠ -1 → x.s ≠ -1 → apart c x.h x.s = true := fun _ _ => by simpa using hap
              refine ⟨by kernel_rfl, ?_⟩
              conv => whnf
              refine ⟨by omega, _, rT_get ht, ?_⟩
              conv => whnf
              refine spNe (fun h10 => ?_) (fun h10 => ?_) <;> conv => whnf
              · refine ⟨by kernel_rfl, ?_⟩
                conv => whnf
                refine ⟨by omega, _, rT_get ht, ?_⟩
                conv => whnf
                refine ⟨by kernel_rfl, ?_⟩
                conv => whnf
                refine spE (fun h11 => ?_) (fun h11 => ?_) <;> conv => whnf
                · refine ⟨[], rfl, ?_, trivial⟩
                  have := (fits_iff hf ⟨by omega, by omega⟩ hh hs hnow h5 h6 h7).2 (by rw [if_pos h10]; exact .inl h11)
                  simp [mtV, valOf, mtC, eqD, this]
                · obtain ⟨z, hz⟩ := get_int (l := booked c l) (i := x.h) (by omega) (by omega)
                  obtain ⟨y, hy⟩ := get_int (l := c.cells) (i := x.h) (by omega) (by omega)
                  have hzr := hbr z (List.mem_of_getElem? hz)
                  have hcap : capOf c x.h = y.2 := by simp [capOf, hy]
                  have hbk : bookAt c l x.h = z := by simp [bookAt, hz]
                  refine ⟨_, _, whole_c c hc, ?_⟩
                  conv => whnf
                  refine ⟨_, _, booked_c c (wholeU c) false l hf, ?_⟩
                  conv => whnf
                  refine ⟨by omega, by omega, _, r1_get hz, ?_⟩
                  conv => whnf
                  refine gv (by first | omega | (simp only []; omega) | (simp; omega)) (by first | omega | (simp only []; omega) | (simp; omega)) ?_
                  conv => whnf
                  refine ⟨by omega, _, r2_get hy, ?_⟩
                  conv => whnf
                  refine ⟨[], rfl, ?_, trivial⟩
                  have := fits_iff hf ⟨by omega, by omega⟩ hh hs hnow h5 h6 h7
                  rw [if_pos h10, hcap, hbk, hload] at this
                  have e : decide (fitsP c l x) = decide (z + tt.load ≤ y.2) := decide_eq_decide.2 (this.trans ⟨fun k => k.resolve_left h11, .inr⟩)
                  simp [mtV, valOf, mtC, eqD, e]
              · refine ⟨by kernel_rfl, ?_⟩
                conv => whnf
                refine spE (fun h11 => ?_) (fun h11 => ?_) <;> conv => whnf
                · refine ⟨[], rfl, ?_, trivial⟩
                  have := (fits_iff hf ⟨by omega, by omega⟩ hh hs hnow h5 h6 h7).2 (by rw [if_neg (fun h => h h10)]; exact .inl h11)
                  simp [mtV, valOf, mtC, eqD, this]
                · obtain ⟨z, hz⟩ := get_int (l := booked c l) (i := x.s) (by omega) (by omega)
                  obtain ⟨y, hy⟩ := get_int (l := c.cells) (i := x.s) (by omega) (by omega)
                  have hzr := hbr z (List.mem_of_getElem? hz)
                  have hcap : capOf c x.s = y.2 := by simp [capOf, hy]
                  have hbk : bookAt c l x.s = z := by simp [bookAt, hz]
                  refine ⟨_, _, whole_c c hc, ?_⟩
                  conv => whnf
                  refine ⟨_, _, booked_c c (wholeU c) false l hf, ?_⟩
                  conv => whnf
                  refine ⟨by omega, by omega, _, r1_get hz, ?_⟩
                  conv => whnf
                  refine gv (by first | omega | (simp only []; omega) | (simp; omega)) (by first | omega | (simp only []; omega) | (simp; omega)) ?_
                  conv => whnf
                  refine ⟨by omega, _, r2_get hy, ?_⟩
                  conv => whnf
                  refine ⟨[], rfl, ?_, trivial⟩
                  have := fits_iff hf ⟨by omega, by omega⟩ hh hs hnow h5 h6 h7
                  rw [if_neg (fun h => h h10), hcap, hbk, hshad] at this
                  have e : decide (fitsP c l x) = decide (z + tt.shadow ≤ y.2) := decide_eq_decide.2 (this.trans ⟨fun k => k.resolve_left h11, .inr⟩)
                  simp [mtV, valOf, mtC, eqD, e]
          · have h7 : x.h ≠ -1 → x.s ≠ -1 → apart c x.h x.s = true := fun _ h => absurd h9 h
            refine ⟨by kernel_rfl, ?_⟩
            conv => whnf
            refine ⟨by omega, _, rT_get ht, ?_⟩
            conv => whnf
            refine spNe (fun h10 => ?_) (fun h10 => ?_) <;> conv => whnf
            · refine ⟨by kernel_rfl, ?_⟩
              conv => whnf
              refine ⟨by omega, _, rT_get ht, ?_⟩
              conv => whnf
              refine ⟨by kernel_rfl, ?_⟩
              conv => whnf
              refine spE (fun h11 => ?_) (fun h11 => ?_) <;> conv => whnf
              · refine ⟨[], rfl, ?_, trivial⟩
                have := (fits_iff hf ⟨by omega, by omega⟩ hh hs hnow h5 h6 h7).2 (by rw [if_pos h10]; exact .inl h11)
                simp [mtV, valOf, mtC, eqD, this]
              · obtain ⟨z, hz⟩ := get_int (l := booked c l) (i := x.h) (by omega) (by omega)
                obtain ⟨y, hy⟩ := get_int (l := c.cells) (i := x.h) (by omega) (by omega)
                have hzr := hbr z (List.mem_of_getElem? hz)
                have hcap : capOf c x.h = y.2 := by simp [capOf, hy]
                have hbk : bookAt c l x.h = z := by simp [bookAt, hz]
                refine ⟨_, _, whole_c c hc, ?_⟩
                conv => whnf
                refine ⟨_, _, booked_c c (wholeU c) false l hf, ?_⟩
                conv => whnf
                refine ⟨by omega, by omega, _, r1_get hz, ?_⟩
                conv => whnf
                refine gv (by first | omega | (simp only []; omega) | (simp; omega)) (by first | omega | (simp only []; omega) | (simp; omega)) ?_
                conv => whnf
                refine ⟨by omega, _, r2_get hy, ?_⟩
                conv => whnf
                refine ⟨[], rfl, ?_, trivial⟩
                have := fits_iff hf ⟨by omega, by omega⟩ hh hs hnow h5 h6 h7
                rw [if_pos h10, hcap, hbk, hload] at this
                have e : decide (fitsP c l x) = decide (z + tt.load ≤ y.2) := decide_eq_decide.2 (this.trans ⟨fun k => k.resolve_left h11, .inr⟩)
                simp [mtV, valOf, mtC, eqD, e]
            · refine ⟨by kernel_rfl, ?_⟩
              conv => whnf
              refine spE (fun h11 => ?_) (fun h11 => ?_) <;> conv => whnf
              · refine ⟨[], rfl, ?_, trivial⟩
                have := (fits_iff hf ⟨by omega, by omega⟩ hh hs hnow h5 h6 h7).2 (by rw [if_neg (fun h => h h10)]; exact .inl h11)
                simp [mtV, valOf, mtC, eqD, this]
              · obtain ⟨z, hz⟩ := get_int (l := booked c l) (i := x.s) (by omega) (by omega)
                obtain ⟨y, hy⟩ := get_int (l := c.cells) (i := x.s) (by omega) (by omega)
                have hzr := hbr z (List.mem_of_getElem? hz)
                have hcap : capOf c x.s = y.2 := by simp [capOf, hy]
                have hbk : bookAt c l x.s = z := by simp [bookAt, hz]
                refine ⟨_, _, whole_c c hc, ?_⟩
                conv => whnf
                refine ⟨_, _, booked_c c (wholeU c) false l hf, ?_⟩
                conv => whnf
                refine ⟨by omega, by omega, _, r1_get hz, ?_⟩
                conv => whnf
                refine gv (by first | omega | (simp only []; omega) | (simp; omega)) (by first | omega | (simp only []; omega) | (simp; omega)) ?_
                conv => whnf
                refine ⟨by omega, _, r2_get hy, ?_⟩
                conv => whnf
                refine ⟨[], rfl, ?_, trivial⟩
                have := fits_iff hf ⟨by omega, by omega⟩ hh hs hnow h5 h6 h7
                rw [if_neg (fun h => h h10), hcap, hbk, hshad] at this
                have e : decide (fitsP c l x) = decide (z + tt.shadow ≤ y.2) := decide_eq_decide.2 (this.trans ⟨fun k => k.resolve_left h11, .inr⟩)
                simp [mtV, valOf, mtC, eqD, e]
        · have h7 : x.h ≠ -1 → x.s ≠ -1 → apart c x.h x.s = true := fun h _ => absurd h8 h
          refine ⟨by kernel_rfl, ?_⟩
          conv => whnf
          refine ⟨by omega, _, rT_get ht, ?_⟩
          conv => whnf
          refine spNe (fun h10 => ?_) (fun h10 => ?_) <;> conv => whnf
          · refine ⟨by kernel_rfl, ?_⟩
            conv => whnf
            refine ⟨by omega, _, rT_get ht, ?_⟩
            conv => whnf
            refine ⟨by kernel_rfl, ?_⟩
            conv => whnf
            refine spE (fun h11 => ?_) (fun h11 => ?_) <;> conv => whnf
            · refine ⟨[], rfl, ?_, trivial⟩
              have := (fits_iff hf ⟨by omega, by omega⟩ hh hs hnow h5 h6 h7).2 (by rw [if_pos h10]; exact .inl h11)
              simp [mtV, valOf, mtC, eqD, this]
            · obtain ⟨z, hz⟩ := get_int (l := booked c l) (i := x.h) (by omega) (by omega)
              obtain ⟨y, hy⟩ := get_int (l := c.cells) (i := x.h) (by omega) (by omega)
              have hzr := hbr z (List.mem_of_getElem? hz)
              have hcap : capOf c x.h = y.2 := by simp [capOf, hy]
              have hbk : bookAt c l x.h = z := by simp [bookAt, hz]
              refine ⟨_, _, whole_c c hc, ?_⟩
              conv => whnf
              refine ⟨_, _, booked_c c (wholeU c) false l hf, ?_⟩
              conv => whnf
              refine ⟨by omega, by omega, _, r1_get hz, ?_⟩
              conv => whnf
              refine gv (by first | omega | (simp only []; omega) | (simp; omega)) (by first | omega | (simp only []; omega) | (simp; omega)) ?_
              conv => whnf
              refine ⟨by omega, _, r2_get hy, ?_⟩
              conv => whnf
              refine ⟨[], rfl, ?_, trivial⟩
              have := fits_iff hf ⟨by omega, by omega⟩ hh hs hnow h5 h6 h7
              rw [if_pos h10, hcap, hbk, hload] at this
              have e : decide (fitsP c l x) = decide (z + tt.load ≤ y.2) := decide_eq_decide.2 (this.trans ⟨fun k => k.resolve_left h11, .inr⟩)
              simp [mtV, valOf, mtC, eqD, e]
          · refine ⟨by kernel_rfl, ?_⟩
            conv => whnf
            refine spE (fun h11 => ?_) (fun h11 => ?_) <;> conv => whnf
            · refine ⟨[], rfl, ?_, trivial⟩
              have := (fits_iff hf ⟨by omega, by omega⟩ hh hs hnow h5 h6 h7).2 (by rw [if_neg (fun h => h h10)]; exact .inl h11)
              simp [mtV, valOf, mtC, eqD, this]
            · obtain ⟨z, hz⟩ := get_int (l := booked c l) (i := x.s) (by omega) (by omega)
              obtain ⟨y, hy⟩ := get_int (l := c.cells) (i := x.s) (by omega) (by omega)
              have hzr := hbr z (List.mem_of_getElem? hz)
              have hcap : capOf c x.s = y.2 := by simp [capOf, hy]
              have hbk : bookAt c l x.s = z := by simp [bookAt, hz]
              refine ⟨_, _, whole_c c hc, ?_⟩
              conv => whnf
              refine ⟨_, _, booked_c c (wholeU c) false l hf, ?_⟩
              conv => whnf
              refine ⟨by omega, by omega, _, r1_get hz, ?_⟩
              conv => whnf
              refine gv (by first | omega | (simp only []; omega) | (simp; omega)) (by first | omega | (simp only []; omega) | (simp; omega)) ?_
              conv => whnf
              refine ⟨by omega, _, r2_get hy, ?_⟩
              conv => whnf
              refine ⟨[], rfl, ?_, trivial⟩
              have := fits_iff hf ⟨by omega, by omega⟩ hh hs hnow h5 h6 h7
              rw [if_neg (fun h => h h10), hcap, hbk, hshad] at this
              have e : decide (fitsP c l x) = decide (z + tt.shadow ≤ y.2) := decide_eq_decide.2 (this.trans ⟨fun k => k.resolve_left h11, .inr⟩)
              simp [mtV, valOf, mtC, eqD, e]
  · refine spNe (fun h4 => ?_) (fun h4 => ?_) <;> conv => whnf
    · refine ⟨_, _, isCell_c c x.s, ?_⟩
      conv => whnf
      refine spN (fun h => ?_) (fun h4' => ?_) <;> conv => whnf
      · exact ⟨[], rfl, by simp [mtV, valOf, mtC, eqD, show ¬ fitsP c l x from fun k => by have := k.2.2.1; have := k.2.2.2.1; omega], trivial⟩
      have hh : -1 ≤ x.h ∧ x.h < c.cells.length := by omega
      have hs : -1 ≤ x.s ∧ x.s < c.cells.length := by omega
      refine ⟨by omega, _, r2_get hp, ?_⟩
      conv => whnf
      refine eqBB (fun h5 => ?_) (fun h5 => ?_) <;> conv => whnf
      · exact ⟨[], rfl, by simp [mtV, valOf, mtC, eqD, show ¬ fitsP c l x from fun k => by obtain ⟨_, _, _, _, k5, k6, k7, k8⟩ := k; rw [hnow] at k5 k6; omega], trivial⟩
      refine spE (fun h6' => ?_) (fun h6' => ?_) <;> conv => whnf
      · refine spNe (fun h6'' => ?_) (fun h6'' => ?_) <;> conv => whnf
        · exact ⟨[], rfl, by simp [mtV, valOf, mtC, eqD, show ¬ fitsP c l x from fun k => by obtain ⟨_, _, _, _, k5, k6, k7, k8⟩ := k; rw [hnow] at k5 k6; omega], trivial⟩
        have h6 : ¬ (x.h = -1 ∧ p.1 ≠ -1) := fun k => k.2 h6''
        refine spNe (fun h8 => ?_) (fun h8 => ?_) <;> conv => whnf
        · refine spNe (fun h9 => ?_) (fun h9 => ?_) <;> conv => whnf
          · refine ⟨_, _, apart_c c x.h x.s hg.laid, ?_⟩
            conv => whnf
            refine ⟨fun hap => ?_, fun hap => ?_⟩ <;> conv => whnf
            · have hap' : apart c x.h x.s = false := by simpa using hap
              exact ⟨[], rfl, by simp [mtV, valOf, mtC, eqD, show ¬ fitsP c l x from fun k => by have := k.2.2.2.2.2.2.1 h8 h9; rw [hap'] at this; cases this], trivial⟩
            · have h7 : x.h ≠ -1 → x.s ≠ -1 → apart c x.h x.s = true := fun _ _ => by simpa using hap
              refine ⟨by kernel_rfl, ?_⟩
              conv => whnf
              refine ⟨by omega, _, rT_get ht, ?_⟩
              conv => whnf
              refine spNe (fun h10 => ?_) (fun h10 => ?_) <;> conv => whnf
              · refine ⟨by kernel_rfl, ?_⟩
                conv => whnf
                refine ⟨by omega, _, rT_get ht, ?_⟩
                conv => whnf
                refine ⟨by kernel_rfl, ?_⟩
                conv => whnf
                refine spE (fun h11 => ?_) (fun h11 => ?_) <;> conv => whnf
                · refine ⟨[], rfl, ?_, trivial⟩
                  have := (fits_iff hf ⟨by omega, by omega⟩ hh hs hnow h5 h6 h7).2 (by rw [if_pos h10]; exact .inl h11)
                  simp [mtV, valOf, mtC, eqD, this]
                · obtain ⟨z, hz⟩ := get_int (l := booked c l) (i := x.h) (by omega) (by omega)
                  obtain ⟨y, hy⟩ := get_int (l := c.cells) (i := x.h) (by omega) (by omega)
                  have hzr := hbr z (List.mem_of_getElem? hz)
                  have hcap : capOf c x.h = y.2 := by simp [capOf, hy]
                  have hbk : bookAt c l x.h = z := by simp [bookAt, hz]
                  refine ⟨_, _, whole_c c hc, ?_⟩
                  conv => whnf
                  refine ⟨_, _, booked_c c (wholeU c) false l hf, ?_⟩
                  conv => whnf
                  refine ⟨by omega, by omega, _, r1_get hz, ?_⟩
                  conv => whnf
                  refine gv (by first | omega | (simp only []; omega) | (simp; omega)) (by first | omega | (simp only []; omega) | (simp; omega)) ?_
                  conv => whnf
                  refine ⟨by omega, _, r2_get hy, ?_⟩
                  conv => whnf
                  refine ⟨[], rfl, ?_, trivial⟩
                  have := fits_iff hf ⟨by omega, by omega⟩ hh hs hnow h5 h6 h7
                  rw [if_pos h10, hcap, hbk, hload] at this
                  have e : decide (fitsP c l x) = decide (z + tt.load ≤ y.2) := decide_eq_decide.2 (this.trans ⟨fun k => k.resolve_left h11, .inr⟩)
                  simp [mtV, valOf, mtC, eqD, e]
              · refine ⟨by kernel_rfl, ?_⟩
                conv => whnf
                refine spE (fun h11 => ?_) (fun h11 => ?_) <;> conv => whnf
                · refine ⟨[], rfl, ?_, trivial⟩
                  have := (fits_iff hf ⟨by omega, by omega⟩ hh hs hnow h5 h6 h7).2 (by rw [if_neg (fun h => h h10)]; exact .inl h11)
                  simp [mtV, valOf, mtC, eqD, this]
                · obtain ⟨z, hz⟩ := get_int (l := booked c l) (i := x.s) (by omega) (by omega)
                  obtain ⟨y, hy⟩ := get_int (l := c.cells) (i := x.s) (by omega) (by omega)
                  have hzr := hbr z (List.mem_of_getElem? hz)
                  have hcap : capOf c x.s = y.2 := by simp [capOf, hy]
                  have hbk : bookAt c l x.s = z := by simp [bookAt, hz]
                  refine ⟨_, _, whole_c c hc, ?_⟩
                  conv => whnf
                  refine ⟨_, _, booked_c c (wholeU c) false l hf, ?_⟩
                  conv => whnf
                  refine ⟨by omega, by omega, _, r1_get hz, ?_⟩
                  conv => whnf
                  refine gv (by first | omega | (simp only []; omega) | (simp; omega)) (by first | omega | (simp only []; omega) | (simp; omega)) ?_
                  conv => whnf
                  refine ⟨by omega, _, r2_get hy, ?_⟩
                  conv => whnf
                  refine ⟨[], rfl, ?_, trivial⟩
                  have := fits_iff hf ⟨by omega, by omega⟩ hh hs hnow h5 h6 h7
                  rw [if_neg (fun h => h h10), hcap, hbk, hshad] at this
                  have e : decide (fitsP c l x) = decide (z + tt.shadow ≤ y.2) := decide_eq_decide.2 (this.trans ⟨fun k => k.resolve_left h11, .inr⟩)
                  simp [mtV, valOf, mtC, eqD, e]
          · have h7 : x.h ≠ -1 → x.s ≠ -1 → apart c x.h x.s = true := fun _ h => absurd h9 h
            refine ⟨by kernel_rfl, ?_⟩
            conv => whnf
            refine ⟨by omega, _, rT_get ht, ?_⟩
            conv => whnf
            refine spNe (fun h10 => ?_) (fun h10 => ?_) <;> conv => whnf
            · refine ⟨by kernel_rfl, ?_⟩
              conv => whnf
              refine ⟨by omega, _, rT_get ht, ?_⟩
              conv => whnf
              refine ⟨by kernel_rfl, ?_⟩
              conv => whnf
              refine spE (fun h11 => ?_) (fun h11 => ?_) <;> conv => whnf
              · refine ⟨[], rfl, ?_, trivial⟩
                have := (fits_iff hf ⟨by omega, by omega⟩ hh hs hnow h5 h6 h7).2 (by rw [if_pos h10]; exact .inl h11)
                simp [mtV, valOf, mtC, eqD, this]
              · obtain ⟨z, hz⟩ := get_int (l := booked c l) (i := x.h) (by omega) (by omega)
                obtain ⟨y, hy⟩ := get_int (l := c.cells) (i := x.h) (by omega) (by omega)
                have hzr := hbr z (List.mem_of_getElem? hz)
                have hcap : capOf c x.h = y.2 := by simp [capOf, hy]
                have hbk : bookAt c l x.h = z := by simp [bookAt, hz]
                refine ⟨_, _, whole_c c hc, ?_⟩
                conv => whnf
                refine ⟨_, _, booked_c c (wholeU c) false l hf, ?_⟩
                conv => whnf
                refine ⟨by omega, by omega, _, r1_get hz, ?_⟩
                conv => whnf
                refine gv (by first | omega | (simp only []; omega) | (simp; omega)) (by first | omega | (simp only []; omega) | (simp; omega)) ?_
                conv => whnf
                refine ⟨by omega, _, r2_get hy, ?_⟩
                conv => whnf
                refine ⟨[], rfl, ?_, trivial⟩
                have := fits_iff hf ⟨by omega, by omega⟩ hh hs hnow h5 h6 h7
                rw [if_pos h10, hcap, hbk, hload] at this
                have e : decide (fitsP c l x) = decide (z + tt.load ≤ y.2) := decide_eq_decide.2 (this.trans ⟨fun k => k.resolve_left h11, .inr⟩)
                simp [mtV, valOf, mtC, eqD, e]
            · refine ⟨by kernel_rfl, ?_⟩
              conv => whnf
              refine spE (fun h11 => ?_) (fun h11 => ?_) <;> conv => whnf
              · refine ⟨[], rfl, ?_, trivial⟩
                have := (fits_iff hf ⟨by omega, by omega⟩ hh hs hnow h5 h6 h7).2 (by rw [if_neg (fun h => h h10)]; exact .inl h11)
                simp [mtV, valOf, mtC, eqD, this]
              · obtain ⟨z, hz⟩ := get_int (l := booked c l) (i := x.s) (by omega) (by omega)
                obtain ⟨y, hy⟩ := get_int (l := c.cells) (i := x.s) (by omega) (by omega)
                have hzr := hbr z (List.mem_of_getElem? hz)
                have hcap : capOf c x.s = y.2 := by simp [capOf, hy]
                have hbk : bookAt c l x.s = z := by simp [bookAt, hz]
                refine ⟨_, _, whole_c c hc, ?_⟩
                conv => whnf
                refine ⟨_, _, booked_c c (wholeU c) false l hf, ?_⟩
                conv => whnf
                refine ⟨by omega, by omega, _, r1_get hz, ?_⟩
                conv => whnf
                refine gv (by first | omega | (simp only []; omega) | (simp; omega)) (by first | omega | (simp only []; omega) | (simp; omega)) ?_
                conv => whnf
                refine ⟨by omega, _, r2_get hy, ?_⟩
                conv => whnf
                refine ⟨[], rfl, ?_, trivial⟩
                have := fits_iff hf ⟨by omega, by omega⟩ hh hs hnow h5 h6 h7
                rw [if_neg (fun h => h h10), hcap, hbk, hshad] at this
                have e : decide (fitsP c l x) = decide (z + tt.shadow ≤ y.2) := decide_eq_decide.2 (this.trans ⟨fun k => k.resolve_left h11, .inr⟩)
                simp [mtV, valOf, mtC, eqD, e]
        · have h7 : x.h ≠ -1 → x.s ≠ -1 → apart c x.h x.s = true := fun h _ => absurd h8 h
          refine ⟨by kernel_rfl, ?_⟩
          conv => whnf
          refine ⟨by omega, _, rT_get ht, ?_⟩
          conv => whnf
          refine spNe (fun h10 => ?_) (fun h10 => ?_) <;> conv => whnf
          · refine ⟨by kernel_rfl, ?_⟩
            conv => whnf
            refine ⟨by omega, _, rT_get ht, ?_⟩
            conv => whnf
            refine ⟨by kernel_rfl, ?_⟩
            conv => whnf
            refine spE (fun h11 => ?_) (fun h11 => ?_) <;> conv => whnf
            · refine ⟨[], rfl, ?_, trivial⟩
              have := (fits_iff hf ⟨by omega, by omega⟩ hh hs hnow h5 h6 h7).2 (by rw [if_pos h10]; exact .inl h11)
              simp [mtV, valOf, mtC, eqD, this]
            · obtain ⟨z, hz⟩ := get_int (l := booked c l) (i := x.h) (by omega) (by omega)
              obtain ⟨y, hy⟩ := get_int (l := c.cells) (i := x.h) (by omega) (by omega)
              have hzr := hbr z (List.mem_of_getElem? hz)
              have hcap : capOf c x.h = y.2 := by simp [capOf, hy]
              have hbk : bookAt c l x.h = z := by simp [bookAt, hz]
              refine ⟨_, _, whole_c c hc, ?_⟩
              conv => whnf
              refine ⟨_, _, booked_c c (wholeU c) false l hf, ?_⟩
              conv => whnf
              refine ⟨by omega, by omega, _, r1_get hz, ?_⟩
              conv => whnf
              refine gv (by first | omega | (simp only []; omega) | (simp; omega)) (by first | omega | (simp only []; omega) | (simp; omega)) ?_
              conv => whnf
              refine ⟨by omega, _, r2_get hy, ?_⟩
              conv => whnf
              refine ⟨[], rfl, ?_, trivial⟩
              have := fits_iff hf ⟨by omega, by omega⟩ hh hs hnow h5 h6 h7
              rw [if_pos h10, hcap, hbk, hload] at this
              have e : decide (fitsP c l x) = decide (z + tt.load ≤ y.2) := decide_eq_decide.2 (this.trans ⟨fun k => k.resolve_left h11, .inr⟩)
              simp [mtV, valOf, mtC, eqD, e]
          · refine ⟨by kernel_rfl, ?_⟩
            conv => whnf
            refine spE (fun h11 => ?_) (fun h11 => ?_) <;> conv => whnf
            · refine ⟨[], rfl, ?_, trivial⟩
              have := (fits_iff hf ⟨by omega, by omega⟩ hh hs hnow h5 h6 h7).2 (by rw [if_neg (fun h => h h10)]; exact .inl h11)
              simp [mtV, valOf, mtC, eqD, this]
            · obtain ⟨z, hz⟩ := get_int (l := booked c l) (i := x.s) (by omega) (by omega)
              obtain ⟨y, hy⟩ := get_int (l := c.cells) (i := x.s) (by omega) (by omega)
              have hzr := hbr z (List.mem_of_getElem? hz)
              have hcap : capOf c x.s = y.2 := by simp [capOf, hy]
              have hbk : bookAt c l x.s = z := by simp [bookAt, hz]
              refine ⟨_, _, whole_c c hc, ?_⟩
              conv => whnf
              refine ⟨_, _, booked_c c (wholeU c) false l hf, ?_⟩
              conv => whnf
              refine ⟨by omega, by omega, _, r1_get hz, ?_⟩
              conv => whnf
              refine gv (by first | omega | (simp only []; omega) | (simp; omega)) (by first | omega | (simp only []; omega) | (simp; omega)) ?_
              conv => whnf
              refine ⟨by omega, _, r2_get hy, ?_⟩
              conv => whnf
              refine ⟨[], rfl, ?_, trivial⟩
              have := fits_iff hf ⟨by omega, by omega⟩ hh hs hnow h5 h6 h7
              rw [if_neg (fun h => h h10), hcap, hbk, hshad] at this
              have e : decide (fitsP c l x) = decide (z + tt.shadow ≤ y.2) := decide_eq_decide.2 (this.trans ⟨fun k => k.resolve_left h11, .inr⟩)
              simp [mtV, valOf, mtC, eqD, e]
      · have h6 : ¬ (x.h = -1 ∧ p.1 ≠ -1) := fun k => h6' k.1
        refine spNe (fun h8 => ?_) (fun h8 => ?_) <;> conv => whnf
        · refine spNe (fun h9 => ?_) (fun h9 => ?_) <;> conv => whnf
          · refine ⟨_, _, apart_c c x.h x.s hg.laid, ?_⟩
            conv => whnf
            refine ⟨fun hap => ?_, fun hap => ?_⟩ <;> conv => whnf
            · have hap' : apart c x.h x.s = false := by simpa using hap
              exact ⟨[], rfl, by simp [mtV, valOf, mtC, eqD, show ¬ fitsP c l x from fun k => by have := k.2.2.2.2.2.2.1 h8 h9; rw [hap'] at this; cases this], trivial⟩
            · have h7 : x.h ≠ -1 → x.s ≠ -1 → apart c x.h x.s = true := fun _ _ => by simpa using hap
              refine ⟨by kernel_rfl, ?_⟩
              conv => whnf
              refine ⟨by omega, _, rT_get ht, ?_⟩
              conv => whnf
              refine spNe (fun h10 => ?_) (fun h10 => ?_) <;> conv => whnf
              · refine ⟨by kernel_rfl, ?_⟩
                conv => whnf
                refine ⟨by omega, _, rT_get ht, ?_⟩
                conv => whnf
                refine ⟨by kernel_rfl, ?_⟩
                conv => whnf
                refine spE (fun h11 => ?_) (fun h11 => ?_) <;> conv => whnf
                · refine ⟨[], rfl, ?_, trivial⟩
                  have := (fits_iff hf ⟨by omega, by omega⟩ hh hs hnow h5 h6 h7).2 (by rw [if_pos h10]; exact .inl h11)
                  simp [mtV, valOf, mtC, eqD, this]
                · obtain ⟨z, hz⟩ := get_int (l := booked c l) (i := x.h) (by omega) (by omega)
                  obtain ⟨y, hy⟩ := get_int (l := c.cells) (i := x.h) (by omega) (by omega)
                  have hzr := hbr z (List.mem_of_getElem? hz)
                  have hcap : capOf c x.h = y.2 := by simp [capOf, hy]
                  have hbk : bookAt c l x.h = z := by simp [bookAt, hz]
                  refine ⟨_, _, whole_c c hc, ?_⟩
                  conv => whnf
                  refine ⟨_, _, booked_c c (wholeU c) false l hf, ?_⟩
                  conv => whnf
                  refine ⟨by omega, by omega, _, r1_get hz, ?_⟩
                  conv => whnf
                  refine gv (by first | omega | (simp only []; omega) | (simp; omega)) (by first | omega | (simp only []; omega) | (simp; omega)) ?_
                  conv => whnf
                  refine ⟨by omega, _, r2_get hy, ?_⟩
                  conv => whnf
                  refine ⟨[], rfl, ?_, trivial⟩
                  have := fits_iff hf ⟨by omega, by omega⟩ hh hs hnow h5 h6 h7
                  rw [if_pos h10, hcap, hbk, hload] at this
                  have e : decide (fitsP c l x) = decide (z + tt.load ≤ y.2) := decide_eq_decide.2 (this.trans ⟨fun k => k.resolve_left h11, .inr⟩)
                  simp [mtV, valOf, mtC, eqD, e]
              · refine ⟨by kernel_rfl, ?_⟩
                conv => whnf
                refine spE (fun h11 => ?_) (fun h11 => ?_) <;> conv => whnf
                · refine ⟨[], rfl, ?_, trivial⟩
                  have := (fits_iff hf ⟨by omega, by omega⟩ hh hs hnow h5 h6 h7).2 (by rw [if_neg (fun h => h h10)]; exact .inl h11)
                  simp [mtV, valOf, mtC, eqD, this]
                · obtain ⟨z, hz⟩ := get_int (l := booked c l) (i := x.s) (by omega) (by omega)
                  obtain ⟨y, hy⟩ := get_int (l := c.cells) (i := x.s) (by omega) (by omega)
                  have hzr := hbr z (List.mem_of_getElem? hz)
                  have hcap : capOf c x.s = y.2 := by simp [capOf, hy]
                  have hbk : bookAt c l x.s = z := by simp [bookAt, hz]
                  refine ⟨_, _, whole_c c hc, ?_⟩
                  conv => whnf
                  refine ⟨_, _, booked_c c (wholeU c) false l hf, ?_⟩
                  conv => whnf
                  refine ⟨by omega, by omega, _, r1_get hz, ?_⟩
                  conv => whnf
                  refine gv (by first | omega | (simp only []; omega) | (simp; omega)) (by first | omega | (simp only []; omega) | (simp; omega)) ?_
                  conv => whnf
                  refine ⟨by omega, _, r2_get hy, ?_⟩
                  conv => whnf
                  refine ⟨[], rfl, ?_, trivial⟩
                  have := fits_iff hf ⟨by omega, by omega⟩ hh hs hnow h5 h6 h7
                  rw [if_neg (fun h => h h10), hcap, hbk, hshad] at this
                  have e : decide (fitsP c l x) = decide (z + tt.shadow ≤ y.2) := decide_eq_decide.2 (this.trans ⟨fun k => k.resolve_left h11, .inr⟩)
                  simp [mtV, valOf, mtC, eqD, e]
          · have h7 : x.h ≠ -1 → x.s ≠ -1 → apart c x.h x.s = true := fun _ h => absurd h9 h
            refine ⟨by kernel_rfl, ?_⟩
            conv => whnf
            refine ⟨by omega, _, rT_get ht, ?_⟩
            conv => whnf
            refine spNe (fun h10 => ?_) (fun h10 => ?_) <;> conv => whnf
            · refine ⟨by kernel_rfl, ?_⟩
              conv => whnf
              refine ⟨by omega, _, rT_get ht, ?_⟩
              conv => whnf
              refine ⟨by kernel_rfl, ?_⟩
              conv => whnf
              refine spE (fun h11 => ?_) (fun h11 => ?_) <;> conv => whnf
              · refine ⟨[], rfl, ?_, trivial⟩
                have := (fits_iff hf ⟨by omega, by omega⟩ hh hs hnow h5 h6 h7).2 (by rw [if_pos h10]; exact .inl h11)
                simp [mtV, valOf, mtC, eqD, this]
              · obtain ⟨z, hz⟩ := get_int (l := booked c l) (i := x.h) (by omega) (by omega)
                obtain ⟨y, hy⟩ := get_int (l := c.cells) (i := x.h) (by omega) (by omega)
                have hzr := hbr z (List.mem_of_getElem? hz)
                have hcap : capOf c x.h = y.2 := by simp [capOf, hy]
                have hbk : bookAt c l x.h = z := by simp [bookAt, hz]
                refine ⟨_, _, whole_c c hc, ?_⟩
                conv => whnf
                refine ⟨_, _, booked_c c (wholeU c) false l hf, ?_⟩
                conv => whnf
                refine ⟨by omega, by omega, _, r1_get hz, ?_⟩
                conv => whnf
                refine gv (by first | omega | (simp only []; omega) | (simp; omega)) (by first | omega | (simp only []; omega) | (simp; omega)) ?_
                conv => whnf
                refine ⟨by omega, _, r2_get hy, ?_⟩
                conv => whnf
                refine ⟨[], rfl, ?_, trivial⟩
                have := fits_iff hf ⟨by omega, by omega⟩ hh hs hnow h5 h6 h7
                rw [if_pos h10, hcap, hbk, hload] at this
                have e : decide (fitsP c l x) = decide (z + tt.load ≤ y.2) := decide_eq_decide.2 (this.trans ⟨fun k => k.resolve_left h11, .inr⟩)
                simp [mtV, valOf, mtC, eqD, e]
            · refine ⟨by kernel_rfl, ?_⟩
              conv => whnf
              refine spE (fun h11 => ?_) (fun h11 => ?_) <;> conv => whnf
              · refine ⟨[], rfl, ?_, trivial⟩
                have := (fits_iff hf ⟨by omega, by omega⟩ hh hs hnow h5 h6 h7).2 (by rw [if_neg (fun h => h h10)]; exact .inl h11)
                simp [mtV, valOf, mtC, eqD, this]
              · obtain ⟨z, hz⟩ := get_int (l := booked c l) (i := x.s) (by omega) (by omega)
                obtain ⟨y, hy⟩ := get_int (l := c.cells) (i := x.s) (by omega) (by omega)
                have hzr := hbr z (List.mem_of_getElem? hz)
                have hcap : capOf c x.s = y.2 := by simp [capOf, hy]
                have hbk : bookAt c l x.s = z := by simp [bookAt, hz]
                refine ⟨_, _, whole_c c hc, ?_⟩
                conv => whnf
                refine ⟨_, _, booked_c c (wholeU c) false l hf, ?_⟩
                conv => whnf
                refine ⟨by omega, by omega, _, r1_get hz, ?_⟩
                conv => whnf
                refine gv (by first | omega | (simp only []; omega) | (simp; omega)) (by first | omega | (simp only []; omega) | (simp; omega)) ?_
                conv => whnf
                refine ⟨by omega, _, r2_get hy, ?_⟩
                conv => whnf
                refine ⟨[], rfl, ?_, trivial⟩
                have := fits_iff hf ⟨by omega, by omega⟩ hh hs hnow h5 h6 h7
                rw [if_neg (fun h => h h10), hcap, hbk, hshad] at this
                have e : decide (fitsP c l x) = decide (z + tt.shadow ≤ y.2) := decide_eq_decide.2 (this.trans ⟨fun k => k.resolve_left h11, .inr⟩)
                simp [mtV, valOf, mtC, eqD, e]
        · have h7 : x.h ≠ -1 → x.s ≠ -1 → apart c x.h x.s = true := fun h _ => absurd h8 h
          refine ⟨by kernel_rfl, ?_⟩
          conv => whnf
          refine ⟨by omega, _, rT_get ht, ?_⟩
          conv => whnf
          refine spNe (fun h10 => ?_) (fun h10 => ?_) <;> conv => whnf
          · refine ⟨by kernel_rfl, ?_⟩
            conv => whnf
            refine ⟨by omega, _, rT_get ht, ?_⟩
            conv => whnf
            refine ⟨by kernel_rfl, ?_⟩
            conv => whnf
            refine spE (fun h11 => ?_) (fun h11 => ?_) <;> conv => whnf
            · refine ⟨[], rfl, ?_, trivial⟩
              have := (fits_iff hf ⟨by omega, by omega⟩ hh hs hnow h5 h6 h7).2 (by rw [if_pos h10]; exact .inl h11)
              simp [mtV, valOf, mtC, eqD, this]
            · obtain ⟨z, hz⟩ := get_int (l := booked c l) (i := x.h) (by omega) (by omega)
              obtain ⟨y, hy⟩ := get_int (l := c.cells) (i := x.h) (by omega) (by omega)
              have hzr := hbr z (List.mem_of_getElem? hz)
              have hcap : capOf c x.h = y.2 := by simp [capOf, hy]
              have hbk : bookAt c l x.h = z := by simp [bookAt, hz]
              refine ⟨_, _, whole_c c hc, ?_⟩
              conv => whnf
              refine ⟨_, _, booked_c c (wholeU c) false l hf, ?_⟩
              conv => whnf
              refine ⟨by omega, by omega, _, r1_get hz, ?_⟩
              conv => whnf
              refine gv (by first | omega | (simp only []; omega) | (simp; omega)) (by first | omega | (simp only []; omega) | (simp; omega)) ?_
              conv => whnf
              refine ⟨by omega, _, r2_get hy, ?_⟩
              conv => whnf
              refine ⟨[], rfl, ?_, trivial⟩
              have := fits_iff hf ⟨by omega, by omega⟩ hh hs hnow h5 h6 h7
              rw [if_pos h10, hcap, hbk, hload] at this
              have e : decide (fitsP c l x) = decide (z + tt.load ≤ y.2) := decide_eq_decide.2 (this.trans ⟨fun k => k.resolve_left h11, .inr⟩)
              simp [mtV, valOf, mtC, eqD, e]
          · refine ⟨by kernel_rfl, ?_⟩
            conv => whnf
            refine spE (fun h11 => ?_) (fun h11 => ?_) <;> conv => whnf
            · refine ⟨[], rfl, ?_, trivial⟩
              have := (fits_iff hf ⟨by omega, by omega⟩ hh hs hnow h5 h6 h7).2 (by rw [if_neg (fun h => h h10)]; exact .inl h11)
              simp [mtV, valOf, mtC, eqD, this]
            · obtain ⟨z, hz⟩ := get_int (l := booked c l) (i := x.s) (by omega) (by omega)
              obtain ⟨y, hy⟩ := get_int (l := c.cells) (i := x.s) (by omega) (by omega)
              have hzr := hbr z (List.mem_of_getElem? hz)
              have hcap : capOf c x.s = y.2 := by simp [capOf, hy]
              have hbk : bookAt c l x.s = z := by simp [bookAt, hz]
              refine ⟨_, _, whole_c c hc, ?_⟩
              conv => whnf
              refine ⟨_, _, booked_c c (wholeU c) false l hf, ?_⟩
              conv => whnf
              refine ⟨by omega, by omega, _, r1_get hz, ?_⟩
              conv => whnf
              refine gv (by first | omega | (simp only []; omega) | (simp; omega)) (by first | omega | (simp only []; omega) | (simp; omega)) ?_
              conv => whnf
              refine ⟨by omega, _, r2_get hy, ?_⟩
              conv => whnf
              refine ⟨[], rfl, ?_, trivial⟩
              have := fits_iff hf ⟨by omega, by omega⟩ hh hs hnow h5 h6 h7
              rw [if_neg (fun h => h h10), hcap, hbk, hshad] at this
              have e : decide (fitsP c l x) = decide (z + tt.shadow ≤ y.2) := decide_eq_decide.2 (this.trans ⟨fun k => k.resolve_left h11, .inr⟩)
              simp [mtV, valOf, mtC, eqD, e]
    · have hh : -1 ≤ x.h ∧ x.h < c.cells.length := by omega
      have hs : -1 ≤ x.s ∧ x.s < c.cells.length := by omega
      refine ⟨by omega, _, r2_get hp, ?_⟩
      conv => whnf
      refine eqBB (fun h5 => ?_) (fun h5 => ?_) <;> conv => whnf
      · exact ⟨[], rfl, by simp [mtV, valOf, mtC, eqD, show ¬ fitsP c l x from fun k => by obtain ⟨_, _, _, _, k5, k6, k7, k8⟩ := k; rw [hnow] at k5 k6; omega], trivial⟩
      refine spE (fun h6' => ?_) (fun h6' => ?_) <;> conv => whnf
      · refine spNe (fun h6'' => ?_) (fun h6'' => ?_) <;> conv => whnf
        · exact ⟨[], rfl, by simp [mtV, valOf, mtC, eqD, show ¬ fitsP c l x from fun k => by obtain ⟨_, _, _, _, k5, k6, k7, k8⟩ := k; rw [hnow] at k5 k6; omega], trivial⟩
        have h6 : ¬ (x.h = -1 ∧ p.1 ≠ -1) := fun k => k.2 h6''
        refine spNe (fun h8 => ?_) (fun h8 => ?_) <;> conv => whnf
        · refine spNe (fun h9 => ?_) (fun h9 => ?_) <;> conv => whnf
          · refine ⟨_, _, apart_c c x.h x.s hg.laid, ?_⟩
            conv => whnf
            refine ⟨fun hap => ?_, fun hap => ?_⟩ <;> conv => whnf
            · have hap' : apart c x.h x.s = false := by simpa using hap
              exact ⟨[], rfl, by simp [mtV, valOf, mtC, eqD, show ¬ fitsP c l x from fun k => by have := k.2.2.2.2.2.2.1 h8 h9; rw [hap'] at this; cases this], trivial⟩
            · have h7 : x.h ≠ -1 → x.s ≠ -1 → apart c x.h x.s = true := fun _ _ => by simpa using hap
              refine ⟨by kernel_rfl, ?_⟩
              conv => whnf
              refine ⟨by omega, _, rT_get ht, ?_⟩
              conv => whnf
              refine spNe (fun h10 => ?_) (fun h10 => ?_) <;> conv => whnf
              · refine ⟨by kernel_rfl, ?_⟩
                conv => whnf
                refine ⟨by omega, _, rT_get ht, ?_⟩
                conv => whnf
                refine ⟨by kernel_rfl, ?_⟩
                conv => whnf
                refine spE (fun h11 => ?_) (fun h11 => ?_) <;> conv => whnf
                · refine ⟨[], rfl, ?_, trivial⟩
                  have := (fits_iff hf ⟨by omega, by omega⟩ hh hs hnow h5 h6 h7).2 (by rw [if_pos h10]; exact .inl h11)
                  simp [mtV, valOf, mtC, eqD, this]
                · obtain ⟨z, hz⟩ := get_int (l := booked c l) (i := x.h) (by omega) (by omega)
                  obtain ⟨y, hy⟩ := get_int (l := c.cells) (i := x.h) (by omega) (by omega)
                  have hzr := hbr z (List.mem_of_getElem? hz)
                  have hcap : capOf c x.h = y.2 := by simp [capOf, hy]
                  have hbk : bookAt c l x.h = z := by simp [bookAt, hz]
                  refine ⟨_, _, whole_c c hc, ?_⟩
                  conv => whnf
                  refine ⟨_, _, booked_c c (wholeU c) false l hf, ?_⟩
                  conv => whnf
                  refine ⟨by omega, by omega, _, r1_get hz, ?_⟩
                  conv => whnf
                  refine gv (by first | omega | (simp only []; omega) | (simp; omega)) (by first | omega | (simp only []; omega) | (simp; omega)) ?_
                  conv => whnf
                  refine ⟨by omega, _, r2_get hy, ?_⟩
                  conv => whnf
                  refine ⟨[], rfl, ?_, trivial⟩
                  have := fits_iff hf ⟨by omega, by omega⟩ hh hs hnow h5 h6 h7
                  rw [if_pos h10, hcap, hbk, hload] at this
                  have e : decide (fitsP c l x) = decide (z + tt.load ≤ y.2) := decide_eq_decide.2 (this.trans ⟨fun k => k.resolve_left h11, .inr⟩)
                  simp [mtV, valOf, mtC, eqD, e]
              · refine ⟨by kernel_rfl, ?_⟩
                conv => whnf
                refine spE (fun h11 => ?_) (fun h11 => ?_) <;> conv => whnf
                · refine ⟨[], rfl, ?_, trivial⟩
                  have := (fits_iff hf ⟨by omega, by omega⟩ hh hs hnow h5 h6 h7).2 (by rw [if_neg (fun h => h h10)]; exact .inl h11)
                  simp [mtV, valOf, mtC, eqD, this]
                · obtain ⟨z, hz⟩ := get_int (l := booked c l) (i := x.s) (by omega) (by omega)
                  obtain ⟨y, hy⟩ := get_int (l := c.cells) (i := x.s) (by omega) (by omega)
                  have hzr := hbr z (List.mem_of_getElem? hz)
                  have hcap : capOf c x.s = y.2 := by simp [capOf, hy]
                  have hbk : bookAt c l x.s = z := by simp [bookAt, hz]
                  refine ⟨_, _, whole_c c hc, ?_⟩
                  conv => whnf
                  refine ⟨_, _, booked_c c (wholeU c) false l hf, ?_⟩
                  conv => whnf
                  refine ⟨by omega, by omega, _, r1_get hz, ?_⟩
                  conv => whnf
                  refine gv (by first | omega | (simp only []; omega) | (simp; omega)) (by first | omega | (simp only []; omega) | (simp; omega)) ?_
                  conv => whnf
                  refine ⟨by omega, _, r2_get hy, ?_⟩
                  conv => whnf
                  refine ⟨[], rfl, ?_, trivial⟩
                  have := fits_iff hf ⟨by omega, by omega⟩ hh hs hnow h5 h6 h7
                  rw [if_neg (fun h => h h10), hcap, hbk, hshad] at this
                  have e : decide (fitsP c l x) = decide (z + tt.shadow ≤ y.2) := decide_eq_decide.2 (this.trans ⟨fun k => k.resolve_left h11, .inr⟩)
                  simp [mtV, valOf, mtC, eqD, e]
          · have h7 : x.h ≠ -1 → x.s ≠ -1 → apart c x.h x.s = true := fun _ h => absurd h9 h
            refine ⟨by kernel_rfl, ?_⟩
            conv => whnf
            refine ⟨by omega, _, rT_get ht, ?_⟩
            conv => whnf
            refine spNe (fun h10 => ?_) (fun h10 => ?_) <;> conv => whnf
            · refine ⟨by kernel_rfl, ?_⟩
              conv => whnf
              refine ⟨by omega, _, rT_get ht, ?_⟩
              conv => whnf
              refine ⟨by kernel_rfl, ?_⟩
              conv => whnf
              refine spE (fun h11 => ?_) (fun h11 => ?_) <;> conv => whnf
              · refine ⟨[], rfl, ?_, trivial⟩
                have := (fits_iff hf ⟨by omega, by omega⟩ hh hs hnow h5 h6 h7).2 (by rw [if_pos h10]; exact .inl h11)
                simp [mtV, valOf, mtC, eqD, this]
              · obtain ⟨z, hz⟩ := get_int (l := booked c l) (i := x.h) (by omega) (by omega)
                obtain ⟨y, hy⟩ := get_int (l := c.cells) (i := x.h) (by omega) (by omega)
                have hzr := hbr z (List.mem_of_getElem? hz)
                have hcap : capOf c x.h = y.2 := by simp [capOf, hy]
                have hbk : bookAt c l x.h = z := by simp [bookAt, hz]
                refine ⟨_, _, whole_c c hc, ?_⟩
                conv => whnf
                refine ⟨_, _, booked_c c (wholeU c) false l hf, ?_⟩
                conv => whnf
                refine ⟨by omega, by omega, _, r1_get hz, ?_⟩
                conv => whnf
                refine gv (by first | omega | (simp only []; omega) | (simp; omega)) (by first | omega | (simp only []; omega) | (simp; omega)) ?_
                conv => whnf
                refine ⟨by omega, _, r2_get hy, ?_⟩
                conv => whnf
                refine ⟨[], rfl, ?_, trivial⟩
                have := fits_iff hf ⟨by omega, by omega⟩ hh hs hnow h5 h6 h7
                rw [if_pos h10, hcap, hbk, hload] at this
                have e : decide (fitsP c l x) = decide (z + tt.load ≤ y.2) := decide_eq_decide.2 (this.trans ⟨fun k => k.resolve_left h11, .inr⟩)
                simp [mtV, valOf, mtC, eqD, e]
            · refine ⟨by kernel_rfl, ?_⟩
              conv => whnf
              refine spE (fun h11 => ?_) (fun h11 => ?_) <;> conv => whnf
              · refine ⟨[], rfl, ?_, trivial⟩
                have := (fits_iff hf ⟨by omega, by omega⟩ hh hs hnow h5 h6 h7).2 (by rw [if_neg (fun h => h h10)]; exact .inl h11)
                simp [mtV, valOf, mtC, eqD, this]
              · obtain ⟨z, hz⟩ := get_int (l := booked c l) (i := x.s) (by omega) (by omega)
                obtain ⟨y, hy⟩ := get_int (l := c.cells) (i := x.s) (by omega) (by omega)
                have hzr := hbr z (List.mem_of_getElem? hz)
                have hcap : capOf c x.s = y.2 := by simp [capOf, hy]
                have hbk : bookAt c l x.s = z := by simp [bookAt, hz]
                refine ⟨_, _, whole_c c hc, ?_⟩
                conv => whnf
                refine ⟨_, _, booked_c c (wholeU c) false l hf, ?_⟩
                conv => whnf
                refine ⟨by omega, by omega, _, r1_get hz, ?_⟩
                conv => whnf
                refine gv (by first | omega | (simp only []; omega) | (simp; omega)) (by first | omega | (simp only []; omega) | (simp; omega)) ?_
                conv => whnf
                refine ⟨by omega, _, r2_get hy, ?_⟩
                conv => whnf
                refine ⟨[], rfl, ?_, trivial⟩
                have := fits_iff hf ⟨by omega, by omega⟩ hh hs hnow h5 h6 h7
                rw [if_neg (fun h => h h10), hcap, hbk, hshad] at this
                have e : decide (fitsP c l x) = decide (z + tt.shadow ≤ y.2) := decide_eq_decide.2 (this.trans ⟨fun k => k.resolve_left h11, .inr⟩)
                simp [mtV, valOf, mtC, eqD, e]
        · have h7 : x.h ≠ -1 → x.s ≠ -1 → apart c x.h x.s = true := fun h _ => absurd h8 h
          refine ⟨by kernel_rfl, ?_⟩
          conv => whnf
          refine ⟨by omega, _, rT_get ht, ?_⟩
          conv => whnf
          refine spNe (fun h10 => ?_) (fun h10 => ?_) <;> conv => whnf
          · refine ⟨by kernel_rfl, ?_⟩
            conv => whnf
            refine ⟨by omega, _, rT_get ht, ?_⟩
            conv => whnf
            refine ⟨by kernel_rfl, ?_⟩
            conv => whnf
            refine spE (fun h11 => ?_) (fun h11 => ?_) <;> conv => whnf
            · refine ⟨[], rfl, ?_, trivial⟩
              have := (fits_iff hf ⟨by omega, by omega⟩ hh hs hnow h5 h6 h7).2 (by rw [if_pos h10]; exact .inl h11)
              simp [mtV, valOf, mtC, eqD, this]
            · obtain ⟨z, hz⟩ := get_int (l := booked c l) (i := x.h) (by omega) (by omega)
              obtain ⟨y, hy⟩ := get_int (l := c.cells) (i := x.h) (by omega) (by omega)
              have hzr := hbr z (List.mem_of_getElem? hz)
              have hcap : capOf c x.h = y.2 := by simp [capOf, hy]
              have hbk : bookAt c l x.h = z := by simp [bookAt, hz]
              refine ⟨_, _, whole_c c hc, ?_⟩
              conv => whnf
              refine ⟨_, _, booked_c c (wholeU c) false l hf, ?_⟩
              conv => whnf
              refine ⟨by omega, by omega, _, r1_get hz, ?_⟩
              conv => whnf
              refine gv (by first | omega | (simp only []; omega) | (simp; omega)) (by first | omega | (simp only []; omega) | (simp; omega)) ?_
              conv => whnf
              refine ⟨by omega, _, r2_get hy, ?_⟩
              conv => whnf
              refine ⟨[], rfl, ?_, trivial⟩
              have := fits_iff hf ⟨by omega, by omega⟩ hh hs hnow h5 h6 h7
              rw [if_pos h10, hcap, hbk, hload] at this
              have e : decide (fitsP c l x) = decide (z + tt.load ≤ y.2) := decide_eq_decide.2 (this.trans ⟨fun k => k.resolve_left h11, .inr⟩)
              simp [mtV, valOf, mtC, eqD, e]
          · refine ⟨by kernel_rfl, ?_⟩
            conv => whnf
            refine spE (fun h11 => ?_) (fun h11 => ?_) <;> conv => whnf
            · refine ⟨[], rfl, ?_, trivial⟩
              have := (fits_iff hf ⟨by omega, by omega⟩ hh hs hnow h5 h6 h7).2 (by rw [if_neg (fun h => h h10)]; exact .inl h11)
              simp [mtV, valOf, mtC, eqD, this]
            · obtain ⟨z, hz⟩ := get_int (l := booked c l) (i := x.s) (by omega) (by omega)
              obtain ⟨y, hy⟩ := get_int (l := c.cells) (i := x.s) (by omega) (by omega)
              have hzr := hbr z (List.mem_of_getElem? hz)
              have hcap : capOf c x.s = y.2 := by simp [capOf, hy]
              have hbk : bookAt c l x.s = z := by simp [bookAt, hz]
              refine ⟨_, _, whole_c c hc, ?_⟩
              conv => whnf
              refine ⟨_, _, booked_c c (wholeU c) false l hf, ?_⟩
              conv => whnf
              refine ⟨by omega, by omega, _, r1_get hz, ?_⟩
              conv => whnf
              refine gv (by first | omega | (simp only []; omega) | (simp; omega)) (by first | omega | (simp only []; omega) | (simp; omega)) ?_
              conv => whnf
              refine ⟨by omega, _, r2_get hy, ?_⟩
              conv => whnf
              refine ⟨[], rfl, ?_, trivial⟩
              have := fits_iff hf ⟨by omega, by omega⟩ hh hs hnow h5 h6 h7
              rw [if_neg (fun h => h h10), hcap, hbk, hshad] at this
              have e : decide (fitsP c l x) = decide (z + tt.shadow ≤ y.2) := decide_eq_decide.2 (this.trans ⟨fun k => k.resolve_left h11, .inr⟩)
              simp [mtV, valOf, mtC, eqD, e]
      · have h6 : ¬ (x.h = -1 ∧ p.1 ≠ -1) := fun k => h6' k.1
        refine spNe (fun h8 => ?_) (fun h8 => ?_) <;> conv => whnf
        · refine spNe (fun h9 => ?_) (fun h9 => ?_) <;> conv => whnf
          · refine ⟨_, _, apart_c c x.h x.s hg.laid, ?_⟩
            conv => whnf
            refine ⟨fun hap => ?_, fun hap => ?_⟩ <;> conv => whnf
            · have hap' : apart c x.h x.s = false := by simpa using hap
              exact ⟨[], rfl, by simp [mtV, valOf, mtC, eqD, show ¬ fitsP c l x from fun k => by have := k.2.2.2.2.2.2.1 h8 h9; rw [hap'] at this; cases this], trivial⟩
            · have h7 : x.h ≠ -1 → x.s ≠ -1 → apart c x.h x.s = true := fun _ _ => by simpa using hap
              refine ⟨by kernel_rfl, ?_⟩
              conv => whnf
              refine ⟨by omega, _, rT_get ht, ?_⟩
              conv => whnf
              refine spNe (fun h10 => ?_) (fun h10 => ?_) <;> conv => whnf
              · refine ⟨by kernel_rfl, ?_⟩
                conv => whnf
                refine ⟨by omega, _, rT_get ht, ?_⟩
                conv => whnf
                refine ⟨by kernel_rfl, ?_⟩
                conv => whnf
                refine spE (fun h11 => ?_) (fun h11 => ?_) <;> conv => whnf
                · refine ⟨[], rfl, ?_, trivial⟩
                  have := (fits_iff hf ⟨by omega, by omega⟩ hh hs hnow h5 h6 h7).2 (by rw [if_pos h10]; exact .inl h11)
                  simp [mtV, valOf, mtC, eqD, this]
                · obtain ⟨z, hz⟩ := get_int (l := booked c l) (i := x.h) (by omega) (by omega)
                  obtain ⟨y, hy⟩ := get_int (l := c.cells) (i := x.h) (by omega) (by omega)
                  have hzr := hbr z (List.mem_of_getElem? hz)
                  have hcap : capOf c x.h = y.2 := by simp [capOf, hy]
                  have hbk : bookAt c l x.h = z := by simp [bookAt, hz]
                  refine ⟨_, _, whole_c c hc, ?_⟩
                  conv => whnf
                  refine ⟨_, _, booked_c c (wholeU c) false l hf, ?_⟩
                  conv => whnf
                  refine ⟨by omega, by omega, _, r1_get hz, ?_⟩
                  conv => whnf
                  refine gv (by first | omega | (simp only []; omega) | (simp; omega)) (by first | omega | (simp only []; omega) | (simp; omega)) ?_
                  conv => whnf
                  refine ⟨by omega, _, r2_get hy, ?_⟩
                  conv => whnf
                  refine ⟨[], rfl, ?_, trivial⟩
                  have := fits_iff hf ⟨by omega, by omega⟩ hh hs hnow h5 h6 h7
                  rw [if_pos h10, hcap, hbk, hload] at this
                  have e : decide (fitsP c l x) = decide (z + tt.load ≤ y.2) := decide_eq_decide.2 (this.trans ⟨fun k => k.resolve_left h11, .inr⟩)
                  simp [mtV, valOf, mtC, eqD, e]
              · refine ⟨by kernel_rfl, ?_⟩
                conv => whnf
                refine spE (fun h11 => ?_) (fun h11 => ?_) <;> conv => whnf
                · refine ⟨[], rfl, ?_, trivial⟩
                  have := (fits_iff hf ⟨by omega, by omega⟩ hh hs hnow h5 h6 h7).2 (by rw [if_neg (fun h => h h10)]; exact .inl h11)
                  simp [mtV, valOf, mtC, eqD, this]
                · obtain ⟨z, hz⟩ := get_int (l := booked c l) (i := x.s) (by omega) (by omega)
                  obtain ⟨y, hy⟩ := get_int (l := c.cells) (i := x.s) (by omega) (by omega)
                  have hzr := hbr z (List.mem_of_getElem? hz)
                  have hcap : capOf c x.s = y.2 := by simp [capOf, hy]
                  have hbk : bookAt c l x.s = z := by simp [bookAt, hz]
                  refine ⟨_, _, whole_c c hc, ?_⟩
                  conv => whnf
                  refine ⟨_, _, booked_c c (wholeU c) false l hf, ?_⟩
                  conv => whnf
                  refine ⟨by omega, by omega, _, r1_get hz, ?_⟩
                  conv => whnf
                  refine gv (by first | omega | (simp only []; omega) | (simp; omega)) (by first | omega | (simp only []; omega) | (simp; omega)) ?_
                  conv => whnf
                  refine ⟨by omega, _, r2_get hy, ?_⟩
                  conv => whnf
                  refine ⟨[], rfl, ?_, trivial⟩
                  have := fits_iff hf ⟨by omega, by omega⟩ hh hs hnow h5 h6 h7
                  rw [if_neg (fun h => h h10), hcap, hbk, hshad] at this
                  have e : decide (fitsP c l x) = decide (z + tt.shadow ≤ y.2) := decide_eq_decide.2 (this.trans ⟨fun k => k.resolve_left h11, .inr⟩)
                  simp [mtV, valOf, mtC, eqD, e]
          · have h7 : x.h ≠ -1 → x.s ≠ -1 → apart c x.h x.s = true := fun _ h => absurd h9 h
            refine ⟨by kernel_rfl, ?_⟩
            conv => whnf
            refine ⟨by omega, _, rT_get ht, ?_⟩
            conv => whnf
            refine spNe (fun h10 => ?_) (fun h10 => ?_) <;> conv => whnf
            · refine ⟨by kernel_rfl, ?_⟩
              conv => whnf
              refine ⟨by omega, _, rT_get ht, ?_⟩
              conv => whnf
              refine ⟨by kernel_rfl, ?_⟩
              conv => whnf
              refine spE (fun h11 => ?_) (fun h11 => ?_) <;> conv => whnf
              · refine ⟨[], rfl, ?_, trivial⟩
                have := (fits_iff hf ⟨by omega, by omega⟩ hh hs hnow h5 h6 h7).2 (by rw [if_pos h10]; exact .inl h11)
                simp [mtV, valOf, mtC, eqD, this]
              · obtain ⟨z, hz⟩ := get_int (l := booked c l) (i := x.h) (by omega) (by omega)
                obtain ⟨y, hy⟩ := get_int (l := c.cells) (i := x.h) (by omega) (by omega)
                have hzr := hbr z (List.mem_of_getElem? hz)
                have hcap : capOf c x.h = y.2 := by simp [capOf, hy]
                have hbk : bookAt c l x.h = z := by simp [bookAt, hz]
                refine ⟨_, _, whole_c c hc, ?_⟩
                conv => whnf
                refine ⟨_, _, booked_c c (wholeU c) false l hf, ?_⟩
                conv => whnf
                refine ⟨by omega, by omega, _, r1_get hz, ?_⟩
                conv => whnf
                refine gv (by first | omega | (simp only []; omega) | (simp; omega)) (by first | omega | (simp only []; omega) | (simp; omega)) ?_
                conv => whnf
                refine ⟨by omega, _, r2_get hy, ?_⟩
                conv => whnf
                refine ⟨[], rfl, ?_, trivial⟩
                have := fits_iff hf ⟨by omega, by omega⟩ hh hs hnow h5 h6 h7
                rw [if_pos h10, hcap, hbk, hload] at this
                have e : decide (fitsP c l x) = decide (z + tt.load ≤ y.2) := decide_eq_decide.2 (this.trans ⟨fun k => k.resolve_left h11, .inr⟩)
                simp [mtV, valOf, mtC, eqD, e]
            · refine ⟨by kernel_rfl, ?_⟩
              conv => whnf
              refine spE (fun h11 => ?_) (fun h11 => ?_) <;> conv => whnf
              · refine ⟨[], rfl, ?_, trivial⟩
                have := (fits_iff hf ⟨by omega, by omega⟩ hh hs hnow h5 h6 h7).2 (by rw [if_neg (fun h => h h10)]; exact .inl h11)
                simp [mtV, valOf, mtC, eqD, this]
              · obtain ⟨z, hz⟩ := get_int (l := booked c l) (i := x.s) (by omega) (by omega)
                obtain ⟨y, hy⟩ := get_int (l := c.cells) (i := x.s) (by omega) (by omega)
                have hzr := hbr z (List.mem_of_getElem? hz)
                have hcap : capOf c x.s = y.2 := by simp [capOf, hy]
                have hbk : bookAt c l x.s = z := by simp [bookAt, hz]
                refine ⟨_, _, whole_c c hc, ?_⟩
                conv => whnf
                refine ⟨_, _, booked_c c (wholeU c) false l hf, ?_⟩
                conv => whnf
                refine ⟨by omega, by omega, _, r1_get hz, ?_⟩
                conv => whnf
                refine gv (by first | omega | (simp only []; omega) | (simp; omega)) (by first | omega | (simp only []; omega) | (simp; omega)) ?_
                conv => whnf
                refine ⟨by omega, _, r2_get hy, ?_⟩
                conv => whnf
                refine ⟨[], rfl, ?_, trivial⟩
                have := fits_iff hf ⟨by omega, by omega⟩ hh hs hnow h5 h6 h7
                rw [if_neg (fun h => h h10), hcap, hbk, hshad] at this
                have e : decide (fitsP c l x) = decide (z + tt.shadow ≤ y.2) := decide_eq_decide.2 (this.trans ⟨fun k => k.resolve_left h11, .inr⟩)
                simp [mtV, valOf, mtC, eqD, e]
        · have h7 : x.h ≠ -1 → x.s ≠ -1 → apart c x.h x.s = true := fun h _ => absurd h8 h
          refine ⟨by kernel_rfl, ?_⟩
          conv => whnf
          refine ⟨by omega, _, rT_get ht, ?_⟩
          conv => whnf
          refine spNe (fun h10 => ?_) (fun h10 => ?_) <;> conv => whnf
          · refine ⟨by kernel_rfl, ?_⟩
            conv => whnf
            refine ⟨by omega, _, rT_get ht, ?_⟩
            conv => whnf
            refine ⟨by kernel_rfl, ?_⟩
            conv => whnf
            refine spE (fun h11 => ?_) (fun h11 => ?_) <;> conv => whnf
            · refine ⟨[], rfl, ?_, trivial⟩
              have := (fits_iff hf ⟨by omega, by omega⟩ hh hs hnow h5 h6 h7).2 (by rw [if_pos h10]; exact .inl h11)
              simp [mtV, valOf, mtC, eqD, this]
            · obtain ⟨z, hz⟩ := get_int (l := booked c l) (i := x.h) (by omega) (by omega)
              obtain ⟨y, hy⟩ := get_int (l := c.cells) (i := x.h) (by omega) (by omega)
              have hzr := hbr z (List.mem_of_getElem? hz)
              have hcap : capOf c x.h = y.2 := by simp [capOf, hy]
              have hbk : bookAt c l x.h = z := by simp [bookAt, hz]
              refine ⟨_, _, whole_c c hc, ?_⟩
              conv => whnf
              refine ⟨_, _, booked_c c (wholeU c) false l hf, ?_⟩
              conv => whnf
              refine ⟨by omega, by omega, _, r1_get hz, ?_⟩
              conv => whnf
              refine gv (by first | omega | (simp only []; omega) | (simp; omega)) (by first | omega | (simp only []; omega) | (simp; omega)) ?_
              conv => whnf
              refine ⟨by omega, _, r2_get hy, ?_⟩
              conv => whnf
              refine ⟨[], rfl, ?_, trivial⟩
              have := fits_iff hf ⟨by omega, by omega⟩ hh hs hnow h5 h6 h7
              rw [if_pos h10, hcap, hbk, hload] at this
              have e : decide (fitsP c l x) = decide (z + tt.load ≤ y.2) := decide_eq_decide.2 (this.trans ⟨fun k => k.resolve_left h11, .inr⟩)
              simp [mtV, valOf, mtC, eqD, e]
          · refine ⟨by kernel_rfl, ?_⟩
            conv => whnf
            refine spE (fun h11 => ?_) (fun h11 => ?_) <;> conv => whnf
            · refine ⟨[], rfl, ?_, trivial⟩
              have := (fits_iff hf ⟨by omega, by omega⟩ hh hs hnow h5 h6 h7).2 (by rw [if_neg (fun h => h h10)]; exact .inl h11)
              simp [mtV, valOf, mtC, eqD, this]
            · obtain ⟨z, hz⟩ := get_int (l := booked c l) (i := x.s) (by omega) (by omega)
              obtain ⟨y, hy⟩ := get_int (l := c.cells) (i := x.s) (by omega) (by omega)
              have hzr := hbr z (List.mem_of_getElem? hz)
              have hcap : capOf c x.s = y.2 := by simp [capOf, hy]
              have hbk : bookAt c l x.s = z := by simp [bookAt, hz]
              refine ⟨_, _, whole_c c hc, ?_⟩
              conv => whnf
              refine ⟨_, _, booked_c c (wholeU c) false l hf, ?_⟩
              conv => whnf
              refine ⟨by omega, by omega, _, r1_get hz, ?_⟩
              conv => whnf
              refine gv (by first | omega | (simp only []; omega) | (simp; omega)) (by first | omega | (simp only []; omega) | (simp; omega)) ?_
              conv => whnf
              refine ⟨by omega, _, r2_get hy, ?_⟩
              conv => whnf
              refine ⟨[], rfl, ?_, trivial⟩
              have := fits_iff hf ⟨by omega, by omega⟩ hh hs hnow h5 h6 h7
              rw [if_neg (fun h => h h10), hcap, hbk, hshad] at this
              have e : decide (fitsP c l x) = decide (z + tt.shadow ≤ y.2) := decide_eq_decide.2 (this.trans ⟨fun k => k.resolve_left h11, .inr⟩)
              simp [mtV, valOf, mtC, eqD, e]

end Go.Proofs.Ytipabdkgidmjnaa
