/- Contract: what the reference of moves.Fits returns: the same. Conditions: none. -/
import Derived.Test.YtipabdkgidmjnaaMoves
namespace Go.Proofs.Ytipabdkgidmjnaa
open Go Go.Cpl

set_option maxRecDepth 100000 in
set_option maxHeartbeats 4000000 in
theorem refFits_c (c : Cfg) (l : List (Int × Int)) (x : Re) : CallsH Try.prog 21 [cfgV c, plV l, reV x] [] (B (decide (fitsP c l x))) [] := by
  have hl := r2_len l
  have hcl := r2_len c.cells
  have hlT := rT_len c.tenants
  refine callsR_of tab mixed Try.func21 rfl (by decide) rfl rfl ?_
  conv => whnf
  refine ⟨_, _, refValid21_c c l, ?_⟩
  conv => whnf
  refine spN (fun h => ?_) (fun hf => ?_) <;> conv => whnf
  · exact ⟨[], rfl, by simp [mtV, valOf, mtC, eqD, show ¬ fitsP c l x from fun k => h k.1], trivial⟩
  refine spD (fun h => ?_) (fun h1 => ?_) <;> conv => whnf
  · exact ⟨[], rfl, by simp [mtV, valOf, mtC, eqD, show ¬ fitsP c l x from fun k => by obtain ⟨_, k2, k3, k4, k5, k6, k7, k8⟩ := k; omega], trivial⟩
  refine spD (fun h => ?_) (fun h2 => ?_) <;> conv => whnf
  · exact ⟨[], rfl, by simp [mtV, valOf, mtC, eqD, show ¬ fitsP c l x from fun k => by obtain ⟨_, k2, k3, k4, k5, k6, k7, k8⟩ := k; omega], trivial⟩
  refine spD (fun h => ?_) (fun h3 => ?_) <;> conv => whnf
  · exact ⟨[], rfl, by simp [mtV, valOf, mtC, eqD, show ¬ fitsP c l x from fun k => by obtain ⟨_, k2, k3, k4, k5, k6, k7, k8⟩ := k; omega], trivial⟩
  refine spD (fun h => ?_) (fun h3b => ?_) <;> conv => whnf
  · exact ⟨[], rfl, by simp [mtV, valOf, mtC, eqD, show ¬ fitsP c l x from fun k => by obtain ⟨_, k2, k3, k4, k5, k6, k7, k8⟩ := k; omega], trivial⟩
  refine spD (fun h => ?_) (fun h4 => ?_) <;> conv => whnf
  · exact ⟨[], rfl, by simp [mtV, valOf, mtC, eqD, show ¬ fitsP c l x from fun k => by obtain ⟨_, k2, k3, k4, k5, k6, k7, k8⟩ := k; omega], trivial⟩
  refine spD (fun h => ?_) (fun h4b => ?_) <;> conv => whnf
  · exact ⟨[], rfl, by simp [mtV, valOf, mtC, eqD, show ¬ fitsP c l x from fun k => by obtain ⟨_, k2, k3, k4, k5, k6, k7, k8⟩ := k; omega], trivial⟩
  obtain ⟨p, hp⟩ := get_int (l := l) (i := x.t) (by omega) (by omega)
  have hnow : nowOf l x.t = p := by simp [nowOf, hp]
  have hprg := hf.rng p (List.mem_of_getElem? hp)
  have hg := good_of hf.val
  have hflen := hf.len
  have hT := hg.tenants
  obtain ⟨tt, ht⟩ := get_int (l := c.tenants) (i := x.t) (by omega) (by omega)
  have hload : loadOf c x.t.toNat = tt.load := by simp [loadOf, ht]
  have hshad : shadowOf c x.t.toNat = tt.shadow := by simp [shadowOf, ht]
  have hL := hg.load x.t.toNat
  have hS := hg.shadow x.t.toNat
  have hbl : (booked c l).length = c.cells.length := bk_len c l l.length
  have hb1 := r1_len (booked c l)
  have hbr := bk_rng hg l l.length
  have hh : -1 ≤ x.h ∧ x.h < c.cells.length := by omega
  have hs : -1 ≤ x.s ∧ x.s < c.cells.length := by omega
  refine ⟨by omega, _, r2_get hp, ?_⟩
  conv => whnf
  refine eqBB (fun h5 => ?_) (fun h5 => ?_) <;> conv => whnf
  · exact ⟨[], rfl, by simp [mtV, valOf, mtC, eqD, show ¬ fitsP c l x from fun k => by obtain ⟨_, k2, k3, k4, k5, k6, k7, k8⟩ := k; rw [hnow] at k5 k6; omega], trivial⟩
  have h5' : ¬ (x.h ≠ p.1 ↔ x.s ≠ p.2) := by omega
  refine spD (fun h6' => ?_) (fun h6' => ?_) <;> conv => whnf
  · refine spD (fun h6'' => ?_) (fun h6'' => ?_) <;> conv => whnf
    · exact ⟨[], rfl, by simp [mtV, valOf, mtC, eqD, show ¬ fitsP c l x from fun k => by obtain ⟨_, k2, k3, k4, k5, k6, k7, k8⟩ := k; rw [hnow] at k5 k6; omega], trivial⟩
    have h6 : ¬ (x.h = -1 ∧ p.1 ≠ -1) := by omega
    refine spD (fun h8 => ?_) (fun h8 => ?_) <;> conv => whnf
    · refine spD (fun h9 => ?_) (fun h9 => ?_) <;> conv => whnf
      · refine ⟨_, _, refApart_c c x.h x.s hg.laid, ?_⟩
        conv => whnf
        refine ⟨fun hap => ?_, fun hap => ?_⟩ <;> conv => whnf
        · have hap' : apart c x.h x.s = false := by simpa using hap
          exact ⟨[], rfl, by simp [mtV, valOf, mtC, eqD, show ¬ fitsP c l x from fun k => by have := k.2.2.2.2.2.2.1 (by omega) (by omega); rw [hap'] at this; cases this], trivial⟩
        · have h7 : x.h ≠ -1 → x.s ≠ -1 → apart c x.h x.s = true := fun _ _ => by simpa using hap
          refine ⟨by kernel_rfl, ?_⟩
          conv => whnf
          refine ⟨by omega, _, rT_get ht, ?_⟩
          conv => whnf
          refine spE (fun h10 => ?_) (fun h10 => ?_) <;> conv => whnf
          · refine ⟨by kernel_rfl, ?_⟩
            conv => whnf
            refine ⟨by omega, _, rT_get ht, ?_⟩
            conv => whnf
            refine ⟨by kernel_rfl, ?_⟩
            conv => whnf
            refine spD (fun h11 => ?_) (fun h11 => ?_) <;> conv => whnf
            · refine ⟨[], rfl, ?_, trivial⟩
              have := (fits_iff hf ⟨by omega, by omega⟩ hh hs hnow h5' h6 h7).2 (by rw [if_neg (fun h => h h10.symm)]; exact .inl (by omega))
              simp [mtV, valOf, mtC, eqD, this]
            · obtain ⟨z, hz⟩ := get_int (l := booked c l) (i := x.s) (by omega) (by omega)
              obtain ⟨y, hy⟩ := get_int (l := c.cells) (i := x.s) (by omega) (by omega)
              have hzr := hbr z (List.mem_of_getElem? hz)
              have hcap : capOf c x.s = y.2 := by simp [capOf, hy]
              have hbk : bookAt c l x.s = z := by simp [bookAt, hz]
              refine ⟨_, _, refAll_c c, ?_⟩
              conv => whnf
              refine ⟨_, _, refBooked_c c 65535 false l hf, ?_⟩
              conv => whnf
              refine ⟨by omega, by omega, _, r1_get hz, ?_⟩
              conv => whnf
              refine gv (by first | omega | (simp only []; omega) | (simp; omega)) (by first | omega | (simp only []; omega) | (simp; omega)) ?_
              conv => whnf
              refine ⟨by omega, _, r2_get hy, ?_⟩
              conv => whnf
              refine ⟨[], rfl, ?_, trivial⟩
              have := fits_iff hf ⟨by omega, by omega⟩ hh hs hnow h5' h6 h7
              rw [if_neg (fun h => h h10.symm), hcap, hbk, hshad] at this
              have e : decide (fitsP c l x) = decide (z + tt.shadow ≤ y.2) := decide_eq_decide.2 (this.trans ⟨fun k => k.resolve_left (by omega), .inr⟩)
              simp [mtV, valOf, mtC, eqD, e]
          · refine ⟨by kernel_rfl, ?_⟩
            conv => whnf
            refine spD (fun h11 => ?_) (fun h11 => ?_) <;> conv => whnf
            · refine ⟨[], rfl, ?_, trivial⟩
              have := (fits_iff hf ⟨by omega, by omega⟩ hh hs hnow h5' h6 h7).2 (by rw [if_pos (fun h => h10 h.symm)]; exact .inl (by omega))
              simp [mtV, valOf, mtC, eqD, this]
            · obtain ⟨z, hz⟩ := get_int (l := booked c l) (i := x.h) (by omega) (by omega)
              obtain ⟨y, hy⟩ := get_int (l := c.cells) (i := x.h) (by omega) (by omega)
              have hzr := hbr z (List.mem_of_getElem? hz)
              have hcap : capOf c x.h = y.2 := by simp [capOf, hy]
              have hbk : bookAt c l x.h = z := by simp [bookAt, hz]
              refine ⟨_, _, refAll_c c, ?_⟩
              conv => whnf
              refine ⟨_, _, refBooked_c c 65535 false l hf, ?_⟩
              conv => whnf
              refine ⟨by omega, by omega, _, r1_get hz, ?_⟩
              conv => whnf
              refine gv (by first | omega | (simp only []; omega) | (simp; omega)) (by first | omega | (simp only []; omega) | (simp; omega)) ?_
              conv => whnf
              refine ⟨by omega, _, r2_get hy, ?_⟩
              conv => whnf
              refine ⟨[], rfl, ?_, trivial⟩
              have := fits_iff hf ⟨by omega, by omega⟩ hh hs hnow h5' h6 h7
              rw [if_pos (fun h => h10 h.symm), hcap, hbk, hload] at this
              have e : decide (fitsP c l x) = decide (z + tt.load ≤ y.2) := decide_eq_decide.2 (this.trans ⟨fun k => k.resolve_left (by omega), .inr⟩)
              simp [mtV, valOf, mtC, eqD, e]
      · have h7 : x.h ≠ -1 → x.s ≠ -1 → apart c x.h x.s = true := fun _ h => by omega
        refine ⟨by kernel_rfl, ?_⟩
        conv => whnf
        refine ⟨by omega, _, rT_get ht, ?_⟩
        conv => whnf
        refine spE (fun h10 => ?_) (fun h10 => ?_) <;> conv => whnf
        · refine ⟨by kernel_rfl, ?_⟩
          conv => whnf
          refine ⟨by omega, _, rT_get ht, ?_⟩
          conv => whnf
          refine ⟨by kernel_rfl, ?_⟩
          conv => whnf
          refine spD (fun h11 => ?_) (fun h11 => ?_) <;> conv => whnf
          · refine ⟨[], rfl, ?_, trivial⟩
            have := (fits_iff hf ⟨by omega, by omega⟩ hh hs hnow h5' h6 h7).2 (by rw [if_neg (fun h => h h10.symm)]; exact .inl (by omega))
            simp [mtV, valOf, mtC, eqD, this]
          · obtain ⟨z, hz⟩ := get_int (l := booked c l) (i := x.s) (by omega) (by omega)
            obtain ⟨y, hy⟩ := get_int (l := c.cells) (i := x.s) (by omega) (by omega)
            have hzr := hbr z (List.mem_of_getElem? hz)
            have hcap : capOf c x.s = y.2 := by simp [capOf, hy]
            have hbk : bookAt c l x.s = z := by simp [bookAt, hz]
            refine ⟨_, _, refAll_c c, ?_⟩
            conv => whnf
            refine ⟨_, _, refBooked_c c 65535 false l hf, ?_⟩
            conv => whnf
            refine ⟨by omega, by omega, _, r1_get hz, ?_⟩
            conv => whnf
            refine gv (by first | omega | (simp only []; omega) | (simp; omega)) (by first | omega | (simp only []; omega) | (simp; omega)) ?_
            conv => whnf
            refine ⟨by omega, _, r2_get hy, ?_⟩
            conv => whnf
            refine ⟨[], rfl, ?_, trivial⟩
            have := fits_iff hf ⟨by omega, by omega⟩ hh hs hnow h5' h6 h7
            rw [if_neg (fun h => h h10.symm), hcap, hbk, hshad] at this
            have e : decide (fitsP c l x) = decide (z + tt.shadow ≤ y.2) := decide_eq_decide.2 (this.trans ⟨fun k => k.resolve_left (by omega), .inr⟩)
            simp [mtV, valOf, mtC, eqD, e]
        · refine ⟨by kernel_rfl, ?_⟩
          conv => whnf
          refine spD (fun h11 => ?_) (fun h11 => ?_) <;> conv => whnf
          · refine ⟨[], rfl, ?_, trivial⟩
            have := (fits_iff hf ⟨by omega, by omega⟩ hh hs hnow h5' h6 h7).2 (by rw [if_pos (fun h => h10 h.symm)]; exact .inl (by omega))
            simp [mtV, valOf, mtC, eqD, this]
          · obtain ⟨z, hz⟩ := get_int (l := booked c l) (i := x.h) (by omega) (by omega)
            obtain ⟨y, hy⟩ := get_int (l := c.cells) (i := x.h) (by omega) (by omega)
            have hzr := hbr z (List.mem_of_getElem? hz)
            have hcap : capOf c x.h = y.2 := by simp [capOf, hy]
            have hbk : bookAt c l x.h = z := by simp [bookAt, hz]
            refine ⟨_, _, refAll_c c, ?_⟩
            conv => whnf
            refine ⟨_, _, refBooked_c c 65535 false l hf, ?_⟩
            conv => whnf
            refine ⟨by omega, by omega, _, r1_get hz, ?_⟩
            conv => whnf
            refine gv (by first | omega | (simp only []; omega) | (simp; omega)) (by first | omega | (simp only []; omega) | (simp; omega)) ?_
            conv => whnf
            refine ⟨by omega, _, r2_get hy, ?_⟩
            conv => whnf
            refine ⟨[], rfl, ?_, trivial⟩
            have := fits_iff hf ⟨by omega, by omega⟩ hh hs hnow h5' h6 h7
            rw [if_pos (fun h => h10 h.symm), hcap, hbk, hload] at this
            have e : decide (fitsP c l x) = decide (z + tt.load ≤ y.2) := decide_eq_decide.2 (this.trans ⟨fun k => k.resolve_left (by omega), .inr⟩)
            simp [mtV, valOf, mtC, eqD, e]
    · have h7 : x.h ≠ -1 → x.s ≠ -1 → apart c x.h x.s = true := fun h _ => by omega
      refine ⟨by kernel_rfl, ?_⟩
      conv => whnf
      refine ⟨by omega, _, rT_get ht, ?_⟩
      conv => whnf
      refine spE (fun h10 => ?_) (fun h10 => ?_) <;> conv => whnf
      · refine ⟨by kernel_rfl, ?_⟩
        conv => whnf
        refine ⟨by omega, _, rT_get ht, ?_⟩
        conv => whnf
        refine ⟨by kernel_rfl, ?_⟩
        conv => whnf
        refine spD (fun h11 => ?_) (fun h11 => ?_) <;> conv => whnf
        · refine ⟨[], rfl, ?_, trivial⟩
          have := (fits_iff hf ⟨by omega, by omega⟩ hh hs hnow h5' h6 h7).2 (by rw [if_neg (fun h => h h10.symm)]; exact .inl (by omega))
          simp [mtV, valOf, mtC, eqD, this]
        · obtain ⟨z, hz⟩ := get_int (l := booked c l) (i := x.s) (by omega) (by omega)
          obtain ⟨y, hy⟩ := get_int (l := c.cells) (i := x.s) (by omega) (by omega)
          have hzr := hbr z (List.mem_of_getElem? hz)
          have hcap : capOf c x.s = y.2 := by simp [capOf, hy]
          have hbk : bookAt c l x.s = z := by simp [bookAt, hz]
          refine ⟨_, _, refAll_c c, ?_⟩
          conv => whnf
          refine ⟨_, _, refBooked_c c 65535 false l hf, ?_⟩
          conv => whnf
          refine ⟨by omega, by omega, _, r1_get hz, ?_⟩
          conv => whnf
          refine gv (by first | omega | (simp only []; omega) | (simp; omega)) (by first | omega | (simp only []; omega) | (simp; omega)) ?_
          conv => whnf
          refine ⟨by omega, _, r2_get hy, ?_⟩
          conv => whnf
          refine ⟨[], rfl, ?_, trivial⟩
          have := fits_iff hf ⟨by omega, by omega⟩ hh hs hnow h5' h6 h7
          rw [if_neg (fun h => h h10.symm), hcap, hbk, hshad] at this
          have e : decide (fitsP c l x) = decide (z + tt.shadow ≤ y.2) := decide_eq_decide.2 (this.trans ⟨fun k => k.resolve_left (by omega), .inr⟩)
          simp [mtV, valOf, mtC, eqD, e]
      · refine ⟨by kernel_rfl, ?_⟩
        conv => whnf
        refine spD (fun h11 => ?_) (fun h11 => ?_) <;> conv => whnf
        · refine ⟨[], rfl, ?_, trivial⟩
          have := (fits_iff hf ⟨by omega, by omega⟩ hh hs hnow h5' h6 h7).2 (by rw [if_pos (fun h => h10 h.symm)]; exact .inl (by omega))
          simp [mtV, valOf, mtC, eqD, this]
        · obtain ⟨z, hz⟩ := get_int (l := booked c l) (i := x.h) (by omega) (by omega)
          obtain ⟨y, hy⟩ := get_int (l := c.cells) (i := x.h) (by omega) (by omega)
          have hzr := hbr z (List.mem_of_getElem? hz)
          have hcap : capOf c x.h = y.2 := by simp [capOf, hy]
          have hbk : bookAt c l x.h = z := by simp [bookAt, hz]
          refine ⟨_, _, refAll_c c, ?_⟩
          conv => whnf
          refine ⟨_, _, refBooked_c c 65535 false l hf, ?_⟩
          conv => whnf
          refine ⟨by omega, by omega, _, r1_get hz, ?_⟩
          conv => whnf
          refine gv (by first | omega | (simp only []; omega) | (simp; omega)) (by first | omega | (simp only []; omega) | (simp; omega)) ?_
          conv => whnf
          refine ⟨by omega, _, r2_get hy, ?_⟩
          conv => whnf
          refine ⟨[], rfl, ?_, trivial⟩
          have := fits_iff hf ⟨by omega, by omega⟩ hh hs hnow h5' h6 h7
          rw [if_pos (fun h => h10 h.symm), hcap, hbk, hload] at this
          have e : decide (fitsP c l x) = decide (z + tt.load ≤ y.2) := decide_eq_decide.2 (this.trans ⟨fun k => k.resolve_left (by omega), .inr⟩)
          simp [mtV, valOf, mtC, eqD, e]
  · have h6 : ¬ (x.h = -1 ∧ p.1 ≠ -1) := by omega
    refine spD (fun h8 => ?_) (fun h8 => ?_) <;> conv => whnf
    · refine spD (fun h9 => ?_) (fun h9 => ?_) <;> conv => whnf
      · refine ⟨_, _, refApart_c c x.h x.s hg.laid, ?_⟩
        conv => whnf
        refine ⟨fun hap => ?_, fun hap => ?_⟩ <;> conv => whnf
        · have hap' : apart c x.h x.s = false := by simpa using hap
          exact ⟨[], rfl, by simp [mtV, valOf, mtC, eqD, show ¬ fitsP c l x from fun k => by have := k.2.2.2.2.2.2.1 (by omega) (by omega); rw [hap'] at this; cases this], trivial⟩
        · have h7 : x.h ≠ -1 → x.s ≠ -1 → apart c x.h x.s = true := fun _ _ => by simpa using hap
          refine ⟨by kernel_rfl, ?_⟩
          conv => whnf
          refine ⟨by omega, _, rT_get ht, ?_⟩
          conv => whnf
          refine spE (fun h10 => ?_) (fun h10 => ?_) <;> conv => whnf
          · refine ⟨by kernel_rfl, ?_⟩
            conv => whnf
            refine ⟨by omega, _, rT_get ht, ?_⟩
            conv => whnf
            refine ⟨by kernel_rfl, ?_⟩
            conv => whnf
            refine spD (fun h11 => ?_) (fun h11 => ?_) <;> conv => whnf
            · refine ⟨[], rfl, ?_, trivial⟩
              have := (fits_iff hf ⟨by omega, by omega⟩ hh hs hnow h5' h6 h7).2 (by rw [if_neg (fun h => h h10.symm)]; exact .inl (by omega))
              simp [mtV, valOf, mtC, eqD, this]
            · obtain ⟨z, hz⟩ := get_int (l := booked c l) (i := x.s) (by omega) (by omega)
              obtain ⟨y, hy⟩ := get_int (l := c.cells) (i := x.s) (by omega) (by omega)
              have hzr := hbr z (List.mem_of_getElem? hz)
              have hcap : capOf c x.s = y.2 := by simp [capOf, hy]
              have hbk : bookAt c l x.s = z := by simp [bookAt, hz]
              refine ⟨_, _, refAll_c c, ?_⟩
              conv => whnf
              refine ⟨_, _, refBooked_c c 65535 false l hf, ?_⟩
              conv => whnf
              refine ⟨by omega, by omega, _, r1_get hz, ?_⟩
              conv => whnf
              refine gv (by first | omega | (simp only []; omega) | (simp; omega)) (by first | omega | (simp only []; omega) | (simp; omega)) ?_
              conv => whnf
              refine ⟨by omega, _, r2_get hy, ?_⟩
              conv => whnf
              refine ⟨[], rfl, ?_, trivial⟩
              have := fits_iff hf ⟨by omega, by omega⟩ hh hs hnow h5' h6 h7
              rw [if_neg (fun h => h h10.symm), hcap, hbk, hshad] at this
              have e : decide (fitsP c l x) = decide (z + tt.shadow ≤ y.2) := decide_eq_decide.2 (this.trans ⟨fun k => k.resolve_left (by omega), .inr⟩)
              simp [mtV, valOf, mtC, eqD, e]
          · refine ⟨by kernel_rfl, ?_⟩
            conv => whnf
            refine spD (fun h11 => ?_) (fun h11 => ?_) <;> conv => whnf
            · refine ⟨[], rfl, ?_, trivial⟩
              have := (fits_iff hf ⟨by omega, by omega⟩ hh hs hnow h5' h6 h7).2 (by rw [if_pos (fun h => h10 h.symm)]; exact .inl (by omega))
              simp [mtV, valOf, mtC, eqD, this]
            · obtain ⟨z, hz⟩ := get_int (l := booked c l) (i := x.h) (by omega) (by omega)
              obtain ⟨y, hy⟩ := get_int (l := c.cells) (i := x.h) (by omega) (by omega)
              have hzr := hbr z (List.mem_of_getElem? hz)
              have hcap : capOf c x.h = y.2 := by simp [capOf, hy]
              have hbk : bookAt c l x.h = z := by simp [bookAt, hz]
              refine ⟨_, _, refAll_c c, ?_⟩
              conv => whnf
              refine ⟨_, _, refBooked_c c 65535 false l hf, ?_⟩
              conv => whnf
              refine ⟨by omega, by omega, _, r1_get hz, ?_⟩
              conv => whnf
              refine gv (by first | omega | (simp only []; omega) | (simp; omega)) (by first | omega | (simp only []; omega) | (simp; omega)) ?_
              conv => whnf
              refine ⟨by omega, _, r2_get hy, ?_⟩
              conv => whnf
              refine ⟨[], rfl, ?_, trivial⟩
              have := fits_iff hf ⟨by omega, by omega⟩ hh hs hnow h5' h6 h7
              rw [if_pos (fun h => h10 h.symm), hcap, hbk, hload] at this
              have e : decide (fitsP c l x) = decide (z + tt.load ≤ y.2) := decide_eq_decide.2 (this.trans ⟨fun k => k.resolve_left (by omega), .inr⟩)
              simp [mtV, valOf, mtC, eqD, e]
      · have h7 : x.h ≠ -1 → x.s ≠ -1 → apart c x.h x.s = true := fun _ h => by omega
        refine ⟨by kernel_rfl, ?_⟩
        conv => whnf
        refine ⟨by omega, _, rT_get ht, ?_⟩
        conv => whnf
        refine spE (fun h10 => ?_) (fun h10 => ?_) <;> conv => whnf
        · refine ⟨by kernel_rfl, ?_⟩
          conv => whnf
          refine ⟨by omega, _, rT_get ht, ?_⟩
          conv => whnf
          refine ⟨by kernel_rfl, ?_⟩
          conv => whnf
          refine spD (fun h11 => ?_) (fun h11 => ?_) <;> conv => whnf
          · refine ⟨[], rfl, ?_, trivial⟩
            have := (fits_iff hf ⟨by omega, by omega⟩ hh hs hnow h5' h6 h7).2 (by rw [if_neg (fun h => h h10.symm)]; exact .inl (by omega))
            simp [mtV, valOf, mtC, eqD, this]
          · obtain ⟨z, hz⟩ := get_int (l := booked c l) (i := x.s) (by omega) (by omega)
            obtain ⟨y, hy⟩ := get_int (l := c.cells) (i := x.s) (by omega) (by omega)
            have hzr := hbr z (List.mem_of_getElem? hz)
            have hcap : capOf c x.s = y.2 := by simp [capOf, hy]
            have hbk : bookAt c l x.s = z := by simp [bookAt, hz]
            refine ⟨_, _, refAll_c c, ?_⟩
            conv => whnf
            refine ⟨_, _, refBooked_c c 65535 false l hf, ?_⟩
            conv => whnf
            refine ⟨by omega, by omega, _, r1_get hz, ?_⟩
            conv => whnf
            refine gv (by first | omega | (simp only []; omega) | (simp; omega)) (by first | omega | (simp only []; omega) | (simp; omega)) ?_
            conv => whnf
            refine ⟨by omega, _, r2_get hy, ?_⟩
            conv => whnf
            refine ⟨[], rfl, ?_, trivial⟩
            have := fits_iff hf ⟨by omega, by omega⟩ hh hs hnow h5' h6 h7
            rw [if_neg (fun h => h h10.symm), hcap, hbk, hshad] at this
            have e : decide (fitsP c l x) = decide (z + tt.shadow ≤ y.2) := decide_eq_decide.2 (this.trans ⟨fun k => k.resolve_left (by omega), .inr⟩)
            simp [mtV, valOf, mtC, eqD, e]
        · refine ⟨by kernel_rfl, ?_⟩
          conv => whnf
          refine spD (fun h11 => ?_) (fun h11 => ?_) <;> conv => whnf
          · refine ⟨[], rfl, ?_, trivial⟩
            have := (fits_iff hf ⟨by omega, by omega⟩ hh hs hnow h5' h6 h7).2 (by rw [if_pos (fun h => h10 h.symm)]; exact .inl (by omega))
            simp [mtV, valOf, mtC, eqD, this]
          · obtain ⟨z, hz⟩ := get_int (l := booked c l) (i := x.h) (by omega) (by omega)
            obtain ⟨y, hy⟩ := get_int (l := c.cells) (i := x.h) (by omega) (by omega)
            have hzr := hbr z (List.mem_of_getElem? hz)
            have hcap : capOf c x.h = y.2 := by simp [capOf, hy]
            have hbk : bookAt c l x.h = z := by simp [bookAt, hz]
            refine ⟨_, _, refAll_c c, ?_⟩
            conv => whnf
            refine ⟨_, _, refBooked_c c 65535 false l hf, ?_⟩
            conv => whnf
            refine ⟨by omega, by omega, _, r1_get hz, ?_⟩
            conv => whnf
            refine gv (by first | omega | (simp only []; omega) | (simp; omega)) (by first | omega | (simp only []; omega) | (simp; omega)) ?_
            conv => whnf
            refine ⟨by omega, _, r2_get hy, ?_⟩
            conv => whnf
            refine ⟨[], rfl, ?_, trivial⟩
            have := fits_iff hf ⟨by omega, by omega⟩ hh hs hnow h5' h6 h7
            rw [if_pos (fun h => h10 h.symm), hcap, hbk, hload] at this
            have e : decide (fitsP c l x) = decide (z + tt.load ≤ y.2) := decide_eq_decide.2 (this.trans ⟨fun k => k.resolve_left (by omega), .inr⟩)
            simp [mtV, valOf, mtC, eqD, e]
    · have h7 : x.h ≠ -1 → x.s ≠ -1 → apart c x.h x.s = true := fun h _ => by omega
      refine ⟨by kernel_rfl, ?_⟩
      conv => whnf
      refine ⟨by omega, _, rT_get ht, ?_⟩
      conv => whnf
      refine spE (fun h10 => ?_) (fun h10 => ?_) <;> conv => whnf
      · refine ⟨by kernel_rfl, ?_⟩
        conv => whnf
        refine ⟨by omega, _, rT_get ht, ?_⟩
        conv => whnf
        refine ⟨by kernel_rfl, ?_⟩
        conv => whnf
        refine spD (fun h11 => ?_) (fun h11 => ?_) <;> conv => whnf
        · refine ⟨[], rfl, ?_, trivial⟩
          have := (fits_iff hf ⟨by omega, by omega⟩ hh hs hnow h5' h6 h7).2 (by rw [if_neg (fun h => h h10.symm)]; exact .inl (by omega))
          simp [mtV, valOf, mtC, eqD, this]
        · obtain ⟨z, hz⟩ := get_int (l := booked c l) (i := x.s) (by omega) (by omega)
          obtain ⟨y, hy⟩ := get_int (l := c.cells) (i := x.s) (by omega) (by omega)
          have hzr := hbr z (List.mem_of_getElem? hz)
          have hcap : capOf c x.s = y.2 := by simp [capOf, hy]
          have hbk : bookAt c l x.s = z := by simp [bookAt, hz]
          refine ⟨_, _, refAll_c c, ?_⟩
          conv => whnf
          refine ⟨_, _, refBooked_c c 65535 false l hf, ?_⟩
          conv => whnf
          refine ⟨by omega, by omega, _, r1_get hz, ?_⟩
          conv => whnf
          refine gv (by first | omega | (simp only []; omega) | (simp; omega)) (by first | omega | (simp only []; omega) | (simp; omega)) ?_
          conv => whnf
          refine ⟨by omega, _, r2_get hy, ?_⟩
          conv => whnf
          refine ⟨[], rfl, ?_, trivial⟩
          have := fits_iff hf ⟨by omega, by omega⟩ hh hs hnow h5' h6 h7
          rw [if_neg (fun h => h h10.symm), hcap, hbk, hshad] at this
          have e : decide (fitsP c l x) = decide (z + tt.shadow ≤ y.2) := decide_eq_decide.2 (this.trans ⟨fun k => k.resolve_left (by omega), .inr⟩)
          simp [mtV, valOf, mtC, eqD, e]
      · refine ⟨by kernel_rfl, ?_⟩
        conv => whnf
        refine spD (fun h11 => ?_) (fun h11 => ?_) <;> conv => whnf
        · refine ⟨[], rfl, ?_, trivial⟩
          have := (fits_iff hf ⟨by omega, by omega⟩ hh hs hnow h5' h6 h7).2 (by rw [if_pos (fun h => h10 h.symm)]; exact .inl (by omega))
          simp [mtV, valOf, mtC, eqD, this]
        · obtain ⟨z, hz⟩ := get_int (l := booked c l) (i := x.h) (by omega) (by omega)
          obtain ⟨y, hy⟩ := get_int (l := c.cells) (i := x.h) (by omega) (by omega)
          have hzr := hbr z (List.mem_of_getElem? hz)
          have hcap : capOf c x.h = y.2 := by simp [capOf, hy]
          have hbk : bookAt c l x.h = z := by simp [bookAt, hz]
          refine ⟨_, _, refAll_c c, ?_⟩
          conv => whnf
          refine ⟨_, _, refBooked_c c 65535 false l hf, ?_⟩
          conv => whnf
          refine ⟨by omega, by omega, _, r1_get hz, ?_⟩
          conv => whnf
          refine gv (by first | omega | (simp only []; omega) | (simp; omega)) (by first | omega | (simp only []; omega) | (simp; omega)) ?_
          conv => whnf
          refine ⟨by omega, _, r2_get hy, ?_⟩
          conv => whnf
          refine ⟨[], rfl, ?_, trivial⟩
          have := fits_iff hf ⟨by omega, by omega⟩ hh hs hnow h5' h6 h7
          rw [if_pos (fun h => h10 h.symm), hcap, hbk, hload] at this
          have e : decide (fitsP c l x) = decide (z + tt.load ≤ y.2) := decide_eq_decide.2 (this.trans ⟨fun k => k.resolve_left (by omega), .inr⟩)
          simp [mtV, valOf, mtC, eqD, e]

end Go.Proofs.Ytipabdkgidmjnaa
