/- Contracts: what the functions of tenant and of its reference return (all but Order). Conditions: those ahead of each theorem. -/
import Derived.Test.YtncckpieemmmfaaGreatConf
import Derived.Test.YtncckpieemmmfaaGreatValidR
import Derived.Test.YtncckpieemmmfaaGreatCplZ
namespace Go.Proofs.YtncckpieemmmfaaGreat
open Go Go.Cpl

def okT (regions : Int) (t : Tenant) : Prop := (1 ≤ t.load ∧ t.load ≤ 65536) ∧ (0 ≤ t.shadow ∧ t.shadow ≤ t.load) ∧ (0 ≤ t.priority ∧ t.priority ≤ 9) ∧ (-1 ≤ t.lag ∧ t.lag ≤ 1000) ∧ (1 ≤ t.allowed ∧ t.allowed ≤ 2 ^ regions.toNat - 1) ∧ (0 ≤ t.group ∧ t.group ≤ 32)

instance (r : Int) (t : Tenant) : Decidable (okT r t) := by unfold okT; infer_instance

def valid5 (c : Cfg) : Int := if valid c = 0 then (if ∀ t ∈ c.tenants, okT c.regions t then 0 else 1) else valid c

theorem valid_num {c : Cfg} (h : valid c = 0) : numbersP c := by
  unfold valid at h
  split at h
  · assumption
  · omega

def allowedOf (c : Cfg) (t : Int) : Int := if 0 ≤ t then ((c.tenants[t.toNat]?).map (·.allowed)).getD 0 else 0

def may (c : Cfg) (t cell : Int) : Bool := bit (allowedOf c t) (regionOf c cell)

def apart (c : Cfg) (a b : Int) : Bool := decide (0 ≤ regionOf c a ∧ 0 ≤ regionOf c b ∧ regionOf c a ≠ regionOf c b)

theorem bit_zero (i : Int) : bit 0 i = false := by simp [bit]

theorem refMay_c (c : Cfg) (t cell : Int) (hc : Laid c) : CallsH Tryz.prog 130 [cfgV c, I t, I cell] [] (B (may c t cell)) [] := by
  have hl := rT_len c.tenants
  refine callsR_of tab mixed Tryz.func130 rfl (by decide) rfl rfl ?_
  conv => whnf
  refine ⟨by kernel_rfl, ?_⟩
  conv => whnf
  refine spD (fun h => ?_) (fun h => ?_) <;> conv => whnf
  · refine spD (fun h1 => ?_) (fun h1 => ?_) <;> conv => whnf
    · obtain ⟨x, hx⟩ := get_int (l := c.tenants) h (by omega)
      have ha : allowedOf c t = x.allowed := by simp [allowedOf, h, hx]
      refine ⟨h, _, rT_get hx, ?_⟩
      conv => whnf
      refine ⟨_, _, refRegionOf_c c cell hc, ?_⟩
      conv => whnf
      refine ⟨_, _, has_c _ _, ?_⟩
      conv => whnf
      refine ⟨[], rfl, ?_, trivial⟩
      simp only [mtV, valOf, mtC, eqD, may, ha]
    · refine ⟨[], rfl, ?_, trivial⟩
      have : allowedOf c t = 0 := by simp [allowedOf, get_no (l := c.tenants) h (by omega)]
      simp [mtV, valOf, mtC, eqD, may, this, bit_zero]
  · refine ⟨[], rfl, ?_, trivial⟩
    simp [mtV, valOf, mtC, eqD, may, allowedOf, h, bit_zero]

theorem refApart_c (c : Cfg) (a b : Int) (hc : Laid c) : CallsH Tryz.prog 151 [cfgV c, I a, I b] [] (B (apart c a b)) [] := by
  refine callsR_of tab mixed Tryz.func151 rfl (by decide) rfl rfl ?_
  conv => whnf
  repeat' (first | (refine gv (by omega) (by omega) ?_; conv => whnf) | (refine ⟨by kernel_rfl, ?_⟩; conv => whnf) | (refine ⟨_, _, refRegionOf_c c _ hc, ?_⟩; conv => whnf) | (refine spD (fun _ => ?_) (fun _ => ?_) <;> conv => whnf) | (refine spN (fun _ => ?_) (fun _ => ?_) <;> conv => whnf) | (refine spE (fun _ => ?_) (fun _ => ?_) <;> conv => whnf) | (refine spNe (fun _ => ?_) (fun _ => ?_) <;> conv => whnf) | (refine gvu (by omega) (by omega) ?_; conv => whnf))
  all_goals refine ⟨[], rfl, ?_, trivial⟩
  all_goals simp [mtV, valOf, mtC, eqD, apart, *]
  all_goals simp [bne, Bool.beq_eq_decide_eq]

def homes (c : Cfg) (t : Int) : List Int := upto (fun i => may c t i) c.cells.length

def standbys (c : Cfg) (t h : Int) : List Int := upto (fun i => may c t i && apart c h i) c.cells.length

theorem refHomes_c (c : Cfg) (t : Int) (hc : Laid c) : CallsH Tryz.prog 140 [cfgV c, I t] [] (.c (.gs 0)) [.arr 3 (r1 (homes c t))] := by
  have hl := r2_len c.cells
  have hcl := hc.cells
  refine callsR_of tab mixed Tryz.func140 rfl (by decide) rfl rfl ?_
  conv => whnf
  refine loopN tab mixed (fun i => i ≤ c.cells.length) c.cells.length (fun i => [(6, I i), (5, .c (.gs 50))]) (fun i => [(50, .arr 3 (r1 (upto (fun i => may c t i) i)))]) 51 [(50, none)] (by omega) ?_
  conv => whnf
  refine ⟨?_, fun i hi => ?_⟩
  · repeat' (first | exact trivial | rfl | refine And.intro ?_ ?_)
    all_goals (conv => whnf)
    repeat' (first | exact trivial | rfl | refine And.intro ?_ ?_)
  conv => whnf
  refine spD (fun h => ?_) (fun h => ?_) <;> conv => whnf
  · have hi' : i < c.cells.length := by omega
    refine ⟨_, _, refMay_c c t i hc, ?_⟩
    conv => whnf
    refine ⟨fun hp => ?_, fun hp => ?_⟩ <;> conv => whnf
    · refine ⟨row1 _ rfl, up_fits hi' hc.cells _ rfl, ?_⟩
      conv => whnf
      refine gv (by first | omega | (simp only []; omega) | (simp; omega)) (by first | omega | (simp only []; omega) | (simp; omega)) ?_
      conv => whnf
      refine ⟨⟨hi', hi'⟩, [(50, some 52)], ?_⟩
      repeat' (first | exact trivial | rfl | refine And.intro ?_ ?_)
      all_goals (conv => whnf)
      repeat' (first | exact trivial | rfl | refine And.intro ?_ ?_)
      rw [upto_yes (by simpa using hp)]; exact (r1_app _ _).symm
    · refine gv (by first | omega | (simp only []; omega) | (simp; omega)) (by first | omega | (simp only []; omega) | (simp; omega)) ?_
      conv => whnf
      refine ⟨⟨hi', hi'⟩, [(50, some 50)], ?_⟩
      repeat' (first | exact trivial | rfl | refine And.intro ?_ ?_)
      all_goals (conv => whnf)
      repeat' (first | exact trivial | rfl | refine And.intro ?_ ?_)
      rw [upto_no (by simpa using hp)]
  · refine ⟨[(0, some 50)], rfl, rfl, ⟨rfl, ?_⟩, trivial⟩
    have hi' : i = c.cells.length := by omega
    simp [homes, hi']

theorem refStandbys_c (c : Cfg) (t v : Int) (hc : Laid c) : CallsH Tryz.prog 141 [cfgV c, I t, I v] [] (.c (.gs 0)) [.arr 3 (r1 (standbys c t v))] := by
  have hl := r2_len c.cells
  have hcl := hc.cells
  refine callsR_of tab mixed Tryz.func141 rfl (by decide) rfl rfl ?_
  conv => whnf
  refine loopN tab mixed (fun i => i ≤ c.cells.length) c.cells.length (fun i => [(8, I i), (7, .c (.gs 50))]) (fun i => [(50, .arr 3 (r1 (upto (fun i => may c t i && apart c v i) i)))]) 51 [(50, none)] (by omega) ?_
  conv => whnf
  refine ⟨?_, fun i hi => ?_⟩
  · repeat' (first | exact trivial | rfl | refine And.intro ?_ ?_)
    all_goals (conv => whnf)
    repeat' (first | exact trivial | rfl | refine And.intro ?_ ?_)
  conv => whnf
  refine spD (fun h => ?_) (fun h => ?_) <;> conv => whnf
  · have hi' : i < c.cells.length := by omega
    refine ⟨_, _, refMay_c c t i hc, ?_⟩
    conv => whnf
    refine ⟨fun hp => ?_, fun hp => ?_⟩ <;> conv => whnf
    · refine ⟨_, _, refApart_c c v i hc, ?_⟩
      conv => whnf
      refine ⟨fun hq => ?_, fun hq => ?_⟩ <;> conv => whnf
      · refine ⟨row1 _ rfl, up_fits hi' hc.cells _ rfl, ?_⟩
        conv => whnf
        refine gv (by first | omega | (simp only []; omega) | (simp; omega)) (by first | omega | (simp only []; omega) | (simp; omega)) ?_
        conv => whnf
        refine ⟨⟨hi', hi'⟩, [(50, some 52)], ?_⟩
        repeat' (first | exact trivial | rfl | refine And.intro ?_ ?_)
        all_goals (conv => whnf)
        repeat' (first | exact trivial | rfl | refine And.intro ?_ ?_)
        rw [upto_yes (by simp [hp, hq])]; exact (r1_app _ _).symm
      · refine gv (by first | omega | (simp only []; omega) | (simp; omega)) (by first | omega | (simp only []; omega) | (simp; omega)) ?_
        conv => whnf
        refine ⟨⟨hi', hi'⟩, [(50, some 50)], ?_⟩
        repeat' (first | exact trivial | rfl | refine And.intro ?_ ?_)
        all_goals (conv => whnf)
        repeat' (first | exact trivial | rfl | refine And.intro ?_ ?_)
        rw [upto_no (by simp [hq])]
    · refine gv (by first | omega | (simp only []; omega) | (simp; omega)) (by first | omega | (simp only []; omega) | (simp; omega)) ?_
      conv => whnf
      refine ⟨⟨hi', hi'⟩, [(50, some 50)], ?_⟩
      repeat' (first | exact trivial | rfl | refine And.intro ?_ ?_)
      all_goals (conv => whnf)
      repeat' (first | exact trivial | rfl | refine And.intro ?_ ?_)
      rw [upto_no (by simp [hp])]
  · refine ⟨[(0, some 50)], rfl, rfl, ⟨rfl, ?_⟩, trivial⟩
    have hi' : i = c.cells.length := by omega
    simp [standbys, hi']

end Go.Proofs.YtncckpieemmmfaaGreat
