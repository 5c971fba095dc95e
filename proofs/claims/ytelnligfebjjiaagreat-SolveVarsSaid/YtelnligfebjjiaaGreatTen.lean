/- Contracts: what the functions of tenant and of its reference return (all but Order). Conditions: those ahead of each theorem. -/
import Derived.Test.YtelnligfebjjiaaGreatConf
import Derived.Test.YtelnligfebjjiaaGreatValidR
import Derived.Test.YtelnligfebjjiaaGreatCplZ
namespace Go.Proofs.YtelnligfebjjiaaGreat
open Go Go.Cpl

abbrev tenV (t : Tenant) : AV := .agg [.d (i64 t.load), .d (i64 t.shadow), .d (i64 t.priority), .d (i64 t.lag), .d (i64 t.allowed), .d (i64 t.group), .d (.bool t.noisy)]

theorem tenWithin_c (n lo hi : Int) : CallsH Tryz.prog 110 [I n, I lo, I hi] [] (B (decide (lo ≤ n ∧ n ≤ hi))) [] := by
  refine callsR_of tab mixed Tryz.func110 rfl (by decide) rfl rfl ?_
  conv => whnf
  refine spD (fun h => ?_) (fun h => ?_) <;> conv => whnf
  all_goals exact ⟨[], rfl, by simp [mtV, valOf, mtC, eqD, h], trivial⟩

def okT (regions : Int) (t : Tenant) : Prop := (1 ≤ t.load ∧ t.load ≤ 65536) ∧ (0 ≤ t.shadow ∧ t.shadow ≤ t.load) ∧ (0 ≤ t.priority ∧ t.priority ≤ 9) ∧ (-1 ≤ t.lag ∧ t.lag ≤ 1000) ∧ (1 ≤ t.allowed ∧ t.allowed ≤ 2 ^ regions.toNat - 1) ∧ (0 ≤ t.group ∧ t.group ≤ 32)

instance (r : Int) (t : Tenant) : Decidable (okT r t) := by unfold okT; infer_instance

theorem shl1' {R : Int} (h : 1 ≤ R ∧ R ≤ 4) : IntKind.i64.wrap (1 * 2 ^ (min R.toNat IntKind.i64.bits)) = 2 ^ R.toNat := by
  have : R = 1 ∨ R = 2 ∨ R = 3 ∨ R = 4 := by omega
  rcases this with rfl | rfl | rfl | rfl <;> rfl

theorem two_pow' {R : Int} (h : 1 ≤ R ∧ R ≤ 4) : (2 : Int) ^ R.toNat = 2 ∨ (2 : Int) ^ R.toNat = 4 ∨ (2 : Int) ^ R.toNat = 8 ∨ (2 : Int) ^ R.toNat = 16 := by
  have : R = 1 ∨ R = 2 ∨ R = 3 ∨ R = 4 := by omega
  rcases this with rfl | rfl | rfl | rfl <;> simp

theorem permitted_c (t : Tenant) (R : Int) (hR : 1 ≤ R ∧ R ≤ 4) : CallsH Tryz.prog 70 [tenV t, I R] [] (B (decide (okT R t))) [] := by
  have hP := two_pow' hR
  have hS := shl1' hR
  refine callsR_of tab mixed Tryz.func70 rfl (by decide) rfl rfl ?_
  conv => whnf
  repeat' (first | (refine ⟨_, _, tenWithin_c _ _ _, ?_⟩; conv => whnf) | (refine gvu (by omega) (by omega) ?_; conv => whnf) | (refine ⟨by omega, .intro _ hS ?_⟩; conv => whnf) | (refine gv (by omega) (by omega) ?_; conv => whnf) | (refine spD (fun _ => ?_) (fun _ => ?_) <;> conv => whnf))
  all_goals refine ⟨[], rfl, ?_, trivial⟩
  all_goals simp only [mtV, valOf, mtC, eqD, okT]
  all_goals simp [*]

theorem declared_c (c : Cfg) (t : Tenant) (hR : 1 ≤ c.regions ∧ c.regions ≤ 4) : CallsH Tryz.prog 66 [cfgV c, tenV t] [] (B (decide (okT c.regions t))) [] := by
  have hP := two_pow' hR
  have hS := shl1' hR
  refine callsR_of tab mixed Tryz.func66 rfl (by decide) rfl rfl ?_
  conv => whnf
  repeat' (first | (refine spD (fun _ => ?_) (fun _ => ?_) <;> conv => whnf) | (refine gvu (by omega) (by omega) ?_; conv => whnf) | (refine ⟨by omega, .intro _ hS ?_⟩; conv => whnf))
  all_goals refine ⟨[], rfl, ?_, trivial⟩
  all_goals simp only [mtV, valOf, mtC, eqD, okT]
  all_goals (first | (apply decide_eq_decide.2; omega) | (symm; apply decide_eq_false; omega) | (apply decide_eq_false; omega) | omega)

def valid5 (c : Cfg) : Int := if valid c = 0 then (if ∀ t ∈ c.tenants, okT c.regions t then 0 else 1) else valid c

theorem valid_num {c : Cfg} (h : valid c = 0) : numbersP c := by
  unfold valid at h
  split at h
  · assumption
  · omega

theorem tenValid_c (c : Cfg) : CallsH Tryz.prog 44 [cfgV c] [] (I (valid5 c)) [] := by
  have hl := rT_len c.tenants
  refine callsR_of tab mixed Tryz.func44 rfl (by decide) rfl rfl ?_
  conv => whnf
  refine ⟨_, _, valid_c c, ?_⟩
  conv => whnf
  refine spNe (fun h => ?_) (fun h => ?_) <;> conv => whnf
  · exact ⟨[], rfl, ⟨rfl, by simp [valid5, h]⟩, trivial⟩
  have hn := valid_num h
  have hR : 1 ≤ c.regions ∧ c.regions ≤ 4 := hn.1
  have hT : (c.tenants.length : Int) ≤ 32 := hn.2.2.2.2.2.2
  refine loopN tab mixed (fun i => i ≤ c.tenants.length ∧ ∀ x ∈ c.tenants.take i, okT c.regions x) c.tenants.length (fun i => [(14, I i)]) (fun _ => []) 51 [] ⟨by omega, by simp⟩ ?_
  conv => whnf
  refine ⟨?_, fun i ⟨hi, hall⟩ => ?_⟩
  · repeat' (first | exact trivial | rfl | refine And.intro ?_ ?_)
    all_goals (conv => whnf)
    repeat' (first | exact trivial | rfl | refine And.intro ?_ ?_)
  conv => whnf
  refine spD (fun h1 => ?_) (fun h1 => ?_) <;> conv => whnf
  · have hi' : i < c.tenants.length := by omega
    obtain ⟨x, hx⟩ := get_of hi'
    refine ⟨by omega, _, rT_get hx, ?_⟩
    conv => whnf
    refine ⟨_, _, permitted_c x _ hR, ?_⟩
    conv => whnf
    refine spN (fun h2 => ?_) (fun h2 => ?_) <;> conv => whnf
    · refine ⟨[], rfl, ⟨rfl, ?_⟩, trivial⟩
      have : ¬ ∀ t ∈ c.tenants, okT c.regions t := fun hA => h2 (hA x (List.mem_of_getElem? hx))
      simp [valid5, h, this]
    · refine gv (by first | omega | (simp only []; omega) | (simp; omega)) (by first | omega | (simp only []; omega) | (simp; omega)) ?_
      conv => whnf
      refine ⟨⟨hi', hi', take_all hx hall h2⟩, [], ?_⟩
      repeat' (first | exact trivial | rfl | refine And.intro ?_ ?_)
      all_goals (conv => whnf)
      repeat' (first | exact trivial | rfl | refine And.intro ?_ ?_)
  · refine ⟨[], rfl, ⟨rfl, ?_⟩, trivial⟩
    have hi' : i = c.tenants.length := by omega
    rw [hi', List.take_length] at hall
    unfold valid5
    rw [if_pos h, if_pos hall]

theorem refTenValid_c (c : Cfg) : CallsH Tryz.prog 41 [cfgV c] [] (I (valid5 c)) [] := by
  have hl := rT_len c.tenants
  refine callsR_of tab mixed Tryz.func41 rfl (by decide) rfl rfl ?_
  conv => whnf
  refine ⟨_, _, refValid_c c, ?_⟩
  conv => whnf
  refine spNe (fun h => ?_) (fun h => ?_) <;> conv => whnf
  · exact ⟨[], rfl, ⟨rfl, by simp [valid5, h]⟩, trivial⟩
  have hn := valid_num h
  have hR : 1 ≤ c.regions ∧ c.regions ≤ 4 := hn.1
  have hT : (c.tenants.length : Int) ≤ 32 := hn.2.2.2.2.2.2
  refine loopN tab mixed (fun i => i ≤ c.tenants.length ∧ ∀ x ∈ c.tenants.take i, okT c.regions x) c.tenants.length (fun i => [(4, I i)]) (fun _ => []) 51 [] ⟨by omega, by simp⟩ ?_
  conv => whnf
  refine ⟨?_, fun i ⟨hi, hall⟩ => ?_⟩
  · repeat' (first | exact trivial | rfl | refine And.intro ?_ ?_)
    all_goals (conv => whnf)
    repeat' (first | exact trivial | rfl | refine And.intro ?_ ?_)
  conv => whnf
  refine spD (fun h1 => ?_) (fun h1 => ?_) <;> conv => whnf
  · have hi' : i < c.tenants.length := by omega
    obtain ⟨x, hx⟩ := get_of hi'
    refine ⟨by kernel_rfl, ?_⟩
    conv => whnf
    refine ⟨by omega, _, rT_get hx, ?_⟩
    conv => whnf
    refine ⟨_, _, declared_c c x hR, ?_⟩
    conv => whnf
    refine spN (fun h2 => ?_) (fun h2 => ?_) <;> conv => whnf
    · refine ⟨[], rfl, ⟨rfl, ?_⟩, trivial⟩
      have : ¬ ∀ t ∈ c.tenants, okT c.regions t := fun hA => h2 (hA x (List.mem_of_getElem? hx))
      simp [valid5, h, this]
    · refine gv (by first | omega | (simp only []; omega) | (simp; omega)) (by first | omega | (simp only []; omega) | (simp; omega)) ?_
      conv => whnf
      refine ⟨⟨hi', hi', take_all hx hall h2⟩, [], ?_⟩
      repeat' (first | exact trivial | rfl | refine And.intro ?_ ?_)
      all_goals (conv => whnf)
      repeat' (first | exact trivial | rfl | refine And.intro ?_ ?_)
  · refine ⟨[], rfl, ⟨rfl, ?_⟩, trivial⟩
    have hi' : i = c.tenants.length := by omega
    rw [hi', List.take_length] at hall
    unfold valid5
    rw [if_pos h, if_pos hall]

def allowedOf (c : Cfg) (t : Int) : Int := if 0 ≤ t then ((c.tenants[t.toNat]?).map (·.allowed)).getD 0 else 0

def may (c : Cfg) (t cell : Int) : Bool := bit (allowedOf c t) (regionOf c cell)

def apart (c : Cfg) (a b : Int) : Bool := decide (0 ≤ regionOf c a ∧ 0 ≤ regionOf c b ∧ regionOf c a ≠ regionOf c b)

theorem bit_zero (i : Int) : bit 0 i = false := by simp [bit]

theorem may_c (c : Cfg) (t cell : Int) (hc : Laid c) (hT : c.tenants.length ≤ 1000) : CallsH Tryz.prog 130 [cfgV c, I t, I cell] [] (B (may c t cell)) [] := by
  have hl := rT_len c.tenants
  have hr := hc.region cell
  have hr4 := hc.regions
  refine callsR_of tab mixed Tryz.func130 rfl (by decide) rfl rfl ?_
  conv => whnf
  refine ⟨_, _, regionOf_c c cell hc.cells hc.zones, ?_⟩
  conv => whnf
  refine gv (by first | omega | (simp only []; omega) | (simp; omega)) (by first | omega | (simp only []; omega) | (simp; omega)) ?_
  conv => whnf
  refine ⟨_, _, tenWithin_c _ _ _, ?_⟩
  conv => whnf
  refine spD (fun h => ?_) (fun h => ?_) <;> conv => whnf
  · obtain ⟨x, hx⟩ := get_int (l := c.tenants) h.1 (by omega)
    have ha : allowedOf c t = x.allowed := by simp [allowedOf, h.1, hx]
    refine spD (fun h1 => ?_) (fun h1 => ?_) <;> conv => whnf
    · refine ⟨h.1, _, rT_get hx, ?_⟩
      conv => whnf
      refine gvu h1 (by omega) ?_
      conv => whnf
      refine ⟨h1, shr_eq h1 (by omega) ?_⟩
      conv => whnf
      refine .intro _ (and1 _) ?_
      conv => whnf
      refine ⟨[], rfl, ?_, trivial⟩
      have h62 : regionOf c cell < 62 := by omega
      simp only [mtV, valOf, mtC, eqD, may, bit, ha, h1, h62, true_and]
      exact (Bool.beq_eq_decide_eq _ _).symm
    · refine ⟨[], rfl, ?_, trivial⟩
      simp [mtV, valOf, mtC, eqD, may, bit, h1]
  · refine ⟨[], rfl, ?_, trivial⟩
    have : allowedOf c t = 0 := by
      unfold allowedOf
      split
      · rename_i h0; simp [get_no (l := c.tenants) h0 (by omega)]
      · rfl
    simp [mtV, valOf, mtC, eqD, may, this, bit_zero]

theorem refMay_c (c : Cfg) (t cell : Int) (hc : Laid c) : CallsH Tryz.prog 80 [cfgV c, I t, I cell] [] (B (may c t cell)) [] := by
  have hl := rT_len c.tenants
  refine callsR_of tab mixed Tryz.func80 rfl (by decide) rfl rfl ?_
  conv => whnf
  refine ⟨by kernel_rfl, ?_⟩
  conv => whnf
  refine spD (fun h => ?_) (fun h => ?_) <;> conv => whnf
  · refine spD (fun h1 => ?_) (fun h1 => ?_) <;> conv => whnf
    · obtain ⟨x, hx⟩ := get_int (l := c.tenants) h (by omega)
      have ha : allowedOf c t = x.allowed := by simp [allowedOf, h, hx]
      refine ⟨h, _, rT_get hx, ?_⟩
      conv => whnf
      refine ⟨_, _, refRegionOf_c c cell hc, ?_⟩
      conv => whnf
      refine ⟨_, _, has_c _ _, ?_⟩
      conv => whnf
      refine ⟨[], rfl, ?_, trivial⟩
      simp only [mtV, valOf, mtC, eqD, may, ha]
    · refine ⟨[], rfl, ?_, trivial⟩
      have : allowedOf c t = 0 := by simp [allowedOf, get_no (l := c.tenants) h (by omega)]
      simp [mtV, valOf, mtC, eqD, may, this, bit_zero]
  · refine ⟨[], rfl, ?_, trivial⟩
    simp [mtV, valOf, mtC, eqD, may, allowedOf, h, bit_zero]

theorem apart_c (c : Cfg) (a b : Int) (hc : Laid c) : CallsH Tryz.prog 131 [cfgV c, I a, I b] [] (B (apart c a b)) [] := by
  refine callsR_of tab mixed Tryz.func131 rfl (by decide) rfl rfl ?_
  conv => whnf
  repeat' (first | (refine gv (by omega) (by omega) ?_; conv => whnf) | (refine ⟨by kernel_rfl, ?_⟩; conv => whnf) | (refine ⟨_, _, regionOf_c c _ hc.cells hc.zones, ?_⟩; conv => whnf) | (refine spD (fun _ => ?_) (fun _ => ?_) <;> conv => whnf) | (refine spN (fun _ => ?_) (fun _ => ?_) <;> conv => whnf) | (refine spE (fun _ => ?_) (fun _ => ?_) <;> conv => whnf) | (refine spNe (fun _ => ?_) (fun _ => ?_) <;> conv => whnf) | (refine gvu (by omega) (by omega) ?_; conv => whnf))
  all_goals refine ⟨[], rfl, ?_, trivial⟩
  all_goals simp [mtV, valOf, mtC, eqD, apart, *]
  all_goals simp [bne, Bool.beq_eq_decide_eq]

theorem refApart_c (c : Cfg) (a b : Int) (hc : Laid c) : CallsH Tryz.prog 81 [cfgV c, I a, I b] [] (B (apart c a b)) [] := by
  refine callsR_of tab mixed Tryz.func81 rfl (by decide) rfl rfl ?_
  conv => whnf
  repeat' (first | (refine gv (by omega) (by omega) ?_; conv => whnf) | (refine ⟨by kernel_rfl, ?_⟩; conv => whnf) | (refine ⟨_, _, refRegionOf_c c _ hc, ?_⟩; conv => whnf) | (refine spD (fun _ => ?_) (fun _ => ?_) <;> conv => whnf) | (refine spN (fun _ => ?_) (fun _ => ?_) <;> conv => whnf) | (refine spE (fun _ => ?_) (fun _ => ?_) <;> conv => whnf) | (refine spNe (fun _ => ?_) (fun _ => ?_) <;> conv => whnf) | (refine gvu (by omega) (by omega) ?_; conv => whnf))
  all_goals refine ⟨[], rfl, ?_, trivial⟩
  all_goals simp [mtV, valOf, mtC, eqD, apart, *]
  all_goals simp [bne, Bool.beq_eq_decide_eq]

def homes (c : Cfg) (t : Int) : List Int := upto (fun i => may c t i) c.cells.length

def standbys (c : Cfg) (t h : Int) : List Int := upto (fun i => may c t i && apart c h i) c.cells.length

theorem refHomes_c (c : Cfg) (t : Int) (hc : Laid c) : CallsH Tryz.prog 52 [cfgV c, I t] [] (.c (.gs 0)) [.arr 3 (r1 (homes c t))] := by
  have hl := r2_len c.cells
  have hcl := hc.cells
  refine callsR_of tab mixed Tryz.func52 rfl (by decide) rfl rfl ?_
  conv => whnf
  refine loopN tab mixed (fun i => i ≤ c.cells.length) c.cells.length (fun i => [(6, I i), (5, .c (.gs 50))]) (fun i => [(50, .arr 3 (r1 (upto (fun i => may c t i) i)))]) 51 [(50, none)] (by omega) ?_
  conv => whnf
  refine ⟨?_, fun i hi => ?_⟩
  · repeat' (first | exact trivial | rfl | refine And.intro ?_ ?_)
    all_goals (conv => whnf)
    repeat' (first | exact trivial | rfl | refine And.intro ?_ ?_)
  conv => whnf
  refine spD (fun h => ?_) (fun h => ?_) <;> conv => whnf
  · have hi' : i < c.cells.length := by omega
    refine ⟨_, _, refMay_c c t i hc, ?_⟩
    conv => whnf
    refine ⟨fun hp => ?_, fun hp => ?_⟩ <;> conv => whnf
    · refine ⟨row1 _ rfl, up_fits hi' hc.cells _ rfl, ?_⟩
      conv => whnf
      refine gv (by first | omega | (simp only []; omega) | (simp; omega)) (by first | omega | (simp only []; omega) | (simp; omega)) ?_
      conv => whnf
      refine ⟨⟨hi', hi'⟩, [(50, some 52)], ?_⟩
      repeat' (first | exact trivial | rfl | refine And.intro ?_ ?_)
      all_goals (conv => whnf)
      repeat' (first | exact trivial | rfl | refine And.intro ?_ ?_)
      rw [upto_yes (by simpa using hp)]; exact (r1_app _ _).symm
    · refine gv (by first | omega | (simp only []; omega) | (simp; omega)) (by first | omega | (simp only []; omega) | (simp; omega)) ?_
      conv => whnf
      refine ⟨⟨hi', hi'⟩, [(50, some 50)], ?_⟩
      repeat' (first | exact trivial | rfl | refine And.intro ?_ ?_)
      all_goals (conv => whnf)
      repeat' (first | exact trivial | rfl | refine And.intro ?_ ?_)
      rw [upto_no (by simpa using hp)]
  · refine ⟨[(0, some 50)], rfl, rfl, ⟨rfl, ?_⟩, trivial⟩
    have hi' : i = c.cells.length := by omega
    simp [homes, hi']

theorem refStandbys_c (c : Cfg) (t v : Int) (hc : Laid c) : CallsH Tryz.prog 53 [cfgV c, I t, I v] [] (.c (.gs 0)) [.arr 3 (r1 (standbys c t v))] := by
  have hl := r2_len c.cells
  have hcl := hc.cells
  refine callsR_of tab mixed Tryz.func53 rfl (by decide) rfl rfl ?_
  conv => whnf
  refine loopN tab mixed (fun i => i ≤ c.cells.length) c.cells.length (fun i => [(8, I i), (7, .c (.gs 50))]) (fun i => [(50, .arr 3 (r1 (upto (fun i => may c t i && apart c v i) i)))]) 51 [(50, none)] (by omega) ?_
  conv => whnf
  refine ⟨?_, fun i hi => ?_⟩
  · repeat' (first | exact trivial | rfl | refine And.intro ?_ ?_)
    all_goals (conv => whnf)
    repeat' (first | exact trivial | rfl | refine And.intro ?_ ?_)
  conv => whnf
  refine spD (fun h => ?_) (fun h => ?_) <;> conv => whnf
  · have hi' : i < c.cells.length := by omega
    refine ⟨_, _, refMay_c c t i hc, ?_⟩
    conv => whnf
    refine ⟨fun hp => ?_, fun hp => ?_⟩ <;> conv => whnf
    · refine ⟨_, _, refApart_c c v i hc, ?_⟩
      conv => whnf
      refine ⟨fun hq => ?_, fun hq => ?_⟩ <;> conv => whnf
      · refine ⟨row1 _ rfl, up_fits hi' hc.cells _ rfl, ?_⟩
        conv => whnf
        refine gv (by first | omega | (simp only []; omega) | (simp; omega)) (by first | omega | (simp only []; omega) | (simp; omega)) ?_
        conv => whnf
        refine ⟨⟨hi', hi'⟩, [(50, some 52)], ?_⟩
        repeat' (first | exact trivial | rfl | refine And.intro ?_ ?_)
        all_goals (conv => whnf)
        repeat' (first | exact trivial | rfl | refine And.intro ?_ ?_)
        rw [upto_yes (by simp [hp, hq])]; exact (r1_app _ _).symm
      · refine gv (by first | omega | (simp only []; omega) | (simp; omega)) (by first | omega | (simp only []; omega) | (simp; omega)) ?_
        conv => whnf
        refine ⟨⟨hi', hi'⟩, [(50, some 50)], ?_⟩
        repeat' (first | exact trivial | rfl | refine And.intro ?_ ?_)
        all_goals (conv => whnf)
        repeat' (first | exact trivial | rfl | refine And.intro ?_ ?_)
        rw [upto_no (by simp [hq])]
    · refine gv (by first | omega | (simp only []; omega) | (simp; omega)) (by first | omega | (simp only []; omega) | (simp; omega)) ?_
      conv => whnf
      refine ⟨⟨hi', hi'⟩, [(50, some 50)], ?_⟩
      repeat' (first | exact trivial | rfl | refine And.intro ?_ ?_)
      all_goals (conv => whnf)
      repeat' (first | exact trivial | rfl | refine And.intro ?_ ?_)
      rw [upto_no (by simp [hp])]
  · refine ⟨[(0, some 50)], rfl, rfl, ⟨rfl, ?_⟩, trivial⟩
    have hi' : i = c.cells.length := by omega
    simp [standbys, hi']

end Go.Proofs.YtelnligfebjjiaaGreat
