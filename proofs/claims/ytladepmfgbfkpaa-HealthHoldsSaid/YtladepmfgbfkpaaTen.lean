/- Contracts: what the functions of tenant and of its reference return (all but Order). Conditions: those ahead of each theorem. -/
import Derived.Test.YtladepmfgbfkpaaConf
import Derived.Test.YtladepmfgbfkpaaValidR
import Derived.Test.YtladepmfgbfkpaaCplZ
namespace Go.Proofs.Ytladepmfgbfkpaa
open Go Go.Cpl

abbrev tenV (t : Tenant) : AV := .agg [.d (i64 t.load), .d (i64 t.shadow), .d (i64 t.priority), .d (i64 t.lag), .d (i64 t.allowed), .d (i64 t.group), .d (.bool t.noisy)]

theorem tenWithin_c (n lo hi : Int) : CallsH Try.prog 61 [I n, I lo, I hi] [] (B (decide (lo ≤ n ∧ n ≤ hi))) [] := by
  refine callsR_of tab mixed Try.func61 rfl (by decide) rfl rfl ?_
  conv => whnf
  refine spD (fun h => ?_) (fun h => ?_) <;> conv => whnf
  all_goals exact ⟨[], rfl, by simp [mtV, valOf, mtC, eqD, h], trivial⟩

def okT (regions : Int) (t : Tenant) : Prop := (1 ≤ t.load ∧ t.load ≤ 65536) ∧ (0 ≤ t.shadow ∧ t.shadow ≤ t.load) ∧ (0 ≤ t.priority ∧ t.priority ≤ 9) ∧ (-1 ≤ t.lag ∧ t.lag ≤ 1000) ∧ (1 ≤ t.allowed ∧ t.allowed ≤ 2 ^ regions.toNat - 1) ∧ (0 ≤ t.group ∧ t.group ≤ 32)

instance (r : Int) (t : Tenant) : Decidable (okT r t) := by unfold okT; infer_instance

theorem shl1' {R : Int} (h : 1 ≤ R ∧ R ≤ 4) : IntKind.i64.wrap (1 * 2 ^ (min R.toNat IntKind.i64.bits)) = 2 ^ R.toNat := by
  have : R = 1 ∨ R = 2 ∨ R = 3 ∨ R = 4 := by omega
  rcases this with rfl | rfl | rfl | rfl <;> rfl

theorem two_pow' {R : Int} (h : 1 ≤ R ∧ R ≤ 4) : (2 : Int) ^ R.toNat = 2 ∨ (2 : Int) ^ R.toNat = 4 ∨ (2 : Int) ^ R.toNat = 8 ∨ (2 : Int) ^ R.toNat = 16 := by
  have : R = 1 ∨ R = 2 ∨ R = 3 ∨ R = 4 := by omega
  rcases this with rfl | rfl | rfl | rfl <;> simp

theorem permitted_c (t : Tenant) (R : Int) (hR : 1 ≤ R ∧ R ≤ 4) : CallsH Try.prog 52 [tenV t, I R] [] (B (decide (okT R t))) [] := by
  have hP := two_pow' hR
  have hS := shl1' hR
  refine callsR_of tab mixed Try.func52 rfl (by decide) rfl rfl ?_
  conv => whnf
  repeat' (first | (refine ⟨_, _, tenWithin_c _ _ _, ?_⟩; conv => whnf) | (refine gvu (by omega) (by omega) ?_; conv => whnf) | (refine ⟨by omega, .intro _ hS ?_⟩; conv => whnf) | (refine gv (by omega) (by omega) ?_; conv => whnf) | (refine spD (fun _ => ?_) (fun _ => ?_) <;> conv => whnf))
  all_goals refine ⟨[], rfl, ?_, trivial⟩
  all_goals simp only [mtV, valOf, mtC, eqD, okT]
  all_goals simp [*]

theorem declared_c (c : Cfg) (t : Tenant) (hR : 1 ≤ c.regions ∧ c.regions ≤ 4) : CallsH Try.prog 54 [cfgV c, tenV t] [] (B (decide (okT c.regions t))) [] := by
  have hP := two_pow' hR
  have hS := shl1' hR
  refine callsR_of tab mixed Try.func54 rfl (by decide) rfl rfl ?_
  conv => whnf
  repeat' (first | (refine spD (fun _ => ?_) (fun _ => ?_) <;> conv => whnf) | (refine gvu (by omega) (by omega) ?_; conv => whnf) | (refine ⟨by omega, .intro _ hS ?_⟩; conv => whnf))
  all_goals refine ⟨[], rfl, ?_, trivial⟩
  all_goals simp only [mtV, valOf, mtC, eqD, okT]
  all_goals (first | (apply decide_eq_decide.2; omega) | (symm; apply decide_eq_false; omega) | (apply decide_eq_false; omega) | omega)

def valid5 (c : Cfg) : Int := if valid c = 0 then (if ∀ t ∈ c.tenants, okT c.regions t then 0 else 1) else valid c

theorem valid_num {c : Cfg} (h : valid c = 0) : numbersP c := by
  unfold valid at h
  split at h
  · assumption
  · omega

theorem tenValid_c (c : Cfg) : CallsH Try.prog 38 [cfgV c] [] (I (valid5 c)) [] := by
  have hl := rT_len c.tenants
  refine callsR_of tab mixed Try.func38 rfl (by decide) rfl rfl ?_
  conv => whnf
  refine ⟨_, _, valid_c c, ?_⟩
  conv => whnf
  refine spNe (fun h => ?_) (fun h => ?_) <;> conv => whnf
  · exact ⟨[], rfl, ⟨rfl, by simp [valid5, h]⟩, trivial⟩
  have hn := valid_num h
  have hR : 1 ≤ c.regions ∧ c.regions ≤ 4 := hn.1
  have hT : (c.tenants.length : Int) ≤ 32 := hn.2.2.2.2.2.2
  refine loopN tab mixed (fun i => i ≤ c.tenants.length ∧ ∀ x ∈ c.tenants.take i, okT c.regions x) c.tenants.length (fun i => [(14, I i)]) (fun _ => []) 51 [] ⟨by omega, by simp⟩ ?_
  conv => whnf
  refine ⟨?_, fun i ⟨hi, hall⟩ => ?_⟩
  · repeat' (first | exact trivial | rfl | refine And.intro ?_ ?_)
    all_goals (conv => whnf)
    repeat' (first | exact trivial | rfl | refine And.intro ?_ ?_)
  conv => whnf
  refine spD (fun h1 => ?_) (fun h1 => ?_) <;> conv => whnf
  · have hi' : i < c.tenants.length := by omega
    obtain ⟨x, hx⟩ := get_of hi'
    refine ⟨by omega, _, rT_get hx, ?_⟩
    conv => whnf
    refine ⟨_, _, permitted_c x _ hR, ?_⟩
    conv => whnf
    refine spN (fun h2 => ?_) (fun h2 => ?_) <;> conv => whnf
    · refine ⟨[], rfl, ⟨rfl, ?_⟩, trivial⟩
      have : ¬ ∀ t ∈ c.tenants, okT c.regions t := fun hA => h2 (hA x (List.mem_of_getElem? hx))
      simp [valid5, h, this]
    · refine gv (by first | omega | (simp only []; omega) | (simp; omega)) (by first | omega | (simp only []; omega) | (simp; omega)) ?_
      conv => whnf
      refine ⟨⟨hi', hi', take_all hx hall h2⟩, [], ?_⟩
      repeat' (first | exact trivial | rfl | refine And.intro ?_ ?_)
      all_goals (conv => whnf)
      repeat' (first | exact trivial | rfl | refine And.intro ?_ ?_)
  · refine ⟨[], rfl, ⟨rfl, ?_⟩, trivial⟩
    have hi' : i = c.tenants.length := by omega
    rw [hi', List.take_length] at hall
    unfold valid5
    rw [if_pos h, if_pos hall]

theorem refTenValid_c (c : Cfg) : CallsH Try.prog 40 [cfgV c] [] (I (valid5 c)) [] := by
  have hl := rT_len c.tenants
  refine callsR_of tab mixed Try.func40 rfl (by decide) rfl rfl ?_
  conv => whnf
  refine ⟨_, _, refValid_c c, ?_⟩
  conv => whnf
  refine spNe (fun h => ?_) (fun h => ?_) <;> conv => whnf
  · exact ⟨[], rfl, ⟨rfl, by simp [valid5, h]⟩, trivial⟩
  have hn := valid_num h
  have hR : 1 ≤ c.regions ∧ c.regions ≤ 4 := hn.1
  have hT : (c.tenants.length : Int) ≤ 32 := hn.2.2.2.2.2.2
  refine loopN tab mixed (fun i => i ≤ c.tenants.length ∧ ∀ x ∈ c.tenants.take i, okT c.regions x) c.tenants.length (fun i => [(4, I i)]) (fun _ => []) 51 [] ⟨by omega, by simp⟩ ?_
  conv => whnf
  refine ⟨?_, fun i ⟨hi, hall⟩ => ?_⟩
  · repeat' (first | exact trivial | rfl | refine And.intro ?_ ?_)
    all_goals (conv => whnf)
    repeat' (first | exact trivial | rfl | refine And.intro ?_ ?_)
  conv => whnf
  refine spD (fun h1 => ?_) (fun h1 => ?_) <;> conv => whnf
  · have hi' : i < c.tenants.length := by omega
    obtain ⟨x, hx⟩ := get_of hi'
    refine ⟨by kernel_rfl, ?_⟩
    conv => whnf
    refine ⟨by omega, _, rT_get hx, ?_⟩
    conv => whnf
    refine ⟨_, _, declared_c c x hR, ?_⟩
    conv => whnf
    refine spN (fun h2 => ?_) (fun h2 => ?_) <;> conv => whnf
    · refine ⟨[], rfl, ⟨rfl, ?_⟩, trivial⟩
      have : ¬ ∀ t ∈ c.tenants, okT c.regions t := fun hA => h2 (hA x (List.mem_of_getElem? hx))
      simp [valid5, h, this]
    · refine gv (by first | omega | (simp only []; omega) | (simp; omega)) (by first | omega | (simp only []; omega) | (simp; omega)) ?_
      conv => whnf
      refine ⟨⟨hi', hi', take_all hx hall h2⟩, [], ?_⟩
      repeat' (first | exact trivial | rfl | refine And.intro ?_ ?_)
      all_goals (conv => whnf)
      repeat' (first | exact trivial | rfl | refine And.intro ?_ ?_)
  · refine ⟨[], rfl, ⟨rfl, ?_⟩, trivial⟩
    have hi' : i = c.tenants.length := by omega
    rw [hi', List.take_length] at hall
    unfold valid5
    rw [if_pos h, if_pos hall]

def allowedOf (c : Cfg) (t : Int) : Int := if 0 ≤ t then ((c.tenants[t.toNat]?).map (·.allowed)).getD 0 else 0

def may (c : Cfg) (t cell : Int) : Bool := bit (allowedOf c t) (regionOf c cell)

def apart (c : Cfg) (a b : Int) : Bool := decide (0 ≤ regionOf c a ∧ 0 ≤ regionOf c b ∧ regionOf c a ≠ regionOf c b)

theorem bit_zero (i : Int) : bit 0 i = false := by simp [bit]

def homes (c : Cfg) (t : Int) : List Int := upto (fun i => may c t i) c.cells.length

def standbys (c : Cfg) (t h : Int) : List Int := upto (fun i => may c t i && apart c h i) c.cells.length

end Go.Proofs.Ytladepmfgbfkpaa
