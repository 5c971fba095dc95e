/- Contracts: laws of chapter 05 return true at every input. No conditions. -/
import Derived.Test.YtipabdkgidmjnaaBook
import Derived.Test.YtipabdkgidmjnaaBent
import Derived.Test.YtipabdkgidmjnaaOrd
namespace Go.Proofs.Ytipabdkgidmjnaa
open Go Go.Cpl

def pairC : Cfg := ⟨2, [0, 1], [(0, 5), (1, 7)], [⟨3, 0, 1, 0, 3, 0, false⟩, ⟨2, 0, 5, 0, 2, 0, false⟩], [(0, 0)], [0], [1], 1, 1, 0⟩

theorem two05_c : CallsH Try.prog 73 [] [] (cfgV pairC) [] := by
  refine callsR_of tab mixed Try.func73 rfl (by decide) rfl rfl ?_
  conv => whnf
  exact ⟨[], rfl, ⟨⟨rfl, rfl⟩, rfl, rfl, rfl, rfl, rfl, rfl, ⟨rfl, rfl⟩, ⟨rfl, rfl⟩, ⟨rfl, rfl⟩, trivial⟩, trivial⟩

theorem pairV : valid5 pairC = 0 := by decide

theorem pairL : Laid pairC := valid_laid (valid5_valid pairV).1

set_option maxRecDepth 100000 in
theorem awake05_c : CallsH Try.prog 34 [] [] (B true) [] := by
  have e1 := (order_c pairC (by decide)).frozen
  rw [show order pairC = [1, 0] by decide] at e1
  have e2 := (homes_c pairC 1 pairL (by decide)).frozen
  rw [show homes pairC 1 = [1] by decide] at e2
  have e3 := tenValid_c pairC
  rw [pairV] at e3
  have e4 := apart_c pairC 0 1 pairL
  rw [show apart pairC 0 1 = true by decide] at e4
  have e5 := apart_c pairC 0 0 pairL
  rw [show apart pairC 0 0 = false by decide] at e5
  have e6 := total_c pairC (by decide) (by decide)
  rw [show totS pairC.tenants = 5 by decide] at e6
  refine callsR_of tab mixed Try.func34 rfl (by decide) rfl rfl ?_
  conv => whnf
  refine ⟨_, _, two05_c, ?_⟩
  conv => whnf
  refine ⟨by kernel_rfl, ?_⟩
  conv => whnf
  refine ⟨_, _, e1, ?_⟩
  conv => whnf
  refine ⟨_, _, e2, ?_⟩
  conv => whnf
  refine ⟨_, _, e3, ?_⟩
  conv => whnf
  refine spE (fun _ => ?_) (fun h => absurd rfl h)
  conv => whnf
  refine spE (fun _ => ?_) (fun h => absurd rfl h)
  conv => whnf
  refine ⟨by decide, _, rfl, ?_⟩
  conv => whnf
  refine spE (fun _ => ?_) (fun h => absurd rfl h)
  conv => whnf
  refine spE (fun _ => ?_) (fun h => absurd rfl h)
  conv => whnf
  refine ⟨by decide, _, rfl, ?_⟩
  conv => whnf
  refine spE (fun _ => ?_) (fun h => absurd rfl h)
  conv => whnf
  refine ⟨_, _, e4, ?_⟩
  conv => whnf
  refine ⟨fun _ => ?_, fun h => by cases h⟩
  conv => whnf
  refine ⟨_, _, e5, ?_⟩
  conv => whnf
  refine ⟨fun _ => ?_, fun h => by cases h⟩
  conv => whnf
  refine ⟨_, _, e6, ?_⟩
  conv => whnf
  exact ⟨[], rfl, rfl, trivial⟩

set_option maxRecDepth 100000 in
theorem tenantValid_c (raw : Cfg) (l : List Int) (which b : Int) : CallsH Try.prog 8 [cfgV raw, .c (.d (.sl (r1 l))), I which, I b] [] (B true) [] := by
  obtain ⟨c, hm, hcfg⟩ := config_c l
  have hZ := hm.zones
  have hC := hm.cells
  have hT := hm.tenants
  have hR := hm.regions
  obtain ⟨v, r, hv, _, _, hr, _⟩ := hm.versions
  have hlen : c.versions.length = r.length + 1 := by rw [hv]; rfl
  have hrep := hm.replicas
  have hobs := hm.observers
  have vc := tenValid_c c
  rw [hm.valid5] at vc
  refine callsR_of tab mixed Try.func8 rfl (by decide) rfl rfl ?_
  conv => whnf
  refine ⟨_, _, small_c raw, ?_⟩
  conv => whnf
  refine spN (fun h => ?_) (fun h => ?_) <;> conv => whnf
  · refine ⟨_, _, awake05_c, ?_⟩
    conv => whnf
    exact ⟨[], rfl, rfl, trivial⟩
  refine ⟨_, _, light_c l, ?_⟩
  conv => whnf
  refine spN (fun h => ?_) (fun h => ?_) <;> conv => whnf
  · refine ⟨_, _, awake05_c, ?_⟩
    conv => whnf
    exact ⟨[], rfl, rfl, trivial⟩
  refine ⟨_, _, hcfg, ?_⟩
  conv => whnf
  refine ⟨_, _, bent_c c which b (by omega) (by omega) (by omega) (by omega) (by omega) (by omega), ?_⟩
  generalize bent c (which % 14) b = d
  conv => whnf
  refine ⟨by kernel_rfl, ?_⟩
  conv => whnf
  refine ⟨_, _, awake05_c, ?_⟩
  conv => whnf
  refine ⟨fun _ => ?_, fun h => by cases h⟩
  conv => whnf
  refine ⟨_, _, tenValid_c raw, ?_⟩
  conv => whnf
  refine ⟨_, _, refTenValid_c raw, ?_⟩
  conv => whnf
  refine spE (fun _ => ?_) (fun h => (h rfl).elim)
  conv => whnf
  refine ⟨_, _, vc, ?_⟩
  conv => whnf
  refine spE (fun _ => ?_) (fun h => (h rfl).elim)
  conv => whnf
  refine ⟨_, _, tenValid_c d, ?_⟩
  conv => whnf
  refine ⟨_, _, refTenValid_c d, ?_⟩
  conv => whnf
  exact ⟨[], rfl, by simp [mtV, Cpl.valOf, mtC, eqD], trivial⟩

theorem spX {b : Bool} {A C : Prop} (h : A) : ((b != b) = true → C) ∧ ((b != b) = false → A) := ⟨fun h => by simp at h, fun _ => h⟩

theorem upto_small {c : Cfg} (hc : Laid c) (p : Nat → Bool) : (upto p c.cells.length).length ≤ 1000000 := by
  have := upto_le p c.cells.length
  have := hc.cells
  omega

set_option maxRecDepth 100000 in
theorem tenantCells_c (l : List Int) (t a b : Int) : CallsH Try.prog 12 [.c (.d (.sl (r1 l))), I t, I a, I b] [] (B true) [] := by
  obtain ⟨c, hm, hcfg⟩ := config_c l
  have hL := hm.laid
  have hT : c.tenants.length ≤ 1000 := by have := hm.tenants; omega
  let u : Nat → Int := fun i => if i = 0 then t else if i = 1 then -1 + t % (5 - -1 + 1) else -1 + (-1 + t % (5 - -1 + 1)) % (5 - -1 + 1)
  let x : Nat → Int := fun i => if i = 0 then a else if i = 1 then -1 + a % (8 - -1 + 1) else -1 + (-1 + a % (8 - -1 + 1)) % (8 - -1 + 1)
  let y : Nat → Int := fun i => if i = 0 then b else if i = 1 then -1 + b % (8 - -1 + 1) else -1 + (-1 + b % (8 - -1 + 1)) % (8 - -1 + 1)
  have hu : ∀ i, i < 2 → u (i + 1) = -1 + u i % (5 - -1 + 1) := fun i hi => by
    rcases (show i = 0 ∨ i = 1 by omega) with rfl | rfl <;> rfl
  have hx : ∀ i, i < 2 → x (i + 1) = -1 + x i % (8 - -1 + 1) := fun i hi => by
    rcases (show i = 0 ∨ i = 1 by omega) with rfl | rfl <;> rfl
  have hy : ∀ i, i < 2 → y (i + 1) = -1 + y i % (8 - -1 + 1) := fun i hi => by
    rcases (show i = 0 ∨ i = 1 by omega) with rfl | rfl <;> rfl
  have hu0 : u 0 = t := rfl
  have hx0 : x 0 = a := rfl
  have hy0 : y 0 = b := rfl
  clear_value u x y
  subst hu0 hx0 hy0
  refine callsR_of tab mixed Try.func12 rfl (by decide) rfl rfl ?_
  conv => whnf
  refine ⟨_, _, light_c l, ?_⟩
  conv => whnf
  refine spN (fun h => ?_) (fun h => ?_) <;> conv => whnf
  · refine ⟨_, _, awake05_c, ?_⟩
    conv => whnf
    exact ⟨[], rfl, rfl, trivial⟩
  refine ⟨_, _, hcfg, ?_⟩
  conv => whnf
  refine loopN tab mixed (fun i => i ≤ 2) 2 (fun i => [(10, I i), (1, I (u i)), (2, I (x i)), (3, I (y i))]) (fun _ => []) 51 [] (by omega) ?_
  conv => whnf
  refine ⟨?_, fun i hi => ?_⟩
  · repeat' (first | exact trivial | rfl | refine And.intro ?_ ?_)
    all_goals (conv => whnf)
    repeat' (first | exact trivial | rfl | refine And.intro ?_ ?_)
  conv => whnf
  refine spD (fun h1 => ?_) (fun h1 => ?_) <;> conv => whnf
  · have hi' : i < 2 := by omega
    refine ⟨by kernel_rfl, ?_⟩
    conv => whnf
    refine ⟨_, _, may_c c (u i) (x i) hL hT, ?_⟩
    conv => whnf
    refine ⟨_, _, refMay_c c (u i) (x i) hL, ?_⟩
    conv => whnf
    refine spX ?_
    conv => whnf
    refine ⟨_, _, apart_c c (x i) (y i) hL, ?_⟩
    conv => whnf
    refine ⟨_, _, refApart_c c (x i) (y i) hL, ?_⟩
    conv => whnf
    refine spX ?_
    conv => whnf
    refine ⟨_, _, (homes_c c (u i) hL hT).frozen, ?_⟩
    conv => whnf
    refine ⟨_, _, (refHomes_c c (u i) hL).frozen, ?_⟩
    conv => whnf
    refine ⟨_, _, sameInts_c _ _ (upto_small hL _), ?_⟩
    conv => whnf
    refine spN (fun h => absurd rfl h) (fun _ => ?_)
    conv => whnf
    refine ⟨_, _, (standbys_c c (u i) (x i) hL hT).frozen, ?_⟩
    conv => whnf
    refine ⟨_, _, (refStandbys_c c (u i) (x i) hL).frozen, ?_⟩
    conv => whnf
    refine ⟨_, _, sameInts_c _ _ (upto_small hL _), ?_⟩
    conv => whnf
    refine spN (fun h => absurd rfl h) (fun _ => ?_)
    conv => whnf
    refine ⟨_, _, between_c (u i) (-1) 5 (by omega) (by omega) (by omega), ?_⟩
    conv => whnf
    refine ⟨_, _, between_c (x i) (-1) 8 (by omega) (by omega) (by omega), ?_⟩
    conv => whnf
    refine ⟨_, _, between_c (y i) (-1) 8 (by omega) (by omega) (by omega), ?_⟩
    conv => whnf
    refine gv (by first | omega | (simp only []; omega) | (simp; omega)) (by first | omega | (simp only []; omega) | (simp; omega)) ?_
    conv => whnf
    refine ⟨⟨hi', hi'⟩, [], ?_⟩
    repeat' (first | exact trivial | rfl | refine And.intro ?_ ?_)
    all_goals (conv => whnf)
    repeat' (first | exact trivial | rfl | refine And.intro ?_ ?_)
    all_goals first | exact hu i hi' | exact hx i hi' | exact hy i hi'
  · refine ⟨_, _, awake05_c, ?_⟩
    conv => whnf
    exact ⟨[], rfl, rfl, trivial⟩

theorem apart_sym (c : Cfg) (a b : Int) : apart c a b = apart c b a := by
  unfold apart
  rw [Bool.eq_iff_iff, decide_eq_true_iff, decide_eq_true_iff]
  constructor <;> rintro ⟨h1, h2, h3⟩ <;> exact ⟨h2, h1, h3.symm⟩

theorem apart_self (c : Cfg) (a : Int) : apart c a a = false := by
  simp [apart]

theorem upto_last {p : Nat → Bool} {x : Int} {n : Nat} (h : x ∈ upto p n) : x < n := by
  obtain ⟨i, h1, h2, _⟩ := upto_mem h; omega

theorem upto_lt {p : Nat → Bool} {x y : Int} {j : Nat} : ∀ {n : Nat}, (upto p n)[j]? = some x → (upto p n)[j + 1]? = some y → x < y
  | 0, h, _ => by simp [upto] at h
  | n + 1, h, h' => by
    cases hp : p n
    · rw [upto_no hp] at h h'; exact upto_lt h h'
    · rw [upto_yes hp] at h h'
      rcases app_get h' with g | ⟨g1, g2⟩
      · rcases app_get h with f | ⟨f1, _⟩
        · exact upto_lt f g
        · have := (List.getElem?_eq_some_iff.1 g).1; omega
      · rcases app_get h with f | ⟨f1, _⟩
        · have := upto_last (List.mem_of_getElem? f); omega
        · omega

set_option maxRecDepth 100000 in
theorem tenantApart_c (l : List Int) (t0 a0 b0 : Int) : CallsH Try.prog 13 [.c (.d (.sl (r1 l))), I t0, I a0, I b0] [] (B true) [] := by
  obtain ⟨c, hm, hcfg⟩ := config_c l
  have hL := hm.laid
  have hT : c.tenants.length ≤ 1000 := by have := hm.tenants; omega
  have ht0 := between_c t0 (-1) 5 (by omega) (by omega) (by omega)
  have ha0 := between_c a0 (-1) 8 (by omega) (by omega) (by omega)
  have hb0 := between_c b0 (-1) 8 (by omega) (by omega) (by omega)
  generalize -1 + t0 % (5 - -1 + 1) = t at ht0
  generalize -1 + a0 % (8 - -1 + 1) = a at ha0
  generalize -1 + b0 % (8 - -1 + 1) = b at hb0
  have hsl := standbys_le (c := c) (t := t) (v := a) hL.cells
  have hs1 := r1_len (standbys c t a)
  have hmem : ∀ x ∈ standbys c t a, may c t x = true ∧ apart c a x = true := fun x hx => by
    obtain ⟨i, _, h2, h3⟩ := upto_mem hx
    rw [h2]; simpa using h3
  have hup : ∀ (j : Nat) (x y : Int), (standbys c t a)[j]? = some x → (standbys c t a)[j + 1]? = some y → x < y := fun j x y h1 h2 => upto_lt h1 h2
  have hst := (standbys_c c t a hL hT).frozen
  generalize standbys c t a = S at *
  refine callsR_of tab mixed Try.func13 rfl (by decide) rfl rfl ?_
  conv => whnf
  refine ⟨_, _, light_c l, ?_⟩
  conv => whnf
  refine spN (fun h => ?_) (fun h => ?_) <;> conv => whnf
  · refine ⟨_, _, awake05_c, ?_⟩
    conv => whnf
    exact ⟨[], rfl, rfl, trivial⟩
  refine ⟨_, _, hcfg, ?_⟩
  conv => whnf
  refine ⟨_, _, ht0, ?_⟩
  conv => whnf
  refine ⟨_, _, ha0, ?_⟩
  conv => whnf
  refine ⟨_, _, hb0, ?_⟩
  conv => whnf
  refine ⟨_, _, hst, ?_⟩
  conv => whnf
  refine loopN tab mixed (fun i => i ≤ S.length) S.length (fun i => [(11, I i)]) (fun _ => []) 51 [] (by omega) ?_
  conv => whnf
  refine ⟨?_, fun i hi => ?_⟩
  · repeat' (first | exact trivial | rfl | refine And.intro ?_ ?_)
    all_goals (conv => whnf)
    repeat' (first | exact trivial | rfl | refine And.intro ?_ ?_)
  conv => whnf
  refine spD (fun h1 => ?_) (fun h1 => ?_) <;> conv => whnf
  · have hi' : i < S.length := by omega
    obtain ⟨x, hx⟩ := get_of hi'
    have hxm := hmem x (List.mem_of_getElem? hx)
    have m1 := may_c c t x hL hT
    rw [hxm.1] at m1
    have m2 := apart_c c a x hL
    rw [hxm.2] at m2
    refine ⟨by kernel_rfl, ?_⟩
    conv => whnf
    refine ⟨by omega, _, r1_get hx, ?_⟩
    conv => whnf
    refine ⟨_, _, m1, ?_⟩
    conv => whnf
    refine ⟨fun h => (by cases h), fun _ => ?_⟩
    conv => whnf
    refine ⟨by omega, _, r1_get hx, ?_⟩
    conv => whnf
    refine ⟨_, _, m2, ?_⟩
    conv => whnf
    refine ⟨fun h => (by cases h), fun _ => ?_⟩
    conv => whnf
    refine spD (fun h2 => ?_) (fun h2 => ?_) <;> conv => whnf
    · obtain ⟨j, rfl⟩ : ∃ j, i = j + 1 := ⟨i - 1, by omega⟩
      obtain ⟨y, hy⟩ := get_of (l := S) (i := j) (by omega)
      have hlt := hup j y x hy hx
      have e1 : ((j + 1 : Nat) : Int) - 1 = (j : Int) := by omega
      refine gv (by first | omega | (simp only []; omega) | (simp; omega)) (by first | omega | (simp only []; omega) | (simp; omega)) ?_
      conv => whnf
      rw [e1]
      refine ⟨by omega, _, r1_get hy, ?_⟩
      conv => whnf
      refine ⟨by omega, _, r1_get hx, ?_⟩
      conv => whnf
      refine spD (fun h3 => by omega) (fun _ => ?_)
      conv => whnf
      refine gv (by first | omega | (simp only []; omega) | (simp; omega)) (by first | omega | (simp only []; omega) | (simp; omega)) ?_
      conv => whnf
      refine ⟨⟨hi', hi'⟩, [], ?_⟩
      repeat' (first | exact trivial | rfl | refine And.intro ?_ ?_)
      all_goals (conv => whnf)
      repeat' (first | exact trivial | rfl | refine And.intro ?_ ?_)
    · refine gv (by first | omega | (simp only []; omega) | (simp; omega)) (by first | omega | (simp only []; omega) | (simp; omega)) ?_
      conv => whnf
      refine ⟨⟨hi', hi'⟩, [], ?_⟩
      repeat' (first | exact trivial | rfl | refine And.intro ?_ ?_)
      all_goals (conv => whnf)
      repeat' (first | exact trivial | rfl | refine And.intro ?_ ?_)
  · have m1 := apart_c c b a hL
    rw [apart_sym c b a] at m1
    have m2 := apart_c c a a hL
    rw [apart_self] at m2
    refine ⟨by kernel_rfl, ?_⟩
    conv => whnf
    refine ⟨_, _, awake05_c, ?_⟩
    conv => whnf
    refine ⟨fun _ => ?_, fun h => by cases h⟩
    conv => whnf
    refine ⟨_, _, apart_c c a b hL, ?_⟩
    conv => whnf
    refine ⟨_, _, m1, ?_⟩
    conv => whnf
    refine ⟨fun _ => ?_, fun h => by simp at h⟩
    conv => whnf
    refine ⟨_, _, m2, ?_⟩
    conv => whnf
    refine ⟨fun _ => ?_, fun h => by cases h⟩
    conv => whnf
    refine ⟨_, _, apart_c c a b hL, ?_⟩
    conv => whnf
    refine ⟨_, _, regionOf_c c a hL.cells hL.zones, ?_⟩
    conv => whnf
    refine spD (fun h3 => ?_) (fun h3 => ?_) <;> conv => whnf
    · refine ⟨_, _, regionOf_c c b hL.cells hL.zones, ?_⟩
      conv => whnf
      refine spD (fun h4 => ?_) (fun h4 => ?_) <;> conv => whnf
      · refine ⟨_, _, regionOf_c c a hL.cells hL.zones, ?_⟩
        conv => whnf
        refine ⟨_, _, regionOf_c c b hL.cells hL.zones, ?_⟩
        conv => whnf
        exact ⟨[], rfl, by simp [mtV, Cpl.valOf, mtC, eqD, apart, h3, h4]; rw [Bool.eq_iff_iff]; simp, trivial⟩
      · exact ⟨[], rfl, by simp [mtV, Cpl.valOf, mtC, eqD, apart, h4], trivial⟩
    · exact ⟨[], rfl, by simp [mtV, Cpl.valOf, mtC, eqD, apart, h3], trivial⟩

end Go.Proofs.Ytipabdkgidmjnaa
