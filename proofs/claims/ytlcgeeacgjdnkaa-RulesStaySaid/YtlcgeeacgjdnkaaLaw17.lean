/- Contracts: laws of chapter 17 return true at every input. No conditions. -/
import Derived.Test.YtlcgeeacgjdnkaaRulesR2
import Derived.Test.YtlcgeeacgjdnkaaBent
namespace Go.Proofs.Ytlcgeeacgjdnkaa
open Go Go.Cpl

theorem Made.fit {c : Cfg} (hm : Made c) (more : List Int) : Fit c (pl more c c.tenants.length) := by
  have := hm.cells
  have := hm.zones
  have := hm.regions
  exact ⟨hm.valid5, pl_len more c _, pl_rng more c (by omega) _⟩

theorem Made.places {c : Cfg} (hm : Made c) (more : List Int) : CallsH Try.prog 18 [.c (.d (.sl (r1 more))), cfgV c] [] (plV (pl more c c.tenants.length)) [] := by
  have := hm.cells
  have := hm.zones
  have := hm.regions
  have := hm.tenants
  exact (mkPlaces_c more c hm.laid (by omega) (by omega)).frozen

def twoP : Cfg := ⟨2, [0, 1], [(0, 9), (1, 3)], [⟨5, 2, 0, 0, 3, 0, false⟩], [(0, 0)], [0], [0], 1, 5, 0⟩

theorem two17_c : CallsH Try.prog 64 [] [] (probV twoP 3 false) [] := by
  refine callsR_of tab mixed Try.func64 rfl (by decide) rfl rfl ?_
  conv => whnf
  exact ⟨[], rfl, ⟨⟨rfl, rfl⟩, rfl, rfl, rfl, rfl, rfl, rfl, ⟨rfl, rfl⟩, ⟨rfl, rfl⟩, ⟨rfl, rfl⟩, ⟨rfl, rfl⟩, rfl, trivial⟩, trivial⟩

theorem awake17_c : CallsH Try.prog 31 [] [] (B true) [] := by
  have e1 := full_c twoP 3 false [(-1, -1)] (by decide)
  rw [show fullL twoP 3 false [(-1, -1)] = [⟨1, 0, -1, -1, -1⟩, ⟨2, 0, -1, -1, -1⟩] by decide +kernel] at e1
  have e2 := partial_c twoP 3 false [(0, 0)] (by decide)
  rw [show partialL twoP 3 false [(0, 0)] = [⟨5, 0, -1, 0, -1⟩] by decide +kernel] at e2
  have e3 := full_c twoP 3 false [(0, 1)] (by decide)
  rw [show fullL twoP 3 false [(0, 1)] = [] by decide +kernel] at e3
  refine callsR_of tab mixed Try.func31 rfl (by decide) rfl rfl ?_
  conv => whnf
  refine ⟨_, _, two17_c, ?_⟩
  conv => whnf
  refine ⟨_, _, e1, ?_⟩
  conv => whnf
  refine ⟨_, _, e2, ?_⟩
  conv => whnf
  refine spE (fun _ => ?_) (fun h => absurd rfl h)
  conv => whnf
  refine ⟨by decide, by decide, _, rfl, ?_⟩
  conv => whnf
  refine ⟨by kernel_rfl, ?_⟩
  conv => whnf
  refine ⟨fun _ => ?_, fun h => absurd h (by decide)⟩
  conv => whnf
  refine spE (fun _ => ?_) (fun h => absurd rfl h)
  conv => whnf
  refine ⟨by decide, by decide, _, rfl, ?_⟩
  conv => whnf
  refine spE (fun _ => ?_) (fun h => absurd rfl h)
  conv => whnf
  refine ⟨_, _, e3, ?_⟩
  conv => whnf
  exact ⟨[], rfl, rfl, trivial⟩

set_option maxRecDepth 100000 in
theorem rulesFit_c (l : List Int) (raw : Cfg) (ru : Int) (rh : Bool) (places : List (Int × Int)) (cells : Int) (hd : Bool) : CallsH Try.prog 7 [.c (.d (.sl (r1 l))), probV raw ru rh, plV places, I cells, B hd] [] (B true) [] := by
  obtain ⟨c, u, hm, hprob⟩ := problem_c l cells hd
  have hf := hm.fit l
  have hpl := hm.places l
  generalize pl l c c.tenants.length = x at hf hpl
  have ff := fit_c c u hd x
  rw [decide_eq_true hf] at ff
  refine callsR_of tab mixed Try.func7 rfl (by decide) rfl rfl ?_
  conv => whnf
  refine ⟨_, _, light_c l, ?_⟩
  conv => whnf
  refine spN (fun h => ?_) (fun h => ?_) <;> conv => whnf
  · refine ⟨_, _, awake17_c, ?_⟩
    conv => whnf
    exact ⟨[], rfl, rfl, trivial⟩
  refine ⟨_, _, small_c raw, ?_⟩
  conv => whnf
  refine spN (fun h => ?_) (fun h => ?_) <;> conv => whnf
  · refine ⟨_, _, awake17_c, ?_⟩
    conv => whnf
    exact ⟨[], rfl, rfl, trivial⟩
  refine spD (fun h => ?_) (fun h => ?_) <;> conv => whnf
  · refine ⟨_, _, awake17_c, ?_⟩
    conv => whnf
    exact ⟨[], rfl, rfl, trivial⟩
  refine ⟨_, _, hprob, ?_⟩
  conv => whnf
  refine ⟨_, _, hpl, ?_⟩
  conv => whnf
  refine ⟨by kernel_rfl, ?_⟩
  conv => whnf
  refine ⟨_, _, awake17_c, ?_⟩
  conv => whnf
  refine ⟨fun _ => ?_, fun h => by cases h⟩
  conv => whnf
  refine ⟨_, _, fit_c raw ru rh places, ?_⟩
  conv => whnf
  refine ⟨_, _, refFit_c raw ru rh places, ?_⟩
  conv => whnf
  refine ⟨fun _ => ?_, fun h => by simp at h⟩
  conv => whnf
  refine ⟨_, _, fit_c c u hd places, ?_⟩
  conv => whnf
  refine ⟨_, _, refFit_c c u hd places, ?_⟩
  conv => whnf
  refine ⟨fun _ => ?_, fun h => by simp at h⟩
  conv => whnf
  refine ⟨_, _, ff, ?_⟩
  conv => whnf
  refine ⟨fun _ => ?_, fun h => by cases h⟩
  conv => whnf
  refine ⟨_, _, fit_c raw ru rh x, ?_⟩
  conv => whnf
  refine ⟨_, _, refFit_c raw ru rh x, ?_⟩
  conv => whnf
  exact ⟨[], rfl, by simp [mtV, valOf, mtC, eqD], trivial⟩

theorem partial_len {c : Cfg} {u : Int} {hd : Bool} {l : List (Int × Int)} (hf : Fit c l) : (partialL c u hd l).length ≤ 5000 := by
  have l3 := partial_sum (u := u) (hd := hd) hf
  rw [sumL_flat] at l3
  exact l3

theorem full_len {c : Cfg} {u : Int} {hd : Bool} {l : List (Int × Int)} (hf : Fit c l) : (fullL c u hd l).length ≤ 6000 := by
  have l3 := partial_len (u := u) (hd := hd) hf
  have l1 := hoL_len l l.length
  have l2 := sbL_len c l l.length
  have := (good_of hf.val).tenants
  have := hf.len
  simp only [fullL, List.flatten_cons, List.flatten_nil, List.append_nil, List.length_append]
  omega

set_option maxRecDepth 100000 in
theorem rulesBroken_c (l more : List Int) (cells : Int) (hd : Bool) : CallsH Try.prog 8 [.c (.d (.sl (r1 l))), .c (.d (.sl (r1 more))), I cells, B hd] [] (B true) [] := by
  obtain ⟨c, u, hm, hprob⟩ := problem_c l cells hd
  have hf := hm.fit more
  have hpl := hm.places more
  generalize pl more c c.tenants.length = x at hf hpl
  have p1 := partial_len (u := u) (hd := hd) hf
  have p2 := full_len (u := u) (hd := hd) hf
  refine callsR_of tab mixed Try.func8 rfl (by decide) rfl rfl ?_
  conv => whnf
  refine ⟨_, _, light_c l, ?_⟩
  conv => whnf
  refine spN (fun h => ?_) (fun h => ?_) <;> conv => whnf
  · refine ⟨_, _, awake17_c, ?_⟩
    conv => whnf
    exact ⟨[], rfl, rfl, trivial⟩
  refine ⟨_, _, light_c more, ?_⟩
  conv => whnf
  refine spN (fun h => ?_) (fun h => ?_) <;> conv => whnf
  · refine ⟨_, _, awake17_c, ?_⟩
    conv => whnf
    exact ⟨[], rfl, rfl, trivial⟩
  refine ⟨_, _, hprob, ?_⟩
  conv => whnf
  refine ⟨_, _, hpl, ?_⟩
  conv => whnf
  refine ⟨by kernel_rfl, ?_⟩
  conv => whnf
  refine ⟨_, _, awake17_c, ?_⟩
  conv => whnf
  refine ⟨fun _ => ?_, fun h => by cases h⟩
  conv => whnf
  refine ⟨_, _, partial_c c u hd x hf, ?_⟩
  conv => whnf
  refine ⟨_, _, refPartial_c c u hd x hf, ?_⟩
  conv => whnf
  refine ⟨_, _, same_c _ _ (by omega), ?_⟩
  conv => whnf
  refine spD (fun _ => ?_) (fun h => absurd rfl h)
  conv => whnf
  refine ⟨_, _, full_c c u hd x hf, ?_⟩
  conv => whnf
  refine ⟨_, _, refFull_c c u hd x hf, ?_⟩
  conv => whnf
  refine ⟨_, _, same_c _ _ (by omega), ?_⟩
  conv => whnf
  exact ⟨[], rfl, by simp [mtV, valOf, mtC, eqD], trivial⟩

set_option maxRecDepth 100000 in
theorem rulesBooked_c (l more : List Int) (cells region tenant : Int) : CallsH Try.prog 9 [.c (.d (.sl (r1 l))), .c (.d (.sl (r1 more))), I cells, I region, I tenant] [] (B true) [] := by
  obtain ⟨c, u, hm, hprob⟩ := problem_c l cells true
  have hf := hm.fit more
  have hpl := hm.places more
  generalize pl more c c.tenants.length = x at hf hpl
  have hg := hm.good
  have hC := hg.cells
  have hbl : (booked c x).length = c.cells.length := bk_len c x x.length
  have hxl : ∀ r, (extra c x r).length = c.cells.length := fun r => ex_len c x r x.length
  refine callsR_of tab mixed Try.func9 rfl (by decide) rfl rfl ?_
  conv => whnf
  refine ⟨_, _, light_c l, ?_⟩
  conv => whnf
  refine spN (fun h => ?_) (fun h => ?_) <;> conv => whnf
  · refine ⟨_, _, awake17_c, ?_⟩
    conv => whnf
    exact ⟨[], rfl, rfl, trivial⟩
  refine ⟨_, _, light_c more, ?_⟩
  conv => whnf
  refine spN (fun h => ?_) (fun h => ?_) <;> conv => whnf
  · refine ⟨_, _, awake17_c, ?_⟩
    conv => whnf
    exact ⟨[], rfl, rfl, trivial⟩
  refine ⟨_, _, hprob, ?_⟩
  conv => whnf
  refine ⟨_, _, hpl, ?_⟩
  conv => whnf
  refine loopR tab mixed (ι := { i : Nat // i ≤ 2 } × Int × Int) (fun i => [(13, I (i.1.1 : Nat)), (3, I i.2.1), (4, I i.2.2)]) (fun _ => []) 51 (fun i => 2 - i.1.1) (⟨0, by omega⟩, region, tenant) [] ?_
  conv => whnf
  refine ⟨?_, fun ⟨⟨i, hi⟩, r, t⟩ => ?_⟩
  · repeat' (first | exact trivial | rfl | refine And.intro ?_ ?_)
    all_goals (conv => whnf)
    repeat' (first | exact trivial | rfl | refine And.intro ?_ ?_)
  conv => whnf
  refine spD (fun h => ?_) (fun h => ?_) <;> conv => whnf
  · have hi' : i < 2 := by have : (i : Int) < 2 := h; omega
    refine ⟨by kernel_rfl, ?_⟩
    conv => whnf
    refine ⟨_, _, extra_c c u true x _ hf, ?_⟩
    conv => whnf
    refine ⟨_, _, refExtra_c c u true x _ hf, ?_⟩
    conv => whnf
    refine ⟨_, _, sameInts_c _ _ (by rw [hxl]; omega), ?_⟩
    conv => whnf
    refine spN (fun h => absurd rfl h) (fun _ => ?_)
    conv => whnf
    refine ⟨_, _, single_c c u true _ hg, ?_⟩
    conv => whnf
    refine ⟨_, _, refSingle_c c u true _ hg, ?_⟩
    conv => whnf
    refine ⟨fun h => by simp at h, fun _ => ?_⟩
    conv => whnf
    refine ⟨_, _, between_c _ (-1) 3 (by omega) (by omega) (by omega), ?_⟩
    conv => whnf
    refine ⟨_, _, between_c _ (-1) 5 (by omega) (by omega) (by omega), ?_⟩
    conv => whnf
    refine gv (by simp; omega) (by simp; omega) ?_
    conv => whnf
    refine ⟨(⟨i + 1, hi'⟩, -1 + r % (3 - -1 + 1), -1 + t % (5 - -1 + 1)), [], ?_, ?_⟩
    · repeat' (first | exact trivial | rfl | refine And.intro ?_ ?_)
      all_goals (conv => whnf)
      repeat' (first | exact trivial | rfl | refine And.intro ?_ ?_)
    · show 2 - (i + 1) < 2 - i
      omega
  · refine ⟨by kernel_rfl, ?_⟩
    conv => whnf
    refine ⟨_, _, awake17_c, ?_⟩
    conv => whnf
    refine ⟨fun _ => ?_, fun h => by cases h⟩
    conv => whnf
    refine ⟨_, _, booked_c c u true x hf, ?_⟩
    conv => whnf
    refine ⟨_, _, refBooked_c c u true x hf, ?_⟩
    conv => whnf
    refine ⟨_, _, sameInts_c _ _ (by omega), ?_⟩
    conv => whnf
    exact ⟨[], rfl, by simp [mtV, valOf, mtC, eqD], trivial⟩

end Go.Proofs.Ytlcgeeacgjdnkaa
