/- Contracts: the reference's Vars and Find. Conditions: those ahead of each theorem. -/
import Derived.Test.YtelnligfebjjiaaGreatSolveS
import Derived.Test.YtelnligfebjjiaaGreatCertT
import Derived.Test.YtelnligfebjjiaaGreatOrdR
namespace Go.Proofs.YtelnligfebjjiaaGreat
open Go Go.Cpl

set_option maxRecDepth 100000 in
theorem refVars_c (c : Cfg) (u : Int) (hd : Bool) (hv : valid5 c = 0) : CallsH Tryz.prog 35 [probV c u hd] [] (.c (.gs 0)) [.arr 3 (r1 (vars c))] := by
  have hg := good_of hv
  have hT := hg.tenants
  have hol := (order_ok c).1
  have hor := r1_len (order c)
  refine callsR_of tab mixed Tryz.func35 rfl (by decide) rfl rfl ?_
  conv => whnf
  refine ⟨_, _, refTenValid_c c, ?_⟩
  conv => whnf
  refine spNe (fun h => absurd hv h) (fun _ => ?_)
  conv => whnf
  refine ⟨_, _, (refOrder_c c (by omega)).frozen, ?_⟩
  conv => whnf
  refine loopN tab mixed (fun i => i ≤ (order c).length) (order c).length (fun i => [(5, I i), (3, .c (.gs 50))]) (fun i => [(50, .arr 3 (r1 (varsOf c ((order c).take i))))]) 51 [(50, none)] (by omega) ?_
  conv => whnf
  refine ⟨?_, fun i hi => ?_⟩
  · repeat' (first | exact trivial | rfl | refine And.intro ?_ ?_)
    all_goals (conv => whnf)
    repeat' (first | exact trivial | rfl | refine And.intro ?_ ?_)
  conv => whnf
  have hvl := varsOf_len c ((order c).take i)
  have hvr := r1_len (varsOf c ((order c).take i))
  have htl : ((order c).take i).length ≤ 32 := by simp; omega
  refine spD (fun h => ?_) (fun h => ?_) <;> conv => whnf
  · have hi' : i < (order c).length := by omega
    obtain ⟨t, ht⟩ := get_of hi'
    have htr := ((order_ok c).2.2 t).1 (List.mem_of_getElem? ht)
    have hst : varsOf c ((order c).take (i + 1)) = varsOf c ((order c).take i) ++ varsT c t := by rw [take_succ_of ht, varsOf_app]
    refine ⟨by omega, _, r1_get ht, ?_⟩
    conv => whnf
    refine gv (by first | omega | (simp only []; omega) | (simp; omega)) (by first | omega | (simp only []; omega) | (simp; omega)) ?_
    conv => whnf
    refine ⟨row1 _ rfl, ⟨by simp; omega⟩, ?_⟩
    conv => whnf
    refine ⟨by kernel_rfl, ?_⟩
    conv => whnf
    refine ⟨by omega, _, r1_get ht, ?_⟩
    conv => whnf
    refine ⟨_, _, refSingle_c c u hd t hg, ?_⟩
    conv => whnf
    rcases hs : single c t with _ | _
    · refine ⟨fun _ => ?_, fun h => (by cases h)⟩
      conv => whnf
      refine ⟨by omega, _, r1_get ht, ?_⟩
      conv => whnf
      refine gv (by first | omega | (simp only []; omega) | (simp; omega)) (by first | omega | (simp only []; omega) | (simp; omega)) ?_
      conv => whnf
      refine gv (by first | omega | (simp only []; omega) | (simp; omega)) (by first | omega | (simp only []; omega) | (simp; omega)) ?_
      conv => whnf
      refine ⟨row1 _ rfl, ⟨by simp; omega⟩, ?_⟩
      conv => whnf
      refine gv (by first | omega | (simp only []; omega) | (simp; omega)) (by first | omega | (simp only []; omega) | (simp; omega)) ?_
      conv => whnf
      refine ⟨⟨hi', hi'⟩, [(50, some 54)], ?_⟩
      repeat' (first | exact trivial | rfl | refine And.intro ?_ ?_)
      all_goals (conv => whnf)
      repeat' (first | exact trivial | rfl | refine And.intro ?_ ?_)
      rw [hst]
      simp [varsT, hs, r1]
    · refine ⟨fun h => (by cases h), fun _ => ?_⟩
      conv => whnf
      refine gv (by first | omega | (simp only []; omega) | (simp; omega)) (by first | omega | (simp only []; omega) | (simp; omega)) ?_
      conv => whnf
      refine ⟨⟨hi', hi'⟩, [(50, some 52)], ?_⟩
      repeat' (first | exact trivial | rfl | refine And.intro ?_ ?_)
      all_goals (conv => whnf)
      repeat' (first | exact trivial | rfl | refine And.intro ?_ ?_)
      rw [hst]
      simp [varsT, hs, r1]
  · have hi' : i = (order c).length := by omega
    refine ⟨[(0, some 50)], rfl, ?_⟩
    rw [show vars c = varsOf c ((order c).take i) by rw [hi', List.take_length]; rfl]
    repeat' (first | exact trivial | rfl | refine And.intro ?_ ?_)
    all_goals (conv => whnf)
    repeat' (first | exact trivial | rfl | refine And.intro ?_ ?_)

set_option maxRecDepth 100000 in
set_option maxHeartbeats 4000000 in
theorem refFind_c (c : Cfg) (u : Int) (hd : Bool) : CallsH Tryz.prog 29 [probV c u hd] [] (findV (findL c u hd)) [] := by
  refine callsR_of tab mixed Tryz.func29 rfl (by decide) rfl rfl ?_
  conv => whnf
  refine ⟨_, _, refTenValid_c c, ?_⟩
  conv => whnf
  refine spNe (fun h => ?_) (fun hv => ?_) <;> conv => whnf
  · refine ⟨[], rfl, ?_, trivial⟩
    unfold findL
    rw [if_neg h]
    repeat' (first | exact trivial | rfl | refine And.intro ?_ ?_)
    all_goals (conv => whnf)
    repeat' (first | exact trivial | rfl | refine And.intro ?_ ?_)
  have hg := good_of hv
  have hTT := hg.tenants
  refine ⟨by kernel_rfl, ?_⟩
  conv => whnf
  refine ⟨_, _, (refVars_c c u hd hv).frozen, ?_⟩
  conv => whnf
  refine ⟨_, _, (open17_c c u hd (by omega)).frozen, ?_⟩
  conv => whnf
  have hrd := runR0_step c u hd (vars c).length (fun f hf' l tree cnt h1 h2 h3 h4 h5 => runR_c c u hd f (by omega) l tree cnt h1 h2 h3 h4 h5) (openL c.tenants.length) 0 (opn_openL c) (fun j w hj => by omega) (Nat.le_refl _) (fit_openL hv) (by omega)
  have hok := runN_ok u hd (vars c).length (openL c.tenants.length) [] 0 (fit_openL hv) (by omega)
  have hF : findL c u hd = runN c u hd (vars c).length (openL c.tenants.length) [] 0 := by unfold findL; rw [if_pos hv]
  rw [hF]
  generalize runN c u hd (vars c).length (openL c.tenants.length) [] 0 = s at hrd hok ⊢
  have hcode := hok.code
  refine ⟨_, _, hrd, ?_⟩
  conv => whnf
  rcases Nat.lt_or_ge s.code 2 with h2 | h2
  · refine spNo (by simp; omega) ?_
    conv => whnf
    refine spE' (fun h5 => ?_) (fun h5 => ?_) <;> conv => whnf
    · refine ⟨[], rfl, ?_, trivial⟩
      repeat' (first | exact trivial | rfl | refine And.intro ?_ ?_)
      all_goals (conv => whnf)
      repeat' (first | exact trivial | rfl | refine And.intro ?_ ?_)
      all_goals simp [findT, findE, h5, rN]
    · have h1 : s.code = 1 := by omega
      refine ⟨[], rfl, ?_, trivial⟩
      repeat' (first | exact trivial | rfl | refine And.intro ?_ ?_)
      all_goals (conv => whnf)
      repeat' (first | exact trivial | rfl | refine And.intro ?_ ?_)
      all_goals simp [findP, findT, findE, h1, r2]
  · have h6 : s.code = 2 := by omega
    refine spYes (by simp [h6]) ?_
    conv => whnf
    refine ⟨[], rfl, ?_, trivial⟩
    repeat' (first | exact trivial | rfl | refine And.intro ?_ ?_)
    all_goals (conv => whnf)
    repeat' (first | exact trivial | rfl | refine And.intro ?_ ?_)
    all_goals simp [findP, findT, findE, h6, rN, r2]

end Go.Proofs.YtelnligfebjjiaaGreat
