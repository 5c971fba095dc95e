/- Contract: the law SolveVars (the order of the variables at any valid configuration; the placement that is found). Conditions: those ahead of each theorem. -/
import Derived.Test.YtelnligfebjjiaaGreatSolveU
import Derived.Test.YtelnligfebjjiaaGreatBent
import Derived.Test.YtelnligfebjjiaaGreatSrD
namespace Go.Proofs.YtelnligfebjjiaaGreat
open Go Go.Cpl

set_option maxRecDepth 100000 in
theorem varsX_c (c : Cfg) (u : Int) (hd : Bool) (hv : valid5 c = 0) : CallsH Tryz.prog 34 [probV c u hd] [] (.c (.gs 0)) [.arr 3 (r1 (vars c))] := by
  have hg := good_of hv
  have hT := hg.tenants
  have hol := (order_ok c).1
  have hor := r1_len (order c)
  refine callsR_of tab mixed Tryz.func34 rfl (by decide) rfl rfl ?_
  conv => whnf
  refine ⟨_, _, tenValid_c c, ?_⟩
  conv => whnf
  refine spNe (fun h => absurd hv h) (fun _ => ?_)
  conv => whnf
  refine ⟨_, _, (orderX_c c (by omega)).frozen, ?_⟩
  conv => whnf
  refine loopN tab mixed (fun i => i ≤ (order c).length) (order c).length (fun i => [(14, I i), (3, .c (.gs 50))]) (fun i => [(50, .arr 3 (r1 (varsOf c ((order c).take i))))]) 51 [(50, none)] (by omega) ?_
  conv => whnf
  refine ⟨?_, fun i hi => ?_⟩
  · repeat' (first | exact trivial | rfl | refine And.intro ?_ ?_)
    all_goals (conv => whnf)
    repeat' (first | exact trivial | rfl | refine And.intro ?_ ?_)
  conv => whnf
  have hvl := varsOf_len c ((order c).take i)
  have hvr := r1_len (varsOf c ((order c).take i))
  have htl : ((order c).take i).length ≤ 100 := by simp; omega
  refine spD (fun h => ?_) (fun h => ?_) <;> conv => whnf
  · have hi' : i < (order c).length := by omega
    obtain ⟨t, ht⟩ := get_of hi'
    have htr := ((order_ok c).2.2 t).1 (List.mem_of_getElem? ht)
    have hst : varsOf c ((order c).take (i + 1)) = varsOf c ((order c).take i) ++ varsT c t := by rw [take_succ_of ht, varsOf_app]
    refine ⟨by omega, _, r1_get ht, ?_⟩
    conv => whnf
    refine gv (by first | omega | (simp only []; omega) | (simp; omega)) (by first | omega | (simp only []; omega) | (simp; omega)) ?_
    conv => whnf
    refine ⟨row1 _ rfl, ⟨by simp; omega⟩, ?_⟩
    conv => whnf
    refine ⟨_, _, single_c c u hd t hg, ?_⟩
    conv => whnf
    rcases hs : single c t with _ | _
    · refine ⟨fun _ => ?_, fun h => (by cases h)⟩
      conv => whnf
      refine gv (by first | omega | (simp only []; omega) | (simp; omega)) (by first | omega | (simp only []; omega) | (simp; omega)) ?_
      conv => whnf
      refine gv (by first | omega | (simp only []; omega) | (simp; omega)) (by first | omega | (simp only []; omega) | (simp; omega)) ?_
      conv => whnf
      refine ⟨row1 _ rfl, ⟨by simp; omega⟩, ?_⟩
      conv => whnf
      refine gv (by first | omega | (simp only []; omega) | (simp; omega)) (by first | omega | (simp only []; omega) | (simp; omega)) ?_
      conv => whnf
      refine ⟨⟨hi', hi'⟩, [(50, some 54)], ?_⟩
      repeat' (first | exact trivial | rfl | refine And.intro ?_ ?_)
      all_goals (conv => whnf)
      repeat' (first | exact trivial | rfl | refine And.intro ?_ ?_)
      rw [hst]
      simp [varsT, hs, r1]
    · refine ⟨fun h => (by cases h), fun _ => ?_⟩
      conv => whnf
      refine gv (by first | omega | (simp only []; omega) | (simp; omega)) (by first | omega | (simp only []; omega) | (simp; omega)) ?_
      conv => whnf
      refine ⟨⟨hi', hi'⟩, [(50, some 52)], ?_⟩
      repeat' (first | exact trivial | rfl | refine And.intro ?_ ?_)
      all_goals (conv => whnf)
      repeat' (first | exact trivial | rfl | refine And.intro ?_ ?_)
      rw [hst]
      simp [varsT, hs, r1]
  · have hi' : i = (order c).length := by omega
    refine ⟨[(0, some 50)], rfl, ?_⟩
    rw [show vars c = varsOf c ((order c).take i) by rw [hi', List.take_length]; rfl]
    repeat' (first | exact trivial | rfl | refine And.intro ?_ ?_)
    all_goals (conv => whnf)
    repeat' (first | exact trivial | rfl | refine And.intro ?_ ?_)

/-- the variables of any problem: none of one that is not valid -/
def varsV (c : Cfg) : List Int := if valid5 c = 0 then vars c else []

theorem varsV_len (c : Cfg) : (varsV c).length ≤ 1000 := by
  unfold varsV
  split
  · rename_i hv
    have h1 := varsOf_len c (order c)
    have h2 := (order_ok c).1
    have h3 := (good_of hv).tenants
    unfold vars; omega
  · simp

theorem varsF_c (c : Cfg) (u : Int) (hd : Bool) : CallsH Tryz.prog 34 [probV c u hd] [] (.c (.d (.sl (r1 (varsV c))))) [] := by
  by_cases hv : valid5 c = 0
  · rw [show varsV c = vars c from if_pos hv]
    exact (varsX_c c u hd hv).frozen
  · rw [show varsV c = [] from if_neg hv]
    refine callsR_of tab mixed Tryz.func34 rfl (by decide) rfl rfl ?_
    conv => whnf
    refine ⟨_, _, tenValid_c c, ?_⟩
    conv => whnf
    refine spNe (fun _ => ?_) (fun h => absurd h hv)
    conv => whnf
    refine ⟨[], rfl, ?_, trivial⟩
    repeat' (first | exact trivial | rfl | refine And.intro ?_ ?_)
    all_goals (conv => whnf)
    repeat' (first | exact trivial | rfl | refine And.intro ?_ ?_)

theorem refVarsF_c (c : Cfg) (u : Int) (hd : Bool) : CallsH Tryz.prog 35 [probV c u hd] [] (.c (.d (.sl (r1 (varsV c))))) [] := by
  by_cases hv : valid5 c = 0
  · rw [show varsV c = vars c from if_pos hv]
    exact (refVars_c c u hd hv).frozen
  · rw [show varsV c = [] from if_neg hv]
    refine callsR_of tab mixed Tryz.func35 rfl (by decide) rfl rfl ?_
    conv => whnf
    refine ⟨_, _, refTenValid_c c, ?_⟩
    conv => whnf
    refine spNe (fun _ => ?_) (fun h => absurd h hv)
    conv => whnf
    refine ⟨[], rfl, ?_, trivial⟩
    repeat' (first | exact trivial | rfl | refine And.intro ?_ ?_)
    all_goals (conv => whnf)
    repeat' (first | exact trivial | rfl | refine And.intro ?_ ?_)

def plcP (s : SR) : List (Int × Int) := if findE s = 0 ∧ findT s = [] then findP s else []

def plcE (s : SR) : Int := if findE s ≠ 0 then findE s else if findT s = [] then 0 else 10

abbrev plcR (s : SR) : AV := .tup [.inl (.d (.sl (r2 (plcP s)))), .inl (.d (i64 (plcE s)))]

theorem places20_c (c : Cfg) (u : Int) (hd : Bool) (hT : c.tenants.length ≤ 12) : CallsH Tryz.prog 31 [probV c u hd] [] (plcR (findL c u hd)) [] := by
  have hc := find_c c u hd hT
  generalize findL c u hd = s at *
  have l1 := rN_len (findT s)
  refine callsR_of tab mixed Tryz.func31 rfl (by decide) rfl rfl ?_
  conv => whnf
  refine ⟨_, _, hc, ?_⟩
  conv => whnf
  refine spNe (fun h => ?_) (fun h => ?_) <;> conv => whnf
  · refine ⟨[], rfl, ?_, trivial⟩
    repeat' (first | exact trivial | rfl | refine And.intro ?_ ?_)
    all_goals (conv => whnf)
    repeat' (first | exact trivial | rfl | refine And.intro ?_ ?_)
    all_goals simp [plcP, plcE, h, r2]
  refine spD (fun h2 => ?_) (fun h2 => ?_) <;> conv => whnf
  · have h3 : findT s ≠ [] := fun e => by rw [e] at h2; simp [rN] at h2
    refine ⟨[], rfl, ?_, trivial⟩
    repeat' (first | exact trivial | rfl | refine And.intro ?_ ?_)
    all_goals (conv => whnf)
    repeat' (first | exact trivial | rfl | refine And.intro ?_ ?_)
    all_goals simp [plcP, plcE, h, h3, r2]
  · have h3 : findT s = [] := List.length_eq_zero_iff.1 (by omega)
    refine ⟨[], rfl, ?_, trivial⟩
    repeat' (first | exact trivial | rfl | refine And.intro ?_ ?_)
    all_goals (conv => whnf)
    repeat' (first | exact trivial | rfl | refine And.intro ?_ ?_)
    all_goals simp [plcP, plcE, h, h3, r2]

theorem refPlaces20_c (c : Cfg) (u : Int) (hd : Bool) : CallsH Tryz.prog 32 [probV c u hd] [] (plcR (findL c u hd)) [] := by
  have hc := refFind_c c u hd
  generalize findL c u hd = s at *
  have l1 := rN_len (findT s)
  refine callsR_of tab mixed Tryz.func32 rfl (by decide) rfl rfl ?_
  conv => whnf
  refine ⟨_, _, hc, ?_⟩
  conv => whnf
  refine spNe (fun h => ?_) (fun h => ?_) <;> conv => whnf
  · refine ⟨[], rfl, ?_, trivial⟩
    repeat' (first | exact trivial | rfl | refine And.intro ?_ ?_)
    all_goals (conv => whnf)
    repeat' (first | exact trivial | rfl | refine And.intro ?_ ?_)
    all_goals simp [plcP, plcE, h, r2]
  refine spD (fun h2 => ?_) (fun h2 => ?_) <;> conv => whnf
  · have h3 : findT s ≠ [] := fun e => by rw [e] at h2; simp [rN] at h2
    refine ⟨[], rfl, ?_, trivial⟩
    repeat' (first | exact trivial | rfl | refine And.intro ?_ ?_)
    all_goals (conv => whnf)
    repeat' (first | exact trivial | rfl | refine And.intro ?_ ?_)
    all_goals simp [plcP, plcE, h, h3, r2]
  · have h3 : findT s = [] := List.length_eq_zero_iff.1 (by omega)
    refine ⟨[], rfl, ?_, trivial⟩
    repeat' (first | exact trivial | rfl | refine And.intro ?_ ?_)
    all_goals (conv => whnf)
    repeat' (first | exact trivial | rfl | refine And.intro ?_ ?_)
    all_goals simp [plcP, plcE, h, h3, r2]

set_option maxRecDepth 100000 in
theorem solveVars_c (l : List Int) (raw : Cfg) (cells which by' : Int) (hd : Bool) : CallsH Tryz.prog 8 [.c (.d (.sl (r1 l))), cfgV raw, I cells, I which, I by', B hd] [] (B true) [] := by
  obtain ⟨c, u, hm, hprob⟩ := problem_c l cells hd
  have hv := hm.valid5
  have hg := good_of hv
  have t12 := hm.t12
  have g1 := hm.zones
  have g2 := hm.cells
  have g3 := hm.regions
  obtain ⟨vv, vr, hvv, _, _, hvr, _⟩ := hm.versions
  have hlen : c.versions.length = vr.length + 1 := by rw [hvv]; rfl
  have hrep := hm.replicas
  have hobs := hm.observers
  refine callsR_of tab mixed Tryz.func8 rfl (by decide) rfl rfl ?_
  conv => whnf
  refine ⟨_, _, light_c l, ?_⟩
  conv => whnf
  refine spN (fun h => ?_) (fun h => ?_) <;> conv => whnf
  · refine ⟨_, _, awake20_c, ?_⟩
    conv => whnf
    exact ⟨[], rfl, rfl, trivial⟩
  refine ⟨_, _, small_c raw, ?_⟩
  conv => whnf
  refine spN (fun h => ?_) (fun hs => ?_) <;> conv => whnf
  · refine ⟨_, _, awake20_c, ?_⟩
    conv => whnf
    exact ⟨[], rfl, rfl, trivial⟩
  refine ⟨_, _, hprob, ?_⟩
  conv => whnf
  obtain ⟨f1, -⟩ := find_len u hd hv
  have f2 : (plcP (findL c u hd)).length ≤ 1000000 := by
    unfold plcP
    split
    · exact f1
    · simp
  have hpl := places20_c c u hd t12
  have hpr := refPlaces20_c c u hd
  generalize findL c u hd = s at *
  refine ⟨_, _, hpl, ?_⟩
  conv => whnf
  refine ⟨_, _, hpr, ?_⟩
  conv => whnf
  refine ⟨_, _, bent_c c which by' (by omega) (by omega) (by omega) (by omega) (by omega) (by omega), ?_⟩
  conv => whnf
  generalize bent c (which % 14) by' = d
  refine ⟨by kernel_rfl, ?_⟩
  conv => whnf
  refine ⟨_, _, awake20_c, ?_⟩
  conv => whnf
  refine ⟨fun _ => ?_, fun h => (by cases h)⟩
  conv => whnf
  refine ⟨_, _, varsF_c c u hd, ?_⟩
  conv => whnf
  refine ⟨_, _, refVarsF_c c u hd, ?_⟩
  conv => whnf
  refine ⟨_, _, sameInts_c (varsV c) (varsV c) (by have := varsV_len c; omega), ?_⟩
  conv => whnf
  refine spTrue (by simp) ?_
  conv => whnf
  refine ⟨_, _, varsF_c raw u hd, ?_⟩
  conv => whnf
  refine ⟨_, _, refVarsF_c raw u hd, ?_⟩
  conv => whnf
  refine ⟨_, _, sameInts_c (varsV raw) (varsV raw) (by have := varsV_len raw; omega), ?_⟩
  conv => whnf
  refine spTrue (by simp) ?_
  conv => whnf
  refine ⟨_, _, varsF_c d u hd, ?_⟩
  conv => whnf
  refine ⟨_, _, refVarsF_c d u hd, ?_⟩
  conv => whnf
  refine ⟨_, _, sameInts_c (varsV d) (varsV d) (by have := varsV_len d; omega), ?_⟩
  conv => whnf
  refine spTrue (by simp) ?_
  conv => whnf
  refine ⟨_, _, samePl_c (plcP s) (plcP s) f2, ?_⟩
  conv => whnf
  refine spTrue (by simp) ?_
  conv => whnf
  exact ⟨[], rfl, by simp [mtV, Cpl.valOf, mtC, eqD], trivial⟩

end Go.Proofs.YtelnligfebjjiaaGreat
