/- Contracts: solve.Find. Conditions: those ahead of each theorem. -/
import Derived.Test.YtelnligfebjjiaaGreatSolveR
namespace Go.Proofs.YtelnligfebjjiaaGreat
open Go Go.Cpl

def findL (c : Cfg) (u : Int) (hd : Bool) : SR := if valid5 c = 0 then runN c u hd (vars c).length (openL c.tenants.length) [] 0 else ⟨3, [], [], 0⟩

def findE (s : SR) : Int := if s.code = 3 then 1 else if s.code = 2 then 2 else 0

def findP (s : SR) : List (Int × Int) := if s.code = 0 then s.l else []

def findT (s : SR) : List Nd := if s.code = 1 then s.tree else []

abbrev findV (s : SR) : AV := .tup [.inr [.d (.sl (r2 (findP s))), .d (.sl (rN (findT s)))], .inl (.d (i64 (findE s)))]

theorem getV_openL (n : Nat) {v : Int} (h0 : 0 ≤ v) (h : v / 2 < n) : getV (openL n) v = -1 := by
  have e : (openL n)[(v / 2).toNat]? = some (-1, -1) := by
    unfold openL
    rw [List.getElem?_replicate, if_pos (by omega)]
  unfold getV
  rw [e]
  simp

theorem opn_openL (c : Cfg) : OpnV c (openL c.tenants.length) (vars c).length := fun _ _ _ hw => by
  have := vars_rng (List.mem_of_getElem? hw)
  exact getV_openL _ this.1 this.2

set_option maxRecDepth 100000 in
set_option maxHeartbeats 4000000 in
theorem find_c (c : Cfg) (u : Int) (hd : Bool) (hT : c.tenants.length ≤ 12) : CallsH Tryz.prog 28 [probV c u hd] [] (findV (findL c u hd)) [] := by
  have hlT := rT_len c.tenants
  refine callsR_of tab mixed Tryz.func28 rfl (by decide) rfl rfl ?_
  conv => whnf
  refine ⟨_, _, tenValid_c c, ?_⟩
  conv => whnf
  refine spNe (fun h => ?_) (fun hv => ?_) <;> conv => whnf
  · refine ⟨[], rfl, ?_, trivial⟩
    unfold findL
    rw [if_neg h]
    repeat' (first | exact trivial | rfl | refine And.intro ?_ ?_)
    all_goals (conv => whnf)
    repeat' (first | exact trivial | rfl | refine And.intro ?_ ?_)
  have hg := good_of hv
  have hTT := hg.tenants
  refine ⟨by kernel_rfl, ?_⟩
  conv => whnf
  refine ⟨_, _, (vars_c c u hd hv hT).frozen, ?_⟩
  conv => whnf
  refine ⟨by omega, by omega, ⟨by omega⟩, ?_⟩
  conv => whnf
  have hini : List.replicate (((rT c.tenants).length : Int).toNat) [D.int IntKind.i64 0, D.int IntKind.i64 0] = r2 (openR c.tenants.length 0) := by
    rw [show ((rT c.tenants).length : Int).toNat = c.tenants.length by omega]
    simp [openR, r2]
  rw [hini]
  have hrl : ∀ k, k ≤ c.tenants.length → (r2 (openR c.tenants.length k)).length = c.tenants.length := fun k hk => by rw [r2_len, openR_len hk]
  have hrl0 := hrl 0 (by omega)
  refine loopN tab mixed (fun i => i ≤ c.tenants.length) c.tenants.length (fun i => [(25, I i)]) (fun i => [(2, .arr 64 (r2 (openR c.tenants.length i)))]) 51 [(2, some 2)] (by omega) ?_
  conv => whnf
  refine ⟨?_, fun i hi => ?_⟩
  · repeat' (first | exact trivial | rfl | refine And.intro ?_ ?_)
    all_goals (conv => whnf)
    repeat' (first | exact trivial | rfl | refine And.intro ?_ ?_)
  conv => whnf
  have hrli := hrl i hi
  refine spD (fun h => ?_) (fun h => ?_) <;> conv => whnf
  · have hi' : i < c.tenants.length := by omega
    obtain ⟨e1, e2⟩ := openR_step hi'
    refine ⟨by omega, by omega, ?_⟩
    conv => whnf
    refine ⟨_, e2, ?_⟩
    conv => whnf
    refine gv (by first | omega | (simp only []; omega) | (simp; omega)) (by first | omega | (simp only []; omega) | (simp; omega)) ?_
    conv => whnf
    refine ⟨⟨hi', hi'⟩, [(2, some 2)], ?_⟩
    repeat' (first | exact trivial | rfl | refine And.intro ?_ ?_)
    all_goals (conv => whnf)
    repeat' (first | exact trivial | rfl | refine And.intro ?_ ?_)
    exact e1.symm
  · have hi' : i = c.tenants.length := by omega
    have hop : openR c.tenants.length i = openL c.tenants.length := by rw [hi']; simp [openR, openL]
    rw [hop]
    have hrd := run0_step c u hd (vars c).length (fun f hf' l tree cnt h1 h2 h3 h4 => run_c c u hd f (by omega) l tree cnt h1 h2 h3 h4) (openL c.tenants.length) 0 (opn_openL c) (Nat.le_refl _) (fit_openL hv) (by omega)
    have hok := runN_ok u hd (vars c).length (openL c.tenants.length) [] 0 (fit_openL hv) (by omega)
    have hF : findL c u hd = runN c u hd (vars c).length (openL c.tenants.length) [] 0 := by unfold findL; rw [if_pos hv]
    rw [hF]
    rw [show (vars c).length - (vars c).length = 0 by omega] at hrd
    generalize runN c u hd (vars c).length (openL c.tenants.length) [] 0 = s at hrd hok ⊢
    have hcode := hok.code
    refine ⟨_, _, hrd, ?_⟩
    conv => whnf
    refine spNe2 (fun h6 => ?_) (fun h6 => ?_) <;> conv => whnf
    · refine ⟨[], rfl, ?_, trivial⟩
      repeat' (first | exact trivial | rfl | refine And.intro ?_ ?_)
      all_goals (conv => whnf)
      repeat' (first | exact trivial | rfl | refine And.intro ?_ ?_)
      all_goals simp [findP, findT, findE, h6, rN, r2]
    · refine spE' (fun h5 => ?_) (fun h5 => ?_) <;> conv => whnf
      · refine ⟨[], rfl, ?_, trivial⟩
        repeat' (first | exact trivial | rfl | refine And.intro ?_ ?_)
        all_goals (conv => whnf)
        repeat' (first | exact trivial | rfl | refine And.intro ?_ ?_)
        all_goals simp [findP, findT, findE, h5, rN]
      · have h1 : s.code = 1 := by omega
        refine ⟨[], rfl, ?_, trivial⟩
        repeat' (first | exact trivial | rfl | refine And.intro ?_ ?_)
        all_goals (conv => whnf)
        repeat' (first | exact trivial | rfl | refine And.intro ?_ ?_)
        all_goals simp [findP, findT, findE, h1, r2]

end Go.Proofs.YtelnligfebjjiaaGreat
