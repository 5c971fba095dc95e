/- Contracts: cert.Feasible, Refuted, Check, Size. Conditions: those ahead of each theorem. -/
import Derived.Test.YtelnligfebjjiaaGreatCertR
namespace Go.Proofs.YtelnligfebjjiaaGreat
open Go Go.Cpl

def openL (n : Nat) : List (Int × Int) := List.replicate n (-1, -1)

theorem fit_openL {c : Cfg} (hv : valid5 c = 0) : Fit c (openL c.tenants.length) := by
  have hg := good_of hv
  have hcc := hg.cells
  refine ⟨hv, by simp [openL], fun p hp => ?_⟩
  have := List.eq_of_mem_replicate hp
  subst this
  simp; omega

def feasible (c : Cfg) (u : Int) (hd : Bool) (pl : List (Int × Int)) (tree : List Nd) : Bool := decide (tree = [] ∧ Fit c pl ∧ fullL c u hd pl = [])

def readAll (c : Cfg) (u : Int) (hd : Bool) (tree : List Nd) : Bool × Nat := rdN c u hd tree (2 * c.tenants.length) (openL c.tenants.length) 0

def refuted (c : Cfg) (u : Int) (hd : Bool) (pl : List (Int × Int)) (tree : List Nd) : Bool := decide (valid5 c = 0 ∧ pl = [] ∧ tree.length ≤ 2048) && ((readAll c u hd tree).1 && decide ((readAll c u hd tree).2 = tree.length))

def openR (n k : Nat) : List (Int × Int) := List.replicate k (-1, -1) ++ List.replicate (n - k) (0, 0)

theorem openR_len {n k : Nat} (h : k ≤ n) : (openR n k).length = n := by simp [openR]; omega

theorem openR_step {n k : Nat} (h : k < n) : (r2 (openR n k)).set k [i64 (-1), i64 (-1)] = r2 (openR n (k + 1)) ∧ (r2 (openR n k))[k]? = some [i64 0, i64 0] := by
  have e : openR n k = List.replicate k (-1, -1) ++ (0, 0) :: List.replicate (n - (k + 1)) (0, 0) := by
    unfold openR
    rw [show n - k = (n - (k + 1)) + 1 by omega, List.replicate_succ]
  constructor
  · rw [← r2_set'', e]
    congr 1
    unfold openR
    rw [List.set_append_right _ _ (by simp), List.replicate_succ']
    simp
  · refine r2_get (x := (0, 0)) ?_
    rw [e]
    simp

end Go.Proofs.YtelnligfebjjiaaGreat
