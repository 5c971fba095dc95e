/- Contracts: cert.Feasible, Refuted, Check, Size. Conditions: those ahead of each theorem. -/
import Derived.Test.YthpngoplkekkaaaGreatCertR
namespace Go.Proofs.YthpngoplkekkaaaGreat
open Go Go.Cpl

theorem refut_c (c : Cfg) (u : Int) (hd : Bool) (tree : List Nd) (ht : TreeOK tree) : ∀ (fuel : Nat) (l : List (Int × Int)) (n : Nat), opens l ≤ fuel → Fit c l → n ≤ tree.length →
    CallsH Tryz.prog 45 [.c (.ptr 0 0 0)] (rdH c u hd tree l n) (B (rdN c u hd tree fuel l n).1) (rdH c u hd tree l (rdN c u hd tree fuel l n).2)
  | 0, l, n, ho, hf, hn => by
    refine refut_step c u hd tree ht l 0 n hf hn fun x hx => ⟨_, rfl, ?_⟩
    have hlt := (List.getElem?_eq_some_iff.1 hx).1
    have hno : openV c l x.var = true → False := fun h => by have := opens_setV h (x := 0) (by omega); omega
    refine branch_c c u hd tree l 0 (n + 1) x.var (ht.2 x (List.mem_of_getElem? hx)) hf hlt (fun h => absurd h hno) _ ?_
    have : openV c l x.var = false := by simpa using hno
    rw [this]; rfl
  | fuel + 1, l, n, ho, hf, hn => by
    refine refut_step c u hd tree ht l (fuel + 1) n hf hn fun x hx => ⟨_, rfl, ?_⟩
    have hlt := (List.getElem?_eq_some_iff.1 hx).1
    exact branch_c c u hd tree l fuel (n + 1) x.var (ht.2 x (List.mem_of_getElem? hx)) hf hlt (fun h i k hi hk => refut_c c u hd tree ht fuel _ k (by have := opens_setV h (x := i) (by omega); omega) (fit_setV hf ⟨by omega, by omega⟩) hk) _ rfl

def openL (n : Nat) : List (Int × Int) := List.replicate n (-1, -1)

theorem opens_openL : ∀ n, opens (openL n) = 2 * n
  | 0 => rfl
  | n + 1 => by
    have := opens_openL n
    unfold openL at this ⊢
    rw [List.replicate_succ, opens, this]
    simp [op1]; omega

theorem fit_openL {c : Cfg} (hv : valid5 c = 0) : Fit c (openL c.tenants.length) := by
  have hg := good_of hv
  have hcc := hg.cells
  refine ⟨hv, by simp [openL], fun p hp => ?_⟩
  have := List.eq_of_mem_replicate hp
  subst this
  simp; omega

abbrev certV (pl : List (Int × Int)) (tree : List Nd) : AV := .agg [.d (.sl (r2 pl)), .d (.sl (rN tree))]

def feasible (c : Cfg) (u : Int) (hd : Bool) (pl : List (Int × Int)) (tree : List Nd) : Bool := decide (tree = [] ∧ Fit c pl ∧ fullL c u hd pl = [])

def readAll (c : Cfg) (u : Int) (hd : Bool) (tree : List Nd) : Bool × Nat := rdN c u hd tree (2 * c.tenants.length) (openL c.tenants.length) 0

def refuted (c : Cfg) (u : Int) (hd : Bool) (pl : List (Int × Int)) (tree : List Nd) : Bool := decide (valid5 c = 0 ∧ pl = [] ∧ tree.length ≤ 2048) && ((readAll c u hd tree).1 && decide ((readAll c u hd tree).2 = tree.length))

set_option maxRecDepth 100000 in
theorem feasible_c (c : Cfg) (u : Int) (hd : Bool) (pl : List (Int × Int)) (tree : List Nd) : CallsH Tryz.prog 13 [probV c u hd, certV pl tree] [] (B (feasible c u hd pl tree)) [] := by
  have hlt := rN_len tree
  refine callsR_of tab mixed Tryz.func13 rfl (by decide) rfl rfl ?_
  conv => whnf
  refine spE (fun h => ?_) (fun h => ?_) <;> conv => whnf
  · have htr : tree = [] := List.length_eq_zero_iff.1 (by omega)
    refine ⟨_, _, fit_c c u hd pl, ?_⟩
    conv => whnf
    refine spD (fun hf => ?_) (fun hf => ?_) <;> conv => whnf
    · refine ⟨_, _, full_c c u hd pl hf, ?_⟩
      conv => whnf
      refine ⟨[], rfl, ?_, trivial⟩
      have e : feasible c u hd pl tree = (((rB (fullL c u hd pl)).length : Int) == 0) := by
        rw [Bool.eq_iff_iff]
        simp only [feasible, decide_eq_true_eq, beq_iff_eq, rB_len]
        constructor
        · rintro ⟨_, _, h3⟩; rw [h3]; rfl
        · intro h3; exact ⟨htr, hf, List.length_eq_zero_iff.1 (by omega)⟩
      rw [e]
      simp [mtV, Cpl.valOf, mtC, eqD]
    · refine ⟨[], rfl, ?_, trivial⟩
      have e : feasible c u hd pl tree = false := by simp [feasible, hf]
      rw [e]
      simp [mtV, Cpl.valOf, mtC, eqD]
  · refine ⟨[], rfl, ?_, trivial⟩
    have e : feasible c u hd pl tree = false := by
      simp only [feasible, decide_eq_false_iff_not]
      rintro ⟨h1, _⟩
      apply h
      rw [h1]; rfl
    rw [e]
    simp [mtV, Cpl.valOf, mtC, eqD]

theorem size_c (pl : List (Int × Int)) (tree : List Nd) : CallsH Tryz.prog 19 [certV pl tree] [] (I tree.length) [] := by
  have hlt := rN_len tree
  refine callsR_of tab mixed Tryz.func19 rfl (by decide) rfl rfl ?_
  conv => whnf
  refine ⟨[], rfl, ?_, trivial⟩
  rw [← hlt]
  exact ⟨rfl, rfl⟩

def openR (n k : Nat) : List (Int × Int) := List.replicate k (-1, -1) ++ List.replicate (n - k) (0, 0)

theorem openR_len {n k : Nat} (h : k ≤ n) : (openR n k).length = n := by simp [openR]; omega

theorem openR_step {n k : Nat} (h : k < n) : (r2 (openR n k)).set k [i64 (-1), i64 (-1)] = r2 (openR n (k + 1)) ∧ (r2 (openR n k))[k]? = some [i64 0, i64 0] := by
  have e : openR n k = List.replicate k (-1, -1) ++ (0, 0) :: List.replicate (n - (k + 1)) (0, 0) := by
    unfold openR
    rw [show n - k = (n - (k + 1)) + 1 by omega, List.replicate_succ]
  constructor
  · rw [← r2_set'', e]
    congr 1
    unfold openR
    rw [List.set_append_right _ _ (by simp), List.replicate_succ']
    simp
  · refine r2_get (x := (0, 0)) ?_
    rw [e]
    simp

set_option maxRecDepth 100000 in
set_option maxHeartbeats 4000000 in
theorem refuted_c (c : Cfg) (u : Int) (hd : Bool) (pl : List (Int × Int)) (tree : List Nd) (ht : TreeOK tree) : CallsH Tryz.prog 15 [probV c u hd, certV pl tree] [] (B (refuted c u hd pl tree)) [] := by
  have hlt := rN_len tree
  have hlp := r2_len pl
  have hlT := rT_len c.tenants
  refine callsR_of tab mixed Tryz.func15 rfl (by decide) rfl rfl ?_
  conv => whnf
  refine ⟨_, _, tenValid_c c, ?_⟩
  conv => whnf
  refine spNe (fun h => ?_) (fun hv => ?_) <;> conv => whnf
  · exact ⟨[], rfl, by simp [mtV, Cpl.valOf, mtC, eqD, refuted, h], trivial⟩
  refine spD (fun h => ?_) (fun hp0 => ?_) <;> conv => whnf
  · have : pl ≠ [] := fun e => by rw [e] at h; exact absurd h (by decide)
    exact ⟨[], rfl, by simp [mtV, Cpl.valOf, mtC, eqD, refuted, this], trivial⟩
  refine spD (fun h => ?_) (fun hsz => ?_) <;> conv => whnf
  · have : ¬ tree.length ≤ 2048 := by omega
    exact ⟨[], rfl, by simp [mtV, Cpl.valOf, mtC, eqD, refuted, this], trivial⟩
  have hg := good_of hv
  have hT := hg.tenants
  have hpl : pl = [] := List.length_eq_zero_iff.1 (by omega)
  refine ⟨by omega, by omega, ⟨by omega⟩, ?_⟩
  conv => whnf
  have hini : List.replicate (((rT c.tenants).length : Int).toNat) [D.int IntKind.i64 0, D.int IntKind.i64 0] = r2 (openR c.tenants.length 0) := by
    rw [show ((rT c.tenants).length : Int).toNat = c.tenants.length by omega]
    simp [openR, r2]
  rw [hini]
  have hrl : ∀ k, k ≤ c.tenants.length → (r2 (openR c.tenants.length k)).length = c.tenants.length := fun k hk => by rw [r2_len, openR_len hk]
  have hrl0 := hrl 0 (by omega)
  refine loopN tab mixed (fun i => i ≤ c.tenants.length) c.tenants.length (fun i => [(31, I i)]) (fun i => [(2, .arr 64 (r2 (openR c.tenants.length i)))]) 51 [(2, some 2)] (by omega) ?_
  conv => whnf
  refine ⟨?_, fun i hi => ?_⟩
  · repeat' (first | exact trivial | rfl | refine And.intro ?_ ?_)
    all_goals (conv => whnf)
    repeat' (first | exact trivial | rfl | refine And.intro ?_ ?_)
  conv => whnf
  have hrli := hrl i hi
  refine spD (fun h => ?_) (fun h => ?_) <;> conv => whnf
  · have hi' : i < c.tenants.length := by omega
    obtain ⟨e1, e2⟩ := openR_step hi'
    refine ⟨by omega, by omega, ?_⟩
    conv => whnf
    refine ⟨_, e2, ?_⟩
    conv => whnf
    refine gv (by first | omega | (simp only []; omega) | (simp; omega)) (by first | omega | (simp only []; omega) | (simp; omega)) ?_
    conv => whnf
    refine ⟨⟨hi', hi'⟩, [(2, some 2)], ?_⟩
    repeat' (first | exact trivial | rfl | refine And.intro ?_ ?_)
    all_goals (conv => whnf)
    repeat' (first | exact trivial | rfl | refine And.intro ?_ ?_)
    exact e1.symm
  · have hi' : i = c.tenants.length := by omega
    have hop : openR c.tenants.length i = openL c.tenants.length := by rw [hi']; simp [openR, openL]
    rw [hop]
    have hrd := refut_c c u hd tree ht (2 * c.tenants.length) (openL c.tenants.length) 0 (by rw [opens_openL]; omega) (fit_openL hv) (by omega)
    have he : rdN c u hd tree (2 * c.tenants.length) (openL c.tenants.length) 0 = readAll c u hd tree := rfl
    rw [he] at hrd
    refine ⟨_, _, hrd, ?_⟩
    conv => whnf
    have e : refuted c u hd pl tree = ((readAll c u hd tree).1 && decide ((readAll c u hd tree).2 = tree.length)) := by
      have : tree.length ≤ 2048 := by omega
      simp [refuted, hv, hpl, this]
    rw [e]
    rcases hb : (readAll c u hd tree).1 with _ | _
    · refine ⟨fun h => (by cases h), fun _ => ?_⟩
      conv => whnf
      exact ⟨[], rfl, by simp [mtV, Cpl.valOf, mtC, eqD], trivial⟩
    · refine ⟨fun _ => ?_, fun h => (by cases h)⟩
      conv => whnf
      refine ⟨[], rfl, ?_, trivial⟩
      have e2 : decide ((readAll c u hd tree).2 = tree.length) = ((((readAll c u hd tree).2 : Int)) == ((rN tree).length : Int)) := by
        rw [Bool.eq_iff_iff, decide_eq_true_iff, beq_iff_eq]; omega
      rw [Bool.true_and, e2]
      simp [mtV, Cpl.valOf, mtC, eqD]

theorem check19_c (c : Cfg) (u : Int) (hd : Bool) (pl : List (Int × Int)) (tree : List Nd) (ht : TreeOK tree) : CallsH Tryz.prog 17 [probV c u hd, certV pl tree] [] (B (feasible c u hd pl tree || refuted c u hd pl tree)) [] := by
  refine callsR_of tab mixed Tryz.func17 rfl (by decide) rfl rfl ?_
  conv => whnf
  refine ⟨_, _, feasible_c c u hd pl tree, ?_⟩
  conv => whnf
  rcases hb : feasible c u hd pl tree with _ | _
  · refine ⟨fun h => (by cases h), fun _ => ?_⟩
    conv => whnf
    refine ⟨_, _, refuted_c c u hd pl tree ht, ?_⟩
    conv => whnf
    exact ⟨[], rfl, by simp [mtV, Cpl.valOf, mtC, eqD], trivial⟩
  · refine ⟨fun _ => ?_, fun h => (by cases h)⟩
    conv => whnf
    exact ⟨[], rfl, by simp [mtV, Cpl.valOf, mtC, eqD], trivial⟩

end Go.Proofs.YthpngoplkekkaaaGreat
