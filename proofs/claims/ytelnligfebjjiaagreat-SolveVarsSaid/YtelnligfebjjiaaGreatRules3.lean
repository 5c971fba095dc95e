/- Contracts: rules.Single, rules.Partial and rules.Full (with slices.Concat). Conditions: those ahead of each theorem. -/
import Derived.Test.YtelnligfebjjiaaGreatRules2
namespace Go.Proofs.YtelnligfebjjiaaGreat
open Go Go.Cpl

/-! slices.Concat -/

theorem grow_c (n : Int) (h0 : 0 ≤ n) (h1 : n ≤ 1000000) : CallsH Tryz.prog 90 [.c .ns, I n] [] (.c (.gs 0)) [.arr 66 []] := by
  refine callsR_of tab mixed Tryz.func90 rfl (by decide) rfl rfl ?_
  conv => whnf
  refine spD (fun h => absurd h (by omega)) (fun h => ?_)
  conv => whnf
  refine gv (by decide) (by decide) ?_
  conv => whnf
  refine gv (by first | omega | (simp only []; omega) | (simp; omega)) (by first | omega | (simp only []; omega) | (simp; omega)) ?_
  conv => whnf
  refine spD (fun h2 => ?_) (fun h2 => ?_) <;> conv => whnf
  · refine ⟨rfl, ?_⟩
    conv => whnf
    refine ⟨h2, ⟨by simp; omega⟩, ?_⟩
    conv => whnf
    refine ⟨by simp, by simp, ?_⟩
    conv => whnf
    exact ⟨[(0, some 1)], rfl, rfl, ⟨rfl, rfl⟩, trivial⟩
  · exact ⟨[(0, none)], rfl, rfl, rfl, trivial⟩

def rLs (ls : List (List Brk)) : List (List D) := ls.map fun l => [.sl (rB l)]

theorem rLs_len (ls : List (List Brk)) : (rLs ls).length = ls.length := by simp [rLs]

theorem rLs_get {ls : List (List Brk)} {i : Nat} {x : List Brk} (h : ls[i]? = some x) : (rLs ls)[i]? = some [.sl (rB x)] := by simp [rLs, h]

def sumL : List (List Brk) → Nat
  | [] => 0
  | l :: r => l.length + sumL r

theorem sumL_app (x : List Brk) : ∀ ls, sumL (ls ++ [x]) = sumL ls + x.length
  | [] => by simp [sumL]
  | l :: r => by simp only [List.cons_append, sumL, sumL_app x r]; omega

theorem sumL_flat : ∀ ls, sumL ls = ls.flatten.length
  | [] => rfl
  | l :: r => by simp [sumL, sumL_flat r]

theorem sumL_take (ls : List (List Brk)) (i : Nat) : sumL (ls.take i) ≤ sumL ls := by
  have : ∀ (ls : List (List Brk)) (i : Nat), sumL (ls.take i) ≤ sumL ls := by
    intro ls
    induction ls with
    | nil => intro i; simp [sumL]
    | cons l r ih =>
      intro i
      cases i with
      | zero => simp [sumL]
      | succ i => have := ih i; simp only [List.take_succ_cons, sumL]; omega
  exact this ls i

set_option maxHeartbeats 2000000 in
theorem concat_c (ls : List (List Brk)) (hn : ls.length ≤ 1000) (hs : sumL ls ≤ 1000000) : CallsH Tryz.prog 63 [.c (.d (.sl (rLs ls)))] [] (.c (.gs 0)) [.arr 66 (rB ls.flatten)] := by
  have hl := rLs_len ls
  refine callsR_of tab mixed Tryz.func63 rfl (by decide) rfl rfl ?_
  conv => whnf
  refine loopN tab mixed (fun i => i ≤ ls.length) ls.length (fun i => [(11, I i), (3, I (sumL (ls.take i) : Nat))]) (fun _ => []) 31 [] (by omega) ?_
  conv => whnf
  refine ⟨?_, fun i hi => ?_⟩
  · repeat' (first | exact trivial | rfl | refine And.intro ?_ ?_)
    all_goals (conv => whnf)
    repeat' (first | exact trivial | rfl | refine And.intro ?_ ?_)
  conv => whnf
  refine spD (fun h => ?_) (fun h => ?_) <;> conv => whnf
  · have hi' : i < ls.length := by omega
    obtain ⟨x, hx⟩ := get_of hi'
    have h2 := sumL_take ls (i + 1)
    rw [take_succ_of hx, sumL_app] at h2
    have h3 := rB_len x
    refine ⟨by omega, _, rLs_get hx, ?_⟩
    conv => whnf
    refine gv (by first | omega | (simp only []; omega) | (simp; omega)) (by first | omega | (simp only []; omega) | (simp; omega)) ?_
    conv => whnf
    refine spD (fun h4 => absurd h4 (by omega)) (fun h4 => ?_)
    conv => whnf
    refine gv (by first | omega | (simp only []; omega) | (simp; omega)) (by first | omega | (simp only []; omega) | (simp; omega)) ?_
    conv => whnf
    refine ⟨⟨hi', hi'⟩, [], ?_⟩
    repeat' (first | exact trivial | rfl | refine And.intro ?_ ?_)
    all_goals (conv => whnf)
    repeat' (first | exact trivial | rfl | refine And.intro ?_ ?_)
    rw [take_succ_of hx, sumL_app]; omega
  have h5 : i = ls.length := by omega
  subst h5
  rw [List.take_length]
  refine ⟨_, _, grow_c _ (by omega) (by omega), ?_⟩
  conv => whnf
  refine loopN tab mixed (fun i => i ≤ ls.length) ls.length (fun i => [(27, I i), (6, .c (.gs 31)), (24, .top)]) (fun i => [(31, .arr 66 (rB (ls.take i).flatten))]) 41 [(31, some 31)] (by omega) ?_
  conv => whnf
  refine ⟨?_, fun i hi => ?_⟩
  · repeat' (first | exact trivial | rfl | refine And.intro ?_ ?_)
    all_goals (conv => whnf)
    repeat' (first | exact trivial | rfl | refine And.intro ?_ ?_)
  conv => whnf
  refine spD (fun h => ?_) (fun h => ?_) <;> conv => whnf
  · have hi' : i < ls.length := by omega
    obtain ⟨x, hx⟩ := get_of hi'
    have h2 := sumL_take ls (i + 1)
    rw [take_succ_of hx, sumL_app, sumL_flat] at h2
    have h3 := rB_len x
    have h4 := rB_len (ls.take i).flatten
    refine ⟨by omega, _, rLs_get hx, ?_⟩
    conv => whnf
    refine ⟨rB_ok _, ⟨by omega⟩, ?_⟩
    conv => whnf
    refine gv (by first | omega | (simp only []; omega) | (simp; omega)) (by first | omega | (simp only []; omega) | (simp; omega)) ?_
    conv => whnf
    refine ⟨⟨hi', hi'⟩, [(31, some 41)], ?_⟩
    repeat' (first | exact trivial | rfl | refine And.intro ?_ ?_)
    all_goals (conv => whnf)
    repeat' (first | exact trivial | rfl | refine And.intro ?_ ?_)
    rw [take_succ_of hx, List.flatten_append, rB_apps]; simp
  · refine ⟨[(0, some 31)], rfl, rfl, ⟨rfl, ?_⟩, trivial⟩
    have hi' : i = ls.length := by omega
    rw [hi', List.take_length]

/-! one region -/

def ones (x : Int) : Int :=
  let a := IntKind.u64.wrap (IntKind.u64.wrap ((BitVec.ofInt IntKind.u64.bits (x.fdiv (2 ^ (min (1 : Int).toNat IntKind.u64.bits))) &&& BitVec.ofInt IntKind.u64.bits 6148914691236517205).toNat : Int) + IntKind.u64.wrap ((BitVec.ofInt IntKind.u64.bits x &&& BitVec.ofInt IntKind.u64.bits 6148914691236517205).toNat : Int))
  let b := IntKind.u64.wrap (IntKind.u64.wrap ((BitVec.ofInt IntKind.u64.bits (a.fdiv (2 ^ (min (2 : Int).toNat IntKind.u64.bits))) &&& BitVec.ofInt IntKind.u64.bits 3689348814741910323).toNat : Int) + IntKind.u64.wrap ((BitVec.ofInt IntKind.u64.bits a &&& BitVec.ofInt IntKind.u64.bits 3689348814741910323).toNat : Int))
  let d := IntKind.u64.wrap ((BitVec.ofInt IntKind.u64.bits (IntKind.u64.wrap (b.fdiv (2 ^ (min (4 : Int).toNat IntKind.u64.bits)) + b)) &&& BitVec.ofInt IntKind.u64.bits 1085102592571150095).toNat : Int)
  let e := IntKind.u64.wrap (d + d.fdiv (2 ^ (min (8 : Int).toNat IntKind.u64.bits)))
  let f := IntKind.u64.wrap (e + e.fdiv (2 ^ (min (16 : Int).toNat IntKind.u64.bits)))
  let g := IntKind.u64.wrap (f + f.fdiv (2 ^ (min (32 : Int).toNat IntKind.u64.bits)))
  IntKind.i64.wrap ((BitVec.ofInt IntKind.i64.bits (IntKind.i64.wrap g) &&& BitVec.ofInt IntKind.i64.bits 127).toNat : Int)

theorem ones64_c (x : Int) : CallsH Tryz.prog 125 [.c (.d (.int .u64 x))] [] (I (ones x)) [] := by
  refine callsR_of tab mixed Tryz.func125 rfl (by decide) rfl rfl ?_
  conv => whnf
  repeat' (first | (refine ⟨by decide, gg ?_⟩; conv => whnf) | (refine gg ?_; conv => whnf))
  exact ⟨[], rfl, ⟨rfl, rfl⟩, trivial⟩

theorem ones_c (x : Int) : CallsH Tryz.prog 88 [.c (.d (.int .u64 x))] [] (I (ones x)) [] := by
  refine callsR_of tab mixed Tryz.func88 rfl (by decide) rfl rfl ?_
  conv => whnf
  refine ⟨_, _, ones64_c x, ?_⟩
  conv => whnf
  exact ⟨[], rfl, ⟨rfl, rfl⟩, trivial⟩

/-- how many of the first bits are set -/
def bc (a : Int) : Nat → Nat
  | 0 => 0
  | k + 1 => bc a k + if bit a k then 1 else 0

theorem ones_bc {R : Nat} (hR : R ≤ 4) {a : Nat} (ha : a < 2 ^ R) : ones (a : Int) = (bc (a : Int) R : Nat) := by
  have h4 : R = 0 ∨ R = 1 ∨ R = 2 ∨ R = 3 ∨ R = 4 := by omega
  have key : ∀ R ∈ [0, 1, 2, 3, 4], ∀ a ∈ List.range (2 ^ R), ones ((a : Nat) : Int) = (bc ((a : Nat) : Int) R : Nat) := by decide +kernel
  exact key R (by rcases h4 with rfl | rfl | rfl | rfl | rfl <;> decide) a (by simpa using ha)

def single (c : Cfg) (t : Int) : Bool := decide (bc (allowedOf c t) c.regions.toNat = 1)

theorem bc_zero : ∀ n, bc 0 n = 0
  | 0 => rfl
  | n + 1 => by simp [bc, bc_zero n, bit_zero]

theorem single_c (c : Cfg) (u : Int) (hd : Bool) (t : Int) (hg : Good c) : CallsH Tryz.prog 58 [probV c u hd, I t] [] (B (single c t)) [] := by
  have hl := rT_len c.tenants
  have hR := hg.regions
  refine callsR_of tab mixed Tryz.func58 rfl (by decide) rfl rfl ?_
  conv => whnf
  refine spD (fun h => ?_) (fun h => ?_) <;> conv => whnf
  · refine ⟨[], rfl, ?_, trivial⟩
    have : allowedOf c t = 0 := by simp [allowedOf]; omega
    simp [mtV, valOf, mtC, eqD, single, this, bc_zero]
  refine spD (fun h1 => ?_) (fun h1 => ?_) <;> conv => whnf
  · refine ⟨[], rfl, ?_, trivial⟩
    have : allowedOf c t = 0 := by simp [allowedOf, get_no (l := c.tenants) (i := t) (by omega) (by omega)]
    simp [mtV, valOf, mtC, eqD, single, this, bc_zero]
  obtain ⟨x, hx⟩ := get_int (l := c.tenants) (i := t) (by omega) (by omega)
  have ha : allowedOf c t = x.allowed := by simp [allowedOf, hx]; omega
  have ho := (hg.ten x (List.mem_of_getElem? hx)).2.2.2.2.1
  have h16 := two_reg hg
  have hpw := natpow c.regions.toNat
  obtain ⟨n, hn⟩ := Int.eq_ofNat_of_zero_le (a := x.allowed) (by omega)
  have hob := ones_bc (R := c.regions.toNat) (by omega) (a := n) (by omega)
  refine ⟨by omega, _, rT_get hx, ?_⟩
  conv => whnf
  refine gvu (by first | omega | (simp only []; omega) | (simp; omega)) (by first | omega | (simp only []; omega) | (simp; omega)) ?_
  conv => whnf
  refine ⟨_, _, ones_c _, ?_⟩
  conv => whnf
  refine ⟨[], rfl, ?_, trivial⟩
  simp only [mtV, valOf, mtC, eqD, single, ha, hn, hob]
  rw [Bool.beq_eq_decide_eq]
  congr 1
  apply propext
  omega

/-! all rules -/

def partialL (c : Cfg) (u : Int) (hd : Bool) (l : List (Int × Int)) : List Brk :=
  [usableL u l, allowedL c l, apL c l l.length, prL 6 (badG c l) l l.length, prL 7 (badN c l) l l.length, cpL c (booked c l) c.cells.length, headL c hd l].flatten

theorem headL_len {c : Cfg} (hg : Good c) (hd : Bool) (l : List (Int × Int)) : (headL c hd l).length ≤ 64 := by
  have := hrL_len hg (booked c l) l c.regions.toNat
  have := hg.regions
  unfold headL
  split
  · omega
  · simp

theorem partial_sum {c : Cfg} {u : Int} {hd : Bool} {l : List (Int × Int)} (hf : Fit c l) : sumL [usableL u l, allowedL c l, apL c l l.length, prL 6 (badG c l) l l.length, prL 7 (badN c l) l l.length, cpL c (booked c l) c.cells.length, headL c hd l] ≤ 5000 := by
  have hg := good_of hf.val
  have := hg.tenants
  have := hf.len
  have := hg.cells
  have h1 := eachL_len 3 (eachU u) l l.length
  have h2 := eachL_len 4 (eachA c) l l.length
  have h3 := apL_len c l l.length
  have h4 := prL_len 6 (badG c l) l l.length (by omega)
  have h5 := prL_len 7 (badN c l) l l.length (by omega)
  have h6 := cpL_len c (booked c l) c.cells.length
  have h7 := headL_len hg hd l
  simp only [sumL, usableL, allowedL]
  omega

set_option maxRecDepth 100000 in
set_option maxHeartbeats 2000000 in
theorem partial_c (c : Cfg) (u : Int) (hd : Bool) (l : List (Int × Int)) (hf : Fit c l) : CallsH Tryz.prog 64 [probV c u hd, plV l] [] (.c (.gs 0)) [.arr 66 (rB (partialL c u hd l))] := by
  have hg := good_of hf.val
  have hbl : (booked c l).length = c.cells.length := bk_len c l l.length
  refine callsR_of tab mixed Tryz.func64 rfl (by decide) rfl rfl ?_
  conv => whnf
  refine ⟨_, _, fit_c c u hd l, ?_⟩
  conv => whnf
  refine spN (fun h => (h hf).elim) (fun _ => ?_) <;> conv => whnf
  refine ⟨_, _, (booked_c c u hd l hf).frozen, ?_⟩
  conv => whnf
  refine ⟨by kernel_rfl, ?_⟩
  conv => whnf
  refine ⟨_, _, (usable_c c u hd l hf).frozen, ?_⟩
  conv => whnf
  refine ⟨_, _, (allowed_c c u hd l hf).frozen, ?_⟩
  conv => whnf
  refine ⟨_, _, (rulesApart_c c u hd l hf).frozen, ?_⟩
  conv => whnf
  refine ⟨_, _, (group_c c u hd l hf).frozen, ?_⟩
  conv => whnf
  refine ⟨_, _, (noisy_c c u hd l hf).frozen, ?_⟩
  conv => whnf
  refine ⟨_, _, (rulesCapacity1_c c u hd _ hg hbl).frozen, ?_⟩
  conv => whnf
  refine ⟨_, _, (headroom_c c u hd l hf).frozen, ?_⟩
  conv => whnf
  refine ⟨_, _, concat_c [usableL u l, allowedL c l, apL c l l.length, prL 6 (badG c l) l l.length, prL 7 (badN c l) l l.length, cpL c (booked c l) c.cells.length, headL c hd l] (by simp) (by have := partial_sum (u := u) (hd := hd) hf; omega), ?_⟩
  conv => whnf
  exact ⟨[(0, some 1)], rfl, rfl, ⟨rfl, rfl⟩, trivial⟩

def hoT (t : Nat) (p : Int × Int) : List Brk := if p.1 = -1 then [⟨1, t, -1, -1, -1⟩] else []

def sbT (c : Cfg) (t : Nat) (p : Int × Int) : List Brk := if decide (p.2 = -1) && !single c t then [⟨2, t, -1, -1, -1⟩] else []

def hoL (l : List (Int × Int)) : Nat → List Brk
  | 0 => []
  | k + 1 => match l[k]? with
    | some p => hoL l k ++ hoT k p
    | none => hoL l k

def sbL (c : Cfg) (l : List (Int × Int)) : Nat → List Brk
  | 0 => []
  | k + 1 => match l[k]? with
    | some p => sbL c l k ++ sbT c k p
    | none => sbL c l k

def fullL (c : Cfg) (u : Int) (hd : Bool) (l : List (Int × Int)) : List Brk := [hoL l l.length, sbL c l l.length, partialL c u hd l].flatten

end Go.Proofs.YtelnligfebjjiaaGreat
