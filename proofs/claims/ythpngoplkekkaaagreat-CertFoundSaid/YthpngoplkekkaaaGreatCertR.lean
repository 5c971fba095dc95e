/- Contracts: cert.reader's refutation. Conditions: those ahead of each theorem. -/
import Derived.Test.YthpngoplkekkaaaGreatCert
namespace Go.Proofs.YthpngoplkekkaaaGreat
open Go Go.Cpl

abbrev rdB (c : Cfg) (u : Int) (hd : Bool) (tree : List Nd) (n : Nat) : HObj := .box [.d (i64 c.regions), .d (.sl (r1 c.zones)), .d (.sl (r2 c.cells)), .d (.sl (rT c.tenants)), .d (.sl (r2 c.versions)), .d (.sl (r1 c.replicas)), .d (.sl (r1 c.observers)), .d (i64 c.blast), .d (i64 c.lease), .d (i64 c.bake), .d (i64 u), .d (.bool hd), .gs 1, .d (.sl (rN tree)), .d (i64 n)]

abbrev rdH (c : Cfg) (u : Int) (hd : Bool) (tree : List Nd) (l : List (Int × Int)) (n : Nat) : List HObj := [rdB c u hd tree n, .arr 64 (r2 l)]

set_option maxRecDepth 100000 in
theorem exceeded_c (c : Cfg) (u : Int) (hd : Bool) (tree : List Nd) (l : List (Int × Int)) (n : Nat) (set : Int) (hf : Fit c l) :
    CallsH Tryz.prog 72 [.c (.ptr 0 0 0), I set] (rdH c u hd tree l n) (B (decide (1 ≤ set ∧ set < 2 ^ c.regions.toNat ∧ room c u l set < need c u l set))) (rdH c u hd tree l n) := by
  have hg := good_of hf.val
  have hR := hg.regions
  refine callsR_of tab mixed Tryz.func72 rfl (by decide) rfl rfl ?_
  conv => whnf
  refine ⟨by kernel_rfl, ?_⟩
  conv => whnf
  refine spD (fun h1 => ?_) (fun h1 => ?_) <;> conv => whnf
  · refine ⟨by omega, .intro _ (shl1' hR) ?_⟩
    conv => whnf
    refine spD (fun h2 => ?_) (fun h2 => ?_) <;> conv => whnf
    · refine ⟨_, _, Need_c c u hd l set hf, ?_⟩
      conv => whnf
      refine ⟨_, _, Room_c c u hd l set hf, ?_⟩
      conv => whnf
      refine ⟨[(0, some 0), (1, some 1)], rfl, ?_⟩
      have e : decide (1 ≤ set ∧ set < 2 ^ c.regions.toNat ∧ room c u l set < need c u l set) = decide (room c u l set < need c u l set) := by simp [h1, h2]
      rw [e]
      repeat' (first | exact trivial | rfl | refine And.intro ?_ ?_)
      all_goals (conv => whnf)
      repeat' (first | exact trivial | rfl | refine And.intro ?_ ?_)
    · refine ⟨[(0, some 0), (1, some 1)], rfl, ?_⟩
      have e : decide (1 ≤ set ∧ set < 2 ^ c.regions.toNat ∧ room c u l set < need c u l set) = false := by simp [h2]
      rw [e]
      repeat' (first | exact trivial | rfl | refine And.intro ?_ ?_)
      all_goals (conv => whnf)
      repeat' (first | exact trivial | rfl | refine And.intro ?_ ?_)
  · refine ⟨[(0, some 0), (1, some 1)], rfl, ?_⟩
    have e : decide (1 ≤ set ∧ set < 2 ^ c.regions.toNat ∧ room c u l set < need c u l set) = false := by simp [h1]
    rw [e]
    repeat' (first | exact trivial | rfl | refine And.intro ?_ ?_)
    all_goals (conv => whnf)
    repeat' (first | exact trivial | rfl | refine And.intro ?_ ?_)

/-- node variables are ints -/
def TreeOK (tree : List Nd) : Prop := tree.length ≤ 1000000 ∧ ∀ x ∈ tree, -9223372036854775808 ≤ x.var ∧ x.var ≤ 9223372036854775807

theorem partial_len' {c : Cfg} {u : Int} {hd : Bool} {l : List (Int × Int)} (hf : Fit c l) : (partialL c u hd l).length ≤ 1000000 := by
  have l3 := partial_sum (u := u) (hd := hd) hf
  rw [sumL_flat] at l3
  have : (partialL c u hd l).length ≤ 5000 := l3
  omega

set_option maxRecDepth 100000 in
set_option maxHeartbeats 4000000 in
theorem refut_step (c : Cfg) (u : Int) (hd : Bool) (tree : List Nd) (ht : TreeOK tree) (l : List (Int × Int)) (fuel n : Nat) (hf : Fit c l) (hn : n ≤ tree.length)
    (hbr : ∀ x, tree[n]? = some x → ∃ r : Bool × Nat, r = (if openV c l x.var = true then (match fuel with
        | 0 => (false, n + 1)
        | fuel + 1 => rdC (fun i n => rdN c u hd tree fuel (setV l x.var i) n) (usK u c.cells.length) (n + 1)) else (false, n + 1)) ∧
      CallsH Tryz.prog 73 [.c (.ptr 0 0 0), I x.var] (rdH c u hd tree l (n + 1)) (B r.1) (rdH c u hd tree l r.2)) :
    CallsH Tryz.prog 45 [.c (.ptr 0 0 0)] (rdH c u hd tree l n) (B (rdN c u hd tree fuel l n).1) (rdH c u hd tree l (rdN c u hd tree fuel l n).2) := by
  have hlt := rN_len tree
  have ht1 := ht.1
  refine callsR_of tab mixed Tryz.func45 rfl (by decide) rfl rfl ?_
  conv => whnf
  refine ⟨by kernel_rfl, ?_⟩
  conv => whnf
  refine spD (fun h => ?_) (fun h => ?_) <;> conv => whnf
  · have hn' : tree[n]? = none := List.getElem?_eq_none (by omega)
    have e : rdN c u hd tree fuel l n = (false, n) := by unfold rdN; rw [hn']
    rw [e]
    refine ⟨[(0, some 0), (1, some 1)], rfl, ?_⟩
    repeat' (first | exact trivial | rfl | refine And.intro ?_ ?_)
    all_goals (conv => whnf)
    repeat' (first | exact trivial | rfl | refine And.intro ?_ ?_)
  have hn' : n < tree.length := by omega
  obtain ⟨x, hx⟩ := get_of hn'
  obtain ⟨r, hr, hbr⟩ := hbr x hx
  refine ⟨by kernel_rfl, ?_⟩
  conv => whnf
  refine ⟨by omega, _, rN_get hx, ?_⟩
  conv => whnf
  refine gv (by first | omega | (simp only []; omega) | (simp; omega)) (by first | omega | (simp only []; omega) | (simp; omega)) ?_
  conv => whnf
  rw [show (n : Int) + 1 = ((n + 1 : Nat) : Int) by omega]
  refine spE (fun h2 => ?_) (fun h2 => ?_) <;> conv => whnf
  · have e : rdN c u hd tree fuel l n = (nodeB c u hd l x, n + 1) := by unfold rdN; rw [hx]; simp [h2]
    rw [e]
    refine ⟨by kernel_rfl, ?_⟩
    conv => whnf
    refine spE (fun h3 => ?_) (fun h3 => ?_) <;> conv => whnf
    · refine spE (fun h4 => ?_) (fun h4 => ?_) <;> conv => whnf
      · refine ⟨_, _, partial_c c u hd l hf, ?_⟩
        conv => whnf
        refine ⟨_, _, containsB_c (partialL c u hd l) x.brk (partial_len' hf), ?_⟩
        conv => whnf
        refine ⟨[(0, some 0), (1, some 1)], rfl, ?_⟩
        have e2 : nodeB c u hd l x = decide (x.brk ∈ partialL c u hd l) := by simp [nodeB, h3, h4]
        rw [e2]
        repeat' (first | exact trivial | rfl | refine And.intro ?_ ?_)
        all_goals (conv => whnf)
        repeat' (first | exact trivial | rfl | refine And.intro ?_ ?_)
      · refine ⟨[(0, some 0), (1, some 1)], rfl, ?_⟩
        have e2 : nodeB c u hd l x = false := by simp [nodeB, h4]
        rw [e2]
        repeat' (first | exact trivial | rfl | refine And.intro ?_ ?_)
        all_goals (conv => whnf)
        repeat' (first | exact trivial | rfl | refine And.intro ?_ ?_)
    · refine ⟨[(0, some 0), (1, some 1)], rfl, ?_⟩
      have e2 : nodeB c u hd l x = false := by simp [nodeB, h3]
      rw [e2]
      repeat' (first | exact trivial | rfl | refine And.intro ?_ ?_)
      all_goals (conv => whnf)
      repeat' (first | exact trivial | rfl | refine And.intro ?_ ?_)
  refine spE (fun h3 => ?_) (fun h3 => ?_) <;> conv => whnf
  · have e : rdN c u hd tree fuel l n = (nodeX c u l x, n + 1) := by unfold rdN; rw [hx]; simp [h3]
    rw [e]
    refine spE (fun h4 => ?_) (fun h4 => ?_) <;> conv => whnf
    · refine ⟨by kernel_rfl, ?_⟩
      conv => whnf
      rw [show eqB _ _ = _ from eqB5 x.brk brk0]
      refine spD (fun h5 => ?_) (fun h5 => ?_) <;> conv => whnf
      · refine ⟨_, _, exceeded_c c u hd tree l (n + 1) x.set hf, ?_⟩
        conv => whnf
        refine ⟨[(0, some 0), (1, some 1)], rfl, ?_⟩
        have e2 : nodeX c u l x = decide (1 ≤ x.set ∧ x.set < 2 ^ c.regions.toNat ∧ room c u l x.set < need c u l x.set) := by simp [nodeX, h4, h5]
        rw [e2]
        repeat' (first | exact trivial | rfl | refine And.intro ?_ ?_)
        all_goals (conv => whnf)
        repeat' (first | exact trivial | rfl | refine And.intro ?_ ?_)
      · refine ⟨[(0, some 0), (1, some 1)], rfl, ?_⟩
        have e2 : nodeX c u l x = false := by simp [nodeX, h5]
        rw [e2]
        repeat' (first | exact trivial | rfl | refine And.intro ?_ ?_)
        all_goals (conv => whnf)
        repeat' (first | exact trivial | rfl | refine And.intro ?_ ?_)
    · refine ⟨[(0, some 0), (1, some 1)], rfl, ?_⟩
      have e2 : nodeX c u l x = false := by simp [nodeX, h4]
      rw [e2]
      repeat' (first | exact trivial | rfl | refine And.intro ?_ ?_)
      all_goals (conv => whnf)
      repeat' (first | exact trivial | rfl | refine And.intro ?_ ?_)
  refine spE (fun h4 => ?_) (fun h4 => ?_) <;> conv => whnf
  · refine spE (fun h5 => ?_) (fun h5 => ?_) <;> conv => whnf
    · refine ⟨by kernel_rfl, ?_⟩
      conv => whnf
      rw [show eqB _ _ = _ from eqB5 x.brk brk0]
      refine spD (fun h6 => ?_) (fun h6 => ?_) <;> conv => whnf
      · have e : rdN c u hd tree fuel l n = r := by
          unfold rdN; rw [hx]
          simp only [h4, h5, h6, true_and]
          rw [hr]
          rfl
        rw [e]
        refine ⟨_, _, hbr, ?_⟩
        conv => whnf
        refine ⟨[(0, some 0), (1, some 1)], rfl, ?_⟩
        repeat' (first | exact trivial | rfl | refine And.intro ?_ ?_)
        all_goals (conv => whnf)
        repeat' (first | exact trivial | rfl | refine And.intro ?_ ?_)
      · have e : rdN c u hd tree fuel l n = (false, n + 1) := by unfold rdN; rw [hx]; simp [h2, h3, h6]
        rw [e]
        refine ⟨[(0, some 0), (1, some 1)], rfl, ?_⟩
        repeat' (first | exact trivial | rfl | refine And.intro ?_ ?_)
        all_goals (conv => whnf)
        repeat' (first | exact trivial | rfl | refine And.intro ?_ ?_)
    · have e : rdN c u hd tree fuel l n = (false, n + 1) := by unfold rdN; rw [hx]; simp [h2, h3, h5]
      rw [e]
      refine ⟨[(0, some 0), (1, some 1)], rfl, ?_⟩
      repeat' (first | exact trivial | rfl | refine And.intro ?_ ?_)
      all_goals (conv => whnf)
      repeat' (first | exact trivial | rfl | refine And.intro ?_ ?_)
  · have e : rdN c u hd tree fuel l n = (false, n + 1) := by unfold rdN; rw [hx]; simp [h2, h3, h4]
    rw [e]
    refine ⟨[(0, some 0), (1, some 1)], rfl, ?_⟩
    repeat' (first | exact trivial | rfl | refine And.intro ?_ ?_)
    all_goals (conv => whnf)
    repeat' (first | exact trivial | rfl | refine And.intro ?_ ?_)

theorem rdC_le {f : Nat → Nat → Bool × Nat} {b : Nat} (hf : ∀ i n, n ≤ b → (f i n).2 ≤ b) : ∀ (l : List Nat) (n : Nat), n ≤ b → (rdC f l n).2 ≤ b
  | [], n, h => h
  | i :: r, n, h => by
    have := hf i n h
    rw [rdC]
    split
    · rename_i n' he
      rw [he] at this
      exact rdC_le hf r n' this
    · rename_i n' he
      rw [he] at this
      exact this

theorem rdN_le (c : Cfg) (u : Int) (hd : Bool) (tree : List Nd) : ∀ (fuel : Nat) (l : List (Int × Int)) (n : Nat), n ≤ tree.length → (rdN c u hd tree fuel l n).2 ≤ tree.length
  | fuel, l, n, h => by
    unfold rdN
    split
    · exact h
    · rename_i x hx
      have hlt := (List.getElem?_eq_some_iff.1 hx).1
      split
      · exact hlt
      · split
        · exact hlt
        · split
          · split
            · exact hlt
            · rename_i fuel'
              exact rdC_le (fun i n hn => rdN_le c u hd tree fuel' (setV l x.var i) n hn) _ _ hlt
          · exact hlt

theorem r2_set'' (l : List (Int × Int)) (i : Nat) (x y : Int) : r2 (l.set i (x, y)) = (r2 l).set i [i64 x, i64 y] := by simp [r2, List.map_set]

section
variable {l : List (Int × Int)} {v : Int} {p : Int × Int}

theorem setV_odd (hm : v % 2 = 1) (hp : l[(v / 2).toNat]? = some p) (y : Int) : setV l v y = l.set (v / 2).toNat (p.1, y) := by unfold setV; rw [if_pos hm, hp]; rfl

theorem setV_even (hm : v % 2 ≠ 1) (hp : l[(v / 2).toNat]? = some p) (y : Int) : setV l v y = l.set (v / 2).toNat (y, p.2) := by unfold setV; rw [if_neg hm, hp]; rfl

theorem setV_row_odd (hm : v % 2 = 1) (hp : l[(v / 2).toNat]? = some p) (y : Int) : (r2 (setV l v y))[(v / 2).toNat]? = some [i64 p.1, i64 y] := by
  have := (List.getElem?_eq_some_iff.1 hp).1
  rw [setV_odd hm hp]; exact r2_get (List.getElem?_set_self this)

theorem setV_row_even (hm : v % 2 ≠ 1) (hp : l[(v / 2).toNat]? = some p) (y : Int) : (r2 (setV l v y))[(v / 2).toNat]? = some [i64 y, i64 p.2] := by
  have := (List.getElem?_eq_some_iff.1 hp).1
  rw [setV_even hm hp]; exact r2_get (List.getElem?_set_self this)

theorem setV_set_odd (hm : v % 2 = 1) (hp : l[(v / 2).toNat]? = some p) (y z : Int) : (r2 (setV l v y)).set (v / 2).toNat [i64 p.1, i64 z] = r2 (setV l v z) := by
  rw [← r2_set'', setV_odd hm hp, setV_odd hm hp, List.set_set]

theorem setV_set_even (hm : v % 2 ≠ 1) (hp : l[(v / 2).toNat]? = some p) (y z : Int) : (r2 (setV l v y)).set (v / 2).toNat [i64 z, i64 p.2] = r2 (setV l v z) := by
  rw [← r2_set'', setV_even hm hp, setV_even hm hp, List.set_set]

theorem set_same {α : Type} {l : List α} {i : Nat} {x : α} (h : l[i]? = some x) : l.set i x = l := by
  apply List.ext_getElem?
  intro j
  by_cases hj : i = j
  · subst hj; rw [List.getElem?_set_self (List.getElem?_eq_some_iff.1 h).1, h]
  · rw [List.getElem?_set_ne hj]

theorem setV_back_odd (hm : v % 2 = 1) (hp : l[(v / 2).toNat]? = some p) (h : p.2 = -1) : setV l v (-1) = l := by
  rw [setV_odd hm hp, ← h]; exact set_same hp

theorem setV_back_even (hm : v % 2 ≠ 1) (hp : l[(v / 2).toNat]? = some p) (h : p.1 = -1) : setV l v (-1) = l := by
  rw [setV_even hm hp, ← h]; exact set_same hp
end

set_option maxRecDepth 100000 in
set_option maxHeartbeats 4000000 in
theorem branch_c (c : Cfg) (u : Int) (hd : Bool) (tree : List Nd) (l : List (Int × Int)) (fuel m : Nat) (v : Int) (hv : -9223372036854775808 ≤ v ∧ v ≤ 9223372036854775807) (hf : Fit c l) (hm : m ≤ tree.length)
    (IH : openV c l v = true → ∀ i k : Nat, i < c.cells.length → k ≤ tree.length → CallsH Tryz.prog 45 [.c (.ptr 0 0 0)] (rdH c u hd tree (setV l v i) k) (B (rdN c u hd tree fuel (setV l v i) k).1) (rdH c u hd tree (setV l v i) (rdN c u hd tree fuel (setV l v i) k).2)) (r : Bool × Nat)
    (hr : r = if openV c l v = true then rdC (fun i n => rdN c u hd tree fuel (setV l v i) n) (usK u c.cells.length) m else (false, m)) :
    CallsH Tryz.prog 73 [.c (.ptr 0 0 0), I v] (rdH c u hd tree l m) (B r.1) (rdH c u hd tree l r.2) := by
  have hl2 := r2_len l
  have hg := good_of hf.val
  refine callsDef_of tab mixed (pre := [_, _, _, _, _]) Tryz.func73 rfl rfl Tryz.func114 rfl rfl rfl rfl rfl rfl (by decide) rfl rfl rfl rfl rfl ?_
  conv => whnf
  have fals : openV c l v = false → r = (false, m) := fun h => by rw [hr, h]; rfl
  refine spD (fun h0 => ?_) (fun h0 => ?_) <;> conv => whnf
  · rw [fals (by simp [openV]; omega)]
    refine ⟨[(0, some 0), (1, some 1)], rfl, ?_⟩
    repeat' (first | exact trivial | rfl | refine And.intro ?_ ?_)
    all_goals (conv => whnf)
    repeat' (first | exact trivial | rfl | refine And.intro ?_ ?_)
  have hq : IntKind.i64.wrap (v.tdiv 2) = v / 2 := by
    rw [Int.tdiv_eq_ediv_of_nonneg (by omega)]; exact wr (by omega) (by omega)
  have hrm : v.tmod 2 = v % 2 := Int.tmod_eq_emod_of_nonneg (by omega)
  refine ⟨by decide, .intro _ hq ?_⟩
  conv => whnf
  refine spD (fun h1 => ?_) (fun h1 => ?_) <;> conv => whnf
  · rw [fals (by simp [openV]; omega)]
    refine ⟨[(0, some 0), (1, some 1)], rfl, ?_⟩
    repeat' (first | exact trivial | rfl | refine And.intro ?_ ?_)
    all_goals (conv => whnf)
    repeat' (first | exact trivial | rfl | refine And.intro ?_ ?_)
  obtain ⟨p, hp⟩ := get_of (l := l) (i := (v / 2).toNat) (by omega)
  refine ⟨by decide, .intro _ hq ?_⟩
  conv => whnf
  refine ⟨by omega, by omega, ?_⟩
  conv => whnf
  refine ⟨by decide, .intro _ hrm ?_⟩
  conv => whnf
  refine spE (fun hmod => ?_) (fun hmod => ?_) <;> conv => whnf
  · refine ⟨by decide, .intro _ hq ?_⟩
    conv => whnf
    refine ⟨by omega, by omega, ?_⟩
    conv => whnf
    refine ⟨_, r2_get hp, ?_⟩
    conv => whnf
    refine spNe (fun hpm => ?_) (fun hpm => ?_) <;> conv => whnf
    · have hgv : getV l v ≠ -1 := by unfold getV; rw [hp]; simpa [hmod] using hpm
      rw [fals (by simp [openV, hgv])]
      refine ⟨[(0, some 0), (1, some 1)], rfl, ?_⟩
      repeat' (first | exact trivial | rfl | refine And.intro ?_ ?_)
      all_goals (conv => whnf)
      repeat' (first | exact trivial | rfl | refine And.intro ?_ ?_)
    refine ⟨by decide, .intro _ hrm ?_⟩
    conv => whnf
    refine spE (fun _ => ?_) (fun h => absurd hmod h)
    conv => whnf
    refine ⟨by decide, .intro _ hq ?_⟩
    conv => whnf
    refine ⟨_, _, single_c c u hd (v / 2) hg, ?_⟩
    conv => whnf
    rcases hsing : single c (v / 2) with _ | _
    · refine ⟨fun h => (by cases h), fun _ => ?_⟩
      conv => whnf
      have hrowf : ∀ y : Int, (r2 (setV l v y))[(v / 2).toNat]? = some [i64 p.1, i64 y] := fun y => setV_row_odd hmod hp y
      have hsetf : ∀ y z : Int, (r2 (setV l v y)).set (v / 2).toNat [i64 p.1, i64 z] = r2 (setV l v z) := fun y z => setV_set_odd hmod hp y z
      have hback : setV l v (-1) = l := setV_back_odd hmod hp hpm
      have hopen : openV c l v = true := by
        have hgv : getV l v = -1 := by unfold getV; rw [hp]; simp [hmod, hpm]
        simp [openV, hgv, hmod, hsing]
        omega
      rw [if_pos hopen] at hr
      have IH := IH hopen
      have hF : ∀ k n, n ≤ tree.length → (rdN c u hd tree fuel (setV l v ((k : Nat) : Int)) n).2 ≤ tree.length := fun k n hn => rdN_le c u hd tree fuel _ n hn
      have hc2 := r2_len c.cells
      have hcc := hg.cells
      refine ⟨⟨rfl, rfl⟩, ?_⟩
      conv => whnf
      refine loopR tab mixed (ι := { s : Nat × Nat × Int // s.1 ≤ c.cells.length ∧ rdC (fun i n => rdN c u hd tree fuel (setV l v i) n) (usK u s.1) m = (true, s.2.1) ∧ s.2.1 ≤ tree.length }) (fun s => [(64, I s.1.1)]) (fun s => [(0, rdB c u hd tree s.1.2.1), (1, .arr 64 (r2 (setV l v s.1.2.2)))]) 51 (fun s => c.cells.length - s.1.1) ⟨(0, m, -1), by omega, rfl, hm⟩ [(0, some 0), (1, some 1)] ?_
      conv => whnf
      refine ⟨?_, ?_⟩
      · repeat' (first | exact trivial | rfl | refine And.intro ?_ ?_)
        all_goals (conv => whnf)
        repeat' (first | exact trivial | rfl | refine And.intro ?_ ?_)
        rw [hback]
      rintro ⟨⟨k, n, y⟩, hk, hrd, hn⟩
      dsimp only at hk hrd hn ⊢
      conv => whnf
      refine spD (fun h3 => ?_) (fun h3 => ?_) <;> conv => whnf
      · have hk' : k < c.cells.length := by omega
        refine ⟨by omega, shr_eq (by omega) (by omega) ?_⟩
        conv => whnf
        refine .intro _ (and1 _) ?_
        conv => whnf
        refine spE (fun h4 => ?_) (fun h4 => ?_) <;> conv => whnf
        · have hb : bit u k = false := by simp only [bit, decide_eq_false_iff_not]; omega
          refine gv (by first | omega | (simp only []; omega) | (simp; omega)) (by first | omega | (simp only []; omega) | (simp; omega)) ?_
          conv => whnf
          refine ⟨⟨(k + 1, n, y), hk', rdC_skip hb hrd, hn⟩, [(0, some 0), (1, some 1)], ?_, by show c.cells.length - (k + 1) < c.cells.length - k; omega⟩
          repeat' (first | exact trivial | rfl | refine And.intro ?_ ?_)
          all_goals (conv => whnf)
          repeat' (first | exact trivial | rfl | refine And.intro ?_ ?_)
        · have hb : bit u k = true := by simp only [bit, decide_eq_true_eq]; omega
          refine ⟨_, hrowf y, ?_⟩
          conv => whnf
          rw [hsetf]
          refine ⟨_, _, IH k n hk' hn, ?_⟩
          conv => whnf
          rcases hb2 : rdN c u hd tree fuel (setV l v k) n with ⟨b, n'⟩
          have hn' := hF k n hn
          rw [hb2] at hn'
          cases b with
          | false =>
            refine ⟨fun _ => ?_, fun h => (by cases h)⟩
            conv => whnf
            refine ⟨_, hrowf k, ?_⟩
            conv => whnf
            rw [hsetf, hback]
            have e : r = (false, n') := by rw [hr]; exact rdC_stop hk' hb hrd hb2
            rw [e]
            refine ⟨[(0, some 0), (1, some 1)], rfl, ?_⟩
            repeat' (first | exact trivial | rfl | refine And.intro ?_ ?_)
            all_goals (conv => whnf)
            repeat' (first | exact trivial | rfl | refine And.intro ?_ ?_)
          | true =>
            refine ⟨fun h => (by cases h), fun _ => ?_⟩
            conv => whnf
            refine gv (by first | omega | (simp only []; omega) | (simp; omega)) (by first | omega | (simp only []; omega) | (simp; omega)) ?_
            conv => whnf
            refine ⟨⟨(k + 1, n', k), hk', rdC_step hb hrd hb2, hn'⟩, [(0, some 0), (1, some 1)], ?_, by show c.cells.length - (k + 1) < c.cells.length - k; omega⟩
            repeat' (first | exact trivial | rfl | refine And.intro ?_ ?_)
            all_goals (conv => whnf)
            repeat' (first | exact trivial | rfl | refine And.intro ?_ ?_)
      · have hk' : k = c.cells.length := by omega
        subst hk'
        refine ⟨_, hrowf y, ?_⟩
        conv => whnf
        rw [hsetf, hback]
        have e : r = (true, n) := by rw [hr]; exact hrd
        rw [e]
        refine ⟨[(0, some 0), (1, some 1)], rfl, ?_⟩
        repeat' (first | exact trivial | rfl | refine And.intro ?_ ?_)
        all_goals (conv => whnf)
        repeat' (first | exact trivial | rfl | refine And.intro ?_ ?_)
    · refine ⟨fun _ => ?_, fun h => (by cases h)⟩
      conv => whnf
      rw [fals (by simp [openV, hmod, hsing])]
      refine ⟨[(0, some 0), (1, some 1)], rfl, ?_⟩
      repeat' (first | exact trivial | rfl | refine And.intro ?_ ?_)
      all_goals (conv => whnf)
      repeat' (first | exact trivial | rfl | refine And.intro ?_ ?_)
  · refine ⟨_, r2_get hp, ?_⟩
    conv => whnf
    refine spNe (fun hpm => ?_) (fun hpm => ?_) <;> conv => whnf
    · have hgv : getV l v ≠ -1 := by unfold getV; rw [hp]; simpa [hmod] using hpm
      rw [fals (by simp [openV, hgv])]
      refine ⟨[(0, some 0), (1, some 1)], rfl, ?_⟩
      repeat' (first | exact trivial | rfl | refine And.intro ?_ ?_)
      all_goals (conv => whnf)
      repeat' (first | exact trivial | rfl | refine And.intro ?_ ?_)
    refine ⟨by decide, .intro _ hrm ?_⟩
    conv => whnf
    refine spE (fun h => absurd h hmod) (fun _ => ?_)
    conv => whnf
    have hrowf : ∀ y : Int, (r2 (setV l v y))[(v / 2).toNat]? = some [i64 y, i64 p.2] := fun y => setV_row_even hmod hp y
    have hsetf : ∀ y z : Int, (r2 (setV l v y)).set (v / 2).toNat [i64 z, i64 p.2] = r2 (setV l v z) := fun y z => setV_set_even hmod hp y z
    have hback : setV l v (-1) = l := setV_back_even hmod hp hpm
    have hopen : openV c l v = true := by
      have hgv : getV l v = -1 := by unfold getV; rw [hp]; simp [hmod, hpm]
      simp [openV, hgv, hmod]
      omega
    rw [if_pos hopen] at hr
    have IH := IH hopen
    have hF : ∀ k n, n ≤ tree.length → (rdN c u hd tree fuel (setV l v ((k : Nat) : Int)) n).2 ≤ tree.length := fun k n hn => rdN_le c u hd tree fuel _ n hn
    have hc2 := r2_len c.cells
    have hcc := hg.cells
    refine ⟨⟨rfl, rfl⟩, ?_⟩
    conv => whnf
    refine loopR tab mixed (ι := { s : Nat × Nat × Int // s.1 ≤ c.cells.length ∧ rdC (fun i n => rdN c u hd tree fuel (setV l v i) n) (usK u s.1) m = (true, s.2.1) ∧ s.2.1 ≤ tree.length }) (fun s => [(64, I s.1.1)]) (fun s => [(0, rdB c u hd tree s.1.2.1), (1, .arr 64 (r2 (setV l v s.1.2.2)))]) 51 (fun s => c.cells.length - s.1.1) ⟨(0, m, -1), by omega, rfl, hm⟩ [(0, some 0), (1, some 1)] ?_
    conv => whnf
    refine ⟨?_, ?_⟩
    · repeat' (first | exact trivial | rfl | refine And.intro ?_ ?_)
      all_goals (conv => whnf)
      repeat' (first | exact trivial | rfl | refine And.intro ?_ ?_)
      rw [hback]
    rintro ⟨⟨k, n, y⟩, hk, hrd, hn⟩
    dsimp only at hk hrd hn ⊢
    conv => whnf
    refine spD (fun h3 => ?_) (fun h3 => ?_) <;> conv => whnf
    · have hk' : k < c.cells.length := by omega
      refine ⟨by omega, shr_eq (by omega) (by omega) ?_⟩
      conv => whnf
      refine .intro _ (and1 _) ?_
      conv => whnf
      refine spE (fun h4 => ?_) (fun h4 => ?_) <;> conv => whnf
      · have hb : bit u k = false := by simp only [bit, decide_eq_false_iff_not]; omega
        refine gv (by first | omega | (simp only []; omega) | (simp; omega)) (by first | omega | (simp only []; omega) | (simp; omega)) ?_
        conv => whnf
        refine ⟨⟨(k + 1, n, y), hk', rdC_skip hb hrd, hn⟩, [(0, some 0), (1, some 1)], ?_, by show c.cells.length - (k + 1) < c.cells.length - k; omega⟩
        repeat' (first | exact trivial | rfl | refine And.intro ?_ ?_)
        all_goals (conv => whnf)
        repeat' (first | exact trivial | rfl | refine And.intro ?_ ?_)
      · have hb : bit u k = true := by simp only [bit, decide_eq_true_eq]; omega
        refine ⟨_, hrowf y, ?_⟩
        conv => whnf
        rw [hsetf]
        refine ⟨_, _, IH k n hk' hn, ?_⟩
        conv => whnf
        rcases hb2 : rdN c u hd tree fuel (setV l v k) n with ⟨b, n'⟩
        have hn' := hF k n hn
        rw [hb2] at hn'
        cases b with
        | false =>
          refine ⟨fun _ => ?_, fun h => (by cases h)⟩
          conv => whnf
          refine ⟨_, hrowf k, ?_⟩
          conv => whnf
          rw [hsetf, hback]
          have e : r = (false, n') := by rw [hr]; exact rdC_stop hk' hb hrd hb2
          rw [e]
          refine ⟨[(0, some 0), (1, some 1)], rfl, ?_⟩
          repeat' (first | exact trivial | rfl | refine And.intro ?_ ?_)
          all_goals (conv => whnf)
          repeat' (first | exact trivial | rfl | refine And.intro ?_ ?_)
        | true =>
          refine ⟨fun h => (by cases h), fun _ => ?_⟩
          conv => whnf
          refine gv (by first | omega | (simp only []; omega) | (simp; omega)) (by first | omega | (simp only []; omega) | (simp; omega)) ?_
          conv => whnf
          refine ⟨⟨(k + 1, n', k), hk', rdC_step hb hrd hb2, hn'⟩, [(0, some 0), (1, some 1)], ?_, by show c.cells.length - (k + 1) < c.cells.length - k; omega⟩
          repeat' (first | exact trivial | rfl | refine And.intro ?_ ?_)
          all_goals (conv => whnf)
          repeat' (first | exact trivial | rfl | refine And.intro ?_ ?_)
    · have hk' : k = c.cells.length := by omega
      subst hk'
      refine ⟨_, hrowf y, ?_⟩
      conv => whnf
      rw [hsetf, hback]
      have e : r = (true, n) := by rw [hr]; exact hrd
      rw [e]
      refine ⟨[(0, some 0), (1, some 1)], rfl, ?_⟩
      repeat' (first | exact trivial | rfl | refine And.intro ?_ ?_)
      all_goals (conv => whnf)
      repeat' (first | exact trivial | rfl | refine And.intro ?_ ?_)

end Go.Proofs.YthpngoplkekkaaaGreat
