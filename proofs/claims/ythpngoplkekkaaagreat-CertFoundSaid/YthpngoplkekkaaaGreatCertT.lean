/- Contracts: the reference's Feasible, Refuted, Check; certificates as arguments. Conditions: those ahead of each theorem. -/
import Derived.Test.YthpngoplkekkaaaGreatCertS
import Derived.Test.YthpngoplkekkaaaGreatArgs
import Derived.Test.YthpngoplkekkaaaGreatLaw19
namespace Go.Proofs.YthpngoplkekkaaaGreat
open Go Go.Cpl Go.ChangeShapes Go.WideShapes Go.ChangeAt Go.RowKit

theorem open17_c (c : Cfg) (u : Int) (hd : Bool) (hT : c.tenants.length ≤ 1000) : CallsH Tryz.prog 26 [probV c u hd] [] (.c (.gs 0)) [.arr 64 (r2 (openL c.tenants.length))] := by
  have hlT := rT_len c.tenants
  refine callsR_of tab mixed Tryz.func26 rfl (by decide) rfl rfl ?_
  conv => whnf
  refine loopN tab mixed (fun i => i ≤ c.tenants.length) c.tenants.length (fun i => [(4, I i), (3, .c (.gs 50))]) (fun i => [(50, .arr 64 (r2 (openL i)))]) 51 [(50, none)] (by omega) ?_
  conv => whnf
  refine ⟨?_, fun i hi => ?_⟩
  · repeat' (first | exact trivial | rfl | refine And.intro ?_ ?_)
    all_goals (conv => whnf)
    repeat' (first | exact trivial | rfl | refine And.intro ?_ ?_)
  conv => whnf
  have hol : (r2 (openL i)).length = i := by rw [r2_len]; simp [openL]
  refine spD (fun h => ?_) (fun h => ?_) <;> conv => whnf
  · have hi' : i < c.tenants.length := by omega
    refine ⟨row2 _ _ rfl rfl, ⟨by simp; omega⟩, ?_⟩
    conv => whnf
    refine gv (by first | omega | (simp only []; omega) | (simp; omega)) (by first | omega | (simp only []; omega) | (simp; omega)) ?_
    conv => whnf
    refine ⟨⟨hi', hi'⟩, [(50, some 52)], ?_⟩
    repeat' (first | exact trivial | rfl | refine And.intro ?_ ?_)
    all_goals (conv => whnf)
    repeat' (first | exact trivial | rfl | refine And.intro ?_ ?_)
    simp [openL, r2, List.replicate_succ']
  · have hi' : i = c.tenants.length := by omega
    refine ⟨[(0, some 50)], rfl, ?_⟩
    rw [hi']
    repeat' (first | exact trivial | rfl | refine And.intro ?_ ?_)
    all_goals (conv => whnf)
    repeat' (first | exact trivial | rfl | refine And.intro ?_ ?_)

theorem refFeasible_c (c : Cfg) (u : Int) (hd : Bool) (pl : List (Int × Int)) (tree : List Nd) : CallsH Tryz.prog 14 [probV c u hd, certV pl tree] [] (B (feasible c u hd pl tree)) [] := by
  have hlt := rN_len tree
  refine callsR_of tab mixed Tryz.func14 rfl (by decide) rfl rfl ?_
  conv => whnf
  refine ⟨_, _, refTenValid_c c, ?_⟩
  conv => whnf
  refine spE (fun hv => ?_) (fun hv => ?_) <;> conv => whnf
  · refine spE (fun h => ?_) (fun h => ?_) <;> conv => whnf
    · have htr : tree = [] := List.length_eq_zero_iff.1 (by omega)
      refine ⟨_, _, refFit_c c u hd pl, ?_⟩
      conv => whnf
      refine spD (fun hf => ?_) (fun hf => ?_) <;> conv => whnf
      · refine ⟨_, _, refFull_c c u hd pl hf, ?_⟩
        conv => whnf
        refine ⟨[], rfl, ?_, trivial⟩
        have e : feasible c u hd pl tree = (((rB (fullL c u hd pl)).length : Int) == 0) := by
          rw [Bool.eq_iff_iff]
          simp only [feasible, decide_eq_true_eq, beq_iff_eq, rB_len]
          constructor
          · rintro ⟨_, _, h3⟩; rw [h3]; rfl
          · intro h3; exact ⟨htr, hf, List.length_eq_zero_iff.1 (by omega)⟩
        rw [e]
        rfl
      · have e : feasible c u hd pl tree = false := by simp [feasible, hf]
        rw [e]
        exact ⟨[], rfl, rfl, trivial⟩
    · have e : feasible c u hd pl tree = false := by
        have : tree ≠ [] := fun e => h (by rw [e]; rfl)
        simp [feasible, this]
      rw [e]
      exact ⟨[], rfl, rfl, trivial⟩
  · have e : feasible c u hd pl tree = false := by
      have : ¬ Fit c pl := fun h => hv h.val
      simp [feasible, this]
    rw [e]
    exact ⟨[], rfl, rfl, trivial⟩

theorem refRefuted_c (c : Cfg) (u : Int) (hd : Bool) (pl : List (Int × Int)) (tree : List Nd) (ht : TreeOK tree) : CallsH Tryz.prog 16 [probV c u hd, certV pl tree] [] (B (refuted c u hd pl tree)) [] := by
  have hlt := rN_len tree
  have hlp := r2_len pl
  refine callsR_of tab mixed Tryz.func16 rfl (by decide) rfl rfl ?_
  conv => whnf
  refine ⟨_, _, refTenValid_c c, ?_⟩
  conv => whnf
  refine spNe (fun h => ?_) (fun hv => ?_) <;> conv => whnf
  · exact ⟨[], rfl, by simp [mtV, Cpl.valOf, mtC, eqD, refuted, h], trivial⟩
  refine spD (fun h => ?_) (fun hp0 => ?_) <;> conv => whnf
  · have : pl ≠ [] := fun e => by rw [e] at h; exact absurd h (by decide)
    exact ⟨[], rfl, by simp [mtV, Cpl.valOf, mtC, eqD, refuted, this], trivial⟩
  refine spD (fun h => ?_) (fun hsz => ?_) <;> conv => whnf
  · have : ¬ tree.length ≤ 2048 := by omega
    exact ⟨[], rfl, by simp [mtV, Cpl.valOf, mtC, eqD, refuted, this], trivial⟩
  have hg := good_of hv
  have hT := hg.tenants
  have hpl : pl = [] := List.length_eq_zero_iff.1 (by omega)
  refine ⟨by kernel_rfl, ?_⟩
  conv => whnf
  refine ⟨_, _, (open17_c c u hd (by omega)).frozen, ?_⟩
  conv => whnf
  have hrd := refutes_c c u hd tree ht (2 * c.tenants.length) (openL c.tenants.length) 0 (by rw [opens_openL]; omega) (fit_openL hv) (by omega)
  have he : rdN c u hd tree (2 * c.tenants.length) (openL c.tenants.length) 0 = readAll c u hd tree := rfl
  rw [he] at hrd
  refine ⟨_, _, hrd, ?_⟩
  conv => whnf
  have e : refuted c u hd pl tree = (rdI (readAll c u hd tree) == ((rN tree).length : Int)) := by
    have : tree.length ≤ 2048 := by omega
    rw [Bool.eq_iff_iff]
    simp only [refuted, hv, hpl, this, true_and, decide_true, Bool.true_and, Bool.and_eq_true, decide_eq_true_eq, beq_iff_eq, hlt]
    unfold rdI
    split
    · rename_i h; simp only [h, true_and]; omega
    · rename_i h; simp only [h, false_and, false_iff, Bool.false_eq_true]; omega
  rw [e]
  exact ⟨[], rfl, rfl, trivial⟩

theorem refCheck19_c (c : Cfg) (u : Int) (hd : Bool) (pl : List (Int × Int)) (tree : List Nd) (ht : TreeOK tree) : CallsH Tryz.prog 18 [probV c u hd, certV pl tree] [] (B (feasible c u hd pl tree || refuted c u hd pl tree)) [] := by
  refine callsR_of tab mixed Tryz.func18 rfl (by decide) rfl rfl ?_
  conv => whnf
  refine ⟨_, _, refFeasible_c c u hd pl tree, ?_⟩
  conv => whnf
  rcases hb : feasible c u hd pl tree with _ | _
  · refine ⟨fun h => (by cases h), fun _ => ?_⟩
    conv => whnf
    refine ⟨_, _, refRefuted_c c u hd pl tree ht, ?_⟩
    conv => whnf
    exact ⟨[], rfl, by simp [mtV, Cpl.valOf, mtC, eqD], trivial⟩
  · refine ⟨fun _ => ?_, fun h => (by cases h)⟩
    conv => whnf
    exact ⟨[], rfl, by simp [mtV, Cpl.valOf, mtC, eqD], trivial⟩

theorem few_c (pl : List (Int × Int)) (tree : List Nd) : CallsH Tryz.prog 10 [certV pl tree] [] (B (decide (pl.length ≤ 40 ∧ tree.length ≤ 200))) [] := by
  have hlt := rN_len tree
  have hlp := r2_len pl
  refine callsR_of tab mixed Tryz.func10 rfl (by decide) rfl rfl ?_
  conv => whnf
  refine spD (fun h => ?_) (fun h => ?_) <;> conv => whnf
  · have e : decide (pl.length ≤ 40 ∧ tree.length ≤ 200) = decide (((rN tree).length : Int) ≤ 200) := by
      rw [Bool.eq_iff_iff, decide_eq_true_iff, decide_eq_true_iff]; omega
    rw [e]
    exact ⟨[], rfl, rfl, trivial⟩
  · have e : decide (pl.length ≤ 40 ∧ tree.length ≤ 200) = false := by
      rw [decide_eq_false_iff_not]; omega
    rw [e]
    exact ⟨[], rfl, rfl, trivial⟩

/-! certificates as arguments -/

def VarOK (tree : List Nd) : Prop := ∀ x ∈ tree, -9223372036854775808 ≤ x.var ∧ x.var ≤ 9223372036854775807

abbrev I64 := { a : Int // -9223372036854775808 ≤ a ∧ a ≤ 9223372036854775807 }

abbrev NdR := { x : Nd // -9223372036854775808 ≤ x.var ∧ x.var ≤ 9223372036854775807 }

set_option maxRecDepth 100000 in
theorem rd_ir : Rd Tryz.prog 3 (fun a : I64 => [i64 a.1]) := fun _ _ _ _ _ _ _ _ _ h => by
  obtain ⟨m, rfl, _, hw⟩ := DataW.trod_int Tryz.underlying3 h
  refine ⟨⟨m, ?_⟩, .scal (.int .i64 m) rfl, trivial⟩
  simp only [Lit.wf, Bool.and_eq_true, decide_eq_true_eq] at hw
  exact hw

set_option maxRecDepth 100000 in
theorem rd_brk : Rd Tryz.prog 66 (fun b : Brk => [i64 b.rule, i64 b.tenant, i64 b.other, i64 b.cell, i64 b.region]) :=
  (rd_struct (L := [(3, 0, 1), (3, 1, 1), (3, 2, 1), (3, 3, 1), (3, 4, 1)]) (by kernel_rfl) rfl
    (rdF_cons rd_i (rdF_cons rd_i (rdF_cons rd_i (rdF_cons rd_i (rdF_cons rd_i rdF_nil)))))).map (fun x => ⟨x.1, x.2.1, x.2.2.1, x.2.2.2.1, x.2.2.2.2.1⟩) fun _ => rfl

def nodeD (x : NdR) : List D := [i64 x.1.kind, i64 x.1.var, i64 x.1.set, i64 x.1.brk.rule, i64 x.1.brk.tenant, i64 x.1.brk.other, i64 x.1.brk.cell, i64 x.1.brk.region]

set_option maxRecDepth 100000 in
theorem rd_node : Rd Tryz.prog 68 nodeD :=
  (rd_struct (L := [(3, 0, 1), (3, 1, 1), (3, 2, 1), (66, 3, 5)]) (by kernel_rfl) rfl
    (rdF_cons rd_i (rdF_cons rd_ir (rdF_cons rd_i (rdF_cons rd_brk rdF_nil))))).map (fun x => ⟨⟨x.1, x.2.1.1, x.2.2.1, x.2.2.2.1⟩, x.2.1.2⟩) fun _ => rfl

set_option maxRecDepth 100000 in
theorem rd_nodes : Rd Tryz.prog 24 (fun l : List NdR => [.sl (l.map nodeD)]) := rd_slice (s := 8) Tryz.underlying24 (by kernel_rfl) (by decide) (fun _ => rfl) rd_node

set_option maxRecDepth 100000 in
theorem rd_places : Rd Tryz.prog 23 (fun l : List (Int × Int) => [.sl (r2 l)]) := rd_slice (s := 2) Tryz.underlying23 (by kernel_rfl) (by decide) (fun _ => rfl) rd_place

def certD (x : List (Int × Int) × List NdR) : List D := [.sl (r2 x.1), .sl (x.2.map nodeD)]

set_option maxRecDepth 100000 in
theorem rd_cert : Rd Tryz.prog 26 certD :=
  (rd_struct (L := [(23, 0, 1), (24, 1, 1)]) (by kernel_rfl) rfl (rdF_cons rd_places (rdF_cons rd_nodes rdF_nil))).map (fun x => (x.1, x.2.1)) fun _ => rfl

theorem nodeD_rN (l : List NdR) : l.map nodeD = rN (l.map Subtype.val) := by
  unfold rN; rw [List.map_map]; rfl

set_option maxRecDepth 100000 in
theorem arg_cert {H : Type} {enc : TypeId × Value → H} {w : World} {base : Nat} {spare : Nat → Bool} {held : Bool} {b0 : Nat} {r : Reach} {v : Value} {d : DataW H} {ps : List MemPlace} (hval : Value.okWide Tryz.prog w r b0 26 v) (hd : DataW.Trod enc Tryz.prog w base spare held 26 v d ps) :
    ∃ (pl : List (Int × Int)) (tree : List Nd), VarOK tree ∧ AVRep (memOf w) (fun _ => ⟨0, 0, 0, false⟩) (hpOf []) (certV pl tree) v := by
  obtain ⟨x, hx⟩ := arg_agg (x := ([(23, 0, 1), (24, 1, 1)], 2)) (by kernel_rfl) rd_cert hval hd (fun _ => ⟨0, 0, 0, false⟩) (hpOf [])
  refine ⟨x.1, x.2.map Subtype.val, fun y hy => ?_, ?_⟩
  · obtain ⟨z, _, rfl⟩ := List.mem_map.1 hy
    exact z.2
  · unfold certD at hx
    rw [nodeD_rN] at hx
    exact hx

set_option maxRecDepth 100000 in
theorem certTells_c (l : List Int) (pl : List (Int × Int)) (tree : List Nd) (hvar : VarOK tree) (cells : Int) (hd : Bool) : CallsH Tryz.prog 3 [.c (.d (.sl (r1 l))), certV pl tree, I cells, B hd] [] (B true) [] := by
  obtain ⟨c, u, hm, hprob⟩ := problem_c l cells hd
  have hlt := rN_len tree
  refine callsR_of tab mixed Tryz.func3 rfl (by decide) rfl rfl ?_
  conv => whnf
  refine ⟨_, _, light_c l, ?_⟩
  conv => whnf
  refine spN (fun h => ?_) (fun h => ?_) <;> conv => whnf
  · refine ⟨_, _, awake19_c, ?_⟩
    conv => whnf
    exact ⟨[], rfl, rfl, trivial⟩
  refine ⟨_, _, few_c pl tree, ?_⟩
  conv => whnf
  refine spN (fun h => ?_) (fun hfew => ?_) <;> conv => whnf
  · refine ⟨_, _, awake19_c, ?_⟩
    conv => whnf
    exact ⟨[], rfl, rfl, trivial⟩
  have ht : TreeOK tree := ⟨by omega, hvar⟩
  refine ⟨_, _, hprob, ?_⟩
  conv => whnf
  refine ⟨by kernel_rfl, ?_⟩
  conv => whnf
  refine ⟨_, _, awake19_c, ?_⟩
  conv => whnf
  refine ⟨fun _ => ?_, fun h => (by cases h)⟩
  conv => whnf
  refine ⟨_, _, feasible_c c u hd pl tree, ?_⟩
  conv => whnf
  refine ⟨_, _, refFeasible_c c u hd pl tree, ?_⟩
  conv => whnf
  refine ⟨fun _ => ?_, fun h => by simp at h⟩
  conv => whnf
  refine ⟨_, _, refuted_c c u hd pl tree ht, ?_⟩
  conv => whnf
  refine ⟨_, _, refRefuted_c c u hd pl tree ht, ?_⟩
  conv => whnf
  refine ⟨fun _ => ?_, fun h => by simp at h⟩
  conv => whnf
  refine ⟨_, _, check19_c c u hd pl tree ht, ?_⟩
  conv => whnf
  refine ⟨_, _, refCheck19_c c u hd pl tree ht, ?_⟩
  conv => whnf
  refine ⟨fun _ => ?_, fun h => by simp at h⟩
  conv => whnf
  refine ⟨_, _, size_c pl tree, ?_⟩
  conv => whnf
  rw [hlt]
  exact ⟨[], rfl, by simp [mtV, Cpl.valOf, mtC, eqD], trivial⟩

end Go.Proofs.YthpngoplkekkaaaGreat
