/- Contracts: (*solve.search).run, solve.Find. Conditions: those ahead of each theorem. -/
import Derived.Test.YtelnligfebjjiaaGreatSolve
namespace Go.Proofs.YtelnligfebjjiaaGreat
open Go Go.Cpl

abbrev srB (c : Cfg) (u : Int) (hd : Bool) (tr : AC) (n : Nat) : HObj := .box [.d (i64 c.regions), .d (.sl (r1 c.zones)), .d (.sl (r2 c.cells)), .d (.sl (rT c.tenants)), .d (.sl (r2 c.versions)), .d (.sl (r1 c.replicas)), .d (.sl (r1 c.observers)), .d (i64 c.blast), .d (i64 c.lease), .d (i64 c.bake), .d (i64 u), .d (.bool hd), .d (.sl (r1 (vars c))), .gs 1, tr, .d (i64 n)]

abbrev runV (s : SR) : AV := .tup [.inl (.d (.bool (s.code == 0))), .inl (.d (i64 (if s.code = 2 then 2 else 0)))]

/-- the contract of run, of a placement and a tree -/
def RunCH (c : Cfg) (u : Int) (hd : Bool) (fuel : Nat) (l : List (Int × Int)) (tree : List Nd) (cnt : Nat) : Prop :=
  CallsH Tryz.prog 55 [.c (.ptr 0 0 0), I (((vars c).length - fuel : Nat) : Int)] [srB c u hd (.gs 2) cnt, .arr 64 (r2 l), .arr 68 (rN tree)] (runV (runN c u hd fuel l tree cnt)) [srB c u hd (.gs 3) (runN c u hd fuel l tree cnt).cnt, .arr 64 (r2 (runN c u hd fuel l tree cnt).l), .gone, .arr 68 (rN (runN c u hd fuel l tree cnt).tree)]

theorem row8 (a b c d e f g h : Int) : ∀ r ∈ [[i64 a, i64 b, i64 c, i64 d, i64 e, i64 f, i64 g, i64 h]], r.length = 8 ∧ ∀ d ∈ r, d.scalar = true := by simp [D.scalar]

theorem SR_ext {s : SR} {l : List (Int × Int)} (h1 : s.code = 1) (h2 : s.l = l) : s = ⟨1, l, s.tree, s.cnt⟩ := by cases s; simp_all

theorem spE' {n : Nat} {A C : Prop} (h1 : n = 0 → A) (h2 : n ≠ 0 → C) : ((n == 0) = true → A) ∧ ((n == 0) = false → C) :=
  ⟨fun h => h1 (by simpa using h), fun h => h2 (by simpa using h)⟩

theorem spNe2 {n : Nat} {A C : Prop} (h1 : n = 2 → A) (h2 : n ≠ 2 → C) : (((if n = 2 then (2 : Int) else 0) != 0) = true → A) ∧ (((if n = 2 then (2 : Int) else 0) != 0) = false → C) := by
  by_cases h : n = 2
  · exact ⟨fun _ => h1 h, fun h' => by simp [h] at h'⟩
  · exact ⟨fun h' => by simp [h] at h', fun _ => h2 h⟩

set_option maxRecDepth 100000 in
set_option maxHeartbeats 8000000 in
theorem run_step (c : Cfg) (u : Int) (hd : Bool) (fuel : Nat) (IH : ∀ f, f + 1 = fuel → ∀ (l : List (Int × Int)) (tree : List Nd) (cnt : Nat), OpnV c l f → Fit c l → cnt ≤ 2048 → tree.length ≤ cnt → RunCH c u hd f l tree cnt) (l : List (Int × Int)) (tree : List Nd) (cnt : Nat) (hopn : OpnV c l fuel) (hfu : fuel ≤ (vars c).length) (hf : Fit c l) (hcnt : cnt ≤ 2048) (htl : tree.length ≤ cnt) :
    CallsH Tryz.prog 55 [.c (.ptr 0 0 0), I (((vars c).length - fuel : Nat) : Int)] [srB c u hd (.gs 2) cnt, .arr 64 (r2 l), .arr 68 (rN tree)] (runV (runN c u hd fuel l tree cnt)) [srB c u hd (.gs 3) (runN c u hd fuel l tree cnt).cnt, .arr 64 (r2 (runN c u hd fuel l tree cnt).l), .gone, .arr 68 (rN (runN c u hd fuel l tree cnt).tree)] := by
  have hg := good_of hf.val
  have hcc := hg.cells
  have hvl := varsOf_len c (order c)
  have hvl2 : (vars c).length ≤ 64 := by have := (order_ok c).1; have := hg.tenants; unfold vars; omega
  have hvr := r1_len (vars c)
  have hlr := r2_len l
  have hc2 := r2_len c.cells
  have hlen := hf.len
  have hT := hg.tenants
  have htr0 := rN_len tree
  refine callsR_of tab mixed Tryz.func55 rfl (by decide) rfl rfl ?_
  conv => whnf
  refine gv (by first | omega | (simp only []; omega) | (simp; omega)) (by first | omega | (simp only []; omega) | (simp; omega)) ?_
  conv => whnf
  rw [show ((cnt : Int) + 1) = ((cnt + 1 : Nat) : Int) by omega]
  refine spD (fun h => ?_) (fun h => ?_) <;> conv => whnf
  · have e : runN c u hd fuel l tree cnt = ⟨2, l, tree, cnt + 1⟩ := by unfold runN; rw [if_pos (by omega)]
    rw [e]
    refine ⟨[(0, some 0), (1, some 1), (3, some 2)], rfl, ?_⟩
    repeat' (first | exact trivial | rfl | refine And.intro ?_ ?_)
    all_goals (conv => whnf)
    repeat' (first | exact trivial | rfl | refine And.intro ?_ ?_)
  have hnl : ¬ 2048 < cnt + 1 := by omega
  refine ⟨by kernel_rfl, ?_⟩
  conv => whnf
  have ep := partial_c c u hd l hf
  rcases hP : partialL c u hd l with _ | ⟨b, bs⟩
  · rw [hP] at ep
    refine ⟨_, _, ep, ?_⟩
    conv => whnf
    refine spD (fun h => by simp [rB] at h) (fun _ => ?_)
    conv => whnf
    refine ⟨by kernel_rfl, ?_⟩
    conv => whnf
    have ee := Exceeded_c c u hd l hf
    rcases hE : exc c u l with _ | s
    · rw [hE] at ee
      refine ⟨_, _, ee, ?_⟩
      conv => whnf
      refine ⟨fun h => (by cases h), fun _ => ?_⟩
      conv => whnf
      cases fuel with
      | zero =>
        refine spE (fun _ => ?_) (fun h => absurd (by omega) h)
        conv => whnf
        have e : runN c u hd 0 l tree cnt = ⟨0, l, tree, cnt + 1⟩ := by unfold runN; rw [if_neg hnl, hP, hE]
        rw [e]
        refine ⟨[(0, some 0), (1, some 1), (3, some 2)], rfl, ?_⟩
        repeat' (first | exact trivial | rfl | refine And.intro ?_ ?_)
        all_goals (conv => whnf)
        repeat' (first | exact trivial | rfl | refine And.intro ?_ ?_)
      | succ fuel =>
        refine spE (fun h => by omega) (fun _ => ?_)
        conv => whnf
        obtain ⟨v, hv⟩ := get_of (l := vars c) (i := (vars c).length - (fuel + 1)) (by omega)
        have hvr' := vars_rng (List.mem_of_getElem? hv)
        have hopv := hopn _ v (Nat.le_refl _) hv
        have IH := IH fuel rfl
        obtain ⟨p, hp⟩ := get_of (l := l) (i := (v / 2).toNat) (by omega)
        have hq : IntKind.i64.wrap (v.tdiv 2) = v / 2 := by
          rw [Int.tdiv_eq_ediv_of_nonneg (by omega)]; exact wr (by omega) (by omega)
        have hrm : v.tmod 2 = v % 2 := Int.tmod_eq_emod_of_nonneg (by omega)
        let F : Nat → List Nd → Nat → SR := fun i tree cnt => runN c u hd fuel (setV l v i) tree cnt
        let st : Nat → SR := fun k => runC F l (usK u k) (tree ++ [⟨1, v, 0, brk0⟩]) (cnt + 1)
        have hrun : runN c u hd (fuel + 1) l tree cnt = st c.cells.length := by
          rw [runN, if_neg hnl, hP, hE]
          simp only [hv, Option.getD_some]
          rfl
        have hstok : ∀ k, k ≤ c.cells.length → (st k).code ≤ 2 ∧ cnt + 1 ≤ (st k).cnt ∧ (st k).tree.length + (cnt + 1) ≤ (tree ++ [(⟨1, v, 0, brk0⟩ : Nd)]).length + (st k).cnt ∧ (st k).cnt ≤ 2049 ∧ ((st k).code ≠ 2 → (st k).cnt ≤ 2048) ∧ ((st k).code = 1 → (st k).l = l) ∧ Fit c (st k).l := fun k hk =>
          runC_ok hf (fun i tree cnt hc hi => ⟨_, runN_ok u hd fuel _ tree cnt (fit_setV hf ⟨by omega, by omega⟩) hc⟩) (usK u k) _ _ (fun i hi => Nat.lt_of_lt_of_le (usK_lt hi) hk) (by omega)
        simp only [List.length_append, List.length_cons, List.length_nil] at hstok
        refine ⟨by omega, _, r1_get hv, ?_⟩
        conv => whnf
        refine ⟨by decide, .intro _ hq ?_⟩
        conv => whnf
        refine ⟨by omega, by omega, ?_⟩
        conv => whnf
        refine ⟨by decide, .intro _ hrm ?_⟩
        conv => whnf
        refine spE (fun hmod => ?_) (fun hmod => ?_) <;> conv => whnf
        · refine ⟨by decide, .intro _ hq ?_⟩
          conv => whnf
          refine ⟨by omega, by omega, ?_⟩
          conv => whnf
          have hrowf : ∀ y : Int, (r2 (setV l v y))[(v / 2).toNat]? = some [i64 p.1, i64 y] := fun y => setV_row_odd hmod hp y
          have hsetf : ∀ y z : Int, (r2 (setV l v y)).set (v / 2).toNat [i64 p.1, i64 z] = r2 (setV l v z) := fun y z => setV_set_odd hmod hp y z
          have hback : setV l v (-1) = l := setV_back_odd hmod hp (by unfold getV at hopv; rw [hp] at hopv; simpa [hmod] using hopv)
          refine ⟨row8 _ _ _ _ _ _ _ _, ⟨by simp <;> omega⟩, ?_⟩
          conv => whnf
          have htr : rN tree ++ [[i64 1, i64 v, i64 0, i64 0, i64 0, i64 0, i64 0, i64 0]] = rN (tree ++ [⟨1, v, 0, brk0⟩]) := by simp [rN]
          rw [htr]
          refine loopR tab mixed (ι := { s : Nat × Int // s.1 ≤ c.cells.length ∧ (st s.1).code = 1 }) (fun s => [(126, I s.1.1), (116, .top)]) (fun s => [(0, srB c u hd (.gs 5) (st s.1.1).cnt), (1, .arr 64 (r2 (setV l v s.1.2))), (5, .arr 68 (rN (st s.1.1).tree))]) 51 (fun s => c.cells.length - s.1.1) ⟨(0, -1), by omega, rfl⟩ [(0, some 0), (1, some 1), (5, some 5)] ?_
          conv => whnf
          refine ⟨?_, ?_⟩
          · repeat' (first | exact trivial | rfl | refine And.intro ?_ ?_)
            all_goals (conv => whnf)
            repeat' (first | exact trivial | rfl | refine And.intro ?_ ?_)
            exact congrArg r2 hback
          rintro ⟨⟨k, y⟩, hk, hcode⟩
          dsimp only at hk hcode ⊢
          have hok := hstok k hk
          conv => whnf
          refine spD (fun h3 => ?_) (fun h3 => ?_) <;> conv => whnf
          · have hk' : k < c.cells.length := by omega
            refine ⟨by omega, shr_eq (by omega) (by omega) ?_⟩
            conv => whnf
            refine .intro _ (and1 _) ?_
            conv => whnf
            refine spE (fun h4 => ?_) (fun h4 => ?_) <;> conv => whnf
            · have hb : bit u k = false := by simp only [bit, decide_eq_false_iff_not]; omega
              have est : st (k + 1) = st k := runC_skip hb
              refine gv (by first | omega | (simp only []; omega) | (simp; omega)) (by first | omega | (simp only []; omega) | (simp; omega)) ?_
              conv => whnf
              refine ⟨⟨(k + 1, y), hk', by rw [est]; exact hcode⟩, [(0, some 0), (1, some 1), (5, some 5)], ?_, by show c.cells.length - (k + 1) < c.cells.length - k; omega⟩
              repeat' (first | exact trivial | rfl | refine And.intro ?_ ?_)
              all_goals (conv => whnf)
              repeat' (first | exact trivial | rfl | refine And.intro ?_ ?_)
              all_goals rw [est]
            · have hb : bit u k = true := by simp only [bit, decide_eq_true_eq]; omega
              refine ⟨_, hrowf y, ?_⟩
              conv => whnf
              rw [hsetf]
              refine gv (by first | omega | (simp only []; omega) | (simp; omega)) (by first | omega | (simp only []; omega) | (simp; omega)) ?_
              conv => whnf
              rw [show ((((vars c).length - (fuel + 1) : Nat) : Int) + 1) = (((vars c).length - fuel : Nat) : Int) by omega]
              refine ⟨_, _, IH (setV l v k) (st k).tree (st k).cnt (hopn.next hfu hv k) (fit_setV hf ⟨by omega, by omega⟩) (by omega) (by omega), ?_⟩
              conv => whnf
              have hs := runN_ok u hd fuel (setV l v k) (st k).tree (st k).cnt (fit_setV hf ⟨by omega, by omega⟩) (by omega)
              have hF : ∀ s, runN c u hd fuel (setV l v k) (st k).tree (st k).cnt = s → F k (st k).tree (st k).cnt = s := fun s h => h
              generalize hres : runN c u hd fuel (setV l v k) (st k).tree (st k).cnt = s at hs ⊢
              have hF := hF s hres
              have hsc := hs.code
              refine spE' (fun h5 => ?_) (fun h5 => ?_) <;> conv => whnf
              · have e : runN c u hd (fuel + 1) l tree cnt = s := by rw [hrun]; show st c.cells.length = s; rw [← hF]; exact runC_stop hk' hb hcode (by rw [hF]; omega)
                rw [e]
                refine ⟨[(0, some 0), (1, some 1), (3, some 51)], rfl, ?_⟩
                repeat' (first | exact trivial | rfl | refine And.intro ?_ ?_)
                all_goals (conv => whnf)
                repeat' (first | exact trivial | rfl | refine And.intro ?_ ?_)
              · refine spNe2 (fun h6 => ?_) (fun h6 => ?_) <;> conv => whnf
                · have e : runN c u hd (fuel + 1) l tree cnt = s := by rw [hrun]; show st c.cells.length = s; rw [← hF]; exact runC_stop hk' hb hcode (by rw [hF]; omega)
                  rw [e]
                  refine ⟨[(0, some 0), (1, some 1), (3, some 51)], rfl, ?_⟩
                  repeat' (first | exact trivial | rfl | refine And.intro ?_ ?_)
                  all_goals (conv => whnf)
                  repeat' (first | exact trivial | rfl | refine And.intro ?_ ?_)
                · have est : st (k + 1) = ⟨1, l, s.tree, s.cnt⟩ := by rw [← hF]; exact runC_step hb hcode (by rw [hF]; omega)
                  have hsl : s.l = setV l v k := hs.back (by omega)
                  refine gv (by first | omega | (simp only []; omega) | (simp; omega)) (by first | omega | (simp only []; omega) | (simp; omega)) ?_
                  conv => whnf
                  refine ⟨⟨(k + 1, k), hk', by rw [est]⟩, [(0, some 0), (1, some 1), (5, some 51)], ?_, by show c.cells.length - (k + 1) < c.cells.length - k; omega⟩
                  repeat' (first | exact trivial | rfl | refine And.intro ?_ ?_)
                  all_goals (conv => whnf)
                  repeat' (first | exact trivial | rfl | refine And.intro ?_ ?_)
                  all_goals first | rw [est] | rw [hsl]
          · have hk' : k = c.cells.length := by omega
            subst hk'
            have hsl : (st c.cells.length).l = l := (hstok c.cells.length hk).2.2.2.2.2.1 hcode
            have e : runN c u hd (fuel + 1) l tree cnt = ⟨1, l, (st c.cells.length).tree, (st c.cells.length).cnt⟩ := by rw [hrun]; exact SR_ext hcode hsl
            rw [e]
            refine ⟨_, hrowf y, ?_⟩
            conv => whnf
            rw [hsetf, hback]
            refine ⟨[(0, some 0), (1, some 1), (3, some 5)], rfl, ?_⟩
            repeat' (first | exact trivial | rfl | refine And.intro ?_ ?_)
            all_goals (conv => whnf)
            repeat' (first | exact trivial | rfl | refine And.intro ?_ ?_)
        ·
          have hrowf : ∀ y : Int, (r2 (setV l v y))[(v / 2).toNat]? = some [i64 y, i64 p.2] := fun y => setV_row_even hmod hp y
          have hsetf : ∀ y z : Int, (r2 (setV l v y)).set (v / 2).toNat [i64 z, i64 p.2] = r2 (setV l v z) := fun y z => setV_set_even hmod hp y z
          have hback : setV l v (-1) = l := setV_back_even hmod hp (by unfold getV at hopv; rw [hp] at hopv; simpa [hmod] using hopv)
          refine ⟨row8 _ _ _ _ _ _ _ _, ⟨by simp <;> omega⟩, ?_⟩
          conv => whnf
          have htr : rN tree ++ [[i64 1, i64 v, i64 0, i64 0, i64 0, i64 0, i64 0, i64 0]] = rN (tree ++ [⟨1, v, 0, brk0⟩]) := by simp [rN]
          rw [htr]
          refine loopR tab mixed (ι := { s : Nat × Int // s.1 ≤ c.cells.length ∧ (st s.1).code = 1 }) (fun s => [(126, I s.1.1), (116, .top)]) (fun s => [(0, srB c u hd (.gs 5) (st s.1.1).cnt), (1, .arr 64 (r2 (setV l v s.1.2))), (5, .arr 68 (rN (st s.1.1).tree))]) 51 (fun s => c.cells.length - s.1.1) ⟨(0, -1), by omega, rfl⟩ [(0, some 0), (1, some 1), (5, some 5)] ?_
          conv => whnf
          refine ⟨?_, ?_⟩
          · repeat' (first | exact trivial | rfl | refine And.intro ?_ ?_)
            all_goals (conv => whnf)
            repeat' (first | exact trivial | rfl | refine And.intro ?_ ?_)
            exact congrArg r2 hback
          rintro ⟨⟨k, y⟩, hk, hcode⟩
          dsimp only at hk hcode ⊢
          have hok := hstok k hk
          conv => whnf
          refine spD (fun h3 => ?_) (fun h3 => ?_) <;> conv => whnf
          · have hk' : k < c.cells.length := by omega
            refine ⟨by omega, shr_eq (by omega) (by omega) ?_⟩
            conv => whnf
            refine .intro _ (and1 _) ?_
            conv => whnf
            refine spE (fun h4 => ?_) (fun h4 => ?_) <;> conv => whnf
            · have hb : bit u k = false := by simp only [bit, decide_eq_false_iff_not]; omega
              have est : st (k + 1) = st k := runC_skip hb
              refine gv (by first | omega | (simp only []; omega) | (simp; omega)) (by first | omega | (simp only []; omega) | (simp; omega)) ?_
              conv => whnf
              refine ⟨⟨(k + 1, y), hk', by rw [est]; exact hcode⟩, [(0, some 0), (1, some 1), (5, some 5)], ?_, by show c.cells.length - (k + 1) < c.cells.length - k; omega⟩
              repeat' (first | exact trivial | rfl | refine And.intro ?_ ?_)
              all_goals (conv => whnf)
              repeat' (first | exact trivial | rfl | refine And.intro ?_ ?_)
              all_goals rw [est]
            · have hb : bit u k = true := by simp only [bit, decide_eq_true_eq]; omega
              refine ⟨_, hrowf y, ?_⟩
              conv => whnf
              rw [hsetf]
              refine gv (by first | omega | (simp only []; omega) | (simp; omega)) (by first | omega | (simp only []; omega) | (simp; omega)) ?_
              conv => whnf
              rw [show ((((vars c).length - (fuel + 1) : Nat) : Int) + 1) = (((vars c).length - fuel : Nat) : Int) by omega]
              refine ⟨_, _, IH (setV l v k) (st k).tree (st k).cnt (hopn.next hfu hv k) (fit_setV hf ⟨by omega, by omega⟩) (by omega) (by omega), ?_⟩
              conv => whnf
              have hs := runN_ok u hd fuel (setV l v k) (st k).tree (st k).cnt (fit_setV hf ⟨by omega, by omega⟩) (by omega)
              have hF : ∀ s, runN c u hd fuel (setV l v k) (st k).tree (st k).cnt = s → F k (st k).tree (st k).cnt = s := fun s h => h
              generalize hres : runN c u hd fuel (setV l v k) (st k).tree (st k).cnt = s at hs ⊢
              have hF := hF s hres
              have hsc := hs.code
              refine spE' (fun h5 => ?_) (fun h5 => ?_) <;> conv => whnf
              · have e : runN c u hd (fuel + 1) l tree cnt = s := by rw [hrun]; show st c.cells.length = s; rw [← hF]; exact runC_stop hk' hb hcode (by rw [hF]; omega)
                rw [e]
                refine ⟨[(0, some 0), (1, some 1), (3, some 51)], rfl, ?_⟩
                repeat' (first | exact trivial | rfl | refine And.intro ?_ ?_)
                all_goals (conv => whnf)
                repeat' (first | exact trivial | rfl | refine And.intro ?_ ?_)
              · refine spNe2 (fun h6 => ?_) (fun h6 => ?_) <;> conv => whnf
                · have e : runN c u hd (fuel + 1) l tree cnt = s := by rw [hrun]; show st c.cells.length = s; rw [← hF]; exact runC_stop hk' hb hcode (by rw [hF]; omega)
                  rw [e]
                  refine ⟨[(0, some 0), (1, some 1), (3, some 51)], rfl, ?_⟩
                  repeat' (first | exact trivial | rfl | refine And.intro ?_ ?_)
                  all_goals (conv => whnf)
                  repeat' (first | exact trivial | rfl | refine And.intro ?_ ?_)
                · have est : st (k + 1) = ⟨1, l, s.tree, s.cnt⟩ := by rw [← hF]; exact runC_step hb hcode (by rw [hF]; omega)
                  have hsl : s.l = setV l v k := hs.back (by omega)
                  refine gv (by first | omega | (simp only []; omega) | (simp; omega)) (by first | omega | (simp only []; omega) | (simp; omega)) ?_
                  conv => whnf
                  refine ⟨⟨(k + 1, k), hk', by rw [est]⟩, [(0, some 0), (1, some 1), (5, some 51)], ?_, by show c.cells.length - (k + 1) < c.cells.length - k; omega⟩
                  repeat' (first | exact trivial | rfl | refine And.intro ?_ ?_)
                  all_goals (conv => whnf)
                  repeat' (first | exact trivial | rfl | refine And.intro ?_ ?_)
                  all_goals first | rw [est] | rw [hsl]
          · have hk' : k = c.cells.length := by omega
            subst hk'
            have hsl : (st c.cells.length).l = l := (hstok c.cells.length hk).2.2.2.2.2.1 hcode
            have e : runN c u hd (fuel + 1) l tree cnt = ⟨1, l, (st c.cells.length).tree, (st c.cells.length).cnt⟩ := by rw [hrun]; exact SR_ext hcode hsl
            rw [e]
            refine ⟨_, hrowf y, ?_⟩
            conv => whnf
            rw [hsetf, hback]
            refine ⟨[(0, some 0), (1, some 1), (3, some 5)], rfl, ?_⟩
            repeat' (first | exact trivial | rfl | refine And.intro ?_ ?_)
            all_goals (conv => whnf)
            repeat' (first | exact trivial | rfl | refine And.intro ?_ ?_)
    · rw [hE] at ee
      refine ⟨_, _, ee, ?_⟩
      conv => whnf
      refine ⟨fun _ => ?_, fun h => (by cases h)⟩
      conv => whnf
      refine ⟨row8 _ _ _ _ _ _ _ _, ⟨by simp <;> omega⟩, ?_⟩
      conv => whnf
      have e : runN c u hd fuel l tree cnt = ⟨1, l, tree ++ [⟨3, 0, s, brk0⟩], cnt + 1⟩ := by unfold runN; rw [if_neg hnl, hP, hE]
      rw [e]
      refine ⟨[(0, some 0), (1, some 1), (3, some 5)], rfl, ?_⟩
      repeat' (first | exact trivial | rfl | refine And.intro ?_ ?_)
      all_goals (conv => whnf)
      repeat' (first | exact trivial | rfl | refine And.intro ?_ ?_)
      simp [rN]
  · rw [hP] at ep
    refine ⟨_, _, ep, ?_⟩
    conv => whnf
    refine spD (fun _ => ?_) (fun h => by simp [rB] at h)
    conv => whnf
    refine ⟨by kernel_rfl, ?_⟩
    conv => whnf
    refine ⟨by decide, by simp [rB], ?_⟩
    conv => whnf
    refine ⟨_, rfl, ?_⟩
    conv => whnf
    refine ⟨row8 _ _ _ _ _ _ _ _, ⟨by simp <;> omega⟩, ?_⟩
    conv => whnf
    have e : runN c u hd fuel l tree cnt = ⟨1, l, tree ++ [⟨2, 0, 0, b⟩], cnt + 1⟩ := by unfold runN; rw [if_neg hnl, hP]
    rw [e]
    refine ⟨[(0, some 0), (1, some 1), (3, some 5)], rfl, ?_⟩
    repeat' (first | exact trivial | rfl | refine And.intro ?_ ?_)
    all_goals (conv => whnf)
    repeat' (first | exact trivial | rfl | refine And.intro ?_ ?_)
    simp [rN]

theorem run_c (c : Cfg) (u : Int) (hd : Bool) : ∀ (fuel : Nat), fuel ≤ (vars c).length → ∀ (l : List (Int × Int)) (tree : List Nd) (cnt : Nat), OpnV c l fuel → Fit c l → cnt ≤ 2048 → tree.length ≤ cnt → RunCH c u hd fuel l tree cnt
  | 0, hfu, l, tree, cnt, ho, hf, hc, ht => run_step c u hd 0 (fun f h => by omega) l tree cnt ho hfu hf hc ht
  | fuel + 1, hfu, l, tree, cnt, ho, hf, hc, ht => run_step c u hd (fuel + 1) (fun f h => by
      have : f = fuel := by omega
      subst this
      exact run_c c u hd f (by omega)) l tree cnt ho hfu hf hc ht

set_option maxRecDepth 100000 in
set_option maxHeartbeats 8000000 in
theorem run0_step (c : Cfg) (u : Int) (hd : Bool) (fuel : Nat) (IH : ∀ f, f + 1 = fuel → ∀ (l : List (Int × Int)) (tree : List Nd) (cnt : Nat), OpnV c l f → Fit c l → cnt ≤ 2048 → tree.length ≤ cnt → RunCH c u hd f l tree cnt) (l : List (Int × Int)) (cnt : Nat) (hopn : OpnV c l fuel) (hfu : fuel ≤ (vars c).length) (hf : Fit c l) (hcnt : cnt ≤ 2047) :
    CallsH Tryz.prog 55 [.c (.ptr 0 0 0), I (((vars c).length - fuel : Nat) : Int)] [srB c u hd (.ns) cnt, .arr 64 (r2 l)] (runV (runN c u hd fuel l [] cnt)) [srB c u hd (.gs 2) (runN c u hd fuel l [] cnt).cnt, .arr 64 (r2 (runN c u hd fuel l [] cnt).l), .arr 68 (rN (runN c u hd fuel l [] cnt).tree)] := by
  have hg := good_of hf.val
  have hcc := hg.cells
  have hvl := varsOf_len c (order c)
  have hvl2 : (vars c).length ≤ 64 := by have := (order_ok c).1; have := hg.tenants; unfold vars; omega
  have hvr := r1_len (vars c)
  have hlr := r2_len l
  have hc2 := r2_len c.cells
  have hlen := hf.len
  have hT := hg.tenants
  have htn : (rN ([] : List Nd)) = [] := rfl
  refine callsR_of tab mixed Tryz.func55 rfl (by decide) rfl rfl ?_
  conv => whnf
  refine gv (by first | omega | (simp only []; omega) | (simp; omega)) (by first | omega | (simp only []; omega) | (simp; omega)) ?_
  conv => whnf
  rw [show ((cnt : Int) + 1) = ((cnt + 1 : Nat) : Int) by omega]
  refine spD (fun h => ?_) (fun h => ?_) <;> conv => whnf
  · omega
  have hnl : ¬ 2048 < cnt + 1 := by omega
  refine ⟨by kernel_rfl, ?_⟩
  conv => whnf
  have ep := partial_c c u hd l hf
  rcases hP : partialL c u hd l with _ | ⟨b, bs⟩
  · rw [hP] at ep
    refine ⟨_, _, ep, ?_⟩
    conv => whnf
    refine spD (fun h => by simp [rB] at h) (fun _ => ?_)
    conv => whnf
    refine ⟨by kernel_rfl, ?_⟩
    conv => whnf
    have ee := Exceeded_c c u hd l hf
    rcases hE : exc c u l with _ | s
    · rw [hE] at ee
      refine ⟨_, _, ee, ?_⟩
      conv => whnf
      refine ⟨fun h => (by cases h), fun _ => ?_⟩
      conv => whnf
      cases fuel with
      | zero =>
        refine spE (fun _ => ?_) (fun h => absurd (by omega) h)
        conv => whnf
        have e : runN c u hd 0 l [] cnt = ⟨0, l, [], cnt + 1⟩ := by unfold runN; rw [if_neg hnl, hP, hE]
        rw [e]
        refine ⟨[(0, some 0), (1, some 1), (2, none)], rfl, ?_⟩
        repeat' (first | exact trivial | rfl | refine And.intro ?_ ?_)
        all_goals (conv => whnf)
        repeat' (first | exact trivial | rfl | refine And.intro ?_ ?_)
      | succ fuel =>
        refine spE (fun h => by omega) (fun _ => ?_)
        conv => whnf
        obtain ⟨v, hv⟩ := get_of (l := vars c) (i := (vars c).length - (fuel + 1)) (by omega)
        have hvr' := vars_rng (List.mem_of_getElem? hv)
        have hopv := hopn _ v (Nat.le_refl _) hv
        have IH := IH fuel rfl
        obtain ⟨p, hp⟩ := get_of (l := l) (i := (v / 2).toNat) (by omega)
        have hq : IntKind.i64.wrap (v.tdiv 2) = v / 2 := by
          rw [Int.tdiv_eq_ediv_of_nonneg (by omega)]; exact wr (by omega) (by omega)
        have hrm : v.tmod 2 = v % 2 := Int.tmod_eq_emod_of_nonneg (by omega)
        let F : Nat → List Nd → Nat → SR := fun i tree cnt => runN c u hd fuel (setV l v i) tree cnt
        let st : Nat → SR := fun k => runC F l (usK u k) ([⟨1, v, 0, brk0⟩]) (cnt + 1)
        have hrun : runN c u hd (fuel + 1) l [] cnt = st c.cells.length := by
          rw [runN, if_neg hnl, hP, hE]
          simp only [hv, Option.getD_some]
          rfl
        have hstok : ∀ k, k ≤ c.cells.length → (st k).code ≤ 2 ∧ cnt + 1 ≤ (st k).cnt ∧ (st k).tree.length + (cnt + 1) ≤ ([(⟨1, v, 0, brk0⟩ : Nd)]).length + (st k).cnt ∧ (st k).cnt ≤ 2049 ∧ ((st k).code ≠ 2 → (st k).cnt ≤ 2048) ∧ ((st k).code = 1 → (st k).l = l) ∧ Fit c (st k).l := fun k hk =>
          runC_ok hf (fun i tree cnt hc hi => ⟨_, runN_ok u hd fuel _ tree cnt (fit_setV hf ⟨by omega, by omega⟩) hc⟩) (usK u k) _ _ (fun i hi => Nat.lt_of_lt_of_le (usK_lt hi) hk) (by omega)
        simp only [List.length_cons, List.length_nil] at hstok
        refine ⟨by omega, _, r1_get hv, ?_⟩
        conv => whnf
        refine ⟨by decide, .intro _ hq ?_⟩
        conv => whnf
        refine ⟨by omega, by omega, ?_⟩
        conv => whnf
        refine ⟨by decide, .intro _ hrm ?_⟩
        conv => whnf
        refine spE (fun hmod => ?_) (fun hmod => ?_) <;> conv => whnf
        · refine ⟨by decide, .intro _ hq ?_⟩
          conv => whnf
          refine ⟨by omega, by omega, ?_⟩
          conv => whnf
          have hrowf : ∀ y : Int, (r2 (setV l v y))[(v / 2).toNat]? = some [i64 p.1, i64 y] := fun y => setV_row_odd hmod hp y
          have hsetf : ∀ y z : Int, (r2 (setV l v y)).set (v / 2).toNat [i64 p.1, i64 z] = r2 (setV l v z) := fun y z => setV_set_odd hmod hp y z
          have hback : setV l v (-1) = l := setV_back_odd hmod hp (by unfold getV at hopv; rw [hp] at hopv; simpa [hmod] using hopv)
          refine ⟨row8 _ _ _ _ _ _ _ _, ⟨by simp <;> omega⟩, ?_⟩
          conv => whnf
          have htr : [[i64 1, i64 v, i64 0, i64 0, i64 0, i64 0, i64 0, i64 0]] = rN ([⟨1, v, 0, brk0⟩]) := by simp [rN]
          rw [htr]
          refine loopR tab mixed (ι := { s : Nat × Int // s.1 ≤ c.cells.length ∧ (st s.1).code = 1 }) (fun s => [(126, I s.1.1), (116, .top)]) (fun s => [(0, srB c u hd (.gs 4) (st s.1.1).cnt), (1, .arr 64 (r2 (setV l v s.1.2))), (4, .arr 68 (rN (st s.1.1).tree))]) 51 (fun s => c.cells.length - s.1.1) ⟨(0, -1), by omega, rfl⟩ [(0, some 0), (1, some 1), (4, some 4)] ?_
          conv => whnf
          refine ⟨?_, ?_⟩
          · repeat' (first | exact trivial | rfl | refine And.intro ?_ ?_)
            all_goals (conv => whnf)
            repeat' (first | exact trivial | rfl | refine And.intro ?_ ?_)
            exact congrArg r2 hback
          rintro ⟨⟨k, y⟩, hk, hcode⟩
          dsimp only at hk hcode ⊢
          have hok := hstok k hk
          conv => whnf
          refine spD (fun h3 => ?_) (fun h3 => ?_) <;> conv => whnf
          · have hk' : k < c.cells.length := by omega
            refine ⟨by omega, shr_eq (by omega) (by omega) ?_⟩
            conv => whnf
            refine .intro _ (and1 _) ?_
            conv => whnf
            refine spE (fun h4 => ?_) (fun h4 => ?_) <;> conv => whnf
            · have hb : bit u k = false := by simp only [bit, decide_eq_false_iff_not]; omega
              have est : st (k + 1) = st k := runC_skip hb
              refine gv (by first | omega | (simp only []; omega) | (simp; omega)) (by first | omega | (simp only []; omega) | (simp; omega)) ?_
              conv => whnf
              refine ⟨⟨(k + 1, y), hk', by rw [est]; exact hcode⟩, [(0, some 0), (1, some 1), (4, some 4)], ?_, by show c.cells.length - (k + 1) < c.cells.length - k; omega⟩
              repeat' (first | exact trivial | rfl | refine And.intro ?_ ?_)
              all_goals (conv => whnf)
              repeat' (first | exact trivial | rfl | refine And.intro ?_ ?_)
              all_goals rw [est]
            · have hb : bit u k = true := by simp only [bit, decide_eq_true_eq]; omega
              refine ⟨_, hrowf y, ?_⟩
              conv => whnf
              rw [hsetf]
              refine gv (by first | omega | (simp only []; omega) | (simp; omega)) (by first | omega | (simp only []; omega) | (simp; omega)) ?_
              conv => whnf
              rw [show ((((vars c).length - (fuel + 1) : Nat) : Int) + 1) = (((vars c).length - fuel : Nat) : Int) by omega]
              refine ⟨_, _, IH (setV l v k) (st k).tree (st k).cnt (hopn.next hfu hv k) (fit_setV hf ⟨by omega, by omega⟩) (by omega) (by omega), ?_⟩
              conv => whnf
              have hs := runN_ok u hd fuel (setV l v k) (st k).tree (st k).cnt (fit_setV hf ⟨by omega, by omega⟩) (by omega)
              have hF : ∀ s, runN c u hd fuel (setV l v k) (st k).tree (st k).cnt = s → F k (st k).tree (st k).cnt = s := fun s h => h
              generalize hres : runN c u hd fuel (setV l v k) (st k).tree (st k).cnt = s at hs ⊢
              have hF := hF s hres
              have hsc := hs.code
              refine spE' (fun h5 => ?_) (fun h5 => ?_) <;> conv => whnf
              · have e : runN c u hd (fuel + 1) l [] cnt = s := by rw [hrun]; show st c.cells.length = s; rw [← hF]; exact runC_stop hk' hb hcode (by rw [hF]; omega)
                rw [e]
                refine ⟨[(0, some 0), (1, some 1), (2, some 51)], rfl, ?_⟩
                repeat' (first | exact trivial | rfl | refine And.intro ?_ ?_)
                all_goals (conv => whnf)
                repeat' (first | exact trivial | rfl | refine And.intro ?_ ?_)
              · refine spNe2 (fun h6 => ?_) (fun h6 => ?_) <;> conv => whnf
                · have e : runN c u hd (fuel + 1) l [] cnt = s := by rw [hrun]; show st c.cells.length = s; rw [← hF]; exact runC_stop hk' hb hcode (by rw [hF]; omega)
                  rw [e]
                  refine ⟨[(0, some 0), (1, some 1), (2, some 51)], rfl, ?_⟩
                  repeat' (first | exact trivial | rfl | refine And.intro ?_ ?_)
                  all_goals (conv => whnf)
                  repeat' (first | exact trivial | rfl | refine And.intro ?_ ?_)
                · have est : st (k + 1) = ⟨1, l, s.tree, s.cnt⟩ := by rw [← hF]; exact runC_step hb hcode (by rw [hF]; omega)
                  have hsl : s.l = setV l v k := hs.back (by omega)
                  refine gv (by first | omega | (simp only []; omega) | (simp; omega)) (by first | omega | (simp only []; omega) | (simp; omega)) ?_
                  conv => whnf
                  refine ⟨⟨(k + 1, k), hk', by rw [est]⟩, [(0, some 0), (1, some 1), (4, some 51)], ?_, by show c.cells.length - (k + 1) < c.cells.length - k; omega⟩
                  repeat' (first | exact trivial | rfl | refine And.intro ?_ ?_)
                  all_goals (conv => whnf)
                  repeat' (first | exact trivial | rfl | refine And.intro ?_ ?_)
                  all_goals first | rw [est] | rw [hsl]
          · have hk' : k = c.cells.length := by omega
            subst hk'
            have hsl : (st c.cells.length).l = l := (hstok c.cells.length hk).2.2.2.2.2.1 hcode
            have e : runN c u hd (fuel + 1) l [] cnt = ⟨1, l, (st c.cells.length).tree, (st c.cells.length).cnt⟩ := by rw [hrun]; exact SR_ext hcode hsl
            rw [e]
            refine ⟨_, hrowf y, ?_⟩
            conv => whnf
            rw [hsetf, hback]
            refine ⟨[(0, some 0), (1, some 1), (2, some 4)], rfl, ?_⟩
            repeat' (first | exact trivial | rfl | refine And.intro ?_ ?_)
            all_goals (conv => whnf)
            repeat' (first | exact trivial | rfl | refine And.intro ?_ ?_)
        ·
          have hrowf : ∀ y : Int, (r2 (setV l v y))[(v / 2).toNat]? = some [i64 y, i64 p.2] := fun y => setV_row_even hmod hp y
          have hsetf : ∀ y z : Int, (r2 (setV l v y)).set (v / 2).toNat [i64 z, i64 p.2] = r2 (setV l v z) := fun y z => setV_set_even hmod hp y z
          have hback : setV l v (-1) = l := setV_back_even hmod hp (by unfold getV at hopv; rw [hp] at hopv; simpa [hmod] using hopv)
          refine ⟨row8 _ _ _ _ _ _ _ _, ⟨by simp <;> omega⟩, ?_⟩
          conv => whnf
          have htr : [[i64 1, i64 v, i64 0, i64 0, i64 0, i64 0, i64 0, i64 0]] = rN ([⟨1, v, 0, brk0⟩]) := by simp [rN]
          rw [htr]
          refine loopR tab mixed (ι := { s : Nat × Int // s.1 ≤ c.cells.length ∧ (st s.1).code = 1 }) (fun s => [(126, I s.1.1), (116, .top)]) (fun s => [(0, srB c u hd (.gs 4) (st s.1.1).cnt), (1, .arr 64 (r2 (setV l v s.1.2))), (4, .arr 68 (rN (st s.1.1).tree))]) 51 (fun s => c.cells.length - s.1.1) ⟨(0, -1), by omega, rfl⟩ [(0, some 0), (1, some 1), (4, some 4)] ?_
          conv => whnf
          refine ⟨?_, ?_⟩
          · repeat' (first | exact trivial | rfl | refine And.intro ?_ ?_)
            all_goals (conv => whnf)
            repeat' (first | exact trivial | rfl | refine And.intro ?_ ?_)
            exact congrArg r2 hback
          rintro ⟨⟨k, y⟩, hk, hcode⟩
          dsimp only at hk hcode ⊢
          have hok := hstok k hk
          conv => whnf
          refine spD (fun h3 => ?_) (fun h3 => ?_) <;> conv => whnf
          · have hk' : k < c.cells.length := by omega
            refine ⟨by omega, shr_eq (by omega) (by omega) ?_⟩
            conv => whnf
            refine .intro _ (and1 _) ?_
            conv => whnf
            refine spE (fun h4 => ?_) (fun h4 => ?_) <;> conv => whnf
            · have hb : bit u k = false := by simp only [bit, decide_eq_false_iff_not]; omega
              have est : st (k + 1) = st k := runC_skip hb
              refine gv (by first | omega | (simp only []; omega) | (simp; omega)) (by first | omega | (simp only []; omega) | (simp; omega)) ?_
              conv => whnf
              refine ⟨⟨(k + 1, y), hk', by rw [est]; exact hcode⟩, [(0, some 0), (1, some 1), (4, some 4)], ?_, by show c.cells.length - (k + 1) < c.cells.length - k; omega⟩
              repeat' (first | exact trivial | rfl | refine And.intro ?_ ?_)
              all_goals (conv => whnf)
              repeat' (first | exact trivial | rfl | refine And.intro ?_ ?_)
              all_goals rw [est]
            · have hb : bit u k = true := by simp only [bit, decide_eq_true_eq]; omega
              refine ⟨_, hrowf y, ?_⟩
              conv => whnf
              rw [hsetf]
              refine gv (by first | omega | (simp only []; omega) | (simp; omega)) (by first | omega | (simp only []; omega) | (simp; omega)) ?_
              conv => whnf
              rw [show ((((vars c).length - (fuel + 1) : Nat) : Int) + 1) = (((vars c).length - fuel : Nat) : Int) by omega]
              refine ⟨_, _, IH (setV l v k) (st k).tree (st k).cnt (hopn.next hfu hv k) (fit_setV hf ⟨by omega, by omega⟩) (by omega) (by omega), ?_⟩
              conv => whnf
              have hs := runN_ok u hd fuel (setV l v k) (st k).tree (st k).cnt (fit_setV hf ⟨by omega, by omega⟩) (by omega)
              have hF : ∀ s, runN c u hd fuel (setV l v k) (st k).tree (st k).cnt = s → F k (st k).tree (st k).cnt = s := fun s h => h
              generalize hres : runN c u hd fuel (setV l v k) (st k).tree (st k).cnt = s at hs ⊢
              have hF := hF s hres
              have hsc := hs.code
              refine spE' (fun h5 => ?_) (fun h5 => ?_) <;> conv => whnf
              · have e : runN c u hd (fuel + 1) l [] cnt = s := by rw [hrun]; show st c.cells.length = s; rw [← hF]; exact runC_stop hk' hb hcode (by rw [hF]; omega)
                rw [e]
                refine ⟨[(0, some 0), (1, some 1), (2, some 51)], rfl, ?_⟩
                repeat' (first | exact trivial | rfl | refine And.intro ?_ ?_)
                all_goals (conv => whnf)
                repeat' (first | exact trivial | rfl | refine And.intro ?_ ?_)
              · refine spNe2 (fun h6 => ?_) (fun h6 => ?_) <;> conv => whnf
                · have e : runN c u hd (fuel + 1) l [] cnt = s := by rw [hrun]; show st c.cells.length = s; rw [← hF]; exact runC_stop hk' hb hcode (by rw [hF]; omega)
                  rw [e]
                  refine ⟨[(0, some 0), (1, some 1), (2, some 51)], rfl, ?_⟩
                  repeat' (first | exact trivial | rfl | refine And.intro ?_ ?_)
                  all_goals (conv => whnf)
                  repeat' (first | exact trivial | rfl | refine And.intro ?_ ?_)
                · have est : st (k + 1) = ⟨1, l, s.tree, s.cnt⟩ := by rw [← hF]; exact runC_step hb hcode (by rw [hF]; omega)
                  have hsl : s.l = setV l v k := hs.back (by omega)
                  refine gv (by first | omega | (simp only []; omega) | (simp; omega)) (by first | omega | (simp only []; omega) | (simp; omega)) ?_
                  conv => whnf
                  refine ⟨⟨(k + 1, k), hk', by rw [est]⟩, [(0, some 0), (1, some 1), (4, some 51)], ?_, by show c.cells.length - (k + 1) < c.cells.length - k; omega⟩
                  repeat' (first | exact trivial | rfl | refine And.intro ?_ ?_)
                  all_goals (conv => whnf)
                  repeat' (first | exact trivial | rfl | refine And.intro ?_ ?_)
                  all_goals first | rw [est] | rw [hsl]
          · have hk' : k = c.cells.length := by omega
            subst hk'
            have hsl : (st c.cells.length).l = l := (hstok c.cells.length hk).2.2.2.2.2.1 hcode
            have e : runN c u hd (fuel + 1) l [] cnt = ⟨1, l, (st c.cells.length).tree, (st c.cells.length).cnt⟩ := by rw [hrun]; exact SR_ext hcode hsl
            rw [e]
            refine ⟨_, hrowf y, ?_⟩
            conv => whnf
            rw [hsetf, hback]
            refine ⟨[(0, some 0), (1, some 1), (2, some 4)], rfl, ?_⟩
            repeat' (first | exact trivial | rfl | refine And.intro ?_ ?_)
            all_goals (conv => whnf)
            repeat' (first | exact trivial | rfl | refine And.intro ?_ ?_)
    · rw [hE] at ee
      refine ⟨_, _, ee, ?_⟩
      conv => whnf
      refine ⟨fun _ => ?_, fun h => (by cases h)⟩
      conv => whnf
      refine ⟨row8 _ _ _ _ _ _ _ _, ⟨by simp <;> omega⟩, ?_⟩
      conv => whnf
      have e : runN c u hd fuel l [] cnt = ⟨1, l, [⟨3, 0, s, brk0⟩], cnt + 1⟩ := by unfold runN; rw [if_neg hnl, hP, hE]; rfl
      rw [e]
      refine ⟨[(0, some 0), (1, some 1), (2, some 4)], rfl, ?_⟩
      repeat' (first | exact trivial | rfl | refine And.intro ?_ ?_)
      all_goals (conv => whnf)
      repeat' (first | exact trivial | rfl | refine And.intro ?_ ?_)
  · rw [hP] at ep
    refine ⟨_, _, ep, ?_⟩
    conv => whnf
    refine spD (fun _ => ?_) (fun h => by simp [rB] at h)
    conv => whnf
    refine ⟨by kernel_rfl, ?_⟩
    conv => whnf
    refine ⟨by decide, by simp [rB], ?_⟩
    conv => whnf
    refine ⟨_, rfl, ?_⟩
    conv => whnf
    refine ⟨row8 _ _ _ _ _ _ _ _, ⟨by simp <;> omega⟩, ?_⟩
    conv => whnf
    have e : runN c u hd fuel l [] cnt = ⟨1, l, [⟨2, 0, 0, b⟩], cnt + 1⟩ := by unfold runN; rw [if_neg hnl, hP]; rfl
    rw [e]
    refine ⟨[(0, some 0), (1, some 1), (2, some 4)], rfl, ?_⟩
    repeat' (first | exact trivial | rfl | refine And.intro ?_ ?_)
    all_goals (conv => whnf)
    repeat' (first | exact trivial | rfl | refine And.intro ?_ ?_)

end Go.Proofs.YtelnligfebjjiaaGreat
