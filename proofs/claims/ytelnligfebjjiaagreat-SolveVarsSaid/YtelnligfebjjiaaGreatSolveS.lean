/- Contracts: the reference's (*search).run. Conditions: those ahead of each theorem. -/
import Derived.Test.YtelnligfebjjiaaGreatSolveL
import Derived.Test.YtelnligfebjjiaaGreatCertS
namespace Go.Proofs.YtelnligfebjjiaaGreat
open Go Go.Cpl

theorem spYes {b : Bool} (hb : b = true) {A C : Prop} (h : A) : (b = true → A) ∧ (b = false → C) := ⟨fun _ => h, fun h => (by rw [hb] at h; cases h)⟩

theorem spNo {b : Bool} (hb : b = false) {A C : Prop} (h : C) : (b = true → A) ∧ (b = false → C) := ⟨fun h => (by rw [hb] at h; cases h), fun _ => h⟩

abbrev srR (c : Cfg) (u : Int) (hd : Bool) (tr fd : AC) (dn : Bool) (n : Nat) : HObj := .box [.d (i64 c.regions), .d (.sl (r1 c.zones)), .d (.sl (r2 c.cells)), .d (.sl (rT c.tenants)), .d (.sl (r2 c.versions)), .d (.sl (r1 c.replicas)), .d (.sl (r1 c.observers)), .d (i64 c.blast), .d (i64 c.lease), .d (i64 c.bake), .d (i64 u), .d (.bool hd), .d (.sl (r1 (vars c))), tr, fd, .d (.bool dn), .d (i64 n)]

/-- the variables ahead of a place are filled -/
def FilV (c : Cfg) (l : List (Int × Int)) (fuel : Nat) : Prop := ∀ (j : Nat) (w : Int), j < (vars c).length - fuel → (vars c)[j]? = some w → getV l w ≠ -1

theorem FilV.next {c : Cfg} {l : List (Int × Int)} {fuel : Nat} (h : FilV c l (fuel + 1)) (hf : fuel + 1 ≤ (vars c).length) (hl : l.length = c.tenants.length) {v : Int} (hv : (vars c)[(vars c).length - (fuel + 1)]? = some v) (x : Nat) : FilV c (setV l v x) fuel := fun j w hj hw => by
  have hvr := vars_rng (List.mem_of_getElem? hv)
  by_cases hjj : j = (vars c).length - (fuel + 1)
  · subst hjj
    rw [hv] at hw; cases hw
    rw [getV_setV_self hvr.1 (by omega)]
    omega
  · rw [getV_setV_ne hvr.1 (vars_rng (List.mem_of_getElem? hw)).1 (vars_ne hv hw (fun e => hjj e.symm))]
    exact h j w (by omega) hw

/-- the first open variable among the last ones -/
def wv (c : Cfg) (fuel k : Nat) : Int := if min k fuel = 0 then -1 else ((vars c)[(vars c).length - min k fuel]?).getD 0

theorem runC_over {f : Nat → List Nd → Nat → SR} {l : List (Int × Int)} {u : Int} {k m : Nat} {t : List Nd} {n : Nat} (hk : k ≤ m) (h : (runC f l (usK u k) t n).code ≠ 1) : runC f l (usK u m) t n = runC f l (usK u k) t n := by
  obtain ⟨r, hr⟩ := usK_split u hk
  rw [hr, runC_app, if_neg h]

/-- the contract of the reference's run, of a placement and a tree -/
def RunRH (c : Cfg) (u : Int) (hd : Bool) (fuel : Nat) (l : List (Int × Int)) (tree : List Nd) (cnt : Nat) : Prop :=
  CallsH Tryz.prog 56 [.c (.ptr 0 0 0), plV l] [srR c u hd (.gs 1) (.d (.sl [])) false cnt, .arr 68 (rN tree)] (B ((runN c u hd fuel l tree cnt).code != 2)) [srR c u hd (.gs 2) (.d (.sl (r2 (findP (runN c u hd fuel l tree cnt))))) ((runN c u hd fuel l tree cnt).code == 0) (runN c u hd fuel l tree cnt).cnt, .gone, .arr 68 (rN (runN c u hd fuel l tree cnt).tree)]

set_option maxRecDepth 100000 in
set_option maxHeartbeats 8000000 in
theorem runR_step (c : Cfg) (u : Int) (hd : Bool) (fuel : Nat) (IH : ∀ f, f + 1 = fuel → ∀ (l : List (Int × Int)) (tree : List Nd) (cnt : Nat), OpnV c l f → FilV c l f → Fit c l → cnt ≤ 2048 → tree.length ≤ cnt → RunRH c u hd f l tree cnt) (l : List (Int × Int)) (tree : List Nd) (cnt : Nat) (hopn : OpnV c l fuel) (hfil : FilV c l fuel) (hfu : fuel ≤ (vars c).length) (hf : Fit c l) (hcnt : cnt ≤ 2048) (htl : tree.length ≤ cnt) :
    CallsH Tryz.prog 56 [.c (.ptr 0 0 0), plV l] [srR c u hd (.gs 1) (.d (.sl [])) false cnt, .arr 68 (rN tree)] (B ((runN c u hd fuel l tree cnt).code != 2)) [srR c u hd (.gs 2) (.d (.sl (r2 (findP (runN c u hd fuel l tree cnt))))) ((runN c u hd fuel l tree cnt).code == 0) (runN c u hd fuel l tree cnt).cnt, .gone, .arr 68 (rN (runN c u hd fuel l tree cnt).tree)] := by
  have hg := good_of hf.val
  have hcc := hg.cells
  have hvl := varsOf_len c (order c)
  have hvl2 : (vars c).length ≤ 64 := by have := (order_ok c).1; have := hg.tenants; unfold vars; omega
  have hvr := r1_len (vars c)
  have hlr := r2_len l
  have hc2 := r2_len c.cells
  have hlen := hf.len
  have hT := hg.tenants
  have htr0 := rN_len tree
  refine callsR_of tab mixed Tryz.func56 rfl (by decide) rfl rfl ?_
  conv => whnf
  refine gv (by first | omega | (simp only []; omega) | (simp; omega)) (by first | omega | (simp only []; omega) | (simp; omega)) ?_
  conv => whnf
  rw [show ((cnt : Int) + 1) = ((cnt + 1 : Nat) : Int) by omega]
  refine spD (fun h => ?_) (fun h => ?_) <;> conv => whnf
  · have e : runN c u hd fuel l tree cnt = ⟨2, l, tree, cnt + 1⟩ := by unfold runN; rw [if_pos (by omega)]
    rw [e]
    refine ⟨[(0, some 0), (2, some 1)], rfl, ?_⟩
    repeat' (first | exact trivial | rfl | refine And.intro ?_ ?_)
    all_goals (conv => whnf)
    repeat' (first | exact trivial | rfl | refine And.intro ?_ ?_)
  have hnl : ¬ 2048 < cnt + 1 := by omega
  have ep := refPartial_c c u hd l hf
  rcases hP : partialL c u hd l with _ | ⟨b, bs⟩
  · rw [hP] at ep
    refine ⟨_, _, ep, ?_⟩
    conv => whnf
    refine spD (fun h => by simp [rB] at h) (fun _ => ?_)
    conv => whnf
    have ee := refExceeded_c c u hd l hf
    rcases hE : exc c u l with _ | s
    · rw [hE] at ee
      refine ⟨_, _, ee, ?_⟩
      conv => whnf
      refine ⟨fun h => (by cases h), fun _ => ?_⟩
      conv => whnf
      refine gv (by first | omega | (simp only []; omega) | (simp; omega)) (by first | omega | (simp only []; omega) | (simp; omega)) ?_
      conv => whnf
      refine loopN tab mixed (fun k => k ≤ (vars c).length) (vars c).length (fun k => [(9, I ((vars c).length - 1 - k)), (8, I (wv c fuel k))]) (fun _ => []) 51 [] (by omega) ?_
      conv => whnf
      refine ⟨?_, fun k hk => ?_⟩
      · repeat' (first | exact trivial | rfl | refine And.intro ?_ ?_)
        all_goals (conv => whnf)
        repeat' (first | exact trivial | rfl | refine And.intro ?_ ?_)
        all_goals first | omega | (rw [hvr]; simp)
      conv => whnf
      refine spD (fun h1 => ?_) (fun h1 => ?_) <;> conv => whnf
      · have hk' : k < (vars c).length := by omega
        obtain ⟨w, hw⟩ := get_of (l := vars c) (i := (vars c).length - (k + 1)) (by omega)
        have hwr := vars_rng (List.mem_of_getElem? hw)
        have hw' : (vars c)[((((vars c).length : Int) - 1 - k)).toNat]? = some w := by rw [← hw]; congr 1; omega
        refine ⟨by kernel_rfl, ?_⟩
        conv => whnf
        refine ⟨by omega, _, r1_get hw', ?_⟩
        conv => whnf
        refine ⟨_, _, open19_c c u hd l w hf (by omega), ?_⟩
        conv => whnf
        rcases ho : openV c l w with _ | _
        · refine ⟨fun h => (by cases h), fun _ => ?_⟩
          conv => whnf
          refine gv (by first | omega | (simp only []; omega) | (simp; omega)) (by first | omega | (simp only []; omega) | (simp; omega)) ?_
          conv => whnf
          have hkf : fuel ≤ k := by
            rcases Nat.lt_or_ge k fuel with h | h
            · have := vars_open hlen (List.mem_of_getElem? hw) (hopn _ w (by omega) hw)
              rw [ho] at this; cases this
            · exact h
          have ew : wv c fuel (k + 1) = wv c fuel k := by unfold wv; rw [Nat.min_eq_right (by omega), Nat.min_eq_right (by omega)]
          refine ⟨⟨hk', hk'⟩, [], ?_⟩
          repeat' (first | exact trivial | rfl | refine And.intro ?_ ?_)
          all_goals (conv => whnf)
          repeat' (first | exact trivial | rfl | refine And.intro ?_ ?_)
          all_goals first | rw [ew] | omega
        · refine ⟨fun _ => ?_, fun h => (by cases h)⟩
          conv => whnf
          refine ⟨by omega, _, r1_get hw', ?_⟩
          conv => whnf
          refine gv (by first | omega | (simp only []; omega) | (simp; omega)) (by first | omega | (simp only []; omega) | (simp; omega)) ?_
          conv => whnf
          have hkf : k < fuel := by
            rcases Nat.lt_or_ge k fuel with h | h
            · exact h
            · have h2 := hfil _ w (by omega) hw
              simp only [openV, Bool.and_eq_true, decide_eq_true_eq] at ho
              exact absurd ho.1.2.2 h2
          have ew : wv c fuel (k + 1) = w := by
            unfold wv
            rw [Nat.min_eq_left (by omega), if_neg (by omega), hw]; rfl
          refine ⟨⟨hk', hk'⟩, [], ?_⟩
          repeat' (first | exact trivial | rfl | refine And.intro ?_ ?_)
          all_goals (conv => whnf)
          repeat' (first | exact trivial | rfl | refine And.intro ?_ ?_)
          all_goals first | rw [ew] | omega
      have hke : k = (vars c).length := by omega
      cases fuel with
      | zero =>
        have ew : wv c 0 k = -1 := by unfold wv; simp
        rw [ew]
        refine spD (fun _ => ?_) (fun h => absurd (by decide) h)
        conv => whnf
        have e : runN c u hd 0 l tree cnt = ⟨0, l, tree, cnt + 1⟩ := by unfold runN; rw [if_neg hnl, hP, hE]
        rw [e]
        refine ⟨[(0, some 0), (2, some 1)], rfl, ?_⟩
        repeat' (first | exact trivial | rfl | refine And.intro ?_ ?_)
        all_goals (conv => whnf)
        repeat' (first | exact trivial | rfl | refine And.intro ?_ ?_)
      | succ fuel =>
        obtain ⟨v, hv⟩ := get_of (l := vars c) (i := (vars c).length - (fuel + 1)) (by omega)
        have ew : wv c (fuel + 1) k = v := by
          unfold wv
          rw [hke, Nat.min_eq_right hfu, if_neg (by omega), hv]; rfl
        rw [ew]
        have hvr' := vars_rng (List.mem_of_getElem? hv)
        refine spD (fun h => by omega) (fun _ => ?_)
        conv => whnf
        have IH := IH fuel rfl
        let F : Nat → List Nd → Nat → SR := fun i tree cnt => runN c u hd fuel (setV l v i) tree cnt
        let st : Nat → SR := fun k => runC F l (usK u k) (tree ++ [⟨1, v, 0, brk0⟩]) (cnt + 1)
        have hrun : runN c u hd (fuel + 1) l tree cnt = st c.cells.length := by
          rw [runN, if_neg hnl, hP, hE]
          simp only [hv, Option.getD_some]
          rfl
        have hstok : ∀ k, k ≤ c.cells.length → (st k).code ≤ 2 ∧ cnt + 1 ≤ (st k).cnt ∧ (st k).tree.length + (cnt + 1) ≤ (tree ++ [(⟨1, v, 0, brk0⟩ : Nd)]).length + (st k).cnt ∧ (st k).cnt ≤ 2049 ∧ ((st k).code ≠ 2 → (st k).cnt ≤ 2048) ∧ ((st k).code = 1 → (st k).l = l) ∧ Fit c (st k).l := fun k hk =>
          runC_ok hf (fun i tree cnt hc hi => ⟨_, runN_ok u hd fuel _ tree cnt (fit_setV hf ⟨by omega, by omega⟩) hc⟩) (usK u k) _ _ (fun i hi => Nat.lt_of_lt_of_le (usK_lt hi) hk) (by omega)
        simp only [List.length_append, List.length_cons, List.length_nil] at hstok
        refine ⟨row8 _ _ _ _ _ _ _ _, ⟨by simp <;> omega⟩, ?_⟩
        conv => whnf
        have htr : rN tree ++ [[i64 1, i64 v, i64 0, i64 0, i64 0, i64 0, i64 0, i64 0]] = rN (tree ++ [⟨1, v, 0, brk0⟩]) := by simp [rN]
        rw [htr]
        refine loopR tab mixed (ι := { s : Nat // s ≤ c.cells.length ∧ (st s).code ≠ 2 }) (fun s => [(10, I s.1), (113, .top)]) (fun s => [(0, srR c u hd (.gs 52) (.d (.sl (r2 (findP (st s.1))))) ((st s.1).code == 0) (st s.1).cnt), (52, .arr 68 (rN (st s.1).tree))]) 60 (fun s => c.cells.length - s.1) ⟨0, by omega, by show (1 : Nat) ≠ 2; decide⟩ [(0, some 0), (52, some 52)] ?_
        conv => whnf
        refine ⟨?_, ?_⟩
        · repeat' (first | exact trivial | rfl | refine And.intro ?_ ?_)
          all_goals (conv => whnf)
          repeat' (first | exact trivial | rfl | refine And.intro ?_ ?_)
        rintro ⟨k, hk, hcode⟩
        dsimp only at hk hcode ⊢
        have hok := hstok k hk
        conv => whnf
        have hdone : (st k).code ≠ 1 → runN c u hd (fuel + 1) l tree cnt = st k := fun h => by
          rw [hrun]
          exact runC_over hk h
        refine spD (fun h3 => ?_) (fun h3 => ?_) <;> conv => whnf
        · have hk' : k < c.cells.length := by omega
          rcases Nat.eq_zero_or_pos (st k).code with hc0 | hc0
          · rw [hc0]
            refine ⟨fun h => (by cases h), fun _ => ?_⟩
            conv => whnf
            rw [hdone (by omega)]
            refine ⟨[(0, some 0), (2, some 52)], rfl, ?_⟩
            rw [hc0]
            repeat' (first | exact trivial | rfl | refine And.intro ?_ ?_)
            all_goals (conv => whnf)
            repeat' (first | exact trivial | rfl | refine And.intro ?_ ?_)
          have hc1 : (st k).code = 1 := by omega
          have hP0 : findP (st k) = [] := by unfold findP; rw [if_neg (by omega)]
          rw [hc1, hP0]
          refine ⟨fun _ => ?_, fun h => (by cases h)⟩
          conv => whnf
          refine ⟨_, _, has_c u k, ?_⟩
          conv => whnf
          rcases hb : bit u k with _ | _
          · refine ⟨fun h => (by cases h), fun _ => ?_⟩
            conv => whnf
            have est : st (k + 1) = st k := runC_skip hb
            refine gv (by first | omega | (simp only []; omega) | (simp; omega)) (by first | omega | (simp only []; omega) | (simp; omega)) ?_
            conv => whnf
            refine ⟨⟨k + 1, hk', by rw [est]; exact hcode⟩, [(0, some 0), (52, some 52)], ?_, by show c.cells.length - (k + 1) < c.cells.length - k; omega⟩
            dsimp only
            rw [est, hc1, hP0]
            repeat' (first | exact trivial | rfl | refine And.intro ?_ ?_)
            all_goals (conv => whnf)
            repeat' (first | exact trivial | rfl | refine And.intro ?_ ?_)
          · refine ⟨fun _ => ?_, fun h => (by cases h)⟩
            conv => whnf
            refine ⟨_, _, (filled_c l v k hvr'.1 (by omega) (by omega)).frozen, ?_⟩
            conv => whnf
            refine ⟨_, _, IH (setV l v k) (st k).tree (st k).cnt (hopn.next hfu hv k) (hfil.next hfu hlen hv k) (fit_setV hf ⟨by omega, by omega⟩) (by omega) (by omega), ?_⟩
            conv => whnf
            have hs := runN_ok u hd fuel (setV l v k) (st k).tree (st k).cnt (fit_setV hf ⟨by omega, by omega⟩) (by omega)
            have hF : ∀ s, runN c u hd fuel (setV l v k) (st k).tree (st k).cnt = s → F k (st k).tree (st k).cnt = s := fun s h => h
            generalize hres : runN c u hd fuel (setV l v k) (st k).tree (st k).cnt = s at hs ⊢
            have hF := hF s hres
            have hsc := hs.code
            rcases Nat.lt_or_ge s.code 2 with hs2 | hs2
            · refine spNo (by simp; omega) ?_
              conv => whnf
              have est : st (k + 1) = s ∨ (s.code = 1 ∧ st (k + 1) = ⟨1, l, s.tree, s.cnt⟩) := by
                rcases Nat.eq_zero_or_pos s.code with h0 | h0
                · left
                  rw [← hF]; exact runC_stop (Nat.lt_succ_self k) hb hc1 (by rw [hF]; omega)
                · right
                  refine ⟨by omega, ?_⟩
                  rw [← hF]; exact runC_step hb hc1 (by rw [hF]; omega)
              have e1 : (st (k + 1)).code = s.code := by rcases est with h | ⟨h1, h⟩ <;> rw [h]; exact h1.symm
              have e2 : (st (k + 1)).tree = s.tree := by rcases est with h | ⟨h1, h⟩ <;> rw [h]
              have e3 : (st (k + 1)).cnt = s.cnt := by rcases est with h | ⟨h1, h⟩ <;> rw [h]
              have e4 : findP (st (k + 1)) = findP s := by
                rcases est with h | ⟨h1, h⟩ <;> rw [h]
                simp [findP, h1]
              refine gv (by first | omega | (simp only []; omega) | (simp; omega)) (by first | omega | (simp only []; omega) | (simp; omega)) ?_
              conv => whnf
              refine ⟨⟨k + 1, hk', by rw [e1]; omega⟩, [(0, some 0), (52, some 60)], ?_, by show c.cells.length - (k + 1) < c.cells.length - k; omega⟩
              dsimp only
              rw [e1, e2, e3, e4]
              repeat' (first | exact trivial | rfl | refine And.intro ?_ ?_)
              all_goals (conv => whnf)
              repeat' (first | exact trivial | rfl | refine And.intro ?_ ?_)
            · have h2 : s.code = 2 := by omega
              refine spYes (by simp [h2]) ?_
              conv => whnf
              have e : runN c u hd (fuel + 1) l tree cnt = s := by rw [hrun]; show st c.cells.length = s; rw [← hF]; exact runC_stop hk' hb hc1 (by rw [hF]; omega)
              rw [e, h2]
              refine ⟨[(0, some 0), (2, some 60)], rfl, ?_⟩
              repeat' (first | exact trivial | rfl | refine And.intro ?_ ?_)
              all_goals (conv => whnf)
              repeat' (first | exact trivial | rfl | refine And.intro ?_ ?_)
        · have hk' : k = c.cells.length := by omega
          have e : runN c u hd (fuel + 1) l tree cnt = st k := by rw [hrun, hk']
          rw [e]
          refine ⟨[(0, some 0), (2, some 52)], rfl, ?_⟩
          rw [show ((st k).code != 2) = true by simp; exact hcode]
          repeat' (first | exact trivial | rfl | refine And.intro ?_ ?_)
          all_goals (conv => whnf)
          repeat' (first | exact trivial | rfl | refine And.intro ?_ ?_)
    · rw [hE] at ee
      refine ⟨_, _, ee, ?_⟩
      conv => whnf
      refine ⟨fun _ => ?_, fun h => (by cases h)⟩
      conv => whnf
      refine ⟨row8 _ _ _ _ _ _ _ _, ⟨by simp <;> omega⟩, ?_⟩
      conv => whnf
      have e : runN c u hd fuel l tree cnt = ⟨1, l, tree ++ [⟨3, 0, s, brk0⟩], cnt + 1⟩ := by unfold runN; rw [if_neg hnl, hP, hE]
      rw [e]
      refine ⟨[(0, some 0), (2, some 4)], rfl, ?_⟩
      repeat' (first | exact trivial | rfl | refine And.intro ?_ ?_)
      all_goals (conv => whnf)
      repeat' (first | exact trivial | rfl | refine And.intro ?_ ?_)
      simp [rN]
  · rw [hP] at ep
    refine ⟨_, _, ep, ?_⟩
    conv => whnf
    refine spD (fun _ => ?_) (fun h => by simp [rB] at h)
    conv => whnf
    refine ⟨by kernel_rfl, ?_⟩
    conv => whnf
    refine ⟨by decide, by simp [rB], ?_⟩
    conv => whnf
    refine ⟨_, rfl, ?_⟩
    conv => whnf
    refine ⟨row8 _ _ _ _ _ _ _ _, ⟨by simp <;> omega⟩, ?_⟩
    conv => whnf
    have e : runN c u hd fuel l tree cnt = ⟨1, l, tree ++ [⟨2, 0, 0, b⟩], cnt + 1⟩ := by unfold runN; rw [if_neg hnl, hP]
    rw [e]
    refine ⟨[(0, some 0), (2, some 4)], rfl, ?_⟩
    repeat' (first | exact trivial | rfl | refine And.intro ?_ ?_)
    all_goals (conv => whnf)
    repeat' (first | exact trivial | rfl | refine And.intro ?_ ?_)
    simp [rN]

theorem runR_c (c : Cfg) (u : Int) (hd : Bool) : ∀ (fuel : Nat), fuel ≤ (vars c).length → ∀ (l : List (Int × Int)) (tree : List Nd) (cnt : Nat), OpnV c l fuel → FilV c l fuel → Fit c l → cnt ≤ 2048 → tree.length ≤ cnt → RunRH c u hd fuel l tree cnt
  | 0, hfu, l, tree, cnt, ho, hfl, hf, hc, ht => runR_step c u hd 0 (fun f h => by omega) l tree cnt ho hfl hfu hf hc ht
  | fuel + 1, hfu, l, tree, cnt, ho, hfl, hf, hc, ht => runR_step c u hd (fuel + 1) (fun f h => by
      have : f = fuel := by omega
      subst this
      exact runR_c c u hd f (by omega)) l tree cnt ho hfl hfu hf hc ht

set_option maxRecDepth 100000 in
set_option maxHeartbeats 8000000 in
theorem runR0_step (c : Cfg) (u : Int) (hd : Bool) (fuel : Nat) (IH : ∀ f, f + 1 = fuel → ∀ (l : List (Int × Int)) (tree : List Nd) (cnt : Nat), OpnV c l f → FilV c l f → Fit c l → cnt ≤ 2048 → tree.length ≤ cnt → RunRH c u hd f l tree cnt) (l : List (Int × Int)) (cnt : Nat) (hopn : OpnV c l fuel) (hfil : FilV c l fuel) (hfu : fuel ≤ (vars c).length) (hf : Fit c l) (hcnt : cnt ≤ 2047) :
    CallsH Tryz.prog 56 [.c (.ptr 0 0 0), plV l] [srR c u hd .ns .ns false cnt] (B ((runN c u hd fuel l [] cnt).code != 2)) [srR c u hd (.gs 1) (.d (.sl (r2 (findP (runN c u hd fuel l [] cnt))))) ((runN c u hd fuel l [] cnt).code == 0) (runN c u hd fuel l [] cnt).cnt, .arr 68 (rN (runN c u hd fuel l [] cnt).tree)] := by
  have hg := good_of hf.val
  have hcc := hg.cells
  have hvl := varsOf_len c (order c)
  have hvl2 : (vars c).length ≤ 64 := by have := (order_ok c).1; have := hg.tenants; unfold vars; omega
  have hvr := r1_len (vars c)
  have hlr := r2_len l
  have hc2 := r2_len c.cells
  have hlen := hf.len
  have hT := hg.tenants
  have htn : (rN ([] : List Nd)) = [] := rfl
  refine callsR_of tab mixed Tryz.func56 rfl (by decide) rfl rfl ?_
  conv => whnf
  refine gv (by first | omega | (simp only []; omega) | (simp; omega)) (by first | omega | (simp only []; omega) | (simp; omega)) ?_
  conv => whnf
  rw [show ((cnt : Int) + 1) = ((cnt + 1 : Nat) : Int) by omega]
  refine spD (fun h => ?_) (fun h => ?_) <;> conv => whnf
  · omega
  have hnl : ¬ 2048 < cnt + 1 := by omega
  have ep := refPartial_c c u hd l hf
  rcases hP : partialL c u hd l with _ | ⟨b, bs⟩
  · rw [hP] at ep
    refine ⟨_, _, ep, ?_⟩
    conv => whnf
    refine spD (fun h => by simp [rB] at h) (fun _ => ?_)
    conv => whnf
    have ee := refExceeded_c c u hd l hf
    rcases hE : exc c u l with _ | s
    · rw [hE] at ee
      refine ⟨_, _, ee, ?_⟩
      conv => whnf
      refine ⟨fun h => (by cases h), fun _ => ?_⟩
      conv => whnf
      refine gv (by first | omega | (simp only []; omega) | (simp; omega)) (by first | omega | (simp only []; omega) | (simp; omega)) ?_
      conv => whnf
      refine loopN tab mixed (fun k => k ≤ (vars c).length) (vars c).length (fun k => [(9, I ((vars c).length - 1 - k)), (8, I (wv c fuel k))]) (fun _ => []) 51 [] (by omega) ?_
      conv => whnf
      refine ⟨?_, fun k hk => ?_⟩
      · repeat' (first | exact trivial | rfl | refine And.intro ?_ ?_)
        all_goals (conv => whnf)
        repeat' (first | exact trivial | rfl | refine And.intro ?_ ?_)
        all_goals first | omega | (rw [hvr]; simp)
      conv => whnf
      refine spD (fun h1 => ?_) (fun h1 => ?_) <;> conv => whnf
      · have hk' : k < (vars c).length := by omega
        obtain ⟨w, hw⟩ := get_of (l := vars c) (i := (vars c).length - (k + 1)) (by omega)
        have hwr := vars_rng (List.mem_of_getElem? hw)
        have hw' : (vars c)[((((vars c).length : Int) - 1 - k)).toNat]? = some w := by rw [← hw]; congr 1; omega
        refine ⟨by kernel_rfl, ?_⟩
        conv => whnf
        refine ⟨by omega, _, r1_get hw', ?_⟩
        conv => whnf
        refine ⟨_, _, open19_c c u hd l w hf (by omega), ?_⟩
        conv => whnf
        rcases ho : openV c l w with _ | _
        · refine ⟨fun h => (by cases h), fun _ => ?_⟩
          conv => whnf
          refine gv (by first | omega | (simp only []; omega) | (simp; omega)) (by first | omega | (simp only []; omega) | (simp; omega)) ?_
          conv => whnf
          have hkf : fuel ≤ k := by
            rcases Nat.lt_or_ge k fuel with h | h
            · have := vars_open hlen (List.mem_of_getElem? hw) (hopn _ w (by omega) hw)
              rw [ho] at this; cases this
            · exact h
          have ew : wv c fuel (k + 1) = wv c fuel k := by unfold wv; rw [Nat.min_eq_right (by omega), Nat.min_eq_right (by omega)]
          refine ⟨⟨hk', hk'⟩, [], ?_⟩
          repeat' (first | exact trivial | rfl | refine And.intro ?_ ?_)
          all_goals (conv => whnf)
          repeat' (first | exact trivial | rfl | refine And.intro ?_ ?_)
          all_goals first | rw [ew] | omega
        · refine ⟨fun _ => ?_, fun h => (by cases h)⟩
          conv => whnf
          refine ⟨by omega, _, r1_get hw', ?_⟩
          conv => whnf
          refine gv (by first | omega | (simp only []; omega) | (simp; omega)) (by first | omega | (simp only []; omega) | (simp; omega)) ?_
          conv => whnf
          have hkf : k < fuel := by
            rcases Nat.lt_or_ge k fuel with h | h
            · exact h
            · have h2 := hfil _ w (by omega) hw
              simp only [openV, Bool.and_eq_true, decide_eq_true_eq] at ho
              exact absurd ho.1.2.2 h2
          have ew : wv c fuel (k + 1) = w := by
            unfold wv
            rw [Nat.min_eq_left (by omega), if_neg (by omega), hw]; rfl
          refine ⟨⟨hk', hk'⟩, [], ?_⟩
          repeat' (first | exact trivial | rfl | refine And.intro ?_ ?_)
          all_goals (conv => whnf)
          repeat' (first | exact trivial | rfl | refine And.intro ?_ ?_)
          all_goals first | rw [ew] | omega
      have hke : k = (vars c).length := by omega
      cases fuel with
      | zero =>
        have ew : wv c 0 k = -1 := by unfold wv; simp
        rw [ew]
        refine spD (fun _ => ?_) (fun h => absurd (by decide) h)
        conv => whnf
        have e : runN c u hd 0 l [] cnt = ⟨0, l, [], cnt + 1⟩ := by unfold runN; rw [if_neg hnl, hP, hE]
        rw [e]
        refine ⟨[(0, some 0), (1, none)], rfl, ?_⟩
        repeat' (first | exact trivial | rfl | refine And.intro ?_ ?_)
        all_goals (conv => whnf)
        repeat' (first | exact trivial | rfl | refine And.intro ?_ ?_)
      | succ fuel =>
        obtain ⟨v, hv⟩ := get_of (l := vars c) (i := (vars c).length - (fuel + 1)) (by omega)
        have ew : wv c (fuel + 1) k = v := by
          unfold wv
          rw [hke, Nat.min_eq_right hfu, if_neg (by omega), hv]; rfl
        rw [ew]
        have hvr' := vars_rng (List.mem_of_getElem? hv)
        refine spD (fun h => by omega) (fun _ => ?_)
        conv => whnf
        have IH := IH fuel rfl
        let F : Nat → List Nd → Nat → SR := fun i tree cnt => runN c u hd fuel (setV l v i) tree cnt
        let st : Nat → SR := fun k => runC F l (usK u k) ([⟨1, v, 0, brk0⟩]) (cnt + 1)
        have hrun : runN c u hd (fuel + 1) l [] cnt = st c.cells.length := by
          rw [runN, if_neg hnl, hP, hE]
          simp only [hv, Option.getD_some]
          rfl
        have hstok : ∀ k, k ≤ c.cells.length → (st k).code ≤ 2 ∧ cnt + 1 ≤ (st k).cnt ∧ (st k).tree.length + (cnt + 1) ≤ ([(⟨1, v, 0, brk0⟩ : Nd)]).length + (st k).cnt ∧ (st k).cnt ≤ 2049 ∧ ((st k).code ≠ 2 → (st k).cnt ≤ 2048) ∧ ((st k).code = 1 → (st k).l = l) ∧ Fit c (st k).l := fun k hk =>
          runC_ok hf (fun i tree cnt hc hi => ⟨_, runN_ok u hd fuel _ tree cnt (fit_setV hf ⟨by omega, by omega⟩) hc⟩) (usK u k) _ _ (fun i hi => Nat.lt_of_lt_of_le (usK_lt hi) hk) (by omega)
        simp only [List.length_cons, List.length_nil] at hstok
        refine ⟨row8 _ _ _ _ _ _ _ _, ⟨by simp <;> omega⟩, ?_⟩
        conv => whnf
        have htr : [[i64 1, i64 v, i64 0, i64 0, i64 0, i64 0, i64 0, i64 0]] = rN ([⟨1, v, 0, brk0⟩]) := by simp [rN]
        rw [htr]
        refine loopR tab mixed (ι := { s : Nat // s ≤ c.cells.length ∧ (st s).code ≠ 2 }) (fun s => [(10, I s.1), (113, .top)]) (fun s => [(0, srR c u hd (.gs 52) (.d (.sl (r2 (findP (st s.1))))) ((st s.1).code == 0) (st s.1).cnt), (52, .arr 68 (rN (st s.1).tree))]) 60 (fun s => c.cells.length - s.1) ⟨0, by omega, by show (1 : Nat) ≠ 2; decide⟩ [(0, some 0), (52, some 52)] ?_
        conv => whnf
        refine ⟨?_, ?_⟩
        · repeat' (first | exact trivial | rfl | refine And.intro ?_ ?_)
          all_goals (conv => whnf)
          repeat' (first | exact trivial | rfl | refine And.intro ?_ ?_)
        rintro ⟨k, hk, hcode⟩
        dsimp only at hk hcode ⊢
        have hok := hstok k hk
        conv => whnf
        have hdone : (st k).code ≠ 1 → runN c u hd (fuel + 1) l [] cnt = st k := fun h => by
          rw [hrun]
          exact runC_over hk h
        refine spD (fun h3 => ?_) (fun h3 => ?_) <;> conv => whnf
        · have hk' : k < c.cells.length := by omega
          rcases Nat.eq_zero_or_pos (st k).code with hc0 | hc0
          · rw [hc0]
            refine ⟨fun h => (by cases h), fun _ => ?_⟩
            conv => whnf
            rw [hdone (by omega)]
            refine ⟨[(0, some 0), (1, some 52)], rfl, ?_⟩
            rw [hc0]
            repeat' (first | exact trivial | rfl | refine And.intro ?_ ?_)
            all_goals (conv => whnf)
            repeat' (first | exact trivial | rfl | refine And.intro ?_ ?_)
          have hc1 : (st k).code = 1 := by omega
          have hP0 : findP (st k) = [] := by unfold findP; rw [if_neg (by omega)]
          rw [hc1, hP0]
          refine ⟨fun _ => ?_, fun h => (by cases h)⟩
          conv => whnf
          refine ⟨_, _, has_c u k, ?_⟩
          conv => whnf
          rcases hb : bit u k with _ | _
          · refine ⟨fun h => (by cases h), fun _ => ?_⟩
            conv => whnf
            have est : st (k + 1) = st k := runC_skip hb
            refine gv (by first | omega | (simp only []; omega) | (simp; omega)) (by first | omega | (simp only []; omega) | (simp; omega)) ?_
            conv => whnf
            refine ⟨⟨k + 1, hk', by rw [est]; exact hcode⟩, [(0, some 0), (52, some 52)], ?_, by show c.cells.length - (k + 1) < c.cells.length - k; omega⟩
            dsimp only
            rw [est, hc1, hP0]
            repeat' (first | exact trivial | rfl | refine And.intro ?_ ?_)
            all_goals (conv => whnf)
            repeat' (first | exact trivial | rfl | refine And.intro ?_ ?_)
          · refine ⟨fun _ => ?_, fun h => (by cases h)⟩
            conv => whnf
            refine ⟨_, _, (filled_c l v k hvr'.1 (by omega) (by omega)).frozen, ?_⟩
            conv => whnf
            refine ⟨_, _, IH (setV l v k) (st k).tree (st k).cnt (hopn.next hfu hv k) (hfil.next hfu hlen hv k) (fit_setV hf ⟨by omega, by omega⟩) (by omega) (by omega), ?_⟩
            conv => whnf
            have hs := runN_ok u hd fuel (setV l v k) (st k).tree (st k).cnt (fit_setV hf ⟨by omega, by omega⟩) (by omega)
            have hF : ∀ s, runN c u hd fuel (setV l v k) (st k).tree (st k).cnt = s → F k (st k).tree (st k).cnt = s := fun s h => h
            generalize hres : runN c u hd fuel (setV l v k) (st k).tree (st k).cnt = s at hs ⊢
            have hF := hF s hres
            have hsc := hs.code
            rcases Nat.lt_or_ge s.code 2 with hs2 | hs2
            · refine spNo (by simp; omega) ?_
              conv => whnf
              have est : st (k + 1) = s ∨ (s.code = 1 ∧ st (k + 1) = ⟨1, l, s.tree, s.cnt⟩) := by
                rcases Nat.eq_zero_or_pos s.code with h0 | h0
                · left
                  rw [← hF]; exact runC_stop (Nat.lt_succ_self k) hb hc1 (by rw [hF]; omega)
                · right
                  refine ⟨by omega, ?_⟩
                  rw [← hF]; exact runC_step hb hc1 (by rw [hF]; omega)
              have e1 : (st (k + 1)).code = s.code := by rcases est with h | ⟨h1, h⟩ <;> rw [h]; exact h1.symm
              have e2 : (st (k + 1)).tree = s.tree := by rcases est with h | ⟨h1, h⟩ <;> rw [h]
              have e3 : (st (k + 1)).cnt = s.cnt := by rcases est with h | ⟨h1, h⟩ <;> rw [h]
              have e4 : findP (st (k + 1)) = findP s := by
                rcases est with h | ⟨h1, h⟩ <;> rw [h]
                simp [findP, h1]
              refine gv (by first | omega | (simp only []; omega) | (simp; omega)) (by first | omega | (simp only []; omega) | (simp; omega)) ?_
              conv => whnf
              refine ⟨⟨k + 1, hk', by rw [e1]; omega⟩, [(0, some 0), (52, some 60)], ?_, by show c.cells.length - (k + 1) < c.cells.length - k; omega⟩
              dsimp only
              rw [e1, e2, e3, e4]
              repeat' (first | exact trivial | rfl | refine And.intro ?_ ?_)
              all_goals (conv => whnf)
              repeat' (first | exact trivial | rfl | refine And.intro ?_ ?_)
            · have h2 : s.code = 2 := by omega
              refine spYes (by simp [h2]) ?_
              conv => whnf
              have e : runN c u hd (fuel + 1) l [] cnt = s := by rw [hrun]; show st c.cells.length = s; rw [← hF]; exact runC_stop hk' hb hc1 (by rw [hF]; omega)
              rw [e, h2]
              refine ⟨[(0, some 0), (1, some 60)], rfl, ?_⟩
              repeat' (first | exact trivial | rfl | refine And.intro ?_ ?_)
              all_goals (conv => whnf)
              repeat' (first | exact trivial | rfl | refine And.intro ?_ ?_)
        · have hk' : k = c.cells.length := by omega
          have e : runN c u hd (fuel + 1) l [] cnt = st k := by rw [hrun, hk']
          rw [e]
          refine ⟨[(0, some 0), (1, some 52)], rfl, ?_⟩
          rw [show ((st k).code != 2) = true by simp; exact hcode]
          repeat' (first | exact trivial | rfl | refine And.intro ?_ ?_)
          all_goals (conv => whnf)
          repeat' (first | exact trivial | rfl | refine And.intro ?_ ?_)
    · rw [hE] at ee
      refine ⟨_, _, ee, ?_⟩
      conv => whnf
      refine ⟨fun _ => ?_, fun h => (by cases h)⟩
      conv => whnf
      refine ⟨row8 _ _ _ _ _ _ _ _, ⟨by simp <;> omega⟩, ?_⟩
      conv => whnf
      have e : runN c u hd fuel l [] cnt = ⟨1, l, [⟨3, 0, s, brk0⟩], cnt + 1⟩ := by unfold runN; rw [if_neg hnl, hP, hE]; rfl
      rw [e]
      refine ⟨[(0, some 0), (1, some 3)], rfl, ?_⟩
      repeat' (first | exact trivial | rfl | refine And.intro ?_ ?_)
      all_goals (conv => whnf)
      repeat' (first | exact trivial | rfl | refine And.intro ?_ ?_)
  · rw [hP] at ep
    refine ⟨_, _, ep, ?_⟩
    conv => whnf
    refine spD (fun _ => ?_) (fun h => by simp [rB] at h)
    conv => whnf
    refine ⟨by kernel_rfl, ?_⟩
    conv => whnf
    refine ⟨by decide, by simp [rB], ?_⟩
    conv => whnf
    refine ⟨_, rfl, ?_⟩
    conv => whnf
    refine ⟨row8 _ _ _ _ _ _ _ _, ⟨by simp <;> omega⟩, ?_⟩
    conv => whnf
    have e : runN c u hd fuel l [] cnt = ⟨1, l, [⟨2, 0, 0, b⟩], cnt + 1⟩ := by unfold runN; rw [if_neg hnl, hP]; rfl
    rw [e]
    refine ⟨[(0, some 0), (1, some 3)], rfl, ?_⟩
    repeat' (first | exact trivial | rfl | refine And.intro ?_ ?_)
    all_goals (conv => whnf)
    repeat' (first | exact trivial | rfl | refine And.intro ?_ ?_)

end Go.Proofs.YtelnligfebjjiaaGreat
