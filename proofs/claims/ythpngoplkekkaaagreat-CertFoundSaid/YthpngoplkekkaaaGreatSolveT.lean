/- Contracts: the reference's Vars and Find. Conditions: those ahead of each theorem. -/
import Derived.Test.YthpngoplkekkaaaGreatSolveS
import Derived.Test.YthpngoplkekkaaaGreatCertT
import Derived.Test.YthpngoplkekkaaaGreatOrdR
namespace Go.Proofs.YthpngoplkekkaaaGreat
open Go Go.Cpl

set_option maxRecDepth 100000 in
theorem refVars_c (c : Cfg) (u : Int) (hd : Bool) (hv : valid5 c = 0) : CallsH Tryz.prog 35 [probV c u hd] [] (.c (.gs 0)) [.arr 3 (r1 (vars c))] := by
  have hg := good_of hv
  have hT := hg.tenants
  have hol := (order_ok c).1
  have hor := r1_len (order c)
  refine callsR_of tab mixed Tryz.func35 rfl (by decide) rfl rfl ?_
  conv => whnf
  refine ⟨_, _, refTenValid_c c, ?_⟩
  conv => whnf
  refine spNe (fun h => absurd hv h) (fun _ => ?_)
  conv => whnf
  refine ⟨_, _, (refOrder_c c (by omega)).frozen, ?_⟩
  conv => whnf
  refine loopN tab mixed (fun i => i ≤ (order c).length) (order c).length (fun i => [(5, I i), (3, .c (.gs 50))]) (fun i => [(50, .arr 3 (r1 (varsOf c ((order c).take i))))]) 51 [(50, none)] (by omega) ?_
  conv => whnf
  refine ⟨?_, fun i hi => ?_⟩
  · repeat' (first | exact trivial | rfl | refine And.intro ?_ ?_)
    all_goals (conv => whnf)
    repeat' (first | exact trivial | rfl | refine And.intro ?_ ?_)
  conv => whnf
  have hvl := varsOf_len c ((order c).take i)
  have hvr := r1_len (varsOf c ((order c).take i))
  have htl : ((order c).take i).length ≤ 32 := by simp; omega
  refine spD (fun h => ?_) (fun h => ?_) <;> conv => whnf
  · have hi' : i < (order c).length := by omega
    obtain ⟨t, ht⟩ := get_of hi'
    have htr := ((order_ok c).2.2 t).1 (List.mem_of_getElem? ht)
    have hst : varsOf c ((order c).take (i + 1)) = varsOf c ((order c).take i) ++ varsT c t := by rw [take_succ_of ht, varsOf_app]
    refine ⟨by omega, _, r1_get ht, ?_⟩
    conv => whnf
    refine gv (by first | omega | (simp only []; omega) | (simp; omega)) (by first | omega | (simp only []; omega) | (simp; omega)) ?_
    conv => whnf
    refine ⟨row1 _ rfl, ⟨by simp; omega⟩, ?_⟩
    conv => whnf
    refine ⟨by kernel_rfl, ?_⟩
    conv => whnf
    refine ⟨by omega, _, r1_get ht, ?_⟩
    conv => whnf
    refine ⟨_, _, refSingle_c c u hd t hg, ?_⟩
    conv => whnf
    rcases hs : single c t with _ | _
    · refine ⟨fun _ => ?_, fun h => (by cases h)⟩
      conv => whnf
      refine ⟨by omega, _, r1_get ht, ?_⟩
      conv => whnf
      refine gv (by first | omega | (simp only []; omega) | (simp; omega)) (by first | omega | (simp only []; omega) | (simp; omega)) ?_
      conv => whnf
      refine gv (by first | omega | (simp only []; omega) | (simp; omega)) (by first | omega | (simp only []; omega) | (simp; omega)) ?_
      conv => whnf
      refine ⟨row1 _ rfl, ⟨by simp; omega⟩, ?_⟩
      conv => whnf
      refine gv (by first | omega | (simp only []; omega) | (simp; omega)) (by first | omega | (simp only []; omega) | (simp; omega)) ?_
      conv => whnf
      refine ⟨⟨hi', hi'⟩, [(50, some 54)], ?_⟩
      repeat' (first | exact trivial | rfl | refine And.intro ?_ ?_)
      all_goals (conv => whnf)
      repeat' (first | exact trivial | rfl | refine And.intro ?_ ?_)
      rw [hst]
      simp [varsT, hs, r1]
    · refine ⟨fun h => (by cases h), fun _ => ?_⟩
      conv => whnf
      refine gv (by first | omega | (simp only []; omega) | (simp; omega)) (by first | omega | (simp only []; omega) | (simp; omega)) ?_
      conv => whnf
      refine ⟨⟨hi', hi'⟩, [(50, some 52)], ?_⟩
      repeat' (first | exact trivial | rfl | refine And.intro ?_ ?_)
      all_goals (conv => whnf)
      repeat' (first | exact trivial | rfl | refine And.intro ?_ ?_)
      rw [hst]
      simp [varsT, hs, r1]
  · have hi' : i = (order c).length := by omega
    refine ⟨[(0, some 50)], rfl, ?_⟩
    rw [show vars c = varsOf c ((order c).take i) by rw [hi', List.take_length]; rfl]
    repeat' (first | exact trivial | rfl | refine And.intro ?_ ?_)
    all_goals (conv => whnf)
    repeat' (first | exact trivial | rfl | refine And.intro ?_ ?_)

set_option maxRecDepth 100000 in
set_option maxHeartbeats 4000000 in
theorem refFind_c (c : Cfg) (u : Int) (hd : Bool) : CallsH Tryz.prog 29 [probV c u hd] [] (findV (findL c u hd)) [] := by
  refine callsR_of tab mixed Tryz.func29 rfl (by decide) rfl rfl ?_
  conv => whnf
  refine ⟨_, _, refTenValid_c c, ?_⟩
  conv => whnf
  refine spNe (fun h => ?_) (fun hv => ?_) <;> conv => whnf
  · refine ⟨[], rfl, ?_, trivial⟩
    unfold findL
    rw [if_neg h]
    repeat' (first | exact trivial | rfl | refine And.intro ?_ ?_)
    all_goals (conv => whnf)
    repeat' (first | exact trivial | rfl | refine And.intro ?_ ?_)
  have hg := good_of hv
  have hTT := hg.tenants
  refine ⟨by kernel_rfl, ?_⟩
  conv => whnf
  refine ⟨_, _, (refVars_c c u hd hv).frozen, ?_⟩
  conv => whnf
  refine ⟨_, _, (open17_c c u hd (by omega)).frozen, ?_⟩
  conv => whnf
  have hrd := runR0_step c u hd (vars c).length (fun f hf' l tree cnt h1 h2 h3 h4 h5 => runR_c c u hd f (by omega) l tree cnt h1 h2 h3 h4 h5) (openL c.tenants.length) 0 (opn_openL c) (fun j w hj => by omega) (Nat.le_refl _) (fit_openL hv) (by omega)
  have hok := runN_ok u hd (vars c).length (openL c.tenants.length) [] 0 (fit_openL hv) (by omega)
  have hF : findL c u hd = runN c u hd (vars c).length (openL c.tenants.length) [] 0 := by unfold findL; rw [if_pos hv]
  rw [hF]
  generalize runN c u hd (vars c).length (openL c.tenants.length) [] 0 = s at hrd hok ⊢
  have hcode := hok.code
  refine ⟨_, _, hrd, ?_⟩
  conv => whnf
  rcases Nat.lt_or_ge s.code 2 with h2 | h2
  · refine spNo (by simp; omega) ?_
    conv => whnf
    refine spE' (fun h5 => ?_) (fun h5 => ?_) <;> conv => whnf
    · refine ⟨[], rfl, ?_, trivial⟩
      repeat' (first | exact trivial | rfl | refine And.intro ?_ ?_)
      all_goals (conv => whnf)
      repeat' (first | exact trivial | rfl | refine And.intro ?_ ?_)
      all_goals simp [findT, findE, h5, rN]
    · have h1 : s.code = 1 := by omega
      refine ⟨[], rfl, ?_, trivial⟩
      repeat' (first | exact trivial | rfl | refine And.intro ?_ ?_)
      all_goals (conv => whnf)
      repeat' (first | exact trivial | rfl | refine And.intro ?_ ?_)
      all_goals simp [findP, findT, findE, h1, r2]
  · have h6 : s.code = 2 := by omega
    refine spYes (by simp [h6]) ?_
    conv => whnf
    refine ⟨[], rfl, ?_, trivial⟩
    repeat' (first | exact trivial | rfl | refine And.intro ?_ ?_)
    all_goals (conv => whnf)
    repeat' (first | exact trivial | rfl | refine And.intro ?_ ?_)
    all_goals simp [findP, findT, findE, h6, rN, r2]

theorem found19_c (c : Cfg) (u : Int) (hd : Bool) : CallsH Tryz.prog 20 [probV c u hd] [] (certV (findP (findL c u hd)) (findT (findL c u hd))) [] := by
  refine callsR_of tab mixed Tryz.func20 rfl (by decide) rfl rfl ?_
  conv => whnf
  refine ⟨_, _, refFind_c c u hd, ?_⟩
  conv => whnf
  refine ⟨[], rfl, ?_, trivial⟩
  repeat' (first | exact trivial | rfl | refine And.intro ?_ ?_)
  all_goals (conv => whnf)
  repeat' (first | exact trivial | rfl | refine And.intro ?_ ?_)

/-! ### no problem has both -/

theorem rdC_all {f : Nat → Nat → Bool × Nat} : ∀ {a : List Nat} {n : Nat}, (rdC f a n).1 = true → ∀ i ∈ a, ∃ n', (f i n').1 = true
  | [], _, _, i, hi => by cases hi
  | j :: r, n, h, i, hi => by
    rw [rdC] at h
    split at h
    · rename_i n' hx
      rcases List.mem_cons.1 hi with rfl | hi
      · exact ⟨n, by rw [hx]⟩
      · exact rdC_all h i hi
    · cases h

theorem vars_of_open {c : Cfg} {l : List (Int × Int)} {v : Int} (hl : l.length = c.tenants.length) (h : openV c l v = true) : v ∈ vars c := by
  simp only [openV, Bool.and_eq_true, decide_eq_true_eq] at h
  obtain ⟨⟨h0, h1, h2⟩, h3⟩ := h
  by_cases hm : v % 2 = 1
  · have hs : single c (v / 2) = false := by
      rcases hs : single c (v / 2) with _ | _
      · rfl
      · simp [hm, hs] at h3
    have := vars_of_stand (c := c) (t := v / 2) ⟨by omega, by omega⟩ hs
    rw [show 2 * (v / 2) + 1 = v by omega] at this; exact this
  · have := vars_of_home (c := c) (t := v / 2) ⟨by omega, by omega⟩
    rw [show 2 * (v / 2) = v by omega] at this; exact this

theorem rdN_sound {c : Cfg} {u : Int} {hd : Bool} {tree : List Nd} {y : List (Int × Int)} (hy : Fit c y) (hfull : fullL c u hd y = []) : ∀ (fuel : Nat) (l : List (Int × Int)) (n : Nat), Fit c l → Le l y → (rdN c u hd tree fuel l n).1 = true → False
  | fuel, l, n, hl, hle, h => by
    have hg := good_of hy.val
    obtain ⟨h1, h2, h3⟩ := full_nil.1 hfull
    have hP : partialL c u hd l = [] := List.eq_nil_iff_forall_not_mem.2 fun b hb => by
      have := partial_mono hg hle hb
      rw [h3] at this; cases this
    have hk : Kept c u y := kept_of (hd := hd) (fun b hb => by rw [h3] at hb; cases hb)
    have hE : exc c u l = none := exc_kept hg hl hy hle hk (fun q hq => by
      obtain ⟨t, ht, htq⟩ := List.mem_iff_getElem.1 hq
      have := hoL_nil.1 h1 t q ht (by rw [List.getElem?_eq_getElem ht, htq])
      have := hy.rng q hq
      omega)
    unfold rdN at h
    split at h
    · cases h
    rename_i x hx
    split at h
    · simp [nodeB, hP] at h
    split at h
    · simp only [nodeX, decide_eq_true_eq] at h
      obtain ⟨_, _, g1, g2, g3⟩ := h
      unfold exc at hE
      rw [List.find?_range_eq_none] at hE
      have e : ((x.set.toNat : Nat) : Int) = x.set := by omega
      have g2' : x.set.toNat < 2 ^ c.regions.toNat := by
        have : ((x.set.toNat : Nat) : Int) < ((2 ^ c.regions.toNat : Nat) : Int) := by rw [e]; exact_mod_cast g2
        exact_mod_cast this
      have := hE x.set.toNat g2'
      rw [e] at this
      simp only [Bool.not_and, Bool.or_eq_true, Bool.not_eq_true', decide_eq_false_iff_not] at this
      omega
    split at h
    · rename_i hc
      cases fuel with
      | zero => cases h
      | succ fuel =>
        have hvm := vars_of_open hl.len hc.2.2.2
        have hvr := vars_rng hvm
        have hyl := hy.len
        have hll := hl.len
        obtain ⟨u1, u2, u3⟩ := use_getV hy h3 hvr.1 (by omega) (filled_of_full hy hfull x.var hvm)
        have hxx : (((getV y x.var).toNat : Nat) : Int) = getV y x.var := by omega
        obtain ⟨n', h'⟩ := rdC_all h (getV y x.var).toNat (by
          unfold usK
          rw [List.mem_filter]
          exact ⟨List.mem_range.2 (by omega), by rw [hxx]; exact u3⟩)
        rw [hxx] at h'
        exact rdN_sound hy hfull fuel _ n' (fit_setV hl ⟨by omega, u2⟩) (le_setV hle hvr.1 (by omega)) h'
    · cases h

theorem refuted_not {c : Cfg} {u : Int} {hd : Bool} {y : List (Int × Int)} {tr : List Nd} (h : feasible c u hd y tr = true) (pl : List (Int × Int)) (tree : List Nd) : refuted c u hd pl tree = false := by
  simp only [feasible, decide_eq_true_eq] at h
  obtain ⟨_, hy, hfull⟩ := h
  rcases hr : (readAll c u hd tree).1 with _ | _
  · simp [refuted, hr]
  · exact (rdN_sound hy hfull _ _ _ (fit_openL hy.val) (le_openL hy) hr).elim

set_option maxRecDepth 100000 in
theorem certOne_c (l more : List Int) (pl0 : List (Int × Int)) (tree : List Nd) (hvar : VarOK tree) (cells : Int) (hd : Bool) : CallsH Tryz.prog 5 [.c (.d (.sl (r1 l))), .c (.d (.sl (r1 more))), certV pl0 tree, I cells, B hd] [] (B true) [] := by
  obtain ⟨c, u, hm, hprob⟩ := problem_c l cells hd
  have hv := hm.valid5
  have hpl := hm.places19 more
  generalize pl more c c.tenants.length = x at hpl
  have hTl := rN_len (findT (findL c u hd))
  refine callsR_of tab mixed Tryz.func5 rfl (by decide) rfl rfl ?_
  conv => whnf
  refine ⟨_, _, light_c l, ?_⟩
  conv => whnf
  refine spN (fun h => ?_) (fun h => ?_) <;> conv => whnf
  · refine ⟨_, _, awake19_c, ?_⟩
    conv => whnf
    exact ⟨[], rfl, rfl, trivial⟩
  refine ⟨_, _, light_c more, ?_⟩
  conv => whnf
  refine spN (fun h => ?_) (fun h => ?_) <;> conv => whnf
  · refine ⟨_, _, awake19_c, ?_⟩
    conv => whnf
    exact ⟨[], rfl, rfl, trivial⟩
  refine ⟨_, _, few_c pl0 tree, ?_⟩
  conv => whnf
  refine spN (fun h => ?_) (fun hfew => ?_) <;> conv => whnf
  · refine ⟨_, _, awake19_c, ?_⟩
    conv => whnf
    exact ⟨[], rfl, rfl, trivial⟩
  have ht : TreeOK tree := ⟨by omega, hvar⟩
  refine ⟨_, _, hprob, ?_⟩
  conv => whnf
  refine ⟨_, _, hpl, ?_⟩
  conv => whnf
  refine ⟨_, _, found19_c c u hd, ?_⟩
  conv => whnf
  refine spD (fun h => ?_) (fun h400 => ?_) <;> conv => whnf
  · refine ⟨_, _, awake19_c, ?_⟩
    conv => whnf
    exact ⟨[], rfl, rfl, trivial⟩
  have hTu : TreeOK (findT (findL c u hd)) := by
    by_cases h2 : (findL c u hd).code = 2
    · rw [show findT (findL c u hd) = [] by simp [findT, h2]]; exact treeOK_nil
    · exact (find_cert u hd hv h2).2.1
  refine ⟨_, _, feasible_c c u hd x [], ?_⟩
  conv => whnf
  rcases h1 : feasible c u hd x [] with _ | _
  · refine ⟨fun h => (by cases h), fun _ => ?_⟩
    conv => whnf
    refine ⟨_, _, feasible_c c u hd _ _, ?_⟩
    conv => whnf
    refine ⟨_, _, awake19_c, ?_⟩
    conv => whnf
    refine ⟨fun _ => ?_, fun h => (by cases h)⟩
    conv => whnf
    rcases h2 : feasible c u hd (findP (findL c u hd)) (findT (findL c u hd)) with _ | _
    · refine ⟨fun h => (by cases h), fun _ => ?_⟩
      conv => whnf
      exact ⟨[], rfl, rfl, trivial⟩
    · refine ⟨fun _ => ?_, fun h => (by cases h)⟩
      conv => whnf
      refine ⟨_, _, refuted_c c u hd pl0 tree ht, ?_⟩
      conv => whnf
      rw [refuted_not h2]
      refine ⟨fun h => (by cases h), fun _ => ?_⟩
      conv => whnf
      refine ⟨_, _, refuted_c c u hd _ _ hTu, ?_⟩
      conv => whnf
      rw [refuted_not h2]
      exact ⟨[], rfl, rfl, trivial⟩
  · refine ⟨fun _ => ?_, fun h => (by cases h)⟩
    conv => whnf
    refine ⟨_, _, awake19_c, ?_⟩
    conv => whnf
    refine ⟨fun _ => ?_, fun h => (by cases h)⟩
    conv => whnf
    refine ⟨_, _, refuted_c c u hd pl0 tree ht, ?_⟩
    conv => whnf
    rw [refuted_not h1]
    refine ⟨fun h => (by cases h), fun _ => ?_⟩
    conv => whnf
    refine ⟨_, _, refuted_c c u hd _ _ hTu, ?_⟩
    conv => whnf
    rw [refuted_not h1]
    exact ⟨[], rfl, rfl, trivial⟩

end Go.Proofs.YthpngoplkekkaaaGreat
