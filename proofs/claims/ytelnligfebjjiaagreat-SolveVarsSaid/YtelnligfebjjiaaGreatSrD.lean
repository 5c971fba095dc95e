/- Contracts: slices.SortFunc by the order of tenants, and tenant.Order, at any number of tenants. Conditions: those ahead of each theorem. -/
import Derived.Test.YtelnligfebjjiaaGreatSrA
import Derived.Test.YtelnligfebjjiaaGreatSrC
namespace Go.Proofs.YtelnligfebjjiaaGreat
open Go Go.Cpl Go.Sort Go.Shelf

theorem sorted_one {lt : Int → Int → Bool} (hi : ∀ x, lt x x = false) (ht : ∀ x y z, lt x y = true → lt y z = true → lt x z = true) : ∀ {l m : List Int}, l.Pairwise (fun a b => lt a b = true) → m.Pairwise (fun a b => lt a b = true) → (∀ z, z ∈ l ↔ z ∈ m) → l = m
  | [], [], _, _, _ => rfl
  | [], b :: m, _, _, h => by have := (h b).2 (by simp); cases this
  | a :: l, [], _, _, h => by have := (h a).1 (by simp); cases this
  | a :: l, b :: m, hl, hm, h => by
    rw [List.pairwise_cons] at hl hm
    have e : a = b := by
      rcases List.mem_cons.1 ((h a).1 (by simp)) with e | e
      · exact e
      · rcases List.mem_cons.1 ((h b).2 (by simp)) with e2 | e2
        · exact e2.symm
        · have := ht _ _ _ (hl.1 b e2) (hm.1 a e)
          rw [hi] at this; cases this
    subst e
    rw [sorted_one hi ht hl.2 hm.2 fun z => ⟨fun hz => ?_, fun hz => ?_⟩]
    · rcases List.mem_cons.1 ((h z).1 (List.mem_cons_of_mem _ hz)) with e | e
      · have := hl.1 z hz
        rw [e, hi] at this; cases this
      · exact e
    · rcases List.mem_cons.1 ((h z).2 (List.mem_cons_of_mem _ hz)) with e | e
      · have := hm.1 z hz
        rw [e, hi] at this; cases this
      · exact e

theorem bef_irr (c : Cfg) (x : Int) : bef c x x = false := by
  have := bef_iff c x x
  cases h : bef c x x with
  | false => rfl
  | true => rw [h] at this; have := this.1 rfl; omega

theorem bef_swo (c : Cfg) : SWO (ltOf (cfS (inT c) (cmpT c))) where
  irrefl x := bef_irr c x.1
  trans x y z h1 h2 := bef_trans c x.1 y.1 z.1 h1 h2
  ntrans x y z h1 h2 := by
    have a1 : bef c x.1 y.1 = false := h1
    have a2 : bef c y.1 z.1 = false := h2
    show bef c x.1 z.1 = false
    have i1 := bef_iff c x.1 y.1
    have i2 := bef_iff c y.1 z.1
    have i3 := bef_iff c x.1 z.1
    rw [a1] at i1
    rw [a2] at i2
    cases h : bef c x.1 z.1 with
    | false => rfl
    | true =>
      rw [h] at i3
      simp only [Bool.false_eq_true, false_iff, true_iff] at i1 i2 i3
      omega

set_option maxRecDepth 100000 in
theorem sortFuncX_c (c : Cfg) (l : List Int) (hl : l.length ≤ 1000) (hr : ∀ x ∈ l, inT c x) (hpw : l.Pairwise fun a b => bef c a b = true ∨ bef c b a = true) : CallsH Tryz.prog 84 [.c (.gs 0), .fn 85 [.ptr 1 0 0]] [.arr 3 (r1 l), .box (cfgC c)] (.tup []) [.arr 3 (r1 (isort (bef c) l (l.length - 1))), .box (cfgC c)] := by
  cases l with
  | nil => exact sortFunc_c c [] (by simp) hr
  | cons x0 r =>
    letI : Inhabited { x : Int // inT c x } := ⟨⟨x0, hr x0 (by simp)⟩⟩
    have h := isort_all (bef_trans c) hpw (k := (x0 :: r).length - 1) (by simp) (by simp)
    refine sort_c sortInt (enters_of Tryz.func85 (by kernel_rfl) rfl) ⟨_, Tryz.func84, rfl, rfl⟩ (p := inT c) (cf := cmpT c) (cells := cfgR c) (fun a b ha hb => order1R_c c a b ha hb) (bef_swo c) (x0 :: r) _ (by omega) (by simp) hr ?_
    intro l' hperm hs
    refine sorted_one (bef_irr c) (bef_trans c) ?_ h.1 (fun z => by rw [h.2]; exact hperm.mem_iff)
    have h2 : l'.Pairwise fun a b => bef c a b = true ∨ bef c b a = true := (hperm.pairwise_iff (fun h => h.symm)).2 hpw
    refine (hs.and h2).imp ?_
    rintro a b ⟨h1, h3 | h3⟩
    · exact h3
    · exact absurd (of_decide_eq_true h3) h1

set_option maxRecDepth 100000 in
theorem orderX_c (c : Cfg) (hT : c.tenants.length ≤ 1000) : CallsH Tryz.prog 57 [cfgV c] [] (.c (.gs 0)) [.arr 3 (r1 (order c))] := by
  have hl := rT_len c.tenants
  refine callsR_of tab mixed Tryz.func57 rfl (by decide) rfl rfl ?_
  conv => whnf
  refine ⟨by omega, by omega, ⟨by omega⟩, ?_⟩
  conv => whnf
  refine loopN tab mixed (fun i => i ≤ c.tenants.length) c.tenants.length (fun i => [(12, I i), (3, .c (.gs 1)), (8, .top)]) (fun i => [(1, .arr 3 (r1 (iota i)))]) 51 [(1, some 1)] (by omega) ?_
  conv => whnf
  refine ⟨?_, fun i hi => ?_⟩
  · repeat' (first | exact trivial | rfl | refine And.intro ?_ ?_)
    all_goals (conv => whnf)
    repeat' (first | exact trivial | rfl | refine And.intro ?_ ?_)
  conv => whnf
  have hil := iota_len i
  have hi1 := r1_len (iota i)
  refine spD (fun h => ?_) (fun h => ?_) <;> conv => whnf
  · have hi' : i < c.tenants.length := by omega
    refine ⟨row1 _ rfl, ⟨by simp; omega⟩, ?_⟩
    conv => whnf
    refine gv (by first | omega | (simp only []; omega) | (simp; omega)) (by first | omega | (simp only []; omega) | (simp; omega)) ?_
    conv => whnf
    refine ⟨⟨hi', hi'⟩, [(1, some 52)], ?_⟩
    repeat' (first | exact trivial | rfl | refine And.intro ?_ ?_)
    all_goals (conv => whnf)
    repeat' (first | exact trivial | rfl | refine And.intro ?_ ?_)
    unfold iota
    rw [upto_yes rfl]; exact (r1_app _ _).symm
  · have hi' : i = c.tenants.length := by omega
    subst hi'
    refine ⟨_, _, sortFuncX_c c (iota c.tenants.length) (by omega) (fun x hx => iota_mem.1 hx) (iota_pair c _), ?_⟩
    conv => whnf
    rw [hil]
    exact ⟨[(0, some 1)], rfl, rfl, ⟨⟨rfl, rfl⟩, trivial⟩⟩

end Go.Proofs.YtelnligfebjjiaaGreat
