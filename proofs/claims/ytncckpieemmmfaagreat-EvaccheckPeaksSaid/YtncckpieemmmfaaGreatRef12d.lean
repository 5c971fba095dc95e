/- Contracts: how the reference of state applies entries of tenants that book no more. Conditions: those ahead of each theorem. -/
import Derived.Test.YtncckpieemmmfaaGreatRef12c
namespace Go.Proofs.YtncckpieemmmfaaGreat
open Go Go.Cpl

theorem ready_q (c : Cfg) (s : St) (e : Ent) (w : WG c) (h : StOk c s) (ht : 0 ≤ e.tenant ∧ e.tenant < c.tenants.length) (hc : 0 ≤ e.cell ∧ e.cell < c.cells.length) : ExH Tryz.prog 107 [stO s 0 1, entV e] (stH s) (RS c [.gone, .gone]) := by
  have hg := w.good
  have hn := h.pre.nt
  have hnc := h.pre.nc
  have l1 := rTS_len s.ts
  have l2 := rCS_len s.cs
  obtain ⟨x, hx⟩ := get_int (l := s.ts) ht.1 (by omega)
  obtain ⟨y, hy⟩ := get_int (l := s.cs) hc.1 (by omega)
  have hxo := h.pre.t x (List.mem_of_getElem? hx)
  refine callsE_of tab mixed noRel Tryz.func107 rfl (by decide) rfl rfl ?_
  conv => whnf
  refine ⟨ht.1, by omega, ?_⟩
  conv => whnf
  repeat' (first | contradiction | (refine gv (by omega) (by omega) ?_; conv => whnf) | (refine ⟨by kernel_rfl, ?_⟩; conv => whnf) | (refine ⟨_, _, no_c _, ?_⟩; conv => whnf) | (refine ⟨hc.1, by omega, ?_⟩; conv => whnf) | (refine ⟨_, rTS_get hx, ?_⟩; conv => whnf) | (refine ⟨_, rCS_get hy, ?_⟩; conv => whnf) | (refine ⟨_, sg (by first | omega | (simp only [List.length_set]; omega)), ?_⟩; conv => whnf) | (refine spD (fun _ => ?_) (fun _ => ?_) <;> conv => whnf) | (refine spN (fun _ => ?_) (fun _ => ?_) <;> conv => whnf) | (refine spE (fun _ => ?_) (fun _ => ?_) <;> conv => whnf) | (refine spNe (fun _ => ?_) (fun _ => ?_) <;> conv => whnf) | (refine gvu (by omega) (by omega) ?_; conv => whnf) | (refine spBn (fun _ => ?_) (fun _ => ?_) <;> conv => whnf) | (refine spG (fun _ => ?_) (fun _ => ?_) <;> conv => whnf))
  all_goals try exact ⟨_, _, bad_rs (by decide), [], rfl, ⟨⟨⟨rfl, rfl⟩, ⟨rfl, rfl⟩, rfl, rfl, ⟨rfl, rfl⟩, ⟨rfl, rfl⟩, ⟨rfl, rfl⟩, ⟨rfl, rfl⟩, trivial⟩, ⟨rfl, rfl⟩, trivial⟩, trivial⟩
  have hq : e.cell = x.next := by assumption
  exact ⟨_, _, ⟨{ s with ts := s.ts.set e.tenant.toNat { x with standby := e.cell, next := -1 } }, 0, rfl, rfl, fun _ => h.setT hg hx { hxo with standby := ⟨by show -1 ≤ e.cell; omega, hc.2⟩, next := ⟨by show (-1 : Int) ≤ -1; omega, by show (-1 : Int) < _; omega⟩ } (fun k ld sh h1 h2 h3 => (by unfold con; dsimp only; (repeat' split) <;> first | omega | contradiction))⟩, [], rfl, ⟨⟨⟨rfl, rfl⟩, ⟨rfl, rfl⟩, (sT (by first | (intro y; rfl) | (intro y; simp)) rfl).symm, rfl, ⟨rfl, rfl⟩, ⟨rfl, rfl⟩, ⟨rfl, rfl⟩, ⟨rfl, rfl⟩, trivial⟩, ⟨rfl, rfl⟩, trivial⟩, trivial⟩

theorem abandon_q (c : Cfg) (s : St) (e : Ent) (w : WG c) (h : StOk c s) (ht : 0 ≤ e.tenant ∧ e.tenant < c.tenants.length) : ExH Tryz.prog 109 [stO s 0 1, entV e] (stH s) (RS c [.gone, .gone]) := by
  have hg := w.good
  have hn := h.pre.nt
  have l1 := rTS_len s.ts
  obtain ⟨x, hx⟩ := get_int (l := s.ts) ht.1 (by omega)
  have hxo := h.pre.t x (List.mem_of_getElem? hx)
  have hC := hg.cells
  refine callsE_of tab mixed noRel Tryz.func109 rfl (by decide) rfl rfl ?_
  conv => whnf
  refine ⟨ht.1, by omega, ?_⟩
  conv => whnf
  repeat' (first | contradiction | (refine gv (by omega) (by omega) ?_; conv => whnf) | (refine ⟨by kernel_rfl, ?_⟩; conv => whnf) | (refine ⟨_, _, no_c _, ?_⟩; conv => whnf) | (refine ⟨_, rTS_get hx, ?_⟩; conv => whnf) | (refine ⟨_, sg (by first | omega | (simp only [List.length_set]; omega)), ?_⟩; conv => whnf) | (refine spD (fun _ => ?_) (fun _ => ?_) <;> conv => whnf) | (refine spN (fun _ => ?_) (fun _ => ?_) <;> conv => whnf) | (refine spE (fun _ => ?_) (fun _ => ?_) <;> conv => whnf) | (refine spNe (fun _ => ?_) (fun _ => ?_) <;> conv => whnf) | (refine gvu (by omega) (by omega) ?_; conv => whnf) | (refine spBn (fun _ => ?_) (fun _ => ?_) <;> conv => whnf) | (refine spG (fun _ => ?_) (fun _ => ?_) <;> conv => whnf))
  all_goals try exact ⟨_, _, bad_rs (by decide), [], rfl, ⟨⟨⟨rfl, rfl⟩, ⟨rfl, rfl⟩, rfl, rfl, ⟨rfl, rfl⟩, ⟨rfl, rfl⟩, ⟨rfl, rfl⟩, ⟨rfl, rfl⟩, trivial⟩, ⟨rfl, rfl⟩, trivial⟩, trivial⟩
  exact ⟨_, _, ⟨{ s with ts := s.ts.set e.tenant.toNat { x with target := -1 } }, 0, rfl, rfl, fun _ => h.setT hg hx { hxo with target := ⟨by show (-1 : Int) ≤ -1; omega, by show (-1 : Int) < _; omega⟩, open_ := fun _ => rfl, apart := .inl rfl } (fun k ld sh h1 h2 h3 => (by unfold con; dsimp only; (repeat' split) <;> first | omega | contradiction))⟩, [], rfl, ⟨⟨⟨rfl, rfl⟩, ⟨rfl, rfl⟩, (sT (by first | (intro y; rfl) | (intro y; simp)) rfl).symm, rfl, ⟨rfl, rfl⟩, ⟨rfl, rfl⟩, ⟨rfl, rfl⟩, ⟨rfl, rfl⟩, trivial⟩, ⟨rfl, rfl⟩, trivial⟩, trivial⟩

theorem shed_q (c : Cfg) (s : St) (e : Ent) (w : WG c) (h : StOk c s) (ht : 0 ≤ e.tenant ∧ e.tenant < c.tenants.length) : ExH Tryz.prog 110 [cfgV c, stO s 0 1, entV e] (stH s) (RS c [.gone, .gone]) := by
  have hg := w.good
  have hn := h.pre.nt
  have hnc := h.pre.nc
  have l1 := rTS_len s.ts
  have l2 := rCS_len s.cs
  obtain ⟨x, hx⟩ := get_int (l := s.ts) ht.1 (by omega)
  have hxo := h.pre.t x (List.mem_of_getElem? hx)
  have hC := hg.cells
  have hhome := hxo.home.2
  obtain ⟨y, hy⟩ := opt_get (l := s.cs) (k := x.home) (by omega)
  refine callsE_of tab mixed noRel Tryz.func110 rfl (by decide) rfl rfl ?_
  conv => whnf
  refine ⟨ht.1, by omega, ?_⟩
  conv => whnf
  refine spE (fun q => ?_) (fun q => ?_) <;> conv => whnf
  · repeat' (first | contradiction | (refine gv (by omega) (by omega) ?_; conv => whnf) | (refine ⟨by kernel_rfl, ?_⟩; conv => whnf) | (refine ⟨_, _, no_c _, ?_⟩; conv => whnf) | (refine ⟨_, rTS_get hx, ?_⟩; conv => whnf) | (refine ⟨_, sg (by first | omega | (simp only [List.length_set]; omega)), ?_⟩; conv => whnf) | (refine spD (fun _ => ?_) (fun _ => ?_) <;> conv => whnf) | (refine spN (fun _ => ?_) (fun _ => ?_) <;> conv => whnf) | (refine spE (fun _ => ?_) (fun _ => ?_) <;> conv => whnf) | (refine spNe (fun _ => ?_) (fun _ => ?_) <;> conv => whnf) | (refine gvu (by omega) (by omega) ?_; conv => whnf) | (refine spBn (fun _ => ?_) (fun _ => ?_) <;> conv => whnf) | (refine spG (fun _ => ?_) (fun _ => ?_) <;> conv => whnf))
    all_goals try exact ⟨_, _, bad_rs (by decide), [], rfl, ⟨⟨⟨rfl, rfl⟩, ⟨rfl, rfl⟩, rfl, rfl, ⟨rfl, rfl⟩, ⟨rfl, rfl⟩, ⟨rfl, rfl⟩, ⟨rfl, rfl⟩, trivial⟩, ⟨rfl, rfl⟩, trivial⟩, trivial⟩
    have hp : x.placed = true := by assumption
    exact ⟨_, _, ⟨{ s with ts := s.ts.set e.tenant.toNat { x with shed := true, target := -1 } }, 0, rfl, rfl, fun _ => h.setT hg hx { hxo with target := ⟨by show (-1 : Int) ≤ -1; omega, by show (-1 : Int) < _; omega⟩, open_ := fun _ => rfl, apart := .inl rfl, shed := fun _ => hp } (fun k ld sh h1 h2 h3 => (by unfold con; dsimp only; (repeat' split) <;> first | omega | contradiction))⟩, [], rfl, ⟨⟨⟨rfl, rfl⟩, ⟨rfl, rfl⟩, (sT (by first | (intro y; rfl) | (intro y; simp)) rfl).symm, rfl, ⟨rfl, rfl⟩, ⟨rfl, rfl⟩, ⟨rfl, rfl⟩, ⟨rfl, rfl⟩, trivial⟩, ⟨rfl, rfl⟩, trivial⟩, trivial⟩
  · refine ⟨_, rTS_get hx, ?_⟩
    conv => whnf
    refine spBn (fun b1 => ?_) (fun b1 => ?_) <;> conv => whnf
    · repeat' (first | contradiction | (refine gv (by omega) (by omega) ?_; conv => whnf) | (refine ⟨by kernel_rfl, ?_⟩; conv => whnf) | (refine ⟨_, _, no_c _, ?_⟩; conv => whnf) | (refine spD (fun _ => ?_) (fun _ => ?_) <;> conv => whnf) | (refine spN (fun _ => ?_) (fun _ => ?_) <;> conv => whnf) | (refine spE (fun _ => ?_) (fun _ => ?_) <;> conv => whnf) | (refine spNe (fun _ => ?_) (fun _ => ?_) <;> conv => whnf) | (refine gvu (by omega) (by omega) ?_; conv => whnf) | (refine spBn (fun _ => ?_) (fun _ => ?_) <;> conv => whnf) | (refine spG (fun _ => ?_) (fun _ => ?_) <;> conv => whnf))
      all_goals try exact ⟨_, _, bad_rs (by decide), [], rfl, ⟨⟨⟨rfl, rfl⟩, ⟨rfl, rfl⟩, rfl, rfl, ⟨rfl, rfl⟩, ⟨rfl, rfl⟩, ⟨rfl, rfl⟩, ⟨rfl, rfl⟩, trivial⟩, ⟨rfl, rfl⟩, trivial⟩, trivial⟩
    have h0 := hxo.placed (hxo.shed b1)
    repeat' (first | contradiction | (refine gv (by omega) (by omega) ?_; conv => whnf) | (refine ⟨by kernel_rfl, ?_⟩; conv => whnf) | (refine ⟨_, _, no_c _, ?_⟩; conv => whnf) | (refine ⟨h0, by omega, ?_⟩; conv => whnf) | (refine ⟨_, rTS_get hx, ?_⟩; conv => whnf) | (refine ⟨_, rCS_get (hy h0), ?_⟩; conv => whnf) | (refine spD (fun _ => ?_) (fun _ => ?_) <;> conv => whnf) | (refine spN (fun _ => ?_) (fun _ => ?_) <;> conv => whnf) | (refine spE (fun _ => ?_) (fun _ => ?_) <;> conv => whnf) | (refine spNe (fun _ => ?_) (fun _ => ?_) <;> conv => whnf) | (refine gvu (by omega) (by omega) ?_; conv => whnf) | (refine spBn (fun _ => ?_) (fun _ => ?_) <;> conv => whnf) | (refine spG (fun _ => ?_) (fun _ => ?_) <;> conv => whnf))
    all_goals try exact ⟨_, _, bad_rs (by decide), [], rfl, ⟨⟨⟨rfl, rfl⟩, ⟨rfl, rfl⟩, rfl, rfl, ⟨rfl, rfl⟩, ⟨rfl, rfl⟩, ⟨rfl, rfl⟩, ⟨rfl, rfl⟩, trivial⟩, ⟨rfl, rfl⟩, trivial⟩, trivial⟩
    refine exK (fit_r c { s with ts := s.ts.set e.tenant.toNat { x with shed := false } } hg (h.pre.setT _ { hxo with shed := fun h => (by cases h) }) (sT (by intro y; rfl) rfl) rfl) ?_
    rintro _ _ ⟨s9, b9, rfl, rfl, h9⟩
    conv => whnf
    exact ⟨_, _, ⟨s9, b9, rfl, rfl, h9⟩, [], rfl, ⟨⟨⟨rfl, rfl⟩, ⟨rfl, rfl⟩, rfl, rfl, ⟨rfl, rfl⟩, ⟨rfl, rfl⟩, ⟨rfl, rfl⟩, ⟨rfl, rfl⟩, trivial⟩, ⟨rfl, rfl⟩, trivial⟩, trivial⟩

def mn (a b : Int) : Int := if b < a then b else a

abbrev winV (a b d f u : Int) : AV := .agg [.d (i64 a), .d (i64 b), .d (i64 d), .d (i64 f), .d (i64 u)]

theorem cutW_c (a b d f u k : Int) (hk : 0 ≤ k ∧ k ≤ 1073741824) : CallsH Tryz.prog 134 [winV a b d f u, I k] [] (winV a b d (mn f (mn u (k + 1))) (mn u (k + 1))) [] := by
  refine callsR_of tab mixed Tryz.func134 rfl (by decide) rfl rfl ?_
  conv => whnf
  refine gv (by first | omega | (simp only []; omega) | (simp; omega)) (by first | omega | (simp only []; omega) | (simp; omega)) ?_
  conv => whnf
  refine ⟨[], rfl, ?_⟩
  repeat' (first | exact trivial | rfl | refine And.intro ?_ ?_)
  all_goals (conv => whnf)
  repeat' (first | exact trivial | rfl | refine And.intro ?_ ?_)

theorem cut_q (c : Cfg) (s : St) (e : Ent) (w : WG c) (h : StOk c s) (ht : 0 ≤ e.tenant ∧ e.tenant < c.tenants.length) (hk : 0 ≤ e.tick ∧ e.tick ≤ 1073741824) : ExH Tryz.prog 105 [stO s 0 1, entV e] (stH s) (RS c [.gone, .gone]) := by
  have hg := w.good
  have hn := h.pre.nt
  have l1 := rTS_len s.ts
  obtain ⟨x, hx⟩ := get_int (l := s.ts) ht.1 (by omega)
  have hxo := h.pre.t x (List.mem_of_getElem? hx)
  have hf := hxo.wf
  have hu := hxo.wu
  have hu' : 0 ≤ mn x.wu (e.tick + 1) ∧ mn x.wu (e.tick + 1) ≤ 1073741825 := by unfold mn; split <;> omega
  have hf' : 0 ≤ mn x.wf (mn x.wu (e.tick + 1)) ∧ mn x.wf (mn x.wu (e.tick + 1)) ≤ 1073741825 := by
    generalize mn x.wu (e.tick + 1) = q at hu'
    unfold mn; split <;> omega
  refine callsE_of tab mixed noRel Tryz.func105 rfl (by decide) rfl rfl ?_
  conv => whnf
  refine ⟨ht.1, by omega, ?_⟩
  conv => whnf
  repeat' (first | contradiction | (refine gv (by omega) (by omega) ?_; conv => whnf) | (refine ⟨by kernel_rfl, ?_⟩; conv => whnf) | (refine ⟨_, _, no_c _, ?_⟩; conv => whnf) | (refine ⟨_, _, cutW_c _ _ _ _ _ _ hk, ?_⟩; conv => whnf) | (refine ⟨_, rTS_get hx, ?_⟩; conv => whnf) | (refine ⟨_, sg (by first | omega | (simp only [List.length_set]; omega)), ?_⟩; conv => whnf) | (refine spD (fun _ => ?_) (fun _ => ?_) <;> conv => whnf) | (refine spN (fun _ => ?_) (fun _ => ?_) <;> conv => whnf) | (refine spE (fun _ => ?_) (fun _ => ?_) <;> conv => whnf) | (refine spNe (fun _ => ?_) (fun _ => ?_) <;> conv => whnf) | (refine gvu (by omega) (by omega) ?_; conv => whnf) | (refine spBn (fun _ => ?_) (fun _ => ?_) <;> conv => whnf) | (refine spG (fun _ => ?_) (fun _ => ?_) <;> conv => whnf))
  all_goals try exact ⟨_, _, bad_rs (by decide), [], rfl, ⟨⟨⟨rfl, rfl⟩, ⟨rfl, rfl⟩, rfl, rfl, ⟨rfl, rfl⟩, ⟨rfl, rfl⟩, ⟨rfl, rfl⟩, ⟨rfl, rfl⟩, trivial⟩, ⟨rfl, rfl⟩, trivial⟩, trivial⟩
  exact ⟨_, _, ⟨{ s with ts := s.ts.set e.tenant.toNat { x with wf := mn x.wf (mn x.wu (e.tick + 1)), wu := mn x.wu (e.tick + 1) } }, 0, rfl, rfl, fun _ => h.setT hg hx { hxo with wf := hf', wu := hu' } (fun k ld sh h1 h2 h3 => Int.le_refl _)⟩, [], rfl, ⟨⟨⟨rfl, rfl⟩, ⟨rfl, rfl⟩, (sT (by first | (intro y; rfl) | (intro y; simp)) rfl).symm, rfl, ⟨rfl, rfl⟩, ⟨rfl, rfl⟩, ⟨rfl, rfl⟩, ⟨rfl, rfl⟩, trivial⟩, ⟨rfl, rfl⟩, trivial⟩, trivial⟩

end Go.Proofs.YtncckpieemmmfaaGreat
