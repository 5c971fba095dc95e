/- Contracts: how the reference of state applies entries of cells and of versions. Conditions: those ahead of each theorem. -/
import Derived.Test.YtncckpieemmmfaaGreatRef12d
namespace Go.Proofs.YtncckpieemmmfaaGreat
open Go Go.Cpl

theorem r2_some {l : List (Int × Int)} {k : Int} (h0 : 0 ≤ k) (h : k < l.length) : ∃ v : Int × Int, (r2 l)[k.toNat]? = some [i64 v.1, i64 v.2] := by
  obtain ⟨v, hv⟩ := get_int (l := l) h0 (by omega)
  exact ⟨v, r2_get hv⟩

theorem expand_q (c : Cfg) (s : St) (w : WG c) (h : StOk c s) : ExH Tryz.prog 115 [cfgV c, stO s 0 1] (stH s) (RS c [.gone, .gone]) := by
  have hnc := h.pre.nc
  have l2 := rCS_len s.cs
  have hC := w.good.cells
  have hs := h.pre.schema
  refine callsE_of tab mixed noRel Tryz.func115 rfl (by decide) rfl rfl ?_
  conv => whnf
  refine spD (fun q1 => ?_) (fun q1 => ?_) <;> conv => whnf
  · refine ⟨_, _, no_c 4, ?_⟩
    conv => whnf
    all_goals try exact ⟨_, _, bad_rs (by decide), [], rfl, ⟨⟨⟨rfl, rfl⟩, ⟨rfl, rfl⟩, rfl, rfl, ⟨rfl, rfl⟩, ⟨rfl, rfl⟩, ⟨rfl, rfl⟩, ⟨rfl, rfl⟩, trivial⟩, ⟨rfl, rfl⟩, trivial⟩, trivial⟩
  refine spD (fun q2 => ?_) (fun q2 => ?_) <;> conv => whnf
  · refine ⟨_, _, no_c 2, ?_⟩
    conv => whnf
    all_goals try exact ⟨_, _, bad_rs (by decide), [], rfl, ⟨⟨⟨rfl, rfl⟩, ⟨rfl, rfl⟩, rfl, rfl, ⟨rfl, rfl⟩, ⟨rfl, rfl⟩, ⟨rfl, rfl⟩, ⟨rfl, rfl⟩, trivial⟩, ⟨rfl, rfl⟩, trivial⟩, trivial⟩
  refine loopEN tab mixed noRel (fun i => i ≤ s.cs.length) s.cs.length (fun i => [(6, I i)]) (fun _ => []) 50 [] (by omega) ?_
  conv => whnf
  refine ⟨?_, fun i hi => ?_⟩
  · repeat' (first | exact trivial | rfl | refine And.intro ?_ ?_)
    all_goals (conv => whnf)
    repeat' (first | exact trivial | rfl | refine And.intro ?_ ?_)
  conv => whnf
  refine spD (fun h1 => ?_) (fun h1 => ?_) <;> conv => whnf
  · have hi' : i < s.cs.length := by omega
    obtain ⟨y, hy⟩ := get_of hi'
    have hyo := h.pre.c y (List.mem_of_getElem? hy)
    obtain ⟨v1, hv1⟩ := r2_some (l := c.versions) hyo.running.1 hyo.running.2
    obtain ⟨v2, hv2⟩ := r2_some (l := c.versions) hyo.wanted.1 hyo.wanted.2
    have hy' : s.cs[(i : Int).toNat]? = some y := by simpa using hy
    refine ⟨by omega, by omega, ?_⟩
    conv => whnf
    refine ⟨_, rCS_get hy', ?_⟩
    conv => whnf
    refine ⟨by kernel_rfl, ?_⟩
    conv => whnf
    refine ⟨hyo.running.1, _, hv1, ?_⟩
    conv => whnf
    refine spD (fun q3 => ?_) (fun q3 => ?_) <;> conv => whnf
    · refine ⟨_, _, no_c 13, ?_⟩
      conv => whnf
      all_goals try exact ⟨_, _, bad_rs (by decide), [], rfl, ⟨⟨⟨rfl, rfl⟩, ⟨rfl, rfl⟩, rfl, rfl, ⟨rfl, rfl⟩, ⟨rfl, rfl⟩, ⟨rfl, rfl⟩, ⟨rfl, rfl⟩, trivial⟩, ⟨rfl, rfl⟩, trivial⟩, trivial⟩
    · refine ⟨hyo.wanted.1, _, hv2, ?_⟩
      conv => whnf
      refine spD (fun q4 => ?_) (fun q4 => ?_) <;> conv => whnf
      · refine ⟨_, _, no_c 13, ?_⟩
        conv => whnf
        all_goals try exact ⟨_, _, bad_rs (by decide), [], rfl, ⟨⟨⟨rfl, rfl⟩, ⟨rfl, rfl⟩, rfl, rfl, ⟨rfl, rfl⟩, ⟨rfl, rfl⟩, ⟨rfl, rfl⟩, ⟨rfl, rfl⟩, trivial⟩, ⟨rfl, rfl⟩, trivial⟩, trivial⟩
      · refine gv (by first | omega | (simp only []; omega) | (simp; omega)) (by first | omega | (simp only []; omega) | (simp; omega)) ?_
        conv => whnf
        refine ⟨⟨hi', hi'⟩, [], ?_⟩
        repeat' (first | exact trivial | rfl | refine And.intro ?_ ?_)
        all_goals (conv => whnf)
        repeat' (first | exact trivial | rfl | refine And.intro ?_ ?_)
  · refine gv (by first | omega | (simp only []; omega) | (simp; omega)) (by first | omega | (simp only []; omega) | (simp; omega)) ?_
    conv => whnf
    exact ⟨_, _, ⟨{ s with high := s.high + 1 }, 0, rfl, rfl, fun _ => ⟨{ h.pre with schema := ⟨hs.1, by show 0 ≤ s.high + 1; omega, by show s.high + 1 ≤ 30; omega⟩ }, h.cap⟩⟩, [], rfl, ⟨⟨⟨rfl, rfl⟩, ⟨rfl, rfl⟩, rfl, rfl, ⟨rfl, rfl⟩, ⟨rfl, rfl⟩, ⟨rfl, rfl⟩, ⟨rfl, rfl⟩, trivial⟩, ⟨rfl, rfl⟩, trivial⟩, trivial⟩

theorem StPre.setC {c : Cfg} {s : St} (h : StPre c s) (i : Nat) {x : CS4} (hx : COk c x) : StPre c { s with cs := s.cs.set i x } := by
  refine ⟨h.nt, ?_, h.t, ?_, h.tick, h.count, h.schema⟩
  · show (s.cs.set i x).length = _
    rw [List.length_set]; exact h.nc
  · intro y hy
    rcases List.mem_or_eq_of_mem_set hy with h1 | h1
    · exact h.c y h1
    · rw [h1]; exact hx

theorem sC {l : List CS4} {i : Nat} {r : List (List D)} {x : CS4} {d : List D} (h : ∀ y, r.set i y = (rCS l).set i y) (hd : d = csD x) : r.set i d = rCS (l.set i x) := by
  rw [h, hd, rCS_set]

theorem runs_q (c : Cfg) (s : St) (e : Ent) (h : StOk c s) (hc : 0 ≤ e.cell ∧ e.cell < c.cells.length) (hv : 0 ≤ e.n ∧ e.n < c.versions.length) (hk : 0 ≤ e.tick ∧ e.tick ≤ 1073741824) (hT : c.tenants.length ≤ 32) : ExH Tryz.prog 112 [stO s 0 1, entV e] (stH s) (RS c [.gone, .gone]) := by
  have hn := h.pre.nt
  have hnc := h.pre.nc
  have l1 := rTS_len s.ts
  have l2 := rCS_len s.cs
  obtain ⟨y, hy⟩ := get_int (l := s.cs) hc.1 (by omega)
  have hyo := h.pre.c y (List.mem_of_getElem? hy)
  have hok : StOk c { s with cs := s.cs.set e.cell.toNat { y with running := e.n, since := e.tick } } := ⟨h.pre.setC _ { hyo with running := hv, since := hk }, h.cap⟩
  refine callsE_of tab mixed noRel Tryz.func112 rfl (by decide) rfl rfl ?_
  conv => whnf
  refine ⟨hc.1, by omega, ?_⟩
  conv => whnf
  repeat' (first | contradiction | (refine gv (by omega) (by omega) ?_; conv => whnf) | (refine ⟨by kernel_rfl, ?_⟩; conv => whnf) | (refine ⟨_, _, no_c _, ?_⟩; conv => whnf) | (refine ⟨_, _, proven_c s _, ?_⟩; conv => whnf) | (refine ⟨_, rCS_get hy, ?_⟩; conv => whnf) | (refine spD (fun _ => ?_) (fun _ => ?_) <;> conv => whnf) | (refine spN (fun _ => ?_) (fun _ => ?_) <;> conv => whnf) | (refine spE (fun _ => ?_) (fun _ => ?_) <;> conv => whnf) | (refine spNe (fun _ => ?_) (fun _ => ?_) <;> conv => whnf) | (refine gvu (by omega) (by omega) ?_; conv => whnf) | (refine spBn (fun _ => ?_) (fun _ => ?_) <;> conv => whnf) | (refine spG (fun _ => ?_) (fun _ => ?_) <;> conv => whnf))
  all_goals try exact ⟨_, _, bad_rs (by decide), [], rfl, ⟨⟨⟨rfl, rfl⟩, ⟨rfl, rfl⟩, rfl, rfl, ⟨rfl, rfl⟩, ⟨rfl, rfl⟩, ⟨rfl, rfl⟩, ⟨rfl, rfl⟩, trivial⟩, ⟨rfl, rfl⟩, trivial⟩, trivial⟩
  all_goals
    refine loopEN tab mixed noRel (fun i => i ≤ s.ts.length) s.ts.length (fun i => [(7, I i)]) (fun _ => []) 50 [] (by omega) ?_
    conv => whnf
    refine ⟨?_, fun i hi => ?_⟩
    · repeat' (first | exact trivial | rfl | refine And.intro ?_ ?_)
      all_goals (conv => whnf)
      repeat' (first | exact trivial | rfl | refine And.intro ?_ ?_)
    conv => whnf
    refine spD (fun h1 => ?_) (fun h1 => ?_) <;> conv => whnf
    · have hi' : i < s.ts.length := by omega
      obtain ⟨x, hx⟩ := get_of hi'
      have hx' : s.ts[(i : Int).toNat]? = some x := by simpa using hx
      refine ⟨by omega, by omega, ?_⟩
      conv => whnf
      refine ⟨_, rTS_get hx', ?_⟩
      conv => whnf
      repeat' (first | contradiction | (refine gv (by omega) (by omega) ?_; conv => whnf) | (refine ⟨by kernel_rfl, ?_⟩; conv => whnf) | (refine ⟨_, _, no_c _, ?_⟩; conv => whnf) | (refine spD (fun _ => ?_) (fun _ => ?_) <;> conv => whnf) | (refine spN (fun _ => ?_) (fun _ => ?_) <;> conv => whnf) | (refine spE (fun _ => ?_) (fun _ => ?_) <;> conv => whnf) | (refine spNe (fun _ => ?_) (fun _ => ?_) <;> conv => whnf) | (refine gvu (by omega) (by omega) ?_; conv => whnf) | (refine spBn (fun _ => ?_) (fun _ => ?_) <;> conv => whnf) | (refine spG (fun _ => ?_) (fun _ => ?_) <;> conv => whnf))
      all_goals try exact ⟨_, _, bad_rs (by decide), [], rfl, ⟨⟨⟨rfl, rfl⟩, ⟨rfl, rfl⟩, rfl, rfl, ⟨rfl, rfl⟩, ⟨rfl, rfl⟩, ⟨rfl, rfl⟩, ⟨rfl, rfl⟩, trivial⟩, ⟨rfl, rfl⟩, trivial⟩, trivial⟩
      all_goals
        refine ⟨⟨hi', hi'⟩, [], ?_⟩
        repeat' (first | exact trivial | rfl | refine And.intro ?_ ?_)
        all_goals (conv => whnf)
        repeat' (first | exact trivial | rfl | refine And.intro ?_ ?_)
    · refine ⟨by kernel_rfl, ?_⟩
      conv => whnf
      refine ⟨_, rCS_get hy, ?_⟩
      conv => whnf
      refine ⟨_, sg (by omega), ?_⟩
      conv => whnf
      exact ⟨_, _, ⟨{ s with cs := s.cs.set e.cell.toNat { y with running := e.n, since := e.tick } }, 0, rfl, rfl, fun _ => hok⟩, [], rfl, ⟨⟨⟨rfl, rfl⟩, ⟨rfl, rfl⟩, rfl, (sC (by intro y; simp) rfl).symm, ⟨rfl, rfl⟩, ⟨rfl, rfl⟩, ⟨rfl, rfl⟩, ⟨rfl, rfl⟩, trivial⟩, ⟨rfl, rfl⟩, trivial⟩, trivial⟩

theorem prove_q (c : Cfg) (s : St) (e : Ent) (w : WG c) (h : StOk c s) (hv : 0 ≤ e.n ∧ e.n < c.versions.length) (hk : 0 ≤ e.tick ∧ e.tick ≤ 1073741824) : ExH Tryz.prog 113 [cfgV c, stO s 0 1, entV e] (stH s) (RS c [.gone, .gone]) := by
  have hnc := h.pre.nc
  have l2 := rCS_len s.cs
  have hC := w.good.cells
  have hb := w.bake
  have hvv := w.vers
  refine callsE_of tab mixed noRel Tryz.func113 rfl (by decide) rfl rfl ?_
  conv => whnf
  refine ⟨_, _, proven_c s _, ?_⟩
  conv => whnf
  refine ⟨fun b1 => ?_, fun b1 => ?_⟩ <;> conv => whnf
  · refine ⟨_, _, no_c 4, ?_⟩
    conv => whnf
    all_goals try exact ⟨_, _, bad_rs (by decide), [], rfl, ⟨⟨⟨rfl, rfl⟩, ⟨rfl, rfl⟩, rfl, rfl, ⟨rfl, rfl⟩, ⟨rfl, rfl⟩, ⟨rfl, rfl⟩, ⟨rfl, rfl⟩, trivial⟩, ⟨rfl, rfl⟩, trivial⟩, trivial⟩
  refine loopEN tab mixed noRel (fun i => i ≤ s.cs.length) s.cs.length (fun i => [(8, I i)]) (fun _ => []) 50 [] (by omega) ?_
  conv => whnf
  refine ⟨?_, fun i hi => ?_⟩
  · repeat' (first | exact trivial | rfl | refine And.intro ?_ ?_)
    all_goals (conv => whnf)
    repeat' (first | exact trivial | rfl | refine And.intro ?_ ?_)
  conv => whnf
  refine spD (fun h1 => ?_) (fun h1 => ?_) <;> conv => whnf
  · have hi' : i < s.cs.length := by omega
    obtain ⟨y, hy⟩ := get_of hi'
    have hyo := h.pre.c y (List.mem_of_getElem? hy)
    have hsi := hyo.since
    have hy' : s.cs[(i : Int).toNat]? = some y := by simpa using hy
    refine ⟨by omega, by omega, ?_⟩
    conv => whnf
    refine ⟨_, rCS_get hy', ?_⟩
    conv => whnf
    repeat' (first | contradiction | (refine gv (by omega) (by omega) ?_; conv => whnf) | (refine ⟨by kernel_rfl, ?_⟩; conv => whnf) | (refine spD (fun _ => ?_) (fun _ => ?_) <;> conv => whnf) | (refine spN (fun _ => ?_) (fun _ => ?_) <;> conv => whnf) | (refine spE (fun _ => ?_) (fun _ => ?_) <;> conv => whnf) | (refine spNe (fun _ => ?_) (fun _ => ?_) <;> conv => whnf) | (refine gvu (by omega) (by omega) ?_; conv => whnf) | (refine spBn (fun _ => ?_) (fun _ => ?_) <;> conv => whnf) | (refine spG (fun _ => ?_) (fun _ => ?_) <;> conv => whnf))
    all_goals try
      (refine ⟨⟨hi', hi'⟩, [], ?_⟩
       (repeat' (first | exact trivial | rfl | refine And.intro ?_ ?_))
       done)
    refine ⟨hv.1, .intro _ rfl ?_⟩
    conv => whnf
    generalize IntKind.i64.wrap _ = p1
    refine .intro _ rfl ?_
    conv => whnf
    exact ⟨_, _, ⟨{ s with proven := p1 }, 0, rfl, rfl, fun _ => ⟨{ h.pre with }, h.cap⟩⟩, [], rfl, ⟨⟨⟨rfl, rfl⟩, ⟨rfl, rfl⟩, rfl, rfl, ⟨rfl, rfl⟩, ⟨rfl, rfl⟩, ⟨rfl, rfl⟩, ⟨rfl, rfl⟩, trivial⟩, ⟨rfl, rfl⟩, trivial⟩, trivial⟩
  · refine ⟨_, _, no_c 15, ?_⟩
    conv => whnf
    all_goals try exact ⟨_, _, bad_rs (by decide), [], rfl, ⟨⟨⟨rfl, rfl⟩, ⟨rfl, rfl⟩, rfl, rfl, ⟨rfl, rfl⟩, ⟨rfl, rfl⟩, ⟨rfl, rfl⟩, ⟨rfl, rfl⟩, trivial⟩, ⟨rfl, rfl⟩, trivial⟩, trivial⟩

set_option maxHeartbeats 4000000 in
set_option maxRecDepth 100000 in
theorem want_q (c : Cfg) (s : St) (e : Ent) (w : WG c) (h : StOk c s) (hc : 0 ≤ e.cell ∧ e.cell < c.cells.length) (hv : 0 ≤ e.n ∧ e.n < c.versions.length) : ExH Tryz.prog 111 [cfgV c, stO s 0 1, entV e] (stH s) (RS c [.gone, .gone]) := by
  have hnc := h.pre.nc
  have l2 := rCS_len s.cs
  have hC := w.good.cells
  obtain ⟨y, hy⟩ := get_int (l := s.cs) hc.1 (by omega)
  have hyo := h.pre.c y (List.mem_of_getElem? hy)
  obtain ⟨v, hv1⟩ := r2_some (l := c.versions) hv.1 hv.2
  have hok : StOk c { s with cs := s.cs.set e.cell.toNat { y with wanted := e.n } } := ⟨h.pre.setC _ { hyo with wanted := hv }, h.cap⟩
  refine callsE_of tab mixed noRel Tryz.func111 rfl (by decide) rfl rfl ?_
  conv => whnf
  refine ⟨hc.1, by omega, ?_⟩
  conv => whnf
  refine ⟨hv.1, _, hv1, ?_⟩
  conv => whnf
  refine loopE tab mixed noRel (ι := { p : Nat × Nat // p.1 ≤ s.cs.length ∧ p.2 ≤ p.1 }) (fun p => [(11, I (p.1.1 : Int)), (10, I (p.1.2 : Int))]) (fun _ => []) 50 (fun p => s.cs.length - p.1.1) ⟨(0, 0), by omega, by omega⟩ [] ?_
  conv => whnf
  refine ⟨?_, ?_⟩
  · repeat' (first | exact trivial | rfl | refine And.intro ?_ ?_)
    all_goals (conv => whnf)
    repeat' (first | exact trivial | rfl | refine And.intro ?_ ?_)
  rintro ⟨⟨i, n⟩, hi, hn⟩
  dsimp only at hi hn ⊢
  conv => whnf
  refine spD (fun h1 => ?_) (fun h1 => ?_) <;> conv => whnf
  · have hi' : i < s.cs.length := by omega
    obtain ⟨z, hz⟩ := get_of hi'
    have hz' : s.cs[(i : Int).toNat]? = some z := by simpa using hz
    repeat' (first | contradiction | (refine gv (by omega) (by omega) ?_; conv => whnf) | (refine ⟨by kernel_rfl, ?_⟩; conv => whnf) | (refine ⟨_, _, open12_c s (i : Int) (by omega) hz', ?_⟩; conv => whnf) | (refine spD (fun _ => ?_) (fun _ => ?_) <;> conv => whnf) | (refine spN (fun _ => ?_) (fun _ => ?_) <;> conv => whnf) | (refine spE (fun _ => ?_) (fun _ => ?_) <;> conv => whnf) | (refine spNe (fun _ => ?_) (fun _ => ?_) <;> conv => whnf) | (refine gvu (by omega) (by omega) ?_; conv => whnf) | (refine spBn (fun _ => ?_) (fun _ => ?_) <;> conv => whnf) | (refine spG (fun _ => ?_) (fun _ => ?_) <;> conv => whnf))
    all_goals first
      | (refine ⟨⟨(i + 1, n), by omega, by dsimp only; omega⟩, [], ?_, by dsimp only; omega⟩
         (repeat' (first | exact trivial | rfl | refine And.intro ?_ ?_))
         done)
      | (refine ⟨⟨(i + 1, n + 1), by omega, by dsimp only; omega⟩, [], ?_, by dsimp only; omega⟩
         (repeat' (first | exact trivial | rfl | refine And.intro ?_ ?_))
         done)
  · repeat' (first | contradiction | (refine gv (by omega) (by omega) ?_; conv => whnf) | (refine ⟨by kernel_rfl, ?_⟩; conv => whnf) | (refine ⟨_, _, no_c _, ?_⟩; conv => whnf) | (refine ⟨_, _, proven_c s _, ?_⟩; conv => whnf) | (refine ⟨_, rCS_get hy, ?_⟩; conv => whnf) | (refine spD (fun _ => ?_) (fun _ => ?_) <;> conv => whnf) | (refine spN (fun _ => ?_) (fun _ => ?_) <;> conv => whnf) | (refine spE (fun _ => ?_) (fun _ => ?_) <;> conv => whnf) | (refine spNe (fun _ => ?_) (fun _ => ?_) <;> conv => whnf) | (refine gvu (by omega) (by omega) ?_; conv => whnf) | (refine spBn (fun _ => ?_) (fun _ => ?_) <;> conv => whnf) | (refine spG (fun _ => ?_) (fun _ => ?_) <;> conv => whnf))
    all_goals try exact ⟨_, _, bad_rs (by decide), [], rfl, ⟨⟨⟨rfl, rfl⟩, ⟨rfl, rfl⟩, rfl, rfl, ⟨rfl, rfl⟩, ⟨rfl, rfl⟩, ⟨rfl, rfl⟩, ⟨rfl, rfl⟩, trivial⟩, ⟨rfl, rfl⟩, trivial⟩, trivial⟩
    all_goals exact ⟨_, _, ⟨{ s with cs := s.cs.set e.cell.toNat { y with wanted := e.n } }, 0, rfl, rfl, fun _ => hok⟩, [], rfl, ⟨⟨⟨rfl, rfl⟩, ⟨rfl, rfl⟩, rfl, (sC (by intro y; rfl) rfl).symm, ⟨rfl, rfl⟩, ⟨rfl, rfl⟩, ⟨rfl, rfl⟩, ⟨rfl, rfl⟩, trivial⟩, ⟨rfl, rfl⟩, trivial⟩, trivial⟩

end Go.Proofs.YtncckpieemmmfaaGreat
