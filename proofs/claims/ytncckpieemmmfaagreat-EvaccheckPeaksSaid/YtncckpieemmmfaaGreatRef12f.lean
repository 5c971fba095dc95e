/- Contracts: the reference of state applies an entry; a new state; a log. Conditions: those ahead of each theorem. -/
import Derived.Test.YtncckpieemmmfaaGreatRef12e
namespace Go.Proofs.YtncckpieemmmfaaGreat
open Go Go.Cpl

set_option maxHeartbeats 4000000 in
set_option maxRecDepth 100000 in
theorem apply_q (c : Cfg) (s : St) (e : Ent) (w : WG c) (h : StOk c s) : ExH Tryz.prog 73 [cfgV c, stV s, entV e] [] (RS c []) := by
  have hg := w.good
  have hn := h.pre.nt
  have hnc := h.pre.nc
  have hC := hg.cells
  have hT := hg.tenants
  have hcount := h.pre.count
  refine callsE_of tab mixed noRel Tryz.func73 rfl (by decide) rfl rfl ?_
  conv => whnf
  refine exK (valid06_q c e (by omega) (by omega) hg.regions (by have := w.vers; omega)) ?_
  rintro _ _ ⟨b, rfl, rfl, hb⟩
  conv => whnf
  refine spBn (fun b1 => ?_) (fun b1 => ?_) <;> conv => whnf
  · refine ⟨_, _, no_c 1, ?_⟩
    conv => whnf
    all_goals try exact ⟨_, _, bad_rs (by decide), [], rfl, ⟨⟨⟨rfl, rfl⟩, ⟨rfl, rfl⟩, rfl, rfl, ⟨rfl, rfl⟩, ⟨rfl, rfl⟩, ⟨rfl, rfl⟩, ⟨rfl, rfl⟩, trivial⟩, ⟨rfl, rfl⟩, trivial⟩, trivial⟩
  have he := hb b1
  refine spD (fun q1 => ?_) (fun q1 => ?_) <;> conv => whnf
  · refine ⟨_, _, no_c 2, ?_⟩
    conv => whnf
    all_goals try exact ⟨_, _, bad_rs (by decide), [], rfl, ⟨⟨⟨rfl, rfl⟩, ⟨rfl, rfl⟩, rfl, rfl, ⟨rfl, rfl⟩, ⟨rfl, rfl⟩, ⟨rfl, rfl⟩, ⟨rfl, rfl⟩, trivial⟩, ⟨rfl, rfl⟩, trivial⟩, trivial⟩
  refine spD (fun q2 => ?_) (fun q2 => ?_) <;> conv => whnf
  · refine ⟨_, _, no_c 3, ?_⟩
    conv => whnf
    all_goals try exact ⟨_, _, bad_rs (by decide), [], rfl, ⟨⟨⟨rfl, rfl⟩, ⟨rfl, rfl⟩, rfl, rfl, ⟨rfl, rfl⟩, ⟨rfl, rfl⟩, ⟨rfl, rfl⟩, ⟨rfl, rfl⟩, trivial⟩, ⟨rfl, rfl⟩, trivial⟩, trivial⟩
  refine ⟨_, _, copied_c s (by omega) (by omega), ?_⟩
  conv => whnf
  refine gv (by first | omega | (simp only []; omega) | (simp; omega)) (by first | omega | (simp only []; omega) | (simp; omega)) ?_
  conv => whnf
  have h' : StOk c { s with tick := e.tick, count := s.count + 1 } := ⟨{ h.pre with tick := he.tick, count := ⟨by show 0 ≤ s.count + 1; omega, by show s.count + 1 ≤ 4096; omega⟩ }, h.cap⟩
  refine spE (fun k1 => ?_) (fun k1 => ?_) <;> conv => whnf
  · have u_t : hasF e.kind 116 = true := by rw [k1]; decide
    have u_c : hasF e.kind 99 = true := by rw [k1]; decide
    have u_o : hasF e.kind 111 = true := by rw [k1]; decide
    have a_t := he.p.t u_t
    have a_c := he.p.c u_c
    have a_o := (he.p.o u_o).1
    refine exK (place_q c { s with tick := e.tick, count := s.count + 1 } e w h' ⟨a_t.1, by omega⟩ ⟨a_c.1, by omega⟩ ⟨a_o.1, by omega⟩) ?_
    rintro _ _ ⟨s9, b9, rfl, rfl, h9⟩
    conv => whnf
    exact ⟨_, _, ⟨s9, b9, rfl, rfl, h9⟩, [], rfl, ⟨⟨⟨rfl, rfl⟩, ⟨rfl, rfl⟩, rfl, rfl, ⟨rfl, rfl⟩, ⟨rfl, rfl⟩, ⟨rfl, rfl⟩, ⟨rfl, rfl⟩, trivial⟩, ⟨rfl, rfl⟩, trivial⟩, trivial⟩
  refine spE (fun k2 => ?_) (fun k2 => ?_) <;> conv => whnf
  · have u_t : hasF e.kind 116 = true := by rw [k2]; decide
    have u_c : hasF e.kind 99 = true := by rw [k2]; decide
    have u_e : hasF e.kind 101 = true := by rw [k2]; decide
    have u_w : hasF e.kind 119 = true := by rw [k2]; decide
    have a_t := he.p.t u_t
    have a_c := he.p.c u_c
    refine exK (grant_q c { s with tick := e.tick, count := s.count + 1 } e w h' ⟨a_t.1, by omega⟩ ⟨a_c.1, by omega⟩ (he.n.ep u_e) he.tick (he.n.w u_w).1 (he.n.w u_w).2) ?_
    rintro _ _ ⟨s9, b9, rfl, rfl, h9⟩
    conv => whnf
    exact ⟨_, _, ⟨s9, b9, rfl, rfl, h9⟩, [], rfl, ⟨⟨⟨rfl, rfl⟩, ⟨rfl, rfl⟩, rfl, rfl, ⟨rfl, rfl⟩, ⟨rfl, rfl⟩, ⟨rfl, rfl⟩, ⟨rfl, rfl⟩, trivial⟩, ⟨rfl, rfl⟩, trivial⟩, trivial⟩
  refine spE (fun k3 => ?_) (fun k3 => ?_) <;> conv => whnf
  · have u_t : hasF e.kind 116 = true := by rw [k3]; decide
    have a_t := he.p.t u_t
    refine exK (cut_q c { s with tick := e.tick, count := s.count + 1 } e w h' ⟨a_t.1, by omega⟩ he.tick) ?_
    rintro _ _ ⟨s9, b9, rfl, rfl, h9⟩
    conv => whnf
    exact ⟨_, _, ⟨s9, b9, rfl, rfl, h9⟩, [], rfl, ⟨⟨⟨rfl, rfl⟩, ⟨rfl, rfl⟩, rfl, rfl, ⟨rfl, rfl⟩, ⟨rfl, rfl⟩, ⟨rfl, rfl⟩, ⟨rfl, rfl⟩, trivial⟩, ⟨rfl, rfl⟩, trivial⟩, trivial⟩
  refine spE (fun k4 => ?_) (fun k4 => ?_) <;> conv => whnf
  · have u_t : hasF e.kind 116 = true := by rw [k4]; decide
    have u_C : hasF e.kind 67 = true := by rw [k4]; decide
    have a_t := he.p.t u_t
    have a_C := he.p.cc u_C
    refine exK (standby_q c { s with tick := e.tick, count := s.count + 1 } e w h' ⟨a_t.1, by omega⟩ ⟨a_C.1, by omega⟩) ?_
    rintro _ _ ⟨s9, b9, rfl, rfl, h9⟩
    conv => whnf
    exact ⟨_, _, ⟨s9, b9, rfl, rfl, h9⟩, [], rfl, ⟨⟨⟨rfl, rfl⟩, ⟨rfl, rfl⟩, rfl, rfl, ⟨rfl, rfl⟩, ⟨rfl, rfl⟩, ⟨rfl, rfl⟩, ⟨rfl, rfl⟩, trivial⟩, ⟨rfl, rfl⟩, trivial⟩, trivial⟩
  refine spE (fun k5 => ?_) (fun k5 => ?_) <;> conv => whnf
  · have u_t : hasF e.kind 116 = true := by rw [k5]; decide
    have u_c : hasF e.kind 99 = true := by rw [k5]; decide
    have a_t := he.p.t u_t
    have a_c := he.p.c u_c
    refine exK (ready_q c { s with tick := e.tick, count := s.count + 1 } e w h' ⟨a_t.1, by omega⟩ ⟨a_c.1, by omega⟩) ?_
    rintro _ _ ⟨s9, b9, rfl, rfl, h9⟩
    conv => whnf
    exact ⟨_, _, ⟨s9, b9, rfl, rfl, h9⟩, [], rfl, ⟨⟨⟨rfl, rfl⟩, ⟨rfl, rfl⟩, rfl, rfl, ⟨rfl, rfl⟩, ⟨rfl, rfl⟩, ⟨rfl, rfl⟩, ⟨rfl, rfl⟩, trivial⟩, ⟨rfl, rfl⟩, trivial⟩, trivial⟩
  refine spE (fun k6 => ?_) (fun k6 => ?_) <;> conv => whnf
  · have u_t : hasF e.kind 116 = true := by rw [k6]; decide
    have u_c : hasF e.kind 99 = true := by rw [k6]; decide
    have a_t := he.p.t u_t
    have a_c := he.p.c u_c
    refine exK (migrate_q c { s with tick := e.tick, count := s.count + 1 } e w h' ⟨a_t.1, by omega⟩ ⟨a_c.1, by omega⟩) ?_
    rintro _ _ ⟨s9, b9, rfl, rfl, h9⟩
    conv => whnf
    exact ⟨_, _, ⟨s9, b9, rfl, rfl, h9⟩, [], rfl, ⟨⟨⟨rfl, rfl⟩, ⟨rfl, rfl⟩, rfl, rfl, ⟨rfl, rfl⟩, ⟨rfl, rfl⟩, ⟨rfl, rfl⟩, ⟨rfl, rfl⟩, trivial⟩, ⟨rfl, rfl⟩, trivial⟩, trivial⟩
  refine spE (fun k7 => ?_) (fun k7 => ?_) <;> conv => whnf
  · have u_t : hasF e.kind 116 = true := by rw [k7]; decide
    have a_t := he.p.t u_t
    refine exK (abandon_q c { s with tick := e.tick, count := s.count + 1 } e w h' ⟨a_t.1, by omega⟩) ?_
    rintro _ _ ⟨s9, b9, rfl, rfl, h9⟩
    conv => whnf
    exact ⟨_, _, ⟨s9, b9, rfl, rfl, h9⟩, [], rfl, ⟨⟨⟨rfl, rfl⟩, ⟨rfl, rfl⟩, rfl, rfl, ⟨rfl, rfl⟩, ⟨rfl, rfl⟩, ⟨rfl, rfl⟩, ⟨rfl, rfl⟩, trivial⟩, ⟨rfl, rfl⟩, trivial⟩, trivial⟩
  refine spE (fun k8 => ?_) (fun k8 => ?_) <;> conv => whnf
  · have u_t : hasF e.kind 116 = true := by rw [k8]; decide
    have a_t := he.p.t u_t
    refine exK (shed_q c { s with tick := e.tick, count := s.count + 1 } e w h' ⟨a_t.1, by omega⟩) ?_
    rintro _ _ ⟨s9, b9, rfl, rfl, h9⟩
    conv => whnf
    exact ⟨_, _, ⟨s9, b9, rfl, rfl, h9⟩, [], rfl, ⟨⟨⟨rfl, rfl⟩, ⟨rfl, rfl⟩, rfl, rfl, ⟨rfl, rfl⟩, ⟨rfl, rfl⟩, ⟨rfl, rfl⟩, ⟨rfl, rfl⟩, trivial⟩, ⟨rfl, rfl⟩, trivial⟩, trivial⟩
  refine spE (fun k9 => ?_) (fun k9 => ?_) <;> conv => whnf
  · have u_c : hasF e.kind 99 = true := by rw [k9]; decide
    have a_c := he.p.c u_c
    obtain ⟨y, hy⟩ := get_int (l := s.cs) a_c.1 (by omega)
    have hyo := h.pre.c y (List.mem_of_getElem? hy)
    have l2 := rCS_len s.cs
    repeat' (first | contradiction | (refine gv (by omega) (by omega) ?_; conv => whnf) | (refine ⟨by kernel_rfl, ?_⟩; conv => whnf) | (refine ⟨_, _, no_c _, ?_⟩; conv => whnf) | (refine ⟨a_c.1, by first | omega | (simp only [List.length_set]; omega), ?_⟩; conv => whnf) | (refine ⟨_, rCS_get hy, ?_⟩; conv => whnf) | (refine ⟨_, sg (by first | omega | (simp only [List.length_set]; omega)), ?_⟩; conv => whnf) | (refine spD (fun _ => ?_) (fun _ => ?_) <;> conv => whnf) | (refine spN (fun _ => ?_) (fun _ => ?_) <;> conv => whnf) | (refine spE (fun _ => ?_) (fun _ => ?_) <;> conv => whnf) | (refine spNe (fun _ => ?_) (fun _ => ?_) <;> conv => whnf) | (refine gvu (by omega) (by omega) ?_; conv => whnf) | (refine spBn (fun _ => ?_) (fun _ => ?_) <;> conv => whnf) | (refine spG (fun _ => ?_) (fun _ => ?_) <;> conv => whnf))
    all_goals try exact ⟨_, _, bad_rs (by decide), [], rfl, ⟨⟨⟨rfl, rfl⟩, ⟨rfl, rfl⟩, rfl, rfl, ⟨rfl, rfl⟩, ⟨rfl, rfl⟩, ⟨rfl, rfl⟩, ⟨rfl, rfl⟩, trivial⟩, ⟨rfl, rfl⟩, trivial⟩, trivial⟩
    exact ⟨_, _, ⟨{ s with tick := e.tick, count := s.count + 1, cs := s.cs.set e.cell.toNat { y with mode := e.n, since := e.tick } }, 0, rfl, rfl, fun _ => ⟨h'.pre.setC _ { hyo with since := he.tick }, h.cap⟩⟩, [], rfl, ⟨⟨⟨rfl, rfl⟩, ⟨rfl, rfl⟩, rfl, (sC (by intro y; simp) rfl).symm, ⟨rfl, rfl⟩, ⟨rfl, rfl⟩, ⟨rfl, rfl⟩, ⟨rfl, rfl⟩, trivial⟩, ⟨rfl, rfl⟩, trivial⟩, trivial⟩
  refine spE (fun k10 => ?_) (fun k10 => ?_) <;> conv => whnf
  · have u_c : hasF e.kind 99 = true := by rw [k10]; decide
    have u_v : hasF e.kind 118 = true := by rw [k10]; decide
    have a_c := he.p.c u_c
    have a_v := he.n.v u_v
    refine exK (want_q c { s with tick := e.tick, count := s.count + 1 } e w h' ⟨a_c.1, by omega⟩ ⟨a_v.1, by omega⟩) ?_
    rintro _ _ ⟨s9, b9, rfl, rfl, h9⟩
    conv => whnf
    exact ⟨_, _, ⟨s9, b9, rfl, rfl, h9⟩, [], rfl, ⟨⟨⟨rfl, rfl⟩, ⟨rfl, rfl⟩, rfl, rfl, ⟨rfl, rfl⟩, ⟨rfl, rfl⟩, ⟨rfl, rfl⟩, ⟨rfl, rfl⟩, trivial⟩, ⟨rfl, rfl⟩, trivial⟩, trivial⟩
  refine spE (fun k11 => ?_) (fun k11 => ?_) <;> conv => whnf
  · have u_c : hasF e.kind 99 = true := by rw [k11]; decide
    have u_v : hasF e.kind 118 = true := by rw [k11]; decide
    have a_c := he.p.c u_c
    have a_v := he.n.v u_v
    refine exK (runs_q c { s with tick := e.tick, count := s.count + 1 } e h' ⟨a_c.1, by omega⟩ ⟨a_v.1, by omega⟩ he.tick hT) ?_
    rintro _ _ ⟨s9, b9, rfl, rfl, h9⟩
    conv => whnf
    exact ⟨_, _, ⟨s9, b9, rfl, rfl, h9⟩, [], rfl, ⟨⟨⟨rfl, rfl⟩, ⟨rfl, rfl⟩, rfl, rfl, ⟨rfl, rfl⟩, ⟨rfl, rfl⟩, ⟨rfl, rfl⟩, ⟨rfl, rfl⟩, trivial⟩, ⟨rfl, rfl⟩, trivial⟩, trivial⟩
  refine spE (fun k12 => ?_) (fun k12 => ?_) <;> conv => whnf
  · have u_v : hasF e.kind 118 = true := by rw [k12]; decide
    have a_v := he.n.v u_v
    refine exK (prove_q c { s with tick := e.tick, count := s.count + 1 } e w h' ⟨a_v.1, by omega⟩ he.tick) ?_
    rintro _ _ ⟨s9, b9, rfl, rfl, h9⟩
    conv => whnf
    exact ⟨_, _, ⟨s9, b9, rfl, rfl, h9⟩, [], rfl, ⟨⟨⟨rfl, rfl⟩, ⟨rfl, rfl⟩, rfl, rfl, ⟨rfl, rfl⟩, ⟨rfl, rfl⟩, ⟨rfl, rfl⟩, ⟨rfl, rfl⟩, trivial⟩, ⟨rfl, rfl⟩, trivial⟩, trivial⟩
  refine spE (fun k13 => ?_) (fun k13 => ?_) <;> conv => whnf
  · have u_r : hasF e.kind 114 = true := by rw [k13]; decide
    have a_r := he.p.r u_r
    have hR := hg.regions
    repeat' (first | contradiction | (refine gv (by omega) (by omega) ?_; conv => whnf) | (refine ⟨by kernel_rfl, ?_⟩; conv => whnf) | (refine ⟨_, _, no_c _, ?_⟩; conv => whnf) | (refine ⟨_, _, has_c _ _, ?_⟩; conv => whnf) | (refine spD (fun _ => ?_) (fun _ => ?_) <;> conv => whnf) | (refine spN (fun _ => ?_) (fun _ => ?_) <;> conv => whnf) | (refine spE (fun _ => ?_) (fun _ => ?_) <;> conv => whnf) | (refine spNe (fun _ => ?_) (fun _ => ?_) <;> conv => whnf) | (refine gvu (by omega) (by omega) ?_; conv => whnf) | (refine spBn (fun _ => ?_) (fun _ => ?_) <;> conv => whnf) | (refine spG (fun _ => ?_) (fun _ => ?_) <;> conv => whnf))
    all_goals try exact ⟨_, _, bad_rs (by decide), [], rfl, ⟨⟨⟨rfl, rfl⟩, ⟨rfl, rfl⟩, rfl, rfl, ⟨rfl, rfl⟩, ⟨rfl, rfl⟩, ⟨rfl, rfl⟩, ⟨rfl, rfl⟩, trivial⟩, ⟨rfl, rfl⟩, trivial⟩, trivial⟩
    all_goals
      refine ⟨by omega, .intro _ rfl ?_⟩
      conv => whnf
      generalize IntKind.i64.wrap _ = p1
      refine .intro _ rfl ?_
      conv => whnf
      exact ⟨_, _, ⟨{ s with tick := e.tick, count := s.count + 1, evac := p1 }, 0, rfl, rfl, fun _ => ⟨{ h'.pre with }, h.cap⟩⟩, [], rfl, ⟨⟨⟨rfl, rfl⟩, ⟨rfl, rfl⟩, rfl, rfl, ⟨rfl, rfl⟩, ⟨rfl, rfl⟩, ⟨rfl, rfl⟩, ⟨rfl, rfl⟩, trivial⟩, ⟨rfl, rfl⟩, trivial⟩, trivial⟩
  refine spE (fun k14 => ?_) (fun k14 => ?_) <;> conv => whnf
  · refine exK (expand_q c { s with tick := e.tick, count := s.count + 1 } w h') ?_
    rintro _ _ ⟨s9, b9, rfl, rfl, h9⟩
    conv => whnf
    exact ⟨_, _, ⟨s9, b9, rfl, rfl, h9⟩, [], rfl, ⟨⟨⟨rfl, rfl⟩, ⟨rfl, rfl⟩, rfl, rfl, ⟨rfl, rfl⟩, ⟨rfl, rfl⟩, ⟨rfl, rfl⟩, ⟨rfl, rfl⟩, trivial⟩, ⟨rfl, rfl⟩, trivial⟩, trivial⟩
  refine spE (fun k15 => ?_) (fun k15 => ?_) <;> conv => whnf
  · repeat' (first | contradiction | (refine gv (by omega) (by omega) ?_; conv => whnf) | (refine ⟨by kernel_rfl, ?_⟩; conv => whnf) | (refine ⟨_, _, no_c _, ?_⟩; conv => whnf) | (refine spD (fun _ => ?_) (fun _ => ?_) <;> conv => whnf) | (refine spN (fun _ => ?_) (fun _ => ?_) <;> conv => whnf) | (refine spE (fun _ => ?_) (fun _ => ?_) <;> conv => whnf) | (refine spNe (fun _ => ?_) (fun _ => ?_) <;> conv => whnf) | (refine gvu (by omega) (by omega) ?_; conv => whnf) | (refine spBn (fun _ => ?_) (fun _ => ?_) <;> conv => whnf) | (refine spG (fun _ => ?_) (fun _ => ?_) <;> conv => whnf))
    all_goals try exact ⟨_, _, bad_rs (by decide), [], rfl, ⟨⟨⟨rfl, rfl⟩, ⟨rfl, rfl⟩, rfl, rfl, ⟨rfl, rfl⟩, ⟨rfl, rfl⟩, ⟨rfl, rfl⟩, ⟨rfl, rfl⟩, trivial⟩, ⟨rfl, rfl⟩, trivial⟩, trivial⟩
    exact ⟨_, _, ⟨{ s with tick := e.tick, count := s.count + 1, low := s.high }, 0, rfl, rfl, fun _ => ⟨{ h'.pre with schema := ⟨h.pre.schema.2, h.pre.schema.2⟩ }, h.cap⟩⟩, [], rfl, ⟨⟨⟨rfl, rfl⟩, ⟨rfl, rfl⟩, rfl, rfl, ⟨rfl, rfl⟩, ⟨rfl, rfl⟩, ⟨rfl, rfl⟩, ⟨rfl, rfl⟩, trivial⟩, ⟨rfl, rfl⟩, trivial⟩, trivial⟩
  exact ⟨_, _, ⟨{ s with tick := e.tick, count := s.count + 1 }, 0, rfl, rfl, fun _ => h'⟩, [], rfl, ⟨⟨⟨rfl, rfl⟩, ⟨rfl, rfl⟩, rfl, rfl, ⟨rfl, rfl⟩, ⟨rfl, rfl⟩, ⟨rfl, rfl⟩, ⟨rfl, rfl⟩, trivial⟩, ⟨rfl, rfl⟩, trivial⟩, trivial⟩

end Go.Proofs.YtncckpieemmmfaaGreat
