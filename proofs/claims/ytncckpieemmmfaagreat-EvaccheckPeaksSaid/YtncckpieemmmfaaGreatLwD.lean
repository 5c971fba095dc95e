/- Contract: the law EvaccheckPeaks. Conditions: those ahead of each theorem. -/
import Derived.Test.YtncckpieemmmfaaGreatEvBt
import Derived.Test.YtncckpieemmmfaaGreatArgE
import Derived.Test.YtncckpieemmmfaaGreatRfG
namespace Go.Proofs.YtncckpieemmmfaaGreat
open Go Go.Cpl

set_option maxHeartbeats 4000000 in
set_option maxRecDepth 100000 in
theorem evaccheckPeaks_c (l n : List Int) (packed : Bool) (region : Int) (m : List Int) (raw : Ev) : CallsH Tryz.prog 8 [.c (.d (.sl (r1 l))), .c (.d (.sl (r1 n))), B packed, I region, .c (.d (.sl (r1 m))), evV raw.1 raw.2.1 raw.2.2] [] (B true) [] := by
  obtain ⟨rr, rs, rl⟩ := raw
  have l0 := rSt_len rs
  have l9 := r1_len rl
  dsimp only
  refine callsR_of tab mixed Tryz.func8 rfl (by decide) rfl rfl ?_
  conv => whnf
  refine ⟨_, _, awake35_c, ?_⟩
  conv => whnf
  refine ⟨fun q => (by cases q), fun _ => ?_⟩
  conv => whnf
  refine ⟨_, _, lightM_c l, ?_⟩
  conv => whnf
  refine spN (fun q1 => ?_) (fun q1 => ?_) <;> conv => whnf
  · first | exact ⟨[], rfl, ⟨rfl, rfl⟩, trivial⟩ | exact ⟨[], rfl, rfl, trivial⟩
  refine ⟨_, _, lightM_c n, ?_⟩
  conv => whnf
  refine spN (fun q2 => ?_) (fun q2 => ?_) <;> conv => whnf
  · first | exact ⟨[], rfl, ⟨rfl, rfl⟩, trivial⟩ | exact ⟨[], rfl, rfl, trivial⟩
  refine ⟨_, _, lightM_c m, ?_⟩
  conv => whnf
  refine spN (fun q3 => ?_) (fun q3 => ?_) <;> conv => whnf
  · first | exact ⟨[], rfl, ⟨rfl, rfl⟩, trivial⟩ | exact ⟨[], rfl, rfl, trivial⟩
  refine spD (fun q4 => ?_) (fun q4 => ?_) <;> conv => whnf
  · first | exact ⟨[], rfl, ⟨rfl, rfl⟩, trivial⟩ | exact ⟨[], rfl, rfl, trivial⟩
  refine exK (worlds_q l n packed (by omega) (by omega)) ?_
  rintro _ _ ⟨c, ⟨s1, s2, s3, s4, s5, s6, s7, s8⟩, rfl, rfl, w, hs⟩
  have hR := w.good.regions
  have hT := w.few
  have lT := rT_len c.tenants
  conv => whnf
  refine ⟨by kernel_rfl, ?_⟩
  conv => whnf
  refine exN (modM_e region c.regions (by omega) (by omega)) (fun r hr => ?_)
  conv => whnf
  refine exK (makeR_q c ⟨s1, s2, s3, s4, s5, s6, s7, s8⟩ r w hs hr) ?_
  rintro _ _ ⟨steps, left, rfl, rfl, hl, hll⟩
  have hbent := bent_c c r steps left m w.good (by omega) (by omega) (by omega)
  have hbl := bentGo_len (c := c) (l := m) (m := 200) (by omega) m.length ⟨0, steps, left⟩ (by dsimp only; omega)
  generalize bentGo c m m.length ⟨0, steps, left⟩ = bt at *
  obtain ⟨ba, st, lf⟩ := bt
  dsimp only at hbent hbl
  conv => whnf
  refine ⟨by kernel_rfl, ?_⟩
  conv => whnf
  refine ⟨_, _, hbent, ?_⟩
  conv => whnf
  obtain ⟨E, hE, hEL, h4, hEl⟩ := evs4 (b := 200) (rr, rs, rl) (r, steps, left) (r, st, lf) (0, [], []) (by dsimp only; first | omega | simp) (by dsimp only; first | omega | simp) (by dsimp only; first | omega | simp) (by dsimp only; first | omega | simp)
  dsimp only at hE
  refine (?_ : _)
  rw [show [[i64 rr, .sl (rSt rs), .sl (r1 rl)], [i64 r, .sl (rSt steps), .sl (r1 left)], [i64 r, .sl (rSt st), .sl (r1 lf)], [i64 0, .sl [], .sl []]] = rEv E from hE.symm]
  refine loopN tab mixed (fun i => i ≤ 4) 4 (fun i => [(69, I i)]) (fun _ => []) 51 [] (by omega) ?_
  conv => whnf
  refine ⟨?_, fun i hi => ?_⟩
  · repeat' (first | exact trivial | rfl | refine And.intro ?_ ?_)
    all_goals (conv => whnf)
    repeat' (first | exact trivial | rfl | refine And.intro ?_ ?_)
  conv => whnf
  refine spD (fun q6 => ?_) (fun q6 => ?_) <;> conv => whnf
  rotate_left 1
  · first | exact ⟨[], rfl, ⟨rfl, rfl⟩, trivial⟩ | exact ⟨[], rfl, rfl, trivial⟩
  obtain ⟨⟨er, es, el⟩, he⟩ := get_of (l := E) (i := i) (by omega)
  have hes := hEl _ (List.mem_of_getElem? he)
  dsimp only at hes
  refine ⟨by omega, _, rEv_get he, ?_⟩
  conv => whnf
  have hl0 : (sit0 c ⟨s1, s2, s3, s4, s5, s6, s7, s8⟩).bk.length = c.cells.length := cl_len _ _
  have hl1 : (bkd c s3).length = c.cells.length := cl_len _ _
  have hge := fun k => peak_ge (c := c) (s := ⟨s1, s2, s3, s4, s5, s6, s7, s8⟩) (k := k) (l := es) (p := sit0 c ⟨s1, s2, s3, s4, s5, s6, s7, s8⟩) (m := bkd c s3) (hl1.trans hl0.symm)
  have hpl := (peak_len (c := c) (s := ⟨s1, s2, s3, s4, s5, s6, s7, s8⟩) (l := es) (p := sit0 c ⟨s1, s2, s3, s4, s5, s6, s7, s8⟩) (m := bkd c s3) (hl1.trans hl0.symm)).trans hl1
  have hpk := peak_c c ⟨s1, s2, s3, s4, s5, s6, s7, s8⟩ er es el w hs (by omega)
  have hpR := peakR_c c ⟨s1, s2, s3, s4, s5, s6, s7, s8⟩ er es el w hs (by omega)
  have hbk := loadBooked_c c ⟨s1, s2, s3, s4, s5, s6, s7, s8⟩ w.good hs.pre.nt
  dsimp only at hpk hpR hbk
  generalize peakF c ⟨s1, s2, s3, s4, s5, s6, s7, s8⟩ (sit0 c ⟨s1, s2, s3, s4, s5, s6, s7, s8⟩) es (bkd c s3) = pk at *
  generalize bkd c s3 = bk at *
  have l1 := r1_len pk
  have l2 := r1_len bk
  have hC := w.good.cells
  refine ⟨_, _, hpk, ?_⟩
  conv => whnf
  refine ⟨_, _, hpR, ?_⟩
  conv => whnf
  refine ⟨_, _, sameInts24_c pk pk (by omega), ?_⟩
  conv => whnf
  refine spN (fun q => absurd rfl q) (fun _ => ?_)
  conv => whnf
  refine ⟨_, _, hbk, ?_⟩
  conv => whnf
  refine loopN tab mixed (fun j => j ≤ bk.length) bk.length (fun j => [(88, I j)]) (fun _ => []) 61 [] (by omega) ?_
  conv => whnf
  refine ⟨?_, fun j hj => ?_⟩
  · repeat' (first | exact trivial | rfl | refine And.intro ?_ ?_)
    all_goals (conv => whnf)
    repeat' (first | exact trivial | rfl | refine And.intro ?_ ?_)
  conv => whnf
  refine spD (fun q7 => ?_) (fun q7 => ?_) <;> conv => whnf
  · obtain ⟨x, hx⟩ := get_of (l := bk) (i := j) (by omega)
    obtain ⟨y, hy⟩ := get_of (l := pk) (i := j) (by omega)
    have h1 := hge j (by omega)
    rw [atI_get (by simpa using hx), atI_get (by simpa using hy)] at h1
    refine ⟨by omega, by omega, _, r1_get hx, ?_⟩
    conv => whnf
    refine ⟨by omega, by omega, _, r1_get hy, ?_⟩
    conv => whnf
    refine spD (fun q => absurd q (by omega)) (fun _ => ?_)
    conv => whnf
    refine gv (by first | omega | (simp only []; omega) | (simp; omega)) (by first | omega | (simp only []; omega) | (simp; omega)) ?_
    conv => whnf
    refine ⟨⟨by omega, by omega⟩, [], ?_⟩
    repeat' (first | exact trivial | rfl | refine And.intro ?_ ?_)
    all_goals (conv => whnf)
    repeat' (first | exact trivial | rfl | refine And.intro ?_ ?_)
  refine gv (by first | omega | (simp only []; omega) | (simp; omega)) (by first | omega | (simp only []; omega) | (simp; omega)) ?_
  conv => whnf
  refine ⟨⟨by omega, by omega⟩, [], ?_⟩
  repeat' (first | exact trivial | rfl | refine And.intro ?_ ?_)
  all_goals (conv => whnf)
  repeat' (first | exact trivial | rfl | refine And.intro ?_ ?_)

end Go.Proofs.YtncckpieemmmfaaGreat
