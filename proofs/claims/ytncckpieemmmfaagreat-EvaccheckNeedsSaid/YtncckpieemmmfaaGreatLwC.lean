/- Contract: the law EvaccheckNeeds. Conditions: those ahead of each theorem. -/
import Derived.Test.YtncckpieemmmfaaGreatEvBt
import Derived.Test.YtncckpieemmmfaaGreatArgE
import Derived.Test.YtncckpieemmmfaaGreatRfG
namespace Go.Proofs.YtncckpieemmmfaaGreat
open Go Go.Cpl

set_option maxHeartbeats 4000000 in
set_option maxRecDepth 100000 in
theorem evaccheckNeeds_c (l n : List Int) (packed : Bool) (region : Int) (m : List Int) (raw : Ev) (at_ : Int) : CallsH Tryz.prog 5 [.c (.d (.sl (r1 l))), .c (.d (.sl (r1 n))), B packed, I region, .c (.d (.sl (r1 m))), evV raw.1 raw.2.1 raw.2.2, I at_] [] (B true) [] := by
  obtain ⟨rr, rs, rl⟩ := raw
  have l0 := rSt_len rs
  have l9 := r1_len rl
  dsimp only
  refine callsR_of tab mixed Tryz.func5 rfl (by decide) rfl rfl ?_
  conv => whnf
  refine ⟨_, _, awake35_c, ?_⟩
  conv => whnf
  refine ⟨fun q => (by cases q), fun _ => ?_⟩
  conv => whnf
  refine ⟨_, _, lightM_c l, ?_⟩
  conv => whnf
  refine spN (fun q1 => ?_) (fun q1 => ?_) <;> conv => whnf
  · first | exact ⟨[], rfl, ⟨rfl, rfl⟩, trivial⟩ | exact ⟨[], rfl, rfl, trivial⟩
  refine ⟨_, _, lightM_c n, ?_⟩
  conv => whnf
  refine spN (fun q2 => ?_) (fun q2 => ?_) <;> conv => whnf
  · first | exact ⟨[], rfl, ⟨rfl, rfl⟩, trivial⟩ | exact ⟨[], rfl, rfl, trivial⟩
  refine ⟨_, _, lightM_c m, ?_⟩
  conv => whnf
  refine spN (fun q3 => ?_) (fun q3 => ?_) <;> conv => whnf
  · first | exact ⟨[], rfl, ⟨rfl, rfl⟩, trivial⟩ | exact ⟨[], rfl, rfl, trivial⟩
  refine spD (fun q4 => ?_) (fun q4 => ?_) <;> conv => whnf
  · first | exact ⟨[], rfl, ⟨rfl, rfl⟩, trivial⟩ | exact ⟨[], rfl, rfl, trivial⟩
  refine exK (worlds_q l n packed (by omega) (by omega)) ?_
  rintro _ _ ⟨c, ⟨s1, s2, s3, s4, s5, s6, s7, s8⟩, rfl, rfl, w, hs⟩
  have hR := w.good.regions
  have hT := w.few
  have lT := rT_len c.tenants
  conv => whnf
  refine ⟨by kernel_rfl, ?_⟩
  conv => whnf
  refine exN (modM_e region c.regions (by omega) (by omega)) (fun r hr => ?_)
  conv => whnf
  refine exK (makeR_q c ⟨s1, s2, s3, s4, s5, s6, s7, s8⟩ r w hs hr) ?_
  rintro _ _ ⟨steps, left, rfl, rfl, hl, hll⟩
  have hbent := bent_c c r steps left m w.good (by omega) (by omega) (by omega)
  have hbl := bentGo_len (c := c) (l := m) (m := 200) (by omega) m.length ⟨0, steps, left⟩ (by dsimp only; omega)
  generalize bentGo c m m.length ⟨0, steps, left⟩ = bt at *
  obtain ⟨ba, st, lf⟩ := bt
  dsimp only at hbent hbl
  conv => whnf
  refine ⟨by kernel_rfl, ?_⟩
  conv => whnf
  refine ⟨_, _, hbent, ?_⟩
  conv => whnf
  obtain ⟨E, hE, hEL, h4, hEl⟩ := evs4 (b := 200) (rr, rs, rl) (r, steps, left) (r, st, lf) (r, [], []) (by dsimp only; first | omega | simp) (by dsimp only; first | omega | simp) (by dsimp only; first | omega | simp) (by dsimp only; first | omega | simp)
  dsimp only at hE
  refine (?_ : _)
  rw [show [[i64 rr, .sl (rSt rs), .sl (r1 rl)], [i64 r, .sl (rSt steps), .sl (r1 left)], [i64 r, .sl (rSt st), .sl (r1 lf)], [i64 r, .sl [], .sl []]] = rEv E from hE.symm]
  refine loopN tab mixed (fun i => i ≤ 4) 4 (fun i => [(72, I i)]) (fun _ => []) 51 [] (by omega) ?_
  conv => whnf
  refine ⟨?_, fun i hi => ?_⟩
  · repeat' (first | exact trivial | rfl | refine And.intro ?_ ?_)
    all_goals (conv => whnf)
    repeat' (first | exact trivial | rfl | refine And.intro ?_ ?_)
  conv => whnf
  refine spD (fun q6 => ?_) (fun q6 => ?_) <;> conv => whnf
  rotate_left 1
  · first | exact ⟨[], rfl, ⟨rfl, rfl⟩, trivial⟩ | exact ⟨[], rfl, rfl, trivial⟩
  obtain ⟨⟨er, es, el⟩, he⟩ := get_of (l := E) (i := i) (by omega)
  have hes := hEl _ (List.mem_of_getElem? he)
  dsimp only at hes
  refine ⟨by omega, _, rEv_get he, ?_⟩
  conv => whnf
  have lS : (rSt (er, es, el).snd.fst).length = es.length := rSt_len es
  refine loopN tab mixed (fun j => j ≤ es.length + 2) (es.length + 2) (fun j => [(21, I ((j : Int) - 1))]) (fun _ => []) 61 [] (by omega) ?_
  conv => whnf
  refine ⟨?_, fun j hj => ?_⟩
  · repeat' (first | exact trivial | rfl | refine And.intro ?_ ?_)
    all_goals (conv => whnf)
    repeat' (first | exact trivial | rfl | refine And.intro ?_ ?_)
  conv => whnf
  refine spD (fun q7 => ?_) (fun q7 => ?_) <;> conv => whnf
  · refine ⟨by kernel_rfl, ?_⟩
    conv => whnf
    refine ⟨_, _, needed_c c ⟨s1, s2, s3, s4, s5, s6, s7, s8⟩ er ((j : Int) - 1) es el w hs (by omega), ?_⟩
    conv => whnf
    refine ⟨_, _, neededR_c c ⟨s1, s2, s3, s4, s5, s6, s7, s8⟩ er ((j : Int) - 1) es el w hs (by omega), ?_⟩
    conv => whnf
    refine ⟨fun q => absurd q (by simp), fun _ => ?_⟩
    conv => whnf
    refine gv (by first | omega | (simp only []; omega) | (simp; omega)) (by first | omega | (simp only []; omega) | (simp; omega)) ?_
    conv => whnf
    have e : (j : Int) - 1 + 1 = ((j + 1 : Nat) : Int) - 1 := by omega
    rw [e]
    refine ⟨⟨by omega, by omega⟩, [], ?_⟩
    repeat' (first | exact trivial | rfl | refine And.intro ?_ ?_)
    all_goals (conv => whnf)
    repeat' (first | exact trivial | rfl | refine And.intro ?_ ?_)
  refine loopN tab mixed (fun j => j ≤ c.tenants.length + 2) (c.tenants.length + 2) (fun j => [(22, I ((j : Int) - 1))]) (fun _ => []) 71 [] (by omega) ?_
  conv => whnf
  refine ⟨?_, fun j hj => ?_⟩
  · repeat' (first | exact trivial | rfl | refine And.intro ?_ ?_)
    all_goals (conv => whnf)
    repeat' (first | exact trivial | rfl | refine And.intro ?_ ?_)
  conv => whnf
  refine spD (fun q7 => ?_) (fun q7 => ?_) <;> conv => whnf
  · refine ⟨by kernel_rfl, ?_⟩
    conv => whnf
    refine ⟨_, _, fits_c c ⟨s1, s2, s3, s4, s5, s6, s7, s8⟩ er ((j : Int) - 1) es el w hs (by omega), ?_⟩
    conv => whnf
    refine ⟨_, _, fitsR_c c ⟨s1, s2, s3, s4, s5, s6, s7, s8⟩ er ((j : Int) - 1) es el w hs (by omega), ?_⟩
    conv => whnf
    refine ⟨fun q => absurd q (by simp), fun _ => ?_⟩
    conv => whnf
    refine gv (by first | omega | (simp only []; omega) | (simp; omega)) (by first | omega | (simp only []; omega) | (simp; omega)) ?_
    conv => whnf
    have e : (j : Int) - 1 + 1 = ((j + 1 : Nat) : Int) - 1 := by omega
    rw [e]
    refine ⟨⟨by omega, by omega⟩, [], ?_⟩
    repeat' (first | exact trivial | rfl | refine And.intro ?_ ?_)
    all_goals (conv => whnf)
    repeat' (first | exact trivial | rfl | refine And.intro ?_ ?_)
  refine ⟨by kernel_rfl, ?_⟩
  conv => whnf
  refine ⟨_, _, needed_c c ⟨s1, s2, s3, s4, s5, s6, s7, s8⟩ er at_ es el w hs (by omega), ?_⟩
  conv => whnf
  refine ⟨_, _, neededR_c c ⟨s1, s2, s3, s4, s5, s6, s7, s8⟩ er at_ es el w hs (by omega), ?_⟩
  conv => whnf
  refine ⟨fun q => absurd q (by simp), fun _ => ?_⟩
  conv => whnf
  refine ⟨_, _, fits_c c ⟨s1, s2, s3, s4, s5, s6, s7, s8⟩ er at_ es el w hs (by omega), ?_⟩
  conv => whnf
  refine ⟨_, _, fitsR_c c ⟨s1, s2, s3, s4, s5, s6, s7, s8⟩ er at_ es el w hs (by omega), ?_⟩
  conv => whnf
  refine ⟨fun q => absurd q (by simp), fun _ => ?_⟩
  conv => whnf
  refine gv (by first | omega | (simp only []; omega) | (simp; omega)) (by first | omega | (simp only []; omega) | (simp; omega)) ?_
  conv => whnf
  refine ⟨⟨by omega, by omega⟩, [], ?_⟩
  repeat' (first | exact trivial | rfl | refine And.intro ?_ ?_)
  all_goals (conv => whnf)
  repeat' (first | exact trivial | rfl | refine And.intro ?_ ?_)

end Go.Proofs.YtncckpieemmmfaaGreat
