/- Contracts: the sanity check of chapter 35, and the law EvaccheckAccepts. Conditions: those ahead of each theorem. -/
import Derived.Test.YtncckpieemmmfaaGreatEvG
import Derived.Test.YtncckpieemmmfaaGreatEvY
import Derived.Test.YtncckpieemmmfaaGreatOrdR
namespace Go.Proofs.YtncckpieemmmfaaGreat
open Go Go.Cpl

/-- an owned list handed over for good -/
theorem given_of {P : Program} {f : FuncId} {res : AV} {e : TypeId} {rows : List (List D)} (h : CallsH P f [.c (.d (.sl rows))] [] res []) : CallsH P f [.c (.gs 0)] [.arr e rows] res [.gone] := by
  refine ⟨h.can, fun M τ w vs hinv hargs => ?_⟩
  have hg : hpOf [HObj.gone] = hpOf [] := by funext i; cases i <;> simp [hpOf]
  match vs, hargs with
  | [v], ⟨hv, _⟩ =>
    have hv1 : DRep (memFz M τ (hpOf [.arr e rows]) w (fun _ => True)) (.sl rows) v := fz_rep hinv (id := 0) trivial rfl hv
    have hinv1 : Inv P (memFz M τ (hpOf [.arr e rows]) w (fun _ => True)) τ (hpOf []) w := by
      refine ⟨fun b o hb => ?_, fun id => by simp [hpOf, ObjRep], fun id b hb => by simp [hpOf, blkOf] at hb, fun i j b hb => by simp [hpOf, blkOf] at hb⟩
      unfold memFz at hb
      split at hb
      · exact hb
      · exact hinv.mem b o hb
    refine Calls.mono (h.run _ τ w [v] hinv1 ⟨hv1, trivial⟩) ?_
    rintro x w' ⟨r, M', τ', rfl, h1, h2, h3, h4, h5, h6, h7⟩
    refine ⟨r, M', τ', rfl, by rw [hg]; exact h1, by rw [hg]; exact h2, fun b o hb => ?_, fun i hi => KeepId.gone (by rw [hg]; simp [hpOf]), fun i b hb => by rw [hg] at hb; simp [hpOf, blkOf] at hb, fun b hb hn => h6 b hb (fun i => by simp [hpOf, blkOf]), h7⟩
    rcases h3 b o hb with k | k | ⟨j, k⟩
    · unfold memFz at k
      split at k
      · rename_i hz
        obtain ⟨id, _, hid⟩ := hz
        exact .inr (.inr ⟨id, hid⟩)
      · exact .inl k
    · exact .inr (.inl k)
    · simp [hpOf, blkOf] at k

def RPackG (res : AV) (hout : List HObj) : Prop := ∃ c s es, res = .tup [.inr (cfgC c), .inl (.d (.sl (rEn es))), .inr (stC s)] ∧ hout = [.gone] ∧ MillCfg c ∧ StOk c s

theorem packedG_q (l : List Int) (hl : l.length ≤ 1000) : ExH Tryz.prog 29 [.c (.gs 0)] [.arr 3 (r1 l)] RPackG := by
  obtain ⟨res, hout, ⟨c, s, es, rfl, rfl, mc, hs⟩, hc⟩ := packed_q l hl
  exact ⟨_, _, ⟨c, s, es, rfl, rfl, mc, hs⟩, given_of hc⟩

set_option maxHeartbeats 1000000 in
set_option maxRecDepth 100000 in
theorem awake35_c : CallsH Tryz.prog 10 [] [] (B true) [] := by
  have hpk := packedG_q (List.replicate 40 0) (by simp)
  rw [show r1 (List.replicate 40 0) = List.replicate 40 [D.int .i64 0] by simp [r1]] at hpk
  refine callsR_of tab mixed Tryz.func10 rfl (by decide) rfl rfl ?_
  conv => whnf
  refine ⟨by omega, by omega, ⟨by omega⟩, ?_⟩
  conv => whnf
  refine exK hpk ?_
  rintro _ _ ⟨c, ⟨s1, s2, s3, s4, s5, s6, s7, s8⟩, es, rfl, rfl, mc, hs⟩
  have w := mc.wg
  have hR := w.good.regions
  conv => whnf
  refine exK (makePl_q c ⟨s1, s2, s3, s4, s5, s6, s7, s8⟩ 0 w hs (by omega)) ?_
  rintro _ _ ⟨steps, left, p, rfl, rfl, mp⟩
  have l1 := rSt_len steps
  have hl := mp.len
  have hc := check_c c ⟨s1, s2, s3, s4, s5, s6, s7, s8⟩ 0 steps left w hs (by omega)
  rw [made_accepted (by omega) mp] at hc
  have hc2 := check_c c ⟨s1, s2, s3, s4, s5, s6, s7, s8⟩ (-1) steps left w hs (by omega)
  rw [check_arg] at hc2
  dsimp only at hc hc2
  conv => whnf
  refine ⟨_, _, hc, ?_⟩
  conv => whnf
  refine ⟨_, _, hc2, ?_⟩
  conv => whnf
  refine spE (fun _ => ?_) (fun q => absurd (by omega) q)
  conv => whnf
  refine spE (fun _ => ?_) (fun q => absurd rfl q)
  conv => whnf
  first | exact ⟨[], rfl, ⟨rfl, rfl⟩, trivial⟩ | exact ⟨[], rfl, rfl, trivial⟩

set_option maxRecDepth 100000 in
theorem refCand_c (c : Cfg) (s : St) (r : Int) (w : WG c) (hm : s.ts.length = c.tenants.length) : CallsH Tryz.prog 23 [cfgV c, stV s, I r] [] (.c (.gs 0)) [.arr 3 (r1 (cand c s r))] := by
  have l2 := rTS_len s.ts
  have hT := w.few
  have hg := w.good
  have ho := (order_ok c).1
  have l1 := r1_len (order c)
  refine callsR_of tab mixed Tryz.func23 rfl (by decide) rfl rfl ?_
  conv => whnf
  refine ⟨_, _, (refOrder_c c (by omega)).frozen, ?_⟩
  conv => whnf
  refine loopN tab mixed (fun i => i ≤ (order c).length) (order c).length (fun i => [(14, I i), (7, .c (.gs 50))]) (fun i => [(50, .arr 3 (r1 (((order c).take i).filter (candP c s r))))]) 51 [(50, none)] (by omega) ?_
  conv => whnf
  refine ⟨?_, fun i hi => ?_⟩
  · repeat' (first | exact trivial | rfl | refine And.intro ?_ ?_)
    all_goals (conv => whnf)
    repeat' (first | exact trivial | rfl | refine And.intro ?_ ?_)
  conv => whnf
  refine spD (fun h => ?_) (fun h => ?_) <;> conv => whnf
  · have hi' : i < (order c).length := by omega
    obtain ⟨x, hx⟩ := get_of hi'
    have hts := take_succ_of hx
    have hxi := order_in c hx
    have hfl := filt_le (candP c s r) (order c) i
    have hf1 := r1_len (((order c).take i).filter (candP c s r))
    obtain ⟨⟨t1, t2, t3, t4, t5, t6, t7, t8, t9, t10, t11, t12⟩, hy⟩ := get_int (l := s.ts) hxi.1 (by omega)
    have e : candP c s r x = (t1 && (!t2 && decide (regionOf c t3 = r))) := by simp [candP, hy]
    refine ⟨by omega, _, r1_get hx, ?_⟩
    conv => whnf
    refine ⟨by omega, _, rTS_get hy, ?_⟩
    conv => whnf
    have no : candP c s r x = false → ((order c).take (i + 1)).filter (candP c s r) = ((order c).take i).filter (candP c s r) := fun hq => by rw [hts, List.filter_append]; simp [hq]
    cases t1
    · refine ⟨fun h => (by cases h), fun _ => ?_⟩
      conv => whnf
      refine gv (by first | omega | (simp only []; omega) | (simp; omega)) (by first | omega | (simp only []; omega) | (simp; omega)) ?_
      conv => whnf
      refine ⟨⟨hi', hi'⟩, [(50, some 50)], ?_⟩
      repeat' (first | exact trivial | rfl | refine And.intro ?_ ?_)
      all_goals (conv => whnf)
      repeat' (first | exact trivial | rfl | refine And.intro ?_ ?_)
      rw [no (by rw [e]; rfl)]
    refine ⟨fun _ => ?_, fun h => (by cases h)⟩
    conv => whnf
    cases t2
    rotate_left 1
    · refine ⟨fun h => (by cases h), fun _ => ?_⟩
      conv => whnf
      refine gv (by first | omega | (simp only []; omega) | (simp; omega)) (by first | omega | (simp only []; omega) | (simp; omega)) ?_
      conv => whnf
      refine ⟨⟨hi', hi'⟩, [(50, some 50)], ?_⟩
      repeat' (first | exact trivial | rfl | refine And.intro ?_ ?_)
      all_goals (conv => whnf)
      repeat' (first | exact trivial | rfl | refine And.intro ?_ ?_)
      rw [no (by rw [e]; rfl)]
    refine ⟨fun _ => ?_, fun h => (by cases h)⟩
    conv => whnf
    refine ⟨_, _, refRegionOf_c c t3 hg.laid, ?_⟩
    conv => whnf
    refine spE (fun h3 => ?_) (fun h3 => ?_) <;> conv => whnf
    · refine ⟨row1 _ rfl, ⟨by simp; omega⟩, ?_⟩
      conv => whnf
      refine gv (by first | omega | (simp only []; omega) | (simp; omega)) (by first | omega | (simp only []; omega) | (simp; omega)) ?_
      conv => whnf
      refine ⟨⟨hi', hi'⟩, [(50, some 53)], ?_⟩
      repeat' (first | exact trivial | rfl | refine And.intro ?_ ?_)
      all_goals (conv => whnf)
      repeat' (first | exact trivial | rfl | refine And.intro ?_ ?_)
      rw [hts, List.filter_append]
      have : candP c s r x = true := by rw [e]; simp [h3]
      simp [this]
      exact (r1_app _ _).symm
    · refine gv (by first | omega | (simp only []; omega) | (simp; omega)) (by first | omega | (simp only []; omega) | (simp; omega)) ?_
      conv => whnf
      refine ⟨⟨hi', hi'⟩, [(50, some 50)], ?_⟩
      repeat' (first | exact trivial | rfl | refine And.intro ?_ ?_)
      all_goals (conv => whnf)
      repeat' (first | exact trivial | rfl | refine And.intro ?_ ?_)
      rw [no (by rw [e]; simp [h3])]
  · have hi' : i = (order c).length := by omega
    refine ⟨[(0, some 50)], rfl, rfl, ⟨rfl, ?_⟩, trivial⟩
    unfold cand
    rw [hi', List.take_length]

end Go.Proofs.YtncckpieemmmfaaGreat
