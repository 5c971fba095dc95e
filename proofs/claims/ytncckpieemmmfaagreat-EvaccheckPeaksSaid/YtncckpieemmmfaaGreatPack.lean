/- Contracts: packed worlds. Conditions: those ahead of each theorem. -/
import Derived.Test.YtncckpieemmmfaaGreatMill
namespace Go.Proofs.YtncckpieemmmfaaGreat
open Go Go.Cpl

abbrev pkH (c : Cfg) (s : St) (es : List Ent) : List HObj := [.box (cfgC c), .box (stC s), .box [.gs 3], .arr 115 (rEn es)]

def RP (c : Cfg) (n : Nat) (res : AV) (hout : List HObj) : Prop := ∃ s es, res = .tup [] ∧ hout = [.box (cfgC c), .box (stC s), .box [.gs 4], .gone, .arr 115 (rEn es)] ∧ StOk c s ∧ es.length ≤ n + 1

set_option maxRecDepth 100000 in
theorem packed1_q (c : Cfg) (s : St) (e : Ent) (es : List Ent) (w : WG c) (hs : StOk c s) (he : es.length ≤ 10000) : ExH Tryz.prog 72 [entV e, .c (.ptr 0 0 0), .c (.ptr 1 0 0), .c (.ptr 2 0 0)] (pkH c s es) (RP c es.length) := by
  obtain ⟨e1, e2, e3, e4, e5, e6, e7, e8, e9⟩ := e
  have l2 := rEn_len es
  refine callsE_of tab mixed noRel Tryz.func72 rfl (by decide) rfl rfl ?_
  conv => whnf
  refine exK (apply_q c s ⟨e1, e2, e3, e4, e5, e6, e7, e8, e9⟩ w hs) ?_
  rintro _ _ ⟨⟨s1, s2, s3, s4, s5, s6, s7, s8⟩, b9, rfl, rfl, h9⟩
  conv => whnf
  refine spE (fun h3 => ?_) (fun h3 => ?_) <;> conv => whnf
  · refine ⟨rEn_ok [⟨e1, e2, e3, e4, e5, e6, e7, e8, e9⟩], ⟨by simp [rEn]; omega⟩, ?_⟩
    conv => whnf
    refine ⟨_, _, ⟨⟨s1, s2, s3, s4, s5, s6, s7, s8⟩, es ++ [⟨e1, e2, e3, e4, e5, e6, e7, e8, e9⟩], rfl, rfl, h9 (by simpa using h3), by simp⟩, [(0, some 0), (1, some 1), (2, some 2), (4, some 7)], ?_⟩
    repeat' (first | exact trivial | rfl | refine And.intro ?_ ?_)
    all_goals (conv => whnf)
    repeat' (first | exact trivial | rfl | refine And.intro ?_ ?_)
    exact (rEn_app _ _).symm
  · refine ⟨_, _, ⟨s, es, rfl, rfl, hs, by omega⟩, [(0, some 0), (1, some 1), (2, some 2), (4, some 3)], ?_⟩
    repeat' (first | exact trivial | rfl | refine And.intro ?_ ?_)
    all_goals (conv => whnf)
    repeat' (first | exact trivial | rfl | refine And.intro ?_ ?_)

theorem upto_leN (f : Nat → Bool) : ∀ n, (upto f n).length ≤ n
  | 0 => by simp [upto]
  | n + 1 => by
    have := upto_leN f n
    rw [upto]
    split
    · simp; omega
    · omega

structure PJ (l : List Int) (c : Cfg) (n m : Nat) where
  i : Nat
  a : Int
  s : St
  es : List Ent
  hi : i ≤ n
  ha : 0 ≤ a ∧ a ≤ l.length
  hs : StOk c s
  he : es.length ≤ m + 10 * i

def RPack (res : AV) (hout : List HObj) : Prop := ∃ c s es, res = .tup [.inr (cfgC c), .inl (.d (.sl (rEn es))), .inr (stC s)] ∧ hout = [] ∧ MillCfg c ∧ StOk c s

set_option maxHeartbeats 4000000 in
set_option maxRecDepth 100000 in
theorem packed_q (l : List Int) (hl : l.length ≤ 1000) : ExH Tryz.prog 29 [.c (.d (.sl (r1 l)))] [] RPack := by
  refine callsE_of tab mixed noRel Tryz.func29 rfl (by decide) rfl rfl ?_
  conv => whnf
  refine ⟨_, _, newM_c l, ?_⟩
  conv => whnf
  refine exK (config_q l 0 (by omega) hl) ?_
  rintro _ _ ⟨c, a0, rfl, rfl, mc, ha0⟩
  conv => whnf
  have w := mc.wg
  have hg := w.good
  have hC := hg.cells
  have hT := mc.few
  have hls := w.lease
  have hRg := hg.regions
  have l1 := rT_len c.tenants
  have l2 := r2_len c.cells
  have hin := mc.zero
  have l3 := r1_len (inRegion c 0)
  have hin2 : (inRegion c 0).length ≤ c.cells.length := upto_leN _ _
  refine ⟨_, _, new12_c c (by omega) (by omega), ?_⟩
  conv => whnf
  refine loopE tab mixed noRel (ι := PJ l c c.tenants.length 0) (fun k => [(31, I k.i)]) (fun k => [(2, tapeO l k.a), (4, .box (stC k.s)), (5, .box [.gs 50]), (50, .arr 115 (rEn k.es))]) 51 (fun k => c.tenants.length - k.i) ⟨0, a0, newSt c, [], by omega, ha0, new_ok12 w, by simp⟩ [(2, some 2), (4, some 4), (5, some 5), (50, none)] ?_
  conv => whnf
  refine ⟨?_, fun k => ?_⟩
  · repeat' (first | exact trivial | rfl | refine And.intro ?_ ?_)
    all_goals (conv => whnf)
    repeat' (first | exact trivial | rfl | refine And.intro ?_ ?_)
  obtain ⟨i, a, ⟨u1, u2, u3, u4, u5, u6, u7, u8⟩, es, hi, ha, hs, he⟩ := k
  dsimp only
  conv => whnf
  refine spD (fun q1 => ?_) (fun q1 => ?_) <;> conv => whnf
  · have hi' : i < c.tenants.length := by omega
    refine exM (nextM_e ha (by omega) (by omega) (by omega)) (fun home a1 hh m1 => ?_)
    conv => whnf
    have ha := mv_in ha m1
    refine exM (nextM_e ha (by omega) (by omega) (by omega)) (fun v a2 hv m2 => ?_)
    conv => whnf
    have ha := mv_in ha m2
    refine spD (fun q2 => ?_) (fun q2 => ?_) <;> conv => whnf
    · refine ⟨by kernel_rfl, ?_⟩
      conv => whnf
      refine ⟨_, _, (refInRegion_c c 0 hg.laid).frozen, ?_⟩
      conv => whnf
      refine ⟨_, _, (refInRegion_c c 0 hg.laid).frozen, ?_⟩
      conv => whnf
      refine exM (nextM_e ha (by omega) (by omega) (by omega)) (fun v2 a3 hv2 m3 => ?_)
      conv => whnf
      have ha := mv_in ha m3
      obtain ⟨home2, hx⟩ := get_int (l := inRegion c 0) hv2.1 (by omega)
      refine ⟨by omega, _, r1_get hx, ?_⟩
      conv => whnf
      refine exM (nextM_e ha (by omega) (by omega) (by omega)) (fun sb a4 hsb m4 => ?_)
      conv => whnf
      have ha := mv_in ha m4
      refine ⟨_, _, entryM_c _ _ _ _ _, ?_⟩
      conv => whnf
      refine exK (packed1_q c ⟨u1, u2, u3, u4, u5, u6, u7, u8⟩ ⟨_, _, _, _, _, _, _, _, _⟩ es w hs (by omega)) ?_
      rintro _ _ ⟨⟨s11, s12, s13, s14, s15, s16, s17, s18⟩, es1, rfl, rfl, hs1, he1⟩
      conv => whnf
      refine gv (by first | omega | (simp only []; omega) | (simp; omega)) (by first | omega | (simp only []; omega) | (simp; omega)) ?_
      conv => whnf
      refine ⟨_, _, entryM_c _ _ _ _ _, ?_⟩
      conv => whnf
      refine exK (packed1_q c ⟨s11, s12, s13, s14, s15, s16, s17, s18⟩ ⟨_, _, _, _, _, _, _, _, _⟩ es1 w hs1 (by omega)) ?_
      rintro _ _ ⟨⟨s21, s22, s23, s24, s25, s26, s27, s28⟩, es2, rfl, rfl, hs2, he2⟩
      conv => whnf
      refine gv (by first | omega | (simp only []; omega) | (simp; omega)) (by first | omega | (simp only []; omega) | (simp; omega)) ?_
      conv => whnf
      refine ⟨_, _, entryM_c _ _ _ _ _, ?_⟩
      conv => whnf
      refine exK (packed1_q c ⟨s21, s22, s23, s24, s25, s26, s27, s28⟩ ⟨_, _, _, _, _, _, _, _, _⟩ es2 w hs2 (by omega)) ?_
      rintro _ _ ⟨⟨s31, s32, s33, s34, s35, s36, s37, s38⟩, es3, rfl, rfl, hs3, he3⟩
      conv => whnf
      have hn3 := hs3.pre.nt
      have hk3 := hs3.pre.tick
      dsimp only at hn3 hk3
      obtain ⟨⟨t1, t2, t3, t4, t5, t6, t7, t8, t9, t10, t11, t12⟩, hx9⟩ := get_of (l := s33) (i := i) (by omega)
      refine ⟨by omega, _, rTS_get hx9, ?_⟩
      conv => whnf
      refine ⟨fun b1 => ?_, fun b1 => ?_⟩ <;> conv => whnf
      · refine exM (nextM_e ha (by omega) (by omega) (by omega)) (fun v5 a5 hv5 m5 => ?_)
        conv => whnf
        have ha := mv_in ha m5
        refine spD (fun q3 => ?_) (fun q3 => ?_) <;> conv => whnf
        · refine ⟨_, _, entryM_c _ _ _ _ _, ?_⟩
          conv => whnf
          refine ⟨by kernel_rfl, ?_⟩
          conv => whnf
          refine exM (rangeM_e ha (by omega) (by omega) (by omega) (by omega)) (fun v6 a6 hv6 m6 => ?_)
          conv => whnf
          have ha := mv_in ha m6
          refine gv (by first | omega | (simp only []; omega) | (simp; omega)) (by first | omega | (simp only []; omega) | (simp; omega)) ?_
          conv => whnf
          refine exK (packed1_q c ⟨s31, s32, s33, s34, s35, s36, s37, s38⟩ ⟨_, _, _, _, _, _, _, _, _⟩ es3 w hs3 (by omega)) ?_
          rintro _ _ ⟨⟨s41, s42, s43, s44, s45, s46, s47, s48⟩, es4, rfl, rfl, hs4, he4⟩
          conv => whnf
          refine gv (by first | omega | (simp only []; omega) | (simp; omega)) (by first | omega | (simp only []; omega) | (simp; omega)) ?_
          conv => whnf
          refine ⟨⟨i + 1, a6, ⟨s41, s42, s43, s44, s45, s46, s47, s48⟩, es4, by omega, ha, hs4, by omega⟩, [(2, some 2), (4, some 4), (5, some 5), (50, some 56)], ?_, by show c.tenants.length - (i + 1) < c.tenants.length - i; omega⟩
          repeat' (first | exact trivial | rfl | refine And.intro ?_ ?_)
          all_goals (conv => whnf)
          repeat' (first | exact trivial | rfl | refine And.intro ?_ ?_)
        · refine gv (by first | omega | (simp only []; omega) | (simp; omega)) (by first | omega | (simp only []; omega) | (simp; omega)) ?_
          conv => whnf
          refine ⟨⟨i + 1, a5, ⟨s31, s32, s33, s34, s35, s36, s37, s38⟩, es3, by omega, ha, hs3, by omega⟩, [(2, some 2), (4, some 4), (5, some 5), (50, some 53)], ?_, by show c.tenants.length - (i + 1) < c.tenants.length - i; omega⟩
          repeat' (first | exact trivial | rfl | refine And.intro ?_ ?_)
          all_goals (conv => whnf)
          repeat' (first | exact trivial | rfl | refine And.intro ?_ ?_)
      · refine gv (by first | omega | (simp only []; omega) | (simp; omega)) (by first | omega | (simp only []; omega) | (simp; omega)) ?_
        conv => whnf
        refine ⟨⟨i + 1, a4, ⟨s31, s32, s33, s34, s35, s36, s37, s38⟩, es3, by omega, ha, hs3, by omega⟩, [(2, some 2), (4, some 4), (5, some 5), (50, some 53)], ?_, by show c.tenants.length - (i + 1) < c.tenants.length - i; omega⟩
        repeat' (first | exact trivial | rfl | refine And.intro ?_ ?_)
        all_goals (conv => whnf)
        repeat' (first | exact trivial | rfl | refine And.intro ?_ ?_)
    · refine exM (nextM_e ha (by omega) (by omega) (by omega)) (fun sb a4 hsb m4 => ?_)
      conv => whnf
      have ha := mv_in ha m4
      refine ⟨_, _, entryM_c _ _ _ _ _, ?_⟩
      conv => whnf
      refine exK (packed1_q c ⟨u1, u2, u3, u4, u5, u6, u7, u8⟩ ⟨_, _, _, _, _, _, _, _, _⟩ es w hs (by omega)) ?_
      rintro _ _ ⟨⟨s11, s12, s13, s14, s15, s16, s17, s18⟩, es1, rfl, rfl, hs1, he1⟩
      conv => whnf
      refine gv (by first | omega | (simp only []; omega) | (simp; omega)) (by first | omega | (simp only []; omega) | (simp; omega)) ?_
      conv => whnf
      refine ⟨_, _, entryM_c _ _ _ _ _, ?_⟩
      conv => whnf
      refine exK (packed1_q c ⟨s11, s12, s13, s14, s15, s16, s17, s18⟩ ⟨_, _, _, _, _, _, _, _, _⟩ es1 w hs1 (by omega)) ?_
      rintro _ _ ⟨⟨s21, s22, s23, s24, s25, s26, s27, s28⟩, es2, rfl, rfl, hs2, he2⟩
      conv => whnf
      refine gv (by first | omega | (simp only []; omega) | (simp; omega)) (by first | omega | (simp only []; omega) | (simp; omega)) ?_
      conv => whnf
      refine ⟨_, _, entryM_c _ _ _ _ _, ?_⟩
      conv => whnf
      refine exK (packed1_q c ⟨s21, s22, s23, s24, s25, s26, s27, s28⟩ ⟨_, _, _, _, _, _, _, _, _⟩ es2 w hs2 (by omega)) ?_
      rintro _ _ ⟨⟨s31, s32, s33, s34, s35, s36, s37, s38⟩, es3, rfl, rfl, hs3, he3⟩
      conv => whnf
      have hn3 := hs3.pre.nt
      have hk3 := hs3.pre.tick
      dsimp only at hn3 hk3
      obtain ⟨⟨t1, t2, t3, t4, t5, t6, t7, t8, t9, t10, t11, t12⟩, hx9⟩ := get_of (l := s33) (i := i) (by omega)
      refine ⟨by omega, _, rTS_get hx9, ?_⟩
      conv => whnf
      refine ⟨fun b1 => ?_, fun b1 => ?_⟩ <;> conv => whnf
      · refine exM (nextM_e ha (by omega) (by omega) (by omega)) (fun v5 a5 hv5 m5 => ?_)
        conv => whnf
        have ha := mv_in ha m5
        refine spD (fun q3 => ?_) (fun q3 => ?_) <;> conv => whnf
        · refine ⟨_, _, entryM_c _ _ _ _ _, ?_⟩
          conv => whnf
          refine ⟨by kernel_rfl, ?_⟩
          conv => whnf
          refine exM (rangeM_e ha (by omega) (by omega) (by omega) (by omega)) (fun v6 a6 hv6 m6 => ?_)
          conv => whnf
          have ha := mv_in ha m6
          refine gv (by first | omega | (simp only []; omega) | (simp; omega)) (by first | omega | (simp only []; omega) | (simp; omega)) ?_
          conv => whnf
          refine exK (packed1_q c ⟨s31, s32, s33, s34, s35, s36, s37, s38⟩ ⟨_, _, _, _, _, _, _, _, _⟩ es3 w hs3 (by omega)) ?_
          rintro _ _ ⟨⟨s41, s42, s43, s44, s45, s46, s47, s48⟩, es4, rfl, rfl, hs4, he4⟩
          conv => whnf
          refine gv (by first | omega | (simp only []; omega) | (simp; omega)) (by first | omega | (simp only []; omega) | (simp; omega)) ?_
          conv => whnf
          refine ⟨⟨i + 1, a6, ⟨s41, s42, s43, s44, s45, s46, s47, s48⟩, es4, by omega, ha, hs4, by omega⟩, [(2, some 2), (4, some 4), (5, some 5), (50, some 56)], ?_, by show c.tenants.length - (i + 1) < c.tenants.length - i; omega⟩
          repeat' (first | exact trivial | rfl | refine And.intro ?_ ?_)
          all_goals (conv => whnf)
          repeat' (first | exact trivial | rfl | refine And.intro ?_ ?_)
        · refine gv (by first | omega | (simp only []; omega) | (simp; omega)) (by first | omega | (simp only []; omega) | (simp; omega)) ?_
          conv => whnf
          refine ⟨⟨i + 1, a5, ⟨s31, s32, s33, s34, s35, s36, s37, s38⟩, es3, by omega, ha, hs3, by omega⟩, [(2, some 2), (4, some 4), (5, some 5), (50, some 53)], ?_, by show c.tenants.length - (i + 1) < c.tenants.length - i; omega⟩
          repeat' (first | exact trivial | rfl | refine And.intro ?_ ?_)
          all_goals (conv => whnf)
          repeat' (first | exact trivial | rfl | refine And.intro ?_ ?_)
      · refine gv (by first | omega | (simp only []; omega) | (simp; omega)) (by first | omega | (simp only []; omega) | (simp; omega)) ?_
        conv => whnf
        refine ⟨⟨i + 1, a4, ⟨s31, s32, s33, s34, s35, s36, s37, s38⟩, es3, by omega, ha, hs3, by omega⟩, [(2, some 2), (4, some 4), (5, some 5), (50, some 53)], ?_, by show c.tenants.length - (i + 1) < c.tenants.length - i; omega⟩
        repeat' (first | exact trivial | rfl | refine And.intro ?_ ?_)
        all_goals (conv => whnf)
        repeat' (first | exact trivial | rfl | refine And.intro ?_ ?_)
  · refine loopE tab mixed noRel (ι := PJ l c 12 200) (fun k => [(15, I k.i)]) (fun k => [(2, tapeO l k.a), (4, .box (stC k.s)), (5, .box [.gs 50]), (50, .arr 115 (rEn k.es))]) 51 (fun k => 12 - k.i) ⟨0, a, ⟨u1, u2, u3, u4, u5, u6, u7, u8⟩, es, by omega, ha, hs, by omega⟩ [(2, some 2), (4, some 4), (5, some 5), (50, some 50)] ?_
    conv => whnf
    refine ⟨?_, fun k => ?_⟩
    · repeat' (first | exact trivial | rfl | refine And.intro ?_ ?_)
      all_goals (conv => whnf)
      repeat' (first | exact trivial | rfl | refine And.intro ?_ ?_)
    clear he hs ha q1 hi
    obtain ⟨k, a, ⟨u1, u2, u3, u4, u5, u6, u7, u8⟩, es, hk, ha, hs, he⟩ := k
    dsimp only
    have hn := hs.pre.nt
    have hnc := hs.pre.nc
    have htk := hs.pre.tick
    dsimp only at hn hnc htk
    conv => whnf
    refine spD (fun q1 => ?_) (fun q1 => ?_) <;> conv => whnf
    rotate_left 1
    · refine ⟨by kernel_rfl, ?_⟩
      conv => whnf
      refine ⟨_, _, ⟨c, ⟨u1, u2, u3, u4, u5, u6, u7, u8⟩, es, rfl, rfl, mc, hs⟩, [], rfl, ?_⟩
      repeat' (first | exact trivial | rfl | refine And.intro ?_ ?_)
      all_goals (conv => whnf)
      repeat' (first | exact trivial | rfl | refine And.intro ?_ ?_)
    refine ⟨_, _, moreM_c l a, ?_⟩
    conv => whnf
    refine spD (fun q2 => ?_) (fun q2 => ?_) <;> conv => whnf
    rotate_left 1
    · refine ⟨by kernel_rfl, ?_⟩
      conv => whnf
      refine ⟨_, _, ⟨c, ⟨u1, u2, u3, u4, u5, u6, u7, u8⟩, es, rfl, rfl, mc, hs⟩, [], rfl, ?_⟩
      repeat' (first | exact trivial | rfl | refine And.intro ?_ ?_)
      all_goals (conv => whnf)
      repeat' (first | exact trivial | rfl | refine And.intro ?_ ?_)
    · refine ⟨by kernel_rfl, ?_⟩
      conv => whnf
      refine exM (nextM_e ha (by omega) (by omega) (by omega)) (fun i a2 hi m2 => ?_)
      conv => whnf
      have ha := mv_in ha m2
      refine exM (nextM_e ha (by omega) (by omega) (by omega)) (fun cell a3 hcell m3 => ?_)
      conv => whnf
      have ha := mv_in ha m3
      refine exM (nextM_e ha (by omega) (by omega) (by omega)) (fun v4 a4 hv4 m4 => ?_)
      conv => whnf
      have ha := mv_in ha m4
      refine gv (by first | omega | (simp only []; omega) | (simp; omega)) (by first | omega | (simp only []; omega) | (simp; omega)) ?_
      conv => whnf
      refine ⟨_, _, entryM_c _ _ _ _ _, ?_⟩
      conv => whnf
      refine exM (nextM_e ha (by omega) (by omega) (by omega)) (fun v5 a5 hv5 m5 => ?_)
      conv => whnf
      have ha := mv_in ha m5
      obtain ⟨⟨t1, t2, t3, t4, t5, t6, t7, t8, t9, t10, t11, t12⟩, hx⟩ := get_int (l := u3) hi.1 (by omega)
      obtain ⟨⟨c1, c2, c3, c4⟩, hy⟩ := get_int (l := u4) hcell.1 (by omega)
      have hto := hs.pre.t _ (List.mem_of_getElem? hx)
      have hw := hto.wu
      have hho := hto.home
      unfold Cel at hho
      dsimp only at hw hho
      refine spE (fun _ => ?_) (fun _ => ?_) <;> conv => whnf
      · refine ⟨_, _, entryM_c _ _ _ _ _, ?_⟩
        conv => whnf
        refine exK (packed1_q c ⟨u1, u2, u3, u4, u5, u6, u7, u8⟩ ⟨_, _, _, _, _, _, _, _, _⟩ es w hs (by omega)) ?_
        rintro _ _ ⟨⟨s11, s12, s13, s14, s15, s16, s17, s18⟩, es1, rfl, rfl, hs1, he1⟩
        conv => whnf
        refine gv (by first | omega | (simp only []; omega) | (simp; omega)) (by first | omega | (simp only []; omega) | (simp; omega)) ?_
        conv => whnf
        refine ⟨⟨k + 1, a5, ⟨s11, s12, s13, s14, s15, s16, s17, s18⟩, es1, by omega, ha, hs1, by omega⟩, [(2, some 2), (4, some 4), (5, some 5), (50, some 52)], ?_, by show 12 - (k + 1) < 12 - k; omega⟩
        repeat' (first | exact trivial | rfl | refine And.intro ?_ ?_)
        all_goals (conv => whnf)
        repeat' (first | exact trivial | rfl | refine And.intro ?_ ?_)
      refine spE (fun _ => ?_) (fun _ => ?_) <;> conv => whnf
      · refine ⟨_, _, entryM_c _ _ _ _ _, ?_⟩
        conv => whnf
        refine exK (packed1_q c ⟨u1, u2, u3, u4, u5, u6, u7, u8⟩ ⟨_, _, _, _, _, _, _, _, _⟩ es w hs (by omega)) ?_
        rintro _ _ ⟨⟨s11, s12, s13, s14, s15, s16, s17, s18⟩, es1, rfl, rfl, hs1, he1⟩
        conv => whnf
        refine gv (by first | omega | (simp only []; omega) | (simp; omega)) (by first | omega | (simp only []; omega) | (simp; omega)) ?_
        conv => whnf
        refine ⟨⟨k + 1, a5, ⟨s11, s12, s13, s14, s15, s16, s17, s18⟩, es1, by omega, ha, hs1, by omega⟩, [(2, some 2), (4, some 4), (5, some 5), (50, some 52)], ?_, by show 12 - (k + 1) < 12 - k; omega⟩
        repeat' (first | exact trivial | rfl | refine And.intro ?_ ?_)
        all_goals (conv => whnf)
        repeat' (first | exact trivial | rfl | refine And.intro ?_ ?_)
      refine spE (fun _ => ?_) (fun _ => ?_) <;> conv => whnf
      · refine gv (by first | omega | (simp only []; omega) | (simp; omega)) (by first | omega | (simp only []; omega) | (simp; omega)) ?_
        conv => whnf
        refine gv (by first | omega | (simp only []; omega) | (simp; omega)) (by first | omega | (simp only []; omega) | (simp; omega)) ?_
        conv => whnf
        refine ⟨_, _, entryM_c _ _ _ _ _, ?_⟩
        conv => whnf
        refine exK (packed1_q c ⟨u1, u2, u3, u4, u5, u6, u7, u8⟩ ⟨_, _, _, _, _, _, _, _, _⟩ es w hs (by omega)) ?_
        rintro _ _ ⟨⟨s11, s12, s13, s14, s15, s16, s17, s18⟩, es1, rfl, rfl, hs1, he1⟩
        conv => whnf
        refine gv (by first | omega | (simp only []; omega) | (simp; omega)) (by first | omega | (simp only []; omega) | (simp; omega)) ?_
        conv => whnf
        refine ⟨⟨k + 1, a5, ⟨s11, s12, s13, s14, s15, s16, s17, s18⟩, es1, by omega, ha, hs1, by omega⟩, [(2, some 2), (4, some 4), (5, some 5), (50, some 52)], ?_, by show 12 - (k + 1) < 12 - k; omega⟩
        repeat' (first | exact trivial | rfl | refine And.intro ?_ ?_)
        all_goals (conv => whnf)
        repeat' (first | exact trivial | rfl | refine And.intro ?_ ?_)
      refine spE (fun _ => ?_) (fun _ => ?_) <;> conv => whnf
      · refine exM (nextM_e ha (by omega) (by omega) (by omega)) (fun v6 a6 hv6 m6 => ?_)
        conv => whnf
        have ha := mv_in ha m6
        refine exK (packed1_q c ⟨u1, u2, u3, u4, u5, u6, u7, u8⟩ ⟨_, _, _, _, _, _, _, _, _⟩ es w hs (by omega)) ?_
        rintro _ _ ⟨⟨s11, s12, s13, s14, s15, s16, s17, s18⟩, es1, rfl, rfl, hs1, he1⟩
        conv => whnf
        refine gv (by first | omega | (simp only []; omega) | (simp; omega)) (by first | omega | (simp only []; omega) | (simp; omega)) ?_
        conv => whnf
        refine ⟨⟨k + 1, a6, ⟨s11, s12, s13, s14, s15, s16, s17, s18⟩, es1, by omega, ha, hs1, by omega⟩, [(2, some 2), (4, some 4), (5, some 5), (50, some 52)], ?_, by show 12 - (k + 1) < 12 - k; omega⟩
        repeat' (first | exact trivial | rfl | refine And.intro ?_ ?_)
        all_goals (conv => whnf)
        repeat' (first | exact trivial | rfl | refine And.intro ?_ ?_)
      refine spE (fun _ => ?_) (fun _ => ?_) <;> conv => whnf
      · refine exM (rangeM_e ha (by omega) (by omega) (by omega) (by omega)) (fun v6 a6 hv6 m6 => ?_)
        conv => whnf
        have ha := mv_in ha m6
        refine exK (packed1_q c ⟨u1, u2, u3, u4, u5, u6, u7, u8⟩ ⟨_, _, _, _, _, _, _, _, _⟩ es w hs (by omega)) ?_
        rintro _ _ ⟨⟨s11, s12, s13, s14, s15, s16, s17, s18⟩, es1, rfl, rfl, hs1, he1⟩
        conv => whnf
        refine gv (by first | omega | (simp only []; omega) | (simp; omega)) (by first | omega | (simp only []; omega) | (simp; omega)) ?_
        conv => whnf
        refine ⟨⟨k + 1, a6, ⟨s11, s12, s13, s14, s15, s16, s17, s18⟩, es1, by omega, ha, hs1, by omega⟩, [(2, some 2), (4, some 4), (5, some 5), (50, some 52)], ?_, by show 12 - (k + 1) < 12 - k; omega⟩
        repeat' (first | exact trivial | rfl | refine And.intro ?_ ?_)
        all_goals (conv => whnf)
        repeat' (first | exact trivial | rfl | refine And.intro ?_ ?_)
      refine spE (fun _ => ?_) (fun _ => ?_) <;> conv => whnf
      · refine exM (nextM_e ha (by omega) (by omega) (by omega)) (fun v6 a6 hv6 m6 => ?_)
        conv => whnf
        have ha := mv_in ha m6
        refine exK (packed1_q c ⟨u1, u2, u3, u4, u5, u6, u7, u8⟩ ⟨_, _, _, _, _, _, _, _, _⟩ es w hs (by omega)) ?_
        rintro _ _ ⟨⟨s11, s12, s13, s14, s15, s16, s17, s18⟩, es1, rfl, rfl, hs1, he1⟩
        conv => whnf
        refine gv (by first | omega | (simp only []; omega) | (simp; omega)) (by first | omega | (simp only []; omega) | (simp; omega)) ?_
        conv => whnf
        refine ⟨⟨k + 1, a6, ⟨s11, s12, s13, s14, s15, s16, s17, s18⟩, es1, by omega, ha, hs1, by omega⟩, [(2, some 2), (4, some 4), (5, some 5), (50, some 52)], ?_, by show 12 - (k + 1) < 12 - k; omega⟩
        repeat' (first | exact trivial | rfl | refine And.intro ?_ ?_)
        all_goals (conv => whnf)
        repeat' (first | exact trivial | rfl | refine And.intro ?_ ?_)
      refine spE (fun _ => ?_) (fun _ => ?_) <;> conv => whnf
      · refine ⟨by omega, _, rTS_get hx, ?_⟩
        conv => whnf
        refine ⟨_, _, entryM_c _ _ _ _ _, ?_⟩
        conv => whnf
        refine exK (packed1_q c ⟨u1, u2, u3, u4, u5, u6, u7, u8⟩ ⟨_, _, _, _, _, _, _, _, _⟩ es w hs (by omega)) ?_
        rintro _ _ ⟨⟨s11, s12, s13, s14, s15, s16, s17, s18⟩, es1, rfl, rfl, hs1, he1⟩
        conv => whnf
        refine gv (by first | omega | (simp only []; omega) | (simp; omega)) (by first | omega | (simp only []; omega) | (simp; omega)) ?_
        conv => whnf
        refine ⟨⟨k + 1, a5, ⟨s11, s12, s13, s14, s15, s16, s17, s18⟩, es1, by omega, ha, hs1, by omega⟩, [(2, some 2), (4, some 4), (5, some 5), (50, some 52)], ?_, by show 12 - (k + 1) < 12 - k; omega⟩
        repeat' (first | exact trivial | rfl | refine And.intro ?_ ?_)
        all_goals (conv => whnf)
        repeat' (first | exact trivial | rfl | refine And.intro ?_ ?_)
      refine spE (fun _ => ?_) (fun _ => ?_) <;> conv => whnf
      · refine ⟨by kernel_rfl, ?_⟩
        conv => whnf
        refine ⟨by omega, _, rCS_get hy, ?_⟩
        conv => whnf
        refine gv (by first | omega | (simp only []; omega) | (simp; omega)) (by first | omega | (simp only []; omega) | (simp; omega)) ?_
        conv => whnf
        refine exM (nextM_e ha (by omega) (by omega) (by omega)) (fun v6 a6 hv6 m6 => ?_)
        conv => whnf
        have ha := mv_in ha m6
        refine gv (by first | omega | (simp only []; omega) | (simp; omega)) (by first | omega | (simp only []; omega) | (simp; omega)) ?_
        conv => whnf
        refine exK (packed1_q c ⟨u1, u2, u3, u4, u5, u6, u7, u8⟩ ⟨_, _, _, _, _, _, _, _, _⟩ es w hs (by omega)) ?_
        rintro _ _ ⟨⟨s11, s12, s13, s14, s15, s16, s17, s18⟩, es1, rfl, rfl, hs1, he1⟩
        conv => whnf
        refine gv (by first | omega | (simp only []; omega) | (simp; omega)) (by first | omega | (simp only []; omega) | (simp; omega)) ?_
        conv => whnf
        refine ⟨⟨k + 1, a6, ⟨s11, s12, s13, s14, s15, s16, s17, s18⟩, es1, by omega, ha, hs1, by omega⟩, [(2, some 2), (4, some 4), (5, some 5), (50, some 52)], ?_, by show 12 - (k + 1) < 12 - k; omega⟩
        repeat' (first | exact trivial | rfl | refine And.intro ?_ ?_)
        all_goals (conv => whnf)
        repeat' (first | exact trivial | rfl | refine And.intro ?_ ?_)
      refine ⟨by omega, _, rTS_get hx, ?_⟩
      conv => whnf
      refine ⟨_, _, entryM_c _ _ _ _ _, ?_⟩
      conv => whnf
      refine ⟨by kernel_rfl, ?_⟩
      conv => whnf
      refine ⟨by kernel_rfl, ?_⟩
      conv => whnf
      refine exM (rangeM_e ha (by omega) (by omega) (by omega) (by omega)) (fun v6 a6 hv6 m6 => ?_)
      conv => whnf
      have ha := mv_in ha m6
      refine gv (show _ ≤ (if u1 + v4 < t12 then t12 else u1 + v4) + v6 by split <;> omega) (show (if u1 + v4 < t12 then t12 else u1 + v4) + v6 ≤ _ by split <;> omega) ?_
      conv => whnf
      refine spD (fun q5 => ?_) (fun q5 => ?_) <;> conv => whnf
      · obtain ⟨⟨d1, d2, d3, d4⟩, hz⟩ := get_int (l := u4) (i := t3) (by omega) (by omega)
        refine ⟨by omega, _, rCS_get hz, ?_⟩
        conv => whnf
        refine exK (packed1_q c ⟨u1, u2, u3, u4, u5, u6, u7, u8⟩ ⟨_, _, _, _, _, _, _, _, _⟩ es w hs (by omega)) ?_
        rintro _ _ ⟨⟨s11, s12, s13, s14, s15, s16, s17, s18⟩, es1, rfl, rfl, hs1, he1⟩
        conv => whnf
        refine gv (by first | omega | (simp only []; omega) | (simp; omega)) (by first | omega | (simp only []; omega) | (simp; omega)) ?_
        conv => whnf
        refine ⟨⟨k + 1, a6, ⟨s11, s12, s13, s14, s15, s16, s17, s18⟩, es1, by omega, ha, hs1, by omega⟩, [(2, some 2), (4, some 4), (5, some 5), (50, some 53)], ?_, by show 12 - (k + 1) < 12 - k; omega⟩
        repeat' (first | exact trivial | rfl | refine And.intro ?_ ?_)
        all_goals (conv => whnf)
        repeat' (first | exact trivial | rfl | refine And.intro ?_ ?_)
      · refine exK (packed1_q c ⟨u1, u2, u3, u4, u5, u6, u7, u8⟩ ⟨_, _, _, _, _, _, _, _, _⟩ es w hs (by omega)) ?_
        rintro _ _ ⟨⟨s11, s12, s13, s14, s15, s16, s17, s18⟩, es1, rfl, rfl, hs1, he1⟩
        conv => whnf
        refine gv (by first | omega | (simp only []; omega) | (simp; omega)) (by first | omega | (simp only []; omega) | (simp; omega)) ?_
        conv => whnf
        refine ⟨⟨k + 1, a6, ⟨s11, s12, s13, s14, s15, s16, s17, s18⟩, es1, by omega, ha, hs1, by omega⟩, [(2, some 2), (4, some 4), (5, some 5), (50, some 53)], ?_, by show 12 - (k + 1) < 12 - k; omega⟩
        repeat' (first | exact trivial | rfl | refine And.intro ?_ ?_)
        all_goals (conv => whnf)
        repeat' (first | exact trivial | rfl | refine And.intro ?_ ?_)

end Go.Proofs.YtncckpieemmmfaaGreat
