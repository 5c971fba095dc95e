/- Contracts: the reference's pairs, Partial and Full. Conditions: those ahead of each theorem. -/
import Derived.Test.YtelnligfebjjiaaGreatRulesR
namespace Go.Proofs.YtelnligfebjjiaaGreat
open Go Go.Cpl

theorem zone_at {c : Cfg} {h : Int} {x : Int × Int} (h0 : 0 ≤ h) (hx : c.cells[h.toNat]? = some x) : zoneOf c h = x.1 := by simp [zoneOf, h0, hx]

set_option maxRecDepth 100000 in
set_option maxHeartbeats 8000000 in
theorem refPairsG_c (c : Cfg) (u : Int) (hd : Bool) (l : List (Int × Int)) (hf : Fit c l) :
    CallsH Tryz.prog 104 [probV c u hd, plV l, I 6] [] (.c (.gs 0)) [.arr 66 (rB (prL 6 (badG c l) l l.length))] := by
  have hg := good_of hf.val
  have hT := hg.tenants
  have hC := hg.cells
  have hlen := hf.len
  have hp := r2_len l
  have hlt := rT_len c.tenants
  have hcl := r2_len c.cells
  refine callsR_of tab mixed Tryz.func104 rfl (by decide) rfl rfl ?_
  conv => whnf
  refine loopN tab mixed (fun i => i ≤ l.length) l.length (fun i => [(9, I i), (7, .c (.gs 50))]) (fun i => [(50, .arr 66 (rB (prL 6 (badG c l) l i)))]) 51 [(50, none)] (by omega) ?_
  conv => whnf
  refine ⟨?_, fun i hi => ?_⟩
  · repeat' (first | exact trivial | rfl | refine And.intro ?_ ?_)
    all_goals (conv => whnf)
    repeat' (first | exact trivial | rfl | refine And.intro ?_ ?_)
  conv => whnf
  refine spD (fun h => ?_) (fun h => ?_) <;> conv => whnf
  · have hi' : i < l.length := by omega
    obtain ⟨p, hx⟩ := get_of hi'
    obtain ⟨t, ht⟩ := get_of (l := c.tenants) (i := i) (by omega)
    have hrg := hf.rng p (List.mem_of_getElem? hx)
    have e3 : homeAt l i = p.1 := by simp [homeAt, hx]
    have n1 : noisyOf c i = t.noisy := by simp [noisyOf, ht]
    have m1 : groupOf c i = t.group := by simp [groupOf, ht]
    have hL := prL_len 6 (badG c l) l i (by omega)
    refine loopN tab mixed (fun k => k ≤ i) i (fun k => [(10, I k), (7, .c (.gs 50))]) (fun k => [(50, .arr 66 (rB (prL 6 (badG c l) l i ++ prB 6 (badG c l) l i k)))]) 61 [(50, some 50)] (by omega) ?_
    conv => whnf
    refine ⟨?_, fun k hk => ?_⟩
    · repeat' (first | exact trivial | rfl | refine And.intro ?_ ?_)
      all_goals (conv => whnf)
      repeat' (first | exact trivial | rfl | refine And.intro ?_ ?_)
      simp [prB]
    conv => whnf
    refine spD (fun h1 => ?_) (fun h1 => ?_) <;> conv => whnf
    · have hk' : k < i := by have : (k : Int) < i := h1; omega
      obtain ⟨q, hq⟩ := get_of (l := l) (i := k) (by omega)
      obtain ⟨s, hs⟩ := get_of (l := c.tenants) (i := k) (by omega)
      have hrq := hf.rng q (List.mem_of_getElem? hq)
      have e4 : homeAt l k = q.1 := by simp [homeAt, hq]
      have n2 : noisyOf c k = s.noisy := by simp [noisyOf, hs]
      have m2 : groupOf c k = s.group := by simp [groupOf, hs]
      have hB := prB_len 6 (badG c l) l i k
      refine ⟨by omega, _, r2_get hx, ?_⟩
      conv => whnf
      refine spD (fun h2 => ?_) (fun h2 => ?_) <;> conv => whnf
      · have g2 : p.1 = -1 := by omega
        refine gv (by first | omega | (simp only []; omega) | (simp; omega)) (by first | omega | (simp only []; omega) | (simp; omega)) ?_
        conv => whnf
        refine ⟨⟨hk', hk'⟩, [(50, some 50)], ?_⟩
        repeat' (first | exact trivial | rfl | refine And.intro ?_ ?_)
        all_goals (conv => whnf)
        repeat' (first | exact trivial | rfl | refine And.intro ?_ ?_)
        simp [prB, prT, e3, g2]
      have g2 : p.1 ≠ -1 := by omega
      obtain ⟨x, hcx⟩ := get_int (l := c.cells) (i := p.1) (by omega) (by omega)
      have z1 := zone_at (by omega) hcx
      refine ⟨by omega, _, r2_get hq, ?_⟩
      conv => whnf
      refine spD (fun h3 => ?_) (fun h3 => ?_) <;> conv => whnf
      · have g3 : q.1 = -1 := by omega
        refine gv (by first | omega | (simp only []; omega) | (simp; omega)) (by first | omega | (simp only []; omega) | (simp; omega)) ?_
        conv => whnf
        refine ⟨⟨hk', hk'⟩, [(50, some 50)], ?_⟩
        repeat' (first | exact trivial | rfl | refine And.intro ?_ ?_)
        all_goals (conv => whnf)
        repeat' (first | exact trivial | rfl | refine And.intro ?_ ?_)
        simp [prB, prT, e4, g3]
      have g3 : q.1 ≠ -1 := by omega
      obtain ⟨y, hcy⟩ := get_int (l := c.cells) (i := q.1) (by omega) (by omega)
      have z2 := zone_at (by omega) hcy
      have hyes : badG c l i k = true → prB 6 (badG c l) l i (k + 1) = prB 6 (badG c l) l i k ++ [⟨6, i, k, q.1, -1⟩] := fun hb => by
        simp only [prB, prT, e3, e4, g2, g3, hb, ne_eq, not_false_eq_true, decide_true, Bool.and_self, if_true]
      have hno : badG c l i k = false → prB 6 (badG c l) l i (k + 1) = prB 6 (badG c l) l i k := fun hb => by
        simp [prB, prT, hb]
      refine ⟨by kernel_rfl, ?_⟩
      conv => whnf
      refine ⟨by omega, _, rT_get ht, ?_⟩
      conv => whnf
      refine ⟨fun n3 => ?_, fun n3 => ?_⟩ <;> conv => whnf
      · refine ⟨by omega, _, rT_get hs, ?_⟩
        conv => whnf
        refine ⟨fun n4 => ?_, fun n4 => ?_⟩ <;> conv => whnf
        · refine ⟨by omega, _, r2_get hx, ?_⟩
          conv => whnf
          refine ⟨by omega, _, r2_get hq, ?_⟩
          conv => whnf
          refine spE (fun _ => ?_) (fun h9 => absurd rfl h9)
          conv => whnf
          refine ⟨by kernel_rfl, ?_⟩
          conv => whnf
          refine ⟨by omega, _, rT_get ht, ?_⟩
          conv => whnf
          refine spD (fun n5 => ?_) (fun n5 => ?_) <;> conv => whnf
          · refine ⟨by omega, _, rT_get ht, ?_⟩
            conv => whnf
            refine ⟨by omega, _, rT_get hs, ?_⟩
            conv => whnf
            refine spE (fun n6 => ?_) (fun n6 => ?_) <;> conv => whnf
            · refine ⟨by omega, _, r2_get hx, ?_⟩
              conv => whnf
              refine ⟨by omega, _, r2_get hcx, ?_⟩
              conv => whnf
              refine ⟨by omega, _, r2_get hq, ?_⟩
              conv => whnf
              refine ⟨by omega, _, r2_get hcy, ?_⟩
              conv => whnf
              refine spE (fun n7 => ?_) (fun n7 => ?_) <;> conv => whnf
              · refine ⟨by omega, _, r2_get hq, ?_⟩
                conv => whnf
                refine ⟨_, _, broken_c _ _ _ _ _, ?_⟩
                conv => whnf
                refine ⟨row5 _ _ _ _ _, ⟨by rw [rB_len]; simp; omega⟩, ?_⟩
                conv => whnf
                refine gv (by first | omega | (simp only []; omega) | (simp; omega)) (by first | omega | (simp only []; omega) | (simp; omega)) ?_
                conv => whnf
                refine ⟨⟨hk', hk'⟩, [(50, some 62)], ?_⟩
                repeat' (first | exact trivial | rfl | refine And.intro ?_ ?_)
                all_goals (conv => whnf)
                repeat' (first | exact trivial | rfl | refine And.intro ?_ ?_)
                rw [hyes (by have n8 : 0 < s.group := n6 ▸ n5; simp [badG, m1, m2, e3, e4, z1, z2, n6, n7, n8]), ← List.append_assoc]
                exact (rB_app _ _ _ _ _ _).symm
              · refine gv (by first | omega | (simp only []; omega) | (simp; omega)) (by first | omega | (simp only []; omega) | (simp; omega)) ?_
                conv => whnf
                refine ⟨⟨hk', hk'⟩, [(50, some 50)], ?_⟩
                repeat' (first | exact trivial | rfl | refine And.intro ?_ ?_)
                all_goals (conv => whnf)
                repeat' (first | exact trivial | rfl | refine And.intro ?_ ?_)
                rw [hno (by simp [badG, e3, e4, z1, z2, n7])]
            · refine gv (by first | omega | (simp only []; omega) | (simp; omega)) (by first | omega | (simp only []; omega) | (simp; omega)) ?_
              conv => whnf
              refine ⟨⟨hk', hk'⟩, [(50, some 50)], ?_⟩
              repeat' (first | exact trivial | rfl | refine And.intro ?_ ?_)
              all_goals (conv => whnf)
              repeat' (first | exact trivial | rfl | refine And.intro ?_ ?_)
              rw [hno (by simp [badG, m1, m2, n6])]
          · refine gv (by first | omega | (simp only []; omega) | (simp; omega)) (by first | omega | (simp only []; omega) | (simp; omega)) ?_
            conv => whnf
            refine ⟨⟨hk', hk'⟩, [(50, some 50)], ?_⟩
            repeat' (first | exact trivial | rfl | refine And.intro ?_ ?_)
            all_goals (conv => whnf)
            repeat' (first | exact trivial | rfl | refine And.intro ?_ ?_)
            rw [hno (by simp [badG, m1]; omega)]
        · refine spE (fun _ => ?_) (fun h9 => absurd rfl h9)
          conv => whnf
          refine ⟨by kernel_rfl, ?_⟩
          conv => whnf
          refine ⟨by omega, _, rT_get ht, ?_⟩
          conv => whnf
          refine spD (fun n5 => ?_) (fun n5 => ?_) <;> conv => whnf
          · refine ⟨by omega, _, rT_get ht, ?_⟩
            conv => whnf
            refine ⟨by omega, _, rT_get hs, ?_⟩
            conv => whnf
            refine spE (fun n6 => ?_) (fun n6 => ?_) <;> conv => whnf
            · refine ⟨by omega, _, r2_get hx, ?_⟩
              conv => whnf
              refine ⟨by omega, _, r2_get hcx, ?_⟩
              conv => whnf
              refine ⟨by omega, _, r2_get hq, ?_⟩
              conv => whnf
              refine ⟨by omega, _, r2_get hcy, ?_⟩
              conv => whnf
              refine spE (fun n7 => ?_) (fun n7 => ?_) <;> conv => whnf
              · refine ⟨by omega, _, r2_get hq, ?_⟩
                conv => whnf
                refine ⟨_, _, broken_c _ _ _ _ _, ?_⟩
                conv => whnf
                refine ⟨row5 _ _ _ _ _, ⟨by rw [rB_len]; simp; omega⟩, ?_⟩
                conv => whnf
                refine gv (by first | omega | (simp only []; omega) | (simp; omega)) (by first | omega | (simp only []; omega) | (simp; omega)) ?_
                conv => whnf
                refine ⟨⟨hk', hk'⟩, [(50, some 62)], ?_⟩
                repeat' (first | exact trivial | rfl | refine And.intro ?_ ?_)
                all_goals (conv => whnf)
                repeat' (first | exact trivial | rfl | refine And.intro ?_ ?_)
                rw [hyes (by have n8 : 0 < s.group := n6 ▸ n5; simp [badG, m1, m2, e3, e4, z1, z2, n6, n7, n8]), ← List.append_assoc]
                exact (rB_app _ _ _ _ _ _).symm
              · refine gv (by first | omega | (simp only []; omega) | (simp; omega)) (by first | omega | (simp only []; omega) | (simp; omega)) ?_
                conv => whnf
                refine ⟨⟨hk', hk'⟩, [(50, some 50)], ?_⟩
                repeat' (first | exact trivial | rfl | refine And.intro ?_ ?_)
                all_goals (conv => whnf)
                repeat' (first | exact trivial | rfl | refine And.intro ?_ ?_)
                rw [hno (by simp [badG, e3, e4, z1, z2, n7])]
            · refine gv (by first | omega | (simp only []; omega) | (simp; omega)) (by first | omega | (simp only []; omega) | (simp; omega)) ?_
              conv => whnf
              refine ⟨⟨hk', hk'⟩, [(50, some 50)], ?_⟩
              repeat' (first | exact trivial | rfl | refine And.intro ?_ ?_)
              all_goals (conv => whnf)
              repeat' (first | exact trivial | rfl | refine And.intro ?_ ?_)
              rw [hno (by simp [badG, m1, m2, n6])]
          · refine gv (by first | omega | (simp only []; omega) | (simp; omega)) (by first | omega | (simp only []; omega) | (simp; omega)) ?_
            conv => whnf
            refine ⟨⟨hk', hk'⟩, [(50, some 50)], ?_⟩
            repeat' (first | exact trivial | rfl | refine And.intro ?_ ?_)
            all_goals (conv => whnf)
            repeat' (first | exact trivial | rfl | refine And.intro ?_ ?_)
            rw [hno (by simp [badG, m1]; omega)]
      · refine spE (fun _ => ?_) (fun h9 => absurd rfl h9)
        conv => whnf
        refine ⟨by kernel_rfl, ?_⟩
        conv => whnf
        refine ⟨by omega, _, rT_get ht, ?_⟩
        conv => whnf
        refine spD (fun n5 => ?_) (fun n5 => ?_) <;> conv => whnf
        · refine ⟨by omega, _, rT_get ht, ?_⟩
          conv => whnf
          refine ⟨by omega, _, rT_get hs, ?_⟩
          conv => whnf
          refine spE (fun n6 => ?_) (fun n6 => ?_) <;> conv => whnf
          · refine ⟨by omega, _, r2_get hx, ?_⟩
            conv => whnf
            refine ⟨by omega, _, r2_get hcx, ?_⟩
            conv => whnf
            refine ⟨by omega, _, r2_get hq, ?_⟩
            conv => whnf
            refine ⟨by omega, _, r2_get hcy, ?_⟩
            conv => whnf
            refine spE (fun n7 => ?_) (fun n7 => ?_) <;> conv => whnf
            · refine ⟨by omega, _, r2_get hq, ?_⟩
              conv => whnf
              refine ⟨_, _, broken_c _ _ _ _ _, ?_⟩
              conv => whnf
              refine ⟨row5 _ _ _ _ _, ⟨by rw [rB_len]; simp; omega⟩, ?_⟩
              conv => whnf
              refine gv (by first | omega | (simp only []; omega) | (simp; omega)) (by first | omega | (simp only []; omega) | (simp; omega)) ?_
              conv => whnf
              refine ⟨⟨hk', hk'⟩, [(50, some 62)], ?_⟩
              repeat' (first | exact trivial | rfl | refine And.intro ?_ ?_)
              all_goals (conv => whnf)
              repeat' (first | exact trivial | rfl | refine And.intro ?_ ?_)
              rw [hyes (by have n8 : 0 < s.group := n6 ▸ n5; simp [badG, m1, m2, e3, e4, z1, z2, n6, n7, n8]), ← List.append_assoc]
              exact (rB_app _ _ _ _ _ _).symm
            · refine gv (by first | omega | (simp only []; omega) | (simp; omega)) (by first | omega | (simp only []; omega) | (simp; omega)) ?_
              conv => whnf
              refine ⟨⟨hk', hk'⟩, [(50, some 50)], ?_⟩
              repeat' (first | exact trivial | rfl | refine And.intro ?_ ?_)
              all_goals (conv => whnf)
              repeat' (first | exact trivial | rfl | refine And.intro ?_ ?_)
              rw [hno (by simp [badG, e3, e4, z1, z2, n7])]
          · refine gv (by first | omega | (simp only []; omega) | (simp; omega)) (by first | omega | (simp only []; omega) | (simp; omega)) ?_
            conv => whnf
            refine ⟨⟨hk', hk'⟩, [(50, some 50)], ?_⟩
            repeat' (first | exact trivial | rfl | refine And.intro ?_ ?_)
            all_goals (conv => whnf)
            repeat' (first | exact trivial | rfl | refine And.intro ?_ ?_)
            rw [hno (by simp [badG, m1, m2, n6])]
        · refine gv (by first | omega | (simp only []; omega) | (simp; omega)) (by first | omega | (simp only []; omega) | (simp; omega)) ?_
          conv => whnf
          refine ⟨⟨hk', hk'⟩, [(50, some 50)], ?_⟩
          repeat' (first | exact trivial | rfl | refine And.intro ?_ ?_)
          all_goals (conv => whnf)
          repeat' (first | exact trivial | rfl | refine And.intro ?_ ?_)
          rw [hno (by simp [badG, m1]; omega)]
    · have hk' : k = i := by have : ¬ (k : Int) < i := h1; omega
      subst hk'
      refine gv (by first | omega | (simp only []; omega) | (simp; omega)) (by first | omega | (simp only []; omega) | (simp; omega)) ?_
      conv => whnf
      refine ⟨⟨hi', hi'⟩, [(50, some 50)], ?_⟩
      repeat' (first | exact trivial | rfl | refine And.intro ?_ ?_)
      all_goals (conv => whnf)
      repeat' (first | exact trivial | rfl | refine And.intro ?_ ?_)
  · refine ⟨[(0, some 50)], rfl, rfl, ⟨rfl, ?_⟩, trivial⟩
    have hi' : i = l.length := by omega
    rw [hi']

set_option maxRecDepth 100000 in
set_option maxHeartbeats 8000000 in
theorem refPairsN_c (c : Cfg) (u : Int) (hd : Bool) (l : List (Int × Int)) (hf : Fit c l) :
    CallsH Tryz.prog 104 [probV c u hd, plV l, I 7] [] (.c (.gs 0)) [.arr 66 (rB (prL 7 (badN c l) l l.length))] := by
  have hg := good_of hf.val
  have hT := hg.tenants
  have hC := hg.cells
  have hlen := hf.len
  have hp := r2_len l
  have hlt := rT_len c.tenants
  have hcl := r2_len c.cells
  refine callsR_of tab mixed Tryz.func104 rfl (by decide) rfl rfl ?_
  conv => whnf
  refine loopN tab mixed (fun i => i ≤ l.length) l.length (fun i => [(9, I i), (7, .c (.gs 50))]) (fun i => [(50, .arr 66 (rB (prL 7 (badN c l) l i)))]) 51 [(50, none)] (by omega) ?_
  conv => whnf
  refine ⟨?_, fun i hi => ?_⟩
  · repeat' (first | exact trivial | rfl | refine And.intro ?_ ?_)
    all_goals (conv => whnf)
    repeat' (first | exact trivial | rfl | refine And.intro ?_ ?_)
  conv => whnf
  refine spD (fun h => ?_) (fun h => ?_) <;> conv => whnf
  · have hi' : i < l.length := by omega
    obtain ⟨p, hx⟩ := get_of hi'
    obtain ⟨t, ht⟩ := get_of (l := c.tenants) (i := i) (by omega)
    have hrg := hf.rng p (List.mem_of_getElem? hx)
    have e3 : homeAt l i = p.1 := by simp [homeAt, hx]
    have n1 : noisyOf c i = t.noisy := by simp [noisyOf, ht]
    have m1 : groupOf c i = t.group := by simp [groupOf, ht]
    have hL := prL_len 7 (badN c l) l i (by omega)
    refine loopN tab mixed (fun k => k ≤ i) i (fun k => [(10, I k), (7, .c (.gs 50))]) (fun k => [(50, .arr 66 (rB (prL 7 (badN c l) l i ++ prB 7 (badN c l) l i k)))]) 61 [(50, some 50)] (by omega) ?_
    conv => whnf
    refine ⟨?_, fun k hk => ?_⟩
    · repeat' (first | exact trivial | rfl | refine And.intro ?_ ?_)
      all_goals (conv => whnf)
      repeat' (first | exact trivial | rfl | refine And.intro ?_ ?_)
      simp [prB]
    conv => whnf
    refine spD (fun h1 => ?_) (fun h1 => ?_) <;> conv => whnf
    · have hk' : k < i := by have : (k : Int) < i := h1; omega
      obtain ⟨q, hq⟩ := get_of (l := l) (i := k) (by omega)
      obtain ⟨s, hs⟩ := get_of (l := c.tenants) (i := k) (by omega)
      have hrq := hf.rng q (List.mem_of_getElem? hq)
      have e4 : homeAt l k = q.1 := by simp [homeAt, hq]
      have n2 : noisyOf c k = s.noisy := by simp [noisyOf, hs]
      have m2 : groupOf c k = s.group := by simp [groupOf, hs]
      have hB := prB_len 7 (badN c l) l i k
      refine ⟨by omega, _, r2_get hx, ?_⟩
      conv => whnf
      refine spD (fun h2 => ?_) (fun h2 => ?_) <;> conv => whnf
      · have g2 : p.1 = -1 := by omega
        refine gv (by first | omega | (simp only []; omega) | (simp; omega)) (by first | omega | (simp only []; omega) | (simp; omega)) ?_
        conv => whnf
        refine ⟨⟨hk', hk'⟩, [(50, some 50)], ?_⟩
        repeat' (first | exact trivial | rfl | refine And.intro ?_ ?_)
        all_goals (conv => whnf)
        repeat' (first | exact trivial | rfl | refine And.intro ?_ ?_)
        simp [prB, prT, e3, g2]
      have g2 : p.1 ≠ -1 := by omega
      obtain ⟨x, hcx⟩ := get_int (l := c.cells) (i := p.1) (by omega) (by omega)
      have z1 := zone_at (by omega) hcx
      refine ⟨by omega, _, r2_get hq, ?_⟩
      conv => whnf
      refine spD (fun h3 => ?_) (fun h3 => ?_) <;> conv => whnf
      · have g3 : q.1 = -1 := by omega
        refine gv (by first | omega | (simp only []; omega) | (simp; omega)) (by first | omega | (simp only []; omega) | (simp; omega)) ?_
        conv => whnf
        refine ⟨⟨hk', hk'⟩, [(50, some 50)], ?_⟩
        repeat' (first | exact trivial | rfl | refine And.intro ?_ ?_)
        all_goals (conv => whnf)
        repeat' (first | exact trivial | rfl | refine And.intro ?_ ?_)
        simp [prB, prT, e4, g3]
      have g3 : q.1 ≠ -1 := by omega
      obtain ⟨y, hcy⟩ := get_int (l := c.cells) (i := q.1) (by omega) (by omega)
      have z2 := zone_at (by omega) hcy
      have hyes : badN c l i k = true → prB 7 (badN c l) l i (k + 1) = prB 7 (badN c l) l i k ++ [⟨7, i, k, q.1, -1⟩] := fun hb => by
        simp only [prB, prT, e3, e4, g2, g3, hb, ne_eq, not_false_eq_true, decide_true, Bool.and_self, if_true]
      have hno : badN c l i k = false → prB 7 (badN c l) l i (k + 1) = prB 7 (badN c l) l i k := fun hb => by
        simp [prB, prT, hb]
      refine ⟨by kernel_rfl, ?_⟩
      conv => whnf
      refine ⟨by omega, _, rT_get ht, ?_⟩
      conv => whnf
      refine ⟨fun n3 => ?_, fun n3 => ?_⟩ <;> conv => whnf
      · refine ⟨by omega, _, rT_get hs, ?_⟩
        conv => whnf
        refine ⟨fun n4 => ?_, fun n4 => ?_⟩ <;> conv => whnf
        · refine ⟨by omega, _, r2_get hx, ?_⟩
          conv => whnf
          refine ⟨by omega, _, r2_get hq, ?_⟩
          conv => whnf
          refine spE (fun h9 => absurd h9 (by decide)) (fun _ => ?_)
          conv => whnf
          refine spE (fun n5 => ?_) (fun n5 => ?_) <;> conv => whnf
          · refine ⟨by omega, _, r2_get hq, ?_⟩
            conv => whnf
            refine ⟨_, _, broken_c _ _ _ _ _, ?_⟩
            conv => whnf
            refine ⟨row5 _ _ _ _ _, ⟨by rw [rB_len]; simp; omega⟩, ?_⟩
            conv => whnf
            refine gv (by first | omega | (simp only []; omega) | (simp; omega)) (by first | omega | (simp only []; omega) | (simp; omega)) ?_
            conv => whnf
            refine ⟨⟨hk', hk'⟩, [(50, some 62)], ?_⟩
            repeat' (first | exact trivial | rfl | refine And.intro ?_ ?_)
            all_goals (conv => whnf)
            repeat' (first | exact trivial | rfl | refine And.intro ?_ ?_)
            rw [hyes (by simp [badN, n1, n2, n3, n4, e3, e4, n5]), ← List.append_assoc]
            exact (rB_app _ _ _ _ _ _).symm
          · refine gv (by first | omega | (simp only []; omega) | (simp; omega)) (by first | omega | (simp only []; omega) | (simp; omega)) ?_
            conv => whnf
            refine ⟨⟨hk', hk'⟩, [(50, some 50)], ?_⟩
            repeat' (first | exact trivial | rfl | refine And.intro ?_ ?_)
            all_goals (conv => whnf)
            repeat' (first | exact trivial | rfl | refine And.intro ?_ ?_)
            rw [hno (by simp [badN, e3, e4, n5])]
        · refine spE (fun h9 => absurd h9 (by decide)) (fun _ => ?_)
          conv => whnf
          refine gv (by first | omega | (simp only []; omega) | (simp; omega)) (by first | omega | (simp only []; omega) | (simp; omega)) ?_
          conv => whnf
          refine ⟨⟨hk', hk'⟩, [(50, some 50)], ?_⟩
          repeat' (first | exact trivial | rfl | refine And.intro ?_ ?_)
          all_goals (conv => whnf)
          repeat' (first | exact trivial | rfl | refine And.intro ?_ ?_)
          rw [hno (by simp [badN, n2, n4])]
      · refine spE (fun h9 => absurd h9 (by decide)) (fun _ => ?_)
        conv => whnf
        refine gv (by first | omega | (simp only []; omega) | (simp; omega)) (by first | omega | (simp only []; omega) | (simp; omega)) ?_
        conv => whnf
        refine ⟨⟨hk', hk'⟩, [(50, some 50)], ?_⟩
        repeat' (first | exact trivial | rfl | refine And.intro ?_ ?_)
        all_goals (conv => whnf)
        repeat' (first | exact trivial | rfl | refine And.intro ?_ ?_)
        rw [hno (by simp [badN, n1, n3])]
    · have hk' : k = i := by have : ¬ (k : Int) < i := h1; omega
      subst hk'
      refine gv (by first | omega | (simp only []; omega) | (simp; omega)) (by first | omega | (simp only []; omega) | (simp; omega)) ?_
      conv => whnf
      refine ⟨⟨hi', hi'⟩, [(50, some 50)], ?_⟩
      repeat' (first | exact trivial | rfl | refine And.intro ?_ ?_)
      all_goals (conv => whnf)
      repeat' (first | exact trivial | rfl | refine And.intro ?_ ?_)
  · refine ⟨[(0, some 50)], rfl, rfl, ⟨rfl, ?_⟩, trivial⟩
    have hi' : i = l.length := by omega
    rw [hi']

set_option maxRecDepth 100000 in
set_option maxHeartbeats 8000000 in
theorem refPartial_c (c : Cfg) (u : Int) (hd : Bool) (l : List (Int × Int)) (hf : Fit c l) : CallsH Tryz.prog 68 [probV c u hd, plV l] [] (.c (.gs 0)) [.arr 66 (rB (partialL c u hd l))] := by
  have hg := good_of hf.val
  have hT := hg.tenants
  have hC := hg.cells
  have hR := hg.regions
  have hlen := hf.len
  have hp := r2_len l
  have hcl := r2_len c.cells
  have hbl : (booked c l).length = c.cells.length := bk_len c l l.length
  have hb1 := r1_len (booked c l)
  have hbr := booked_rng hg hf.len
  have l1 := eachL_len 3 (eachU u) l l.length
  have l2 := eachL_len 4 (eachA c) l l.length
  have l3 := apL_len c l l.length
  have l4 := prL_len 6 (badG c l) l l.length (by omega)
  have l5 := prL_len 7 (badN c l) l l.length (by omega)
  have l6 := cpL_len c (booked c l) c.cells.length
  have r1' : (usableL u l).length ≤ 2 * l.length := l1
  have r2' : (allowedL c l).length ≤ 2 * l.length := l2
  obtain ⟨A, hA⟩ : ∃ A, A = usableL u l ++ allowedL c l := ⟨_, rfl⟩
  have hAl : A.length ≤ 128 := by rw [hA, List.length_append]; omega
  obtain ⟨A2, hA2⟩ : ∃ A2, A2 = A ++ apL c l l.length ++ prL 6 (badG c l) l l.length ++ prL 7 (badN c l) l l.length := ⟨_, rfl⟩
  have hA2l : A2.length ≤ 3000 := by rw [hA2]; simp only [List.length_append]; omega
  obtain ⟨A3, hA3⟩ : ∃ A3, A3 = A2 ++ cpL c (booked c l) c.cells.length := ⟨_, rfl⟩
  have hA3l : A3.length ≤ 3100 := by rw [hA3]; simp only [List.length_append]; omega
  have hfin : partialL c u hd l = A3 ++ headL c hd l := by
    rw [hA3, hA2, hA]; simp [partialL]
  refine callsR_of tab mixed Tryz.func68 rfl (by decide) rfl rfl ?_
  conv => whnf
  refine ⟨by kernel_rfl, ?_⟩
  conv => whnf
  refine ⟨_, _, refSingleU_c c u hd l hf, ?_⟩
  conv => whnf
  refine ⟨_, _, refSingleA_c c u hd l hf, ?_⟩
  conv => whnf
  refine ⟨rB_ok _, ⟨by rw [rB_len, rB_len]; omega⟩, ?_⟩
  conv => whnf
  rw [rB_apps, ← hA]
  refine loopN tab mixed (fun i => i ≤ l.length) l.length (fun i => [(6, I i), (5, .c (.gs 3)), (18, .top)]) (fun i => [(3, .arr 66 (rB (A ++ apL c l i)))]) 51 [(3, some 3)] (by omega) ?_
  conv => whnf
  refine ⟨?_, fun i hi => ?_⟩
  · repeat' (first | exact trivial | rfl | refine And.intro ?_ ?_)
    all_goals (conv => whnf)
    repeat' (first | exact trivial | rfl | refine And.intro ?_ ?_)
    simp [apL]
  conv => whnf
  refine spD (fun h => ?_) (fun h => ?_) <;> conv => whnf
  · have hi' : i < l.length := by omega
    obtain ⟨p, hx⟩ := get_of hi'
    have hrg := hf.rng p (List.mem_of_getElem? hx)
    have hL := apL_len c l i
    have hstep : apL c l (i + 1) = apL c l i ++ apT c i p := by simp [apL, hx]
    refine ⟨by kernel_rfl, ?_⟩
    conv => whnf
    refine ⟨by omega, _, r2_get hx, ?_⟩
    conv => whnf
    refine spD (fun h1 => ?_) (fun h1 => ?_) <;> conv => whnf
    · refine ⟨by omega, _, r2_get hx, ?_⟩
      conv => whnf
      refine spD (fun h2 => ?_) (fun h2 => ?_) <;> conv => whnf
      · have g1 : p.1 ≠ -1 := by omega
        have g2 : p.2 ≠ -1 := by omega
        have q1 := hg.region (i := p.1.toNat) (by omega)
        have q2 := hg.region (i := p.2.toNat) (by omega)
        rw [Int.toNat_of_nonneg h1] at q1
        rw [Int.toNat_of_nonneg h2] at q2
        refine ⟨by omega, _, r2_get hx, ?_⟩
        conv => whnf
        refine ⟨_, _, refRegion_c c u hd p.1 hg, ?_⟩
        conv => whnf
        refine ⟨by omega, _, r2_get hx, ?_⟩
        conv => whnf
        refine ⟨_, _, refRegion_c c u hd p.2 hg, ?_⟩
        conv => whnf
        refine spE (fun h3 => ?_) (fun h3 => ?_) <;> conv => whnf
        · have h4 : apart c p.1 p.2 = false := by simp [apart, h3]
          refine ⟨by omega, _, r2_get hx, ?_⟩
          conv => whnf
          refine ⟨_, _, broken_c _ _ _ _ _, ?_⟩
          conv => whnf
          refine ⟨row5 _ _ _ _ _, ⟨by rw [rB_len]; simp; omega⟩, ?_⟩
          conv => whnf
          refine gv (by first | omega | (simp only []; omega) | (simp; omega)) (by first | omega | (simp only []; omega) | (simp; omega)) ?_
          conv => whnf
          refine ⟨⟨hi', hi'⟩, [(3, some 52)], ?_⟩
          repeat' (first | exact trivial | rfl | refine And.intro ?_ ?_)
          all_goals (conv => whnf)
          repeat' (first | exact trivial | rfl | refine And.intro ?_ ?_)
          rw [hstep, ← List.append_assoc]
          simp only [apT, g1, g2, h4, ne_eq, not_false_eq_true, decide_true, Bool.not_false, Bool.and_self, if_true]
          exact (rB_app _ _ _ _ _ _).symm
        · have h4 : apart c p.1 p.2 = true := by simp [apart, h3, q1.1, q2.1]
          refine gv (by first | omega | (simp only []; omega) | (simp; omega)) (by first | omega | (simp only []; omega) | (simp; omega)) ?_
          conv => whnf
          refine ⟨⟨hi', hi'⟩, [(3, some 3)], ?_⟩
          repeat' (first | exact trivial | rfl | refine And.intro ?_ ?_)
          all_goals (conv => whnf)
          repeat' (first | exact trivial | rfl | refine And.intro ?_ ?_)
          rw [hstep]; simp [apT, h4]
      · have g2 : p.2 = -1 := by omega
        refine gv (by first | omega | (simp only []; omega) | (simp; omega)) (by first | omega | (simp only []; omega) | (simp; omega)) ?_
        conv => whnf
        refine ⟨⟨hi', hi'⟩, [(3, some 3)], ?_⟩
        repeat' (first | exact trivial | rfl | refine And.intro ?_ ?_)
        all_goals (conv => whnf)
        repeat' (first | exact trivial | rfl | refine And.intro ?_ ?_)
        rw [hstep]; simp [apT, g2]
    · have g1 : p.1 = -1 := by omega
      refine gv (by first | omega | (simp only []; omega) | (simp; omega)) (by first | omega | (simp only []; omega) | (simp; omega)) ?_
      conv => whnf
      refine ⟨⟨hi', hi'⟩, [(3, some 3)], ?_⟩
      repeat' (first | exact trivial | rfl | refine And.intro ?_ ?_)
      all_goals (conv => whnf)
      repeat' (first | exact trivial | rfl | refine And.intro ?_ ?_)
      rw [hstep]; simp [apT, g1]
  have hi' : i = l.length := by omega
  subst hi'
  refine ⟨by kernel_rfl, ?_⟩
  conv => whnf
  refine ⟨_, _, refPairsG_c c u hd l hf, ?_⟩
  conv => whnf
  refine ⟨rB_ok _, ⟨by rw [rB_len, rB_len]; simp only [List.length_append]; omega⟩, ?_⟩
  conv => whnf
  refine ⟨_, _, refPairsN_c c u hd l hf, ?_⟩
  conv => whnf
  refine ⟨rB_ok _, ⟨by simp only [List.length_append, rB_len]; omega⟩, ?_⟩
  conv => whnf
  rw [rB_apps, rB_apps, ← hA2]
  refine ⟨_, _, (refBooked_c c u hd l hf).frozen, ?_⟩
  conv => whnf
  refine loopN tab mixed (fun i => i ≤ c.cells.length) c.cells.length (fun i => [(8, I i), (5, .c (.gs 54)), (74, .top)]) (fun i => [(54, .arr 66 (rB (A2 ++ cpL c (booked c l) i)))]) 71 [(54, some 54)] (by omega) ?_
  conv => whnf
  refine ⟨?_, fun i hi => ?_⟩
  · repeat' (first | exact trivial | rfl | refine And.intro ?_ ?_)
    all_goals (conv => whnf)
    repeat' (first | exact trivial | rfl | refine And.intro ?_ ?_)
    simp [cpL]
  conv => whnf
  refine spD (fun h => ?_) (fun h => ?_) <;> conv => whnf
  · have hi' : i < c.cells.length := by omega
    obtain ⟨x, hx⟩ := get_of hi'
    obtain ⟨y, hy⟩ := get_of (l := booked c l) (i := i) (by omega)
    have hcap : capOf c i = x.2 := by simp [capOf, hx]
    have hL := cpL_len c (booked c l) i
    refine ⟨by kernel_rfl, ?_⟩
    conv => whnf
    refine ⟨by omega, _, r1_get hy, ?_⟩
    conv => whnf
    refine ⟨by omega, _, r2_get hx, ?_⟩
    conv => whnf
    refine spD (fun h1 => ?_) (fun h1 => ?_) <;> conv => whnf
    · refine ⟨_, _, broken_c _ _ _ _ _, ?_⟩
      conv => whnf
      refine ⟨row5 _ _ _ _ _, ⟨by rw [rB_len]; simp; omega⟩, ?_⟩
      conv => whnf
      refine gv (by first | omega | (simp only []; omega) | (simp; omega)) (by first | omega | (simp only []; omega) | (simp; omega)) ?_
      conv => whnf
      refine ⟨⟨hi', hi'⟩, [(54, some 72)], ?_⟩
      repeat' (first | exact trivial | rfl | refine And.intro ?_ ?_)
      all_goals (conv => whnf)
      repeat' (first | exact trivial | rfl | refine And.intro ?_ ?_)
      simp only [cpL, cpT, hcap, hy, Option.getD_some, h1, if_true, ← List.append_assoc]
      exact (rB_app _ _ _ _ _ _).symm
    · refine gv (by first | omega | (simp only []; omega) | (simp; omega)) (by first | omega | (simp only []; omega) | (simp; omega)) ?_
      conv => whnf
      refine ⟨⟨hi', hi'⟩, [(54, some 54)], ?_⟩
      repeat' (first | exact trivial | rfl | refine And.intro ?_ ?_)
      all_goals (conv => whnf)
      repeat' (first | exact trivial | rfl | refine And.intro ?_ ?_)
      simp [cpL, cpT, hcap, hy, h1]
  have hi' : i = c.cells.length := by omega
  subst hi'
  rw [← hA3]
  cases hd with
  | false =>
    refine loopN tab mixed (fun i => i = 0) 0 (fun i => [(9, I i), (5, .c (.gs 54))]) (fun _ => [(54, .arr 66 (rB A3))]) 91 [(54, some 54)] rfl ?_
    conv => whnf
    refine ⟨?_, fun i hi => ?_⟩
    · repeat' (first | exact trivial | rfl | refine And.intro ?_ ?_)
      all_goals (conv => whnf)
      repeat' (first | exact trivial | rfl | refine And.intro ?_ ?_)
    conv => whnf
    subst hi
    refine spD (fun h => ?_) (fun h => ?_) <;> conv => whnf
    · refine ⟨fun h => (by cases h), fun _ => ?_⟩
      conv => whnf
      refine ⟨[(0, some 54)], rfl, rfl, ⟨rfl, ?_⟩, trivial⟩
      rw [hfin]; simp [headL]
    · refine ⟨[(0, some 54)], rfl, rfl, ⟨rfl, ?_⟩, trivial⟩
      rw [hfin]; simp [headL]
  | true =>
    refine loopN tab mixed (fun i => i ≤ c.regions.toNat) c.regions.toNat (fun i => [(9, I i), (5, .c (.gs 54))]) (fun i => [(54, .arr 66 (rB (A3 ++ hrL c (booked c l) l i)))]) 91 [(54, some 54)] (by omega) ?_
    conv => whnf
    refine ⟨?_, fun i hi => ?_⟩
    · repeat' (first | exact trivial | rfl | refine And.intro ?_ ?_)
      all_goals (conv => whnf)
      repeat' (first | exact trivial | rfl | refine And.intro ?_ ?_)
      simp [hrL]
    conv => whnf
    refine spD (fun h => ?_) (fun h => ?_) <;> conv => whnf
    · have hi' : i < c.regions.toNat := by omega
      refine ⟨fun _ => ?_, fun h => (by cases h)⟩
      conv => whnf
      have hxl : (extra c l i).length = c.cells.length := ex_len c l i l.length
      have hx1 := r1_len (extra c l i)
      have hxr : ∀ x ∈ extra c l i, 0 ≤ x ∧ x ≤ 65536 * (l.length : Int) := ex_rng hg l i l.length
      have hL := hrL_len hg (booked c l) l i
      refine ⟨_, _, (refExtra_c c u true l i hf).frozen, ?_⟩
      conv => whnf
      refine loopN tab mixed (fun k => k ≤ c.cells.length) c.cells.length (fun k => [(11, I k), (5, .c (.gs 54))]) (fun k => [(54, .arr 66 (rB (A3 ++ hrL c (booked c l) l i ++ hrB c (booked c l) (extra c l i) i k)))]) 101 [(54, some 54)] (by omega) ?_
      conv => whnf
      refine ⟨?_, fun k hk => ?_⟩
      · repeat' (first | exact trivial | rfl | refine And.intro ?_ ?_)
        all_goals (conv => whnf)
        repeat' (first | exact trivial | rfl | refine And.intro ?_ ?_)
        simp [hrB]
      conv => whnf
      refine spD (fun h1 => ?_) (fun h1 => ?_) <;> conv => whnf
      · have hk' : k < c.cells.length := by omega
        obtain ⟨x, hx⟩ := get_of hk'
        obtain ⟨y, hy⟩ := get_of (l := booked c l) (i := k) (by omega)
        obtain ⟨z, hz⟩ := get_of (l := extra c l i) (i := k) (by omega)
        have hyr := hbr y (List.mem_of_getElem? hy)
        have hzr := hxr z (List.mem_of_getElem? hz)
        have hcap : capOf c k = x.2 := by simp [capOf, hx]
        have hB := hrB_len c (booked c l) (extra c l i) i k
        refine ⟨by kernel_rfl, ?_⟩
        conv => whnf
        refine ⟨_, _, refRegion_c c u true k hg, ?_⟩
        conv => whnf
        refine spNe (fun h2 => ?_) (fun h2 => ?_) <;> conv => whnf
        · refine ⟨by omega, _, r1_get hy, ?_⟩
          conv => whnf
          refine ⟨by omega, _, r1_get hz, ?_⟩
          conv => whnf
          refine gv (by first | omega | (simp only []; omega) | (simp; omega)) (by first | omega | (simp only []; omega) | (simp; omega)) ?_
          conv => whnf
          refine ⟨by omega, _, r2_get hx, ?_⟩
          conv => whnf
          refine spD (fun h3 => ?_) (fun h3 => ?_) <;> conv => whnf
          · refine ⟨_, _, broken_c _ _ _ _ _, ?_⟩
            conv => whnf
            refine ⟨row5 _ _ _ _ _, ⟨by rw [rB_len]; simp; omega⟩, ?_⟩
            conv => whnf
            refine gv (by first | omega | (simp only []; omega) | (simp; omega)) (by first | omega | (simp only []; omega) | (simp; omega)) ?_
            conv => whnf
            refine ⟨⟨hk', hk'⟩, [(54, some 102)], ?_⟩
            repeat' (first | exact trivial | rfl | refine And.intro ?_ ?_)
            all_goals (conv => whnf)
            repeat' (first | exact trivial | rfl | refine And.intro ?_ ?_)
            simp only [hrB, hrT, hcap, hy, hz, Option.getD_some, h2, h3, ne_eq, not_false_eq_true, decide_true, Bool.and_self, if_true, ← List.append_assoc]
            exact (rB_app _ _ _ _ _ _).symm
          · refine gv (by first | omega | (simp only []; omega) | (simp; omega)) (by first | omega | (simp only []; omega) | (simp; omega)) ?_
            conv => whnf
            refine ⟨⟨hk', hk'⟩, [(54, some 54)], ?_⟩
            repeat' (first | exact trivial | rfl | refine And.intro ?_ ?_)
            all_goals (conv => whnf)
            repeat' (first | exact trivial | rfl | refine And.intro ?_ ?_)
            simp [hrB, hrT, hcap, hy, hz, h3]
        · refine gv (by first | omega | (simp only []; omega) | (simp; omega)) (by first | omega | (simp only []; omega) | (simp; omega)) ?_
          conv => whnf
          refine ⟨⟨hk', hk'⟩, [(54, some 54)], ?_⟩
          repeat' (first | exact trivial | rfl | refine And.intro ?_ ?_)
          all_goals (conv => whnf)
          repeat' (first | exact trivial | rfl | refine And.intro ?_ ?_)
          simp [hrB, hrT, h2]
      · have hk' : k = c.cells.length := by omega
        subst hk'
        refine gv (by first | omega | (simp only []; omega) | (simp; omega)) (by first | omega | (simp only []; omega) | (simp; omega)) ?_
        conv => whnf
        refine ⟨⟨hi', hi'⟩, [(54, some 54)], ?_⟩
        repeat' (first | exact trivial | rfl | refine And.intro ?_ ?_)
        all_goals (conv => whnf)
        repeat' (first | exact trivial | rfl | refine And.intro ?_ ?_)
        simp [hrL]
    · refine ⟨[(0, some 54)], rfl, rfl, ⟨rfl, ?_⟩, trivial⟩
      have hi' : i = c.regions.toNat := by omega
      subst hi'
      rw [hfin]; simp [headL]

end Go.Proofs.YtelnligfebjjiaaGreat
