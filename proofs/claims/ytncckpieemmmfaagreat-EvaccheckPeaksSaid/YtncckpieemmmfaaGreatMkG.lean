/- Contracts: a new state, the state behind a log, a made log and its state. Conditions: those ahead of each theorem. -/
import Derived.Test.YtncckpieemmmfaaGreatRef12f
namespace Go.Proofs.YtncckpieemmmfaaGreat
open Go Go.Cpl

theorem ta_ne {l : List Int} (h : l ≠ []) (a : Int) : ta l a = a + 1 := by simp [ta, h]

theorem next_e {l : List Int} (hl : l ≠ []) {a n : Int} (h0 : 0 ≤ a) (h1 : a ≤ 1000000) (hn : 0 < n) (hn' : n ≤ 1000000) : ∃ v, (0 ≤ v ∧ v < n) ∧ CallsH Tryz.prog 78 [.c (.ptr 0 0 0), I n] [tapeO l a] (I v) [tapeO l (a + 1)] :=
  ⟨_, tv_le l a hn, by rw [← ta_ne hl]; exact next_c l a n h0 h1 hn hn'⟩

theorem range_e {l : List Int} (hl : l ≠ []) {a lo hi : Int} (h0 : 0 ≤ a) (h1 : a ≤ 1000000) (hn : lo ≤ hi) (hlo : -1000 ≤ lo) (hhi : hi ≤ 100000) : ∃ v, (lo ≤ v ∧ v ≤ hi) ∧ CallsH Tryz.prog 79 [.c (.ptr 0 0 0), I lo, I hi] [tapeO l a] (I v) [tapeO l (a + 1)] :=
  ⟨lo + tv l a (hi - lo + 1), by have := tv_le l a (n := hi - lo + 1) (by omega); omega, by have := range_c l a lo hi h0 h1 hn hlo hhi; rw [ta_ne hl] at this; exact this⟩

theorem exB {P : Program} {f : FuncId} {args : List AV} {hin : List HObj} {hout : List HObj} {K : AV → List HObj → Prop} (h : ∃ b, CallsH P f args hin (B b) hout) (hk : ∀ b, K (B b) hout) : ∃ res hout, CallsH P f args hin res hout ∧ K res hout := by
  obtain ⟨v, hc⟩ := h
  exact ⟨_, _, hc, hk v⟩

theorem yes_e {l : List Int} (hl : l ≠ []) {a n : Int} (h0 : 0 ≤ a) (h1 : a ≤ 1000000) (hn : 0 < n) (hn' : n ≤ 1000000) : ∃ b, CallsH Tryz.prog 80 [.c (.ptr 0 0 0), I n] [tapeO l a] (B b) [tapeO l (a + 1)] :=
  ⟨_, by rw [← ta_ne hl]; exact yes_c l a n h0 h1 hn hn'⟩

theorem more_c (l : List Int) (a : Int) : CallsH Tryz.prog 117 [.c (.ptr 0 0 0)] [tapeO l a] (B (decide (a < l.length))) [tapeO l a] := by
  have hl := r1_len l
  refine callsR_of tab mixed Tryz.func117 rfl (by decide) rfl rfl ?_
  conv => whnf
  refine ⟨by kernel_rfl, ?_⟩
  conv => whnf
  refine ⟨[(0, some 0)], rfl, ?_, ⟨⟨rfl, ⟨rfl, rfl⟩, trivial⟩, trivial⟩⟩
  simp [mtV, Cpl.valOf, mtC, eqD, hl]

theorem none_c (k t : Int) : CallsH Tryz.prog 138 [I k, I t] [] (.agg [.d (i64 k), .d (i64 t), .d (i64 (-1)), .d (i64 (-1)), .d (i64 (-1)), .d (i64 0), .d (i64 0), .d (i64 0), .d (i64 0)]) [] := by
  refine callsR_of tab mixed Tryz.func138 rfl (by decide) rfl rfl ?_
  conv => whnf
  refine ⟨[], rfl, ?_⟩
  repeat' (first | exact trivial | rfl | refine And.intro ?_ ?_)
  all_goals (conv => whnf)
  repeat' (first | exact trivial | rfl | refine And.intro ?_ ?_)

/-- some entry, and the tape behind -/
def RE (l : List Int) (a : Int) (res : AV) (hout : List HObj) : Prop := ∃ e a', res = entV e ∧ hout = [tapeO l a'] ∧ a ≤ a' ∧ a' ≤ a + 20

set_option maxHeartbeats 4000000 in
set_option maxRecDepth 100000 in
theorem platform_q (l : List Int) (c : Cfg) (s : St) (a tick : Int) (w : WG c) (h : StOk c s) (hl : l ≠ []) (h0 : 0 ≤ a) (h1 : a ≤ 10000) (ht : -10 ≤ tick ∧ tick ≤ 1073741900) : ExH Tryz.prog 137 [.c (.ptr 0 0 0), cfgV c, stV s, I tick] [tapeO l a] (RE l a) := by
  have hg := w.good
  have hnc := h.pre.nc
  have hC := hg.cells
  have hR := hg.regions
  have hV := w.vers
  have hL := w.lease
  have hB := w.bake
  have l2 := rCS_len s.cs
  have l3 := r2_len c.cells
  have l4 := r2_len c.versions
  refine callsE_of tab mixed noRel Tryz.func137 rfl (by decide) rfl rfl ?_
  conv => whnf
  refine ⟨_, _, none_c _ _, ?_⟩
  conv => whnf
  refine exN (next_e hl h0 (by omega) (by omega) (by omega)) (fun k hk => ?_)
  conv => whnf
  obtain ⟨y, hy⟩ := get_int (l := s.cs) hk.1 (by omega)
  repeat' (first | contradiction | (refine gv (by omega) (by omega) ?_; conv => whnf) | (refine ⟨by kernel_rfl, ?_⟩; conv => whnf) | (refine ⟨_, _, has_c _ _, ?_⟩; conv => whnf) | (refine exN (next_e hl (by omega) (by omega) (by omega) (by omega)) (fun _ _ => ?_); conv => whnf) | (refine exN (range_e hl (by omega) (by omega) (by omega) (by omega) (by omega)) (fun _ _ => ?_); conv => whnf) | (refine ⟨hk.1, _, rCS_get hy, ?_⟩; conv => whnf) | (refine spD (fun _ => ?_) (fun _ => ?_) <;> conv => whnf) | (refine spN (fun _ => ?_) (fun _ => ?_) <;> conv => whnf) | (refine spE (fun _ => ?_) (fun _ => ?_) <;> conv => whnf) | (refine spNe (fun _ => ?_) (fun _ => ?_) <;> conv => whnf) | (refine gvu (by omega) (by omega) ?_; conv => whnf) | (refine spBn (fun _ => ?_) (fun _ => ?_) <;> conv => whnf) | (refine spG (fun _ => ?_) (fun _ => ?_) <;> conv => whnf))
  all_goals exact ⟨_, _, ⟨⟨_, _, _, _, _, _, _, _, _⟩, _, rfl, rfl, by omega, by omega⟩, [(0, some 0)], rfl, ⟨⟨rfl, rfl⟩, ⟨rfl, rfl⟩, ⟨rfl, rfl⟩, ⟨rfl, rfl⟩, ⟨rfl, rfl⟩, ⟨rfl, rfl⟩, ⟨rfl, rfl⟩, ⟨rfl, rfl⟩, ⟨rfl, rfl⟩, trivial⟩, ⟨⟨rfl, ⟨rfl, rfl⟩, trivial⟩, trivial⟩⟩

/-- where a grant stands at a cut: entry and tape -/
structure GS (c : Cfg) (a b : Int) (p : Int → Prop) where
  kind : Int
  tick : Int
  tenant : Int
  cell : Int
  other : Int
  epoch : Int
  from_ : Int
  until_ : Int
  n : Int
  at_ : Int
  h1 : a ≤ at_ ∧ at_ ≤ a + b
  h2 : 0 ≤ cell ∧ cell < c.cells.length
  h3 : 0 ≤ tick ∧ tick ≤ 1073741900
  h4 : p from_

set_option maxHeartbeats 4000000 in
set_option maxRecDepth 100000 in
theorem grantM_q (l : List Int) (c : Cfg) (s : St) (e : Ent) (a : Int) {x : TS} (w : WG c) (h : StOk c s) (hl : l ≠ []) (h0 : 0 ≤ a) (h1 : a ≤ 10000) (ht : 0 ≤ e.tenant) (hx : s.ts[e.tenant.toNat]? = some x) (hp : x.placed = true) (hk : 0 ≤ e.tick ∧ e.tick ≤ 1073741830) : ExH Tryz.prog 142 [.c (.ptr 0 0 0), cfgV c, stV s, entV e] [tapeO l a] (RE l a) := by
  have hg := w.good
  have hnc := h.pre.nc
  have hC := hg.cells
  have hL := w.lease
  have l2 := rCS_len s.cs
  have hxo := h.pre.t x (List.mem_of_getElem? hx)
  obtain ⟨xp, xs, xh, xb, xn, xt, xe, xwc, xwe, xwv, xwf, xwu⟩ := x
  obtain ⟨ek, et, ei, ec, eo, ee, ef, eu, en⟩ := e
  replace ht : 0 ≤ ei := ht
  replace hk : 0 ≤ et ∧ et ≤ 1073741830 := hk
  have hh : 0 ≤ xh := hxo.placed hp
  have hh2 : xh < c.cells.length := hxo.home.2
  have hs2 : xb < c.cells.length := hxo.standby.2
  have ht2 : xt < c.cells.length := hxo.target.2
  have hep : 0 ≤ xe ∧ xe ≤ 1048576 := hxo.epoch
  have hwu : 0 ≤ xwu ∧ xwu ≤ 1073741825 := hxo.wu
  refine callsD_of tab Tryz.func142 rfl (by decide) rfl rfl ?_
  refine dwp_cut tab mixed noRel (κ := GS c a 4 fun _ => True) 5 (fun k => [(0, .c (.ptr 0 0 0)), (5, .c (.ptr 1 0 0)), (6, .c (.ptr 2 0 0)), (7, .c (.ptr 3 0 0)), (8, .c (.ptr 4 0 0)), (9, .c (.ptr 5 0 0))]) (fun k => [(0, tapeO l k.at_), (1, .box (cfgC c)), (2, .box (stC s)), (3, .box [.d (i64 k.kind), .d (i64 k.tick), .d (i64 k.tenant), .d (i64 k.cell), .d (i64 k.other), .d (i64 k.epoch), .d (i64 k.from_), .d (i64 k.until_), .d (i64 k.n)]), (4, .box [.d (i64 0), .d (i64 0), .d (i64 0), .d (i64 0), .d (i64 0), .d (i64 0), .d (i64 0), .d (i64 0), .d (i64 0)]), (5, .box [.d (.bool xp), .d (.bool xs), .d (i64 xh), .d (i64 xb), .d (i64 xn), .d (i64 xt), .d (i64 xe), .d (i64 xwc), .d (i64 xwe), .d (i64 xwv), .d (i64 xwf), .d (i64 xwu)])]) 6 ?_ (fun k => ?_)
  · conv => whnf
    refine ⟨ht, _, rTS_get hx, ?_⟩
    conv => whnf
    repeat' (first | contradiction | (refine gv (by omega) (by omega) ?_; conv => whnf) | (refine ⟨by kernel_rfl, ?_⟩; conv => whnf) | (refine exN (next_e hl (by omega) (by omega) (by omega) (by omega)) (fun _ _ => ?_); conv => whnf) | (refine exN (range_e hl (by omega) (by omega) (by omega) (by omega) (by omega)) (fun _ _ => ?_); conv => whnf) | (refine exB (yes_e hl (by omega) (by omega) (by omega) (by omega)) (fun _ => ?_); conv => whnf) | (refine spD (fun _ => ?_) (fun _ => ?_) <;> conv => whnf) | (refine spN (fun _ => ?_) (fun _ => ?_) <;> conv => whnf) | (refine spE (fun _ => ?_) (fun _ => ?_) <;> conv => whnf) | (refine spNe (fun _ => ?_) (fun _ => ?_) <;> conv => whnf) | (refine gvu (by omega) (by omega) ?_; conv => whnf) | (refine spBn (fun _ => ?_) (fun _ => ?_) <;> conv => whnf) | (refine spG (fun _ => ?_) (fun _ => ?_) <;> conv => whnf))
    all_goals
      refine ⟨⟨?_, ?_, ?_, ?_, ?_, ?_, ?_, ?_, ?_, ?_, ?_, ?_, ?_, ?_⟩, [(0, some 0), (1, some 1), (2, some 2), (3, some 3), (4, some 4), (5, some 5)], ?_⟩
      rotate_right 1
      · repeat' (first | exact trivial | rfl | refine And.intro ?_ ?_)
        all_goals (conv => whnf)
        repeat' (first | exact trivial | rfl | refine And.intro ?_ ?_)
      all_goals first | trivial | omega | (dsimp only at *; omega) | (show 0 ≤ (if tick < xwu then xwu else tick) ∧ (if tick < xwu then xwu else tick) ≤ 1073741900; split <;> omega) | (show 0 ≤ (if tick < xwu then xwu else tick) ∧ (if tick < xwu then xwu else tick) ≤ 1073742000; split <;> omega) | (show 0 ≤ (if (if tick < xwu then xwu else tick) < xwu then xwu else (if tick < xwu then xwu else tick)) ∧ (if (if tick < xwu then xwu else tick) < xwu then xwu else (if tick < xwu then xwu else tick)) ≤ 1073742000; (repeat' split) <;> omega)
  obtain ⟨kind, tick, tenant, cell, other, epoch, from_, until_, n, a1, k1, k2, k3, k4⟩ := k
  dsimp only at k1 k2 k3 k4 ⊢
  refine dwp_cut tab mixed noRel (κ := GS c a 8 fun f => 0 ≤ f ∧ f ≤ 1073742000) 4 (fun k => [(0, .c (.ptr 0 0 0)), (5, .c (.ptr 1 0 0)), (6, .c (.ptr 2 0 0)), (7, .c (.ptr 3 0 0)), (8, .c (.ptr 4 0 0)), (9, .c (.ptr 5 0 0))]) (fun k => [(0, tapeO l k.at_), (1, .box (cfgC c)), (2, .box (stC s)), (3, .box [.d (i64 k.kind), .d (i64 k.tick), .d (i64 k.tenant), .d (i64 k.cell), .d (i64 k.other), .d (i64 k.epoch), .d (i64 k.from_), .d (i64 k.until_), .d (i64 k.n)]), (4, .box [.d (i64 0), .d (i64 0), .d (i64 0), .d (i64 0), .d (i64 0), .d (i64 0), .d (i64 0), .d (i64 0), .d (i64 0)]), (5, .box [.d (.bool xp), .d (.bool xs), .d (i64 xh), .d (i64 xb), .d (i64 xn), .d (i64 xt), .d (i64 xe), .d (i64 xwc), .d (i64 xwe), .d (i64 xwv), .d (i64 xwf), .d (i64 xwu)])]) 6 ?_ (fun k => ?_)
  · conv => whnf
    repeat' (first | contradiction | (refine gv (by omega) (by omega) ?_; conv => whnf) | (refine ⟨by kernel_rfl, ?_⟩; conv => whnf) | (refine exN (next_e hl (by omega) (by omega) (by omega) (by omega)) (fun _ _ => ?_); conv => whnf) | (refine exN (range_e hl (by omega) (by omega) (by omega) (by omega) (by omega)) (fun _ _ => ?_); conv => whnf) | (refine exB (yes_e hl (by omega) (by omega) (by omega) (by omega)) (fun _ => ?_); conv => whnf) | (refine spD (fun _ => ?_) (fun _ => ?_) <;> conv => whnf) | (refine spN (fun _ => ?_) (fun _ => ?_) <;> conv => whnf) | (refine spE (fun _ => ?_) (fun _ => ?_) <;> conv => whnf) | (refine spNe (fun _ => ?_) (fun _ => ?_) <;> conv => whnf) | (refine gvu (by omega) (by omega) ?_; conv => whnf) | (refine spBn (fun _ => ?_) (fun _ => ?_) <;> conv => whnf) | (refine spG (fun _ => ?_) (fun _ => ?_) <;> conv => whnf))
    all_goals
      refine ⟨⟨?_, ?_, ?_, ?_, ?_, ?_, ?_, ?_, ?_, ?_, ?_, ?_, ?_, ?_⟩, [(0, some 0), (1, some 1), (2, some 2), (3, some 3), (4, some 4), (5, some 5)], ?_⟩
      rotate_right 1
      · repeat' (first | exact trivial | rfl | refine And.intro ?_ ?_)
        all_goals (conv => whnf)
        repeat' (first | exact trivial | rfl | refine And.intro ?_ ?_)
      all_goals first | trivial | omega | (dsimp only at *; omega) | (show 0 ≤ (if tick < xwu then xwu else tick) ∧ (if tick < xwu then xwu else tick) ≤ 1073741900; split <;> omega) | (show 0 ≤ (if tick < xwu then xwu else tick) ∧ (if tick < xwu then xwu else tick) ≤ 1073742000; split <;> omega) | (show 0 ≤ (if (if tick < xwu then xwu else tick) < xwu then xwu else (if tick < xwu then xwu else tick)) ∧ (if (if tick < xwu then xwu else tick) < xwu then xwu else (if tick < xwu then xwu else tick)) ≤ 1073742000; (repeat' split) <;> omega)
  obtain ⟨kind, tick, tenant, cell, other, epoch, from_, until_, n, a1, k1, k2, k3, k4⟩ := k
  dsimp only at k1 k2 k3 k4 ⊢
  obtain ⟨y, hy⟩ := get_int (l := s.cs) k2.1 (by omega)
  refine dwp_fin tab mixed noRel ?_
  conv => whnf
  repeat' (first | contradiction | (refine gv (by omega) (by omega) ?_; conv => whnf) | (refine ⟨by kernel_rfl, ?_⟩; conv => whnf) | (refine exN (next_e hl (by omega) (by omega) (by omega) (by omega)) (fun _ _ => ?_); conv => whnf) | (refine exN (range_e hl (by omega) (by omega) (by omega) (by omega) (by omega)) (fun _ _ => ?_); conv => whnf) | (refine exB (yes_e hl (by omega) (by omega) (by omega) (by omega)) (fun _ => ?_); conv => whnf) | (refine ⟨k2.1, _, rCS_get hy, ?_⟩; conv => whnf) | (refine spD (fun _ => ?_) (fun _ => ?_) <;> conv => whnf) | (refine spN (fun _ => ?_) (fun _ => ?_) <;> conv => whnf) | (refine spE (fun _ => ?_) (fun _ => ?_) <;> conv => whnf) | (refine spNe (fun _ => ?_) (fun _ => ?_) <;> conv => whnf) | (refine gvu (by omega) (by omega) ?_; conv => whnf) | (refine spBn (fun _ => ?_) (fun _ => ?_) <;> conv => whnf) | (refine spG (fun _ => ?_) (fun _ => ?_) <;> conv => whnf))
  all_goals exact ⟨_, _, ⟨⟨_, _, _, _, _, _, _, _, _⟩, _, rfl, rfl, by omega, by omega⟩, [(0, some 0)], rfl, ⟨⟨rfl, rfl⟩, ⟨rfl, rfl⟩, ⟨rfl, rfl⟩, ⟨rfl, rfl⟩, ⟨rfl, rfl⟩, ⟨rfl, rfl⟩, ⟨rfl, rfl⟩, ⟨rfl, rfl⟩, ⟨rfl, rfl⟩, trivial⟩, ⟨⟨rfl, ⟨rfl, rfl⟩, trivial⟩, trivial⟩⟩

end Go.Proofs.YtncckpieemmmfaaGreat

namespace Go.Proofs.YtncckpieemmmfaaGreat
open Go Go.Cpl

/-- a tenant's number at a cut of Entry: the tick, and where the tape stands -/
structure ES (c : Cfg) (a : Int) where
  tick : Int
  at_ : Int
  h1 : a + 1 ≤ at_ ∧ at_ ≤ a + 2
  h2 : 0 ≤ tick ∧ tick ≤ 1073741830

theorem exP {P : Program} {f : FuncId} {args : List AV} {hin : List HObj} {l : List Int} {p : Int → Prop} {K : AV → List HObj → Prop} (h : ∃ v a', p a' ∧ CallsH P f args hin (I v) [tapeO l a']) (hk : ∀ v a', p a' → K (I v) [tapeO l a']) : ∃ res hout, CallsH P f args hin res hout ∧ K res hout := by
  obtain ⟨v, a', hv, hc⟩ := h
  exact ⟨_, _, hc, hk v a' hv⟩

theorem pick_e {l xs : List Int} {a : Int} (h0 : 0 ≤ a) (h1 : a ≤ 100000) (hc : xs.length ≤ 1000) : ∃ v a', (a ≤ a' ∧ a' ≤ a + 1) ∧ CallsH Tryz.prog 139 [.c (.ptr 0 0 0), .c (.d (.sl (r1 xs)))] [tapeO l a] (I v) [tapeO l a'] :=
  ⟨_, _, pickA_le l xs a, pick_c l xs a h0 h1 hc⟩

def RF (l : List Int) (a : Int) (res : AV) (hout : List HObj) : Prop := ∃ e a', res = entV e ∧ hout = [tapeO l a'] ∧ a + 1 ≤ a' ∧ a' ≤ a + 50

set_option maxHeartbeats 4000000 in
set_option maxRecDepth 100000 in
theorem entry_q (l : List Int) (c : Cfg) (s : St) (a : Int) (w : WG c) (h : StOk c s) (hl : l ≠ []) (h0 : 0 ≤ a) (h1 : a ≤ 5000) : ExH Tryz.prog 118 [.c (.ptr 0 0 0), cfgV c, stV s] [tapeO l a] (RF l a) := by
  have hg := w.good
  have hn := h.pre.nt
  have hnc := h.pre.nc
  have hT := w.few
  have hk := h.pre.tick
  have l1 := rTS_len s.ts
  have l5 := rT_len c.tenants
  have hC : c.cells.length ≤ 1000 := by have := hg.cells; omega
  refine callsD_of tab Tryz.func118 rfl (by decide) rfl rfl ?_
  refine dwp_cut tab mixed noRel (κ := ES c a) 3 (fun k => [(0, .c (.ptr 0 0 0)), (4, .c (.ptr 1 0 0)), (5, .c (.ptr 2 0 0)), (6, .c (.ptr 3 0 0)), (7, I k.tick)]) (fun k => [(0, tapeO l k.at_), (1, .box (cfgC c)), (2, .box (stC s)), (3, .box [.d (i64 0), .d (i64 0), .d (i64 0), .d (i64 0), .d (i64 0), .d (i64 0), .d (i64 0), .d (i64 0), .d (i64 0)])]) 4 ?_ (fun k => ?_)
  · conv => whnf
    repeat' (first | contradiction | (refine gv (by omega) (by omega) ?_; conv => whnf) | (refine ⟨by kernel_rfl, ?_⟩; conv => whnf) | (refine exN (next_e hl (by omega) (by omega) (by omega) (by omega)) (fun _ _ => ?_); conv => whnf) | (refine exB (yes_e hl (by omega) (by omega) (by omega) (by omega)) (fun _ => ?_); conv => whnf) | (refine spD (fun _ => ?_) (fun _ => ?_) <;> conv => whnf) | (refine spN (fun _ => ?_) (fun _ => ?_) <;> conv => whnf) | (refine spE (fun _ => ?_) (fun _ => ?_) <;> conv => whnf) | (refine spNe (fun _ => ?_) (fun _ => ?_) <;> conv => whnf) | (refine gvu (by omega) (by omega) ?_; conv => whnf) | (refine spBn (fun _ => ?_) (fun _ => ?_) <;> conv => whnf) | (refine spG (fun _ => ?_) (fun _ => ?_) <;> conv => whnf))
    all_goals
      refine ⟨⟨?_, ?_, ?_, ?_⟩, [(0, some 0), (1, some 1), (2, some 2), (3, some 3)], ?_⟩
      rotate_right 1
      · repeat' (first | exact trivial | rfl | refine And.intro ?_ ?_)
        all_goals (conv => whnf)
        repeat' (first | exact trivial | rfl | refine And.intro ?_ ?_)
      all_goals first | omega | (show 0 ≤ (if (0 : Int) < s.tick - 1 then s.tick - 1 else 0) ∧ (if (0 : Int) < s.tick - 1 then s.tick - 1 else 0) ≤ 1073741830; split <;> omega)
  obtain ⟨tick, a1, k1, k2⟩ := k
  dsimp only at k1 k2 ⊢
  refine dwp_fin tab mixed noRel ?_
  conv => whnf
  refine spE (fun q1 => ?_) (fun q1 => ?_) <;> conv => whnf
  · refine exK (platform_q l c s _ tick w h hl (by omega) (by omega) (by omega)) ?_
    rintro _ _ ⟨⟨_, _, _, _, _, _, _, _, _⟩, a2, rfl, rfl, h5, h6⟩
    conv => whnf
    exact ⟨_, _, ⟨⟨_, _, _, _, _, _, _, _, _⟩, _, rfl, rfl, by omega, by omega⟩, [(0, some 0)], rfl, ⟨⟨rfl, rfl⟩, ⟨rfl, rfl⟩, ⟨rfl, rfl⟩, ⟨rfl, rfl⟩, ⟨rfl, rfl⟩, ⟨rfl, rfl⟩, ⟨rfl, rfl⟩, ⟨rfl, rfl⟩, ⟨rfl, rfl⟩, trivial⟩, ⟨⟨rfl, ⟨rfl, rfl⟩, trivial⟩, trivial⟩⟩
  refine exB (yes_e hl (by omega) (by omega) (by omega) (by omega)) (fun b => ?_)
  conv => whnf
  refine ⟨fun q2 => ?_, fun q2 => ?_⟩ <;> conv => whnf
  · refine exK (platform_q l c s _ tick w h hl (by omega) (by omega) (by omega)) ?_
    rintro _ _ ⟨⟨_, _, _, _, _, _, _, _, _⟩, a2, rfl, rfl, h5, h6⟩
    conv => whnf
    exact ⟨_, _, ⟨⟨_, _, _, _, _, _, _, _, _⟩, _, rfl, rfl, by omega, by omega⟩, [(0, some 0)], rfl, ⟨⟨rfl, rfl⟩, ⟨rfl, rfl⟩, ⟨rfl, rfl⟩, ⟨rfl, rfl⟩, ⟨rfl, rfl⟩, ⟨rfl, rfl⟩, ⟨rfl, rfl⟩, ⟨rfl, rfl⟩, ⟨rfl, rfl⟩, trivial⟩, ⟨⟨rfl, ⟨rfl, rfl⟩, trivial⟩, trivial⟩⟩
  refine exN (next_e hl (by omega) (by omega) (by omega) (by omega)) (fun i hi => ?_)
  conv => whnf
  obtain ⟨x, hx⟩ := get_int (l := s.ts) hi.1 (by omega)
  have hxo := h.pre.t x (List.mem_of_getElem? hx)
  refine ⟨hi.1, _, rTS_get hx, ?_⟩
  conv => whnf
  refine spBn (fun b1 => ?_) (fun b1 => ?_) <;> conv => whnf
  · repeat' (first | contradiction | (refine gv (by omega) (by omega) ?_; conv => whnf) | (refine ⟨by kernel_rfl, ?_⟩; conv => whnf) | (refine ⟨_, _, none_c _ _, ?_⟩; conv => whnf) | (refine ⟨_, _, (refHomes_c c i hg.laid).frozen, ?_⟩; conv => whnf) | (refine ⟨_, _, (refStandbys_c c i _ hg.laid).frozen, ?_⟩; conv => whnf) | (refine exP (pick_e (by omega) (by omega) (by first | exact homes_le hC | exact standbys_le hC)) (fun _ _ _ => ?_); conv => whnf) | (refine spD (fun _ => ?_) (fun _ => ?_) <;> conv => whnf) | (refine spN (fun _ => ?_) (fun _ => ?_) <;> conv => whnf) | (refine spE (fun _ => ?_) (fun _ => ?_) <;> conv => whnf) | (refine spNe (fun _ => ?_) (fun _ => ?_) <;> conv => whnf) | (refine gvu (by omega) (by omega) ?_; conv => whnf) | (refine spBn (fun _ => ?_) (fun _ => ?_) <;> conv => whnf) | (refine spG (fun _ => ?_) (fun _ => ?_) <;> conv => whnf))
    all_goals exact ⟨_, _, ⟨⟨_, _, _, _, _, _, _, _, _⟩, _, rfl, rfl, by omega, by omega⟩, [(0, some 0)], rfl, ⟨⟨rfl, rfl⟩, ⟨rfl, rfl⟩, ⟨rfl, rfl⟩, ⟨rfl, rfl⟩, ⟨rfl, rfl⟩, ⟨rfl, rfl⟩, ⟨rfl, rfl⟩, ⟨rfl, rfl⟩, ⟨rfl, rfl⟩, trivial⟩, ⟨⟨rfl, ⟨rfl, rfl⟩, trivial⟩, trivial⟩⟩
  repeat' (first | contradiction | (refine gv (by omega) (by omega) ?_; conv => whnf) | (refine ⟨by kernel_rfl, ?_⟩; conv => whnf) | (refine ⟨_, _, none_c _ _, ?_⟩; conv => whnf) | (refine ⟨_, _, (refHomes_c c i hg.laid).frozen, ?_⟩; conv => whnf) | (refine ⟨_, _, (refStandbys_c c i _ hg.laid).frozen, ?_⟩; conv => whnf) | (refine exP (pick_e (by omega) (by omega) (by first | exact homes_le hC | exact standbys_le hC)) (fun _ _ _ => ?_); conv => whnf) | (refine exN (next_e hl (by omega) (by omega) (by omega) (by omega)) (fun _ _ => ?_); conv => whnf) | (refine spD (fun _ => ?_) (fun _ => ?_) <;> conv => whnf) | (refine spN (fun _ => ?_) (fun _ => ?_) <;> conv => whnf) | (refine spE (fun _ => ?_) (fun _ => ?_) <;> conv => whnf) | (refine spNe (fun _ => ?_) (fun _ => ?_) <;> conv => whnf) | (refine gvu (by omega) (by omega) ?_; conv => whnf) | (refine spBn (fun _ => ?_) (fun _ => ?_) <;> conv => whnf) | (refine spG (fun _ => ?_) (fun _ => ?_) <;> conv => whnf))
  all_goals try exact ⟨_, _, ⟨⟨_, _, _, _, _, _, _, _, _⟩, _, rfl, rfl, by omega, by omega⟩, [(0, some 0)], rfl, ⟨⟨rfl, rfl⟩, ⟨rfl, rfl⟩, ⟨rfl, rfl⟩, ⟨rfl, rfl⟩, ⟨rfl, rfl⟩, ⟨rfl, rfl⟩, ⟨rfl, rfl⟩, ⟨rfl, rfl⟩, ⟨rfl, rfl⟩, trivial⟩, ⟨⟨rfl, ⟨rfl, rfl⟩, trivial⟩, trivial⟩⟩
  refine exK (grantM_q l c s ⟨_, _, _, _, _, _, _, _, _⟩ _ w h hl (by omega) (by omega) hi.1 hx b1 (by dsimp only; omega)) ?_
  rintro _ _ ⟨⟨_, _, _, _, _, _, _, _, _⟩, a2, rfl, rfl, h5, h6⟩
  conv => whnf
  exact ⟨_, _, ⟨⟨_, _, _, _, _, _, _, _, _⟩, _, rfl, rfl, by omega, by omega⟩, [(0, some 0)], rfl, ⟨⟨rfl, rfl⟩, ⟨rfl, rfl⟩, ⟨rfl, rfl⟩, ⟨rfl, rfl⟩, ⟨rfl, rfl⟩, ⟨rfl, rfl⟩, ⟨rfl, rfl⟩, ⟨rfl, rfl⟩, ⟨rfl, rfl⟩, trivial⟩, ⟨⟨rfl, ⟨rfl, rfl⟩, trivial⟩, trivial⟩⟩

end Go.Proofs.YtncckpieemmmfaaGreat

namespace Go.Proofs.YtncckpieemmmfaaGreat
open Go Go.Cpl

abbrev t00 : TS := ⟨false, false, -1, -1, -1, -1, 0, -1, 0, 0, 0, 0⟩

abbrev c00 : CS4 := ⟨1, 0, 0, 0⟩

abbrev newSt (c : Cfg) : St := ⟨0, 0, List.replicate c.tenants.length t00, List.replicate c.cells.length c00, 1, 0, 0, 0⟩

theorem rTS_app (l : List TS) (t : TS) : rTS l ++ [tsD t] = rTS (l ++ [t]) := by simp [rTS]

theorem rCS_app (l : List CS4) (t : CS4) : rCS l ++ [csD t] = rCS (l ++ [t]) := by simp [rCS]

theorem rep_app {α : Type} (n : Nat) (x : α) : List.replicate n x ++ [x] = List.replicate (n + 1) x := by
  rw [List.replicate_succ']

theorem bkF_zero {c : Cfg} {ts : List TS} (h : ∀ t ∈ ts, t.placed = false) (k : Int) : ∀ m, bkF c ts m k = 0
  | 0 => rfl
  | m + 1 => by
    rw [bkF, bkF_zero h k m]
    split
    · rename_i t ht
      have := h t (List.mem_of_getElem? ht)
      simp [con, this]
    · rfl

theorem cap_pos {c : Cfg} (w : WG c) (k : Nat) : 0 ≤ capOf c k := by
  unfold capOf
  cases h : c.cells[(k : Int).toNat]? with
  | none => simp
  | some x =>
    have := w.caps x (List.mem_of_getElem? h)
    simp; omega

theorem new_ok12 {c : Cfg} (w : WG c) : StOk c (newSt c) := by
  have hv := w.vers
  refine ⟨⟨by simp, by simp, ?_, ?_, by simp, by simp, by simp⟩, fun k _ => ?_⟩
  · intro x hx
    have : x = t00 := (List.mem_replicate.1 hx).2
    subst this
    have h0 : Cel c (-1) := ⟨by omega, by omega⟩
    exact ⟨h0, h0, h0, h0, h0, fun h => (by cases h), fun h => (by cases h), fun _ => rfl, .inl rfl, by simp, by simp, by simp⟩
  · intro x hx
    have : x = c00 := (List.mem_replicate.1 hx).2
    subst this
    exact ⟨by simp; omega, by simp; omega, by simp⟩
  · rw [bkF_zero (fun t ht => by rw [(List.mem_replicate.1 ht).2])]
    exact cap_pos w k

set_option maxRecDepth 100000 in
theorem new12_c (c : Cfg) (hT : c.tenants.length ≤ 100) (hC : c.cells.length ≤ 100) : CallsH Tryz.prog 71 [cfgV c] [] (stV (newSt c)) [] := by
  have l1 := rT_len c.tenants
  have l2 := r2_len c.cells
  refine callsR_of tab mixed Tryz.func71 rfl (by decide) rfl rfl ?_
  conv => whnf
  refine loopN tab mixed (fun i => i ≤ c.tenants.length) c.tenants.length (fun i => [(4, I i)]) (fun i => [(2, .box [.d (i64 0), .d (i64 0), .gs 50, .ns, .d (i64 1), .d (i64 0), .d (i64 0), .d (i64 0)]), (50, .arr 58 (rTS (List.replicate i t00)))]) 51 [(2, some 2), (50, none)] (by omega) ?_
  conv => whnf
  refine ⟨?_, fun i hi => ?_⟩
  · repeat' (first | exact trivial | rfl | refine And.intro ?_ ?_)
    all_goals (conv => whnf)
    repeat' (first | exact trivial | rfl | refine And.intro ?_ ?_)
  conv => whnf
  refine spD (fun h1 => ?_) (fun h1 => ?_) <;> conv => whnf
  · have hi' : i < c.tenants.length := by omega
    refine ⟨rTS_ok [t00], ⟨by simp [rTS]; omega⟩, ?_⟩
    conv => whnf
    refine gv (by first | omega | (simp only []; omega) | (simp; omega)) (by first | omega | (simp only []; omega) | (simp; omega)) ?_
    conv => whnf
    refine ⟨⟨hi', hi'⟩, [(2, some 2), (50, some 52)], ?_⟩
    repeat' (first | exact trivial | rfl | refine And.intro ?_ ?_)
    all_goals (conv => whnf)
    repeat' (first | exact trivial | rfl | refine And.intro ?_ ?_)
    rw [← rep_app]
    exact (rTS_app _ _).symm
  · have hi' : i = c.tenants.length := by omega
    subst hi'
    refine loopN tab mixed (fun i => i ≤ c.cells.length) c.cells.length (fun i => [(5, I i)]) (fun i => [(2, .box [.d (i64 0), .d (i64 0), .gs 50, .gs 60, .d (i64 1), .d (i64 0), .d (i64 0), .d (i64 0)]), (60, .arr 122 (rCS (List.replicate i c00)))]) 61 [(2, some 2), (60, none)] (by omega) ?_
    conv => whnf
    refine ⟨?_, fun i hi => ?_⟩
    · repeat' (first | exact trivial | rfl | refine And.intro ?_ ?_)
      all_goals (conv => whnf)
      repeat' (first | exact trivial | rfl | refine And.intro ?_ ?_)
    conv => whnf
    refine spD (fun h1 => ?_) (fun h1 => ?_) <;> conv => whnf
    · have hi' : i < c.cells.length := by omega
      refine ⟨rCS_ok [c00], ⟨by simp [rCS]; omega⟩, ?_⟩
      conv => whnf
      refine gv (by first | omega | (simp only []; omega) | (simp; omega)) (by first | omega | (simp only []; omega) | (simp; omega)) ?_
      conv => whnf
      refine ⟨⟨hi', hi'⟩, [(2, some 2), (60, some 62)], ?_⟩
      repeat' (first | exact trivial | rfl | refine And.intro ?_ ?_)
      all_goals (conv => whnf)
      repeat' (first | exact trivial | rfl | refine And.intro ?_ ?_)
      rw [← rep_app]
      exact (rCS_app _ _).symm
    · have hi' : i = c.cells.length := by omega
      subst hi'
      exact ⟨[], rfl, ⟨⟨rfl, rfl⟩, ⟨rfl, rfl⟩, rfl, rfl, ⟨rfl, rfl⟩, ⟨rfl, rfl⟩, ⟨rfl, rfl⟩, ⟨rfl, rfl⟩, trivial⟩, trivial⟩

def entD (e : Ent) : List D := [i64 e.kind, i64 e.tick, i64 e.tenant, i64 e.cell, i64 e.other, i64 e.epoch, i64 e.from_, i64 e.until_, i64 e.n]

def rEn (l : List Ent) : List (List D) := l.map entD

theorem rEn_len (l : List Ent) : (rEn l).length = l.length := by simp [rEn]

theorem rEn_get {l : List Ent} {i : Nat} {x : Ent} (h : l[i]? = some x) : (rEn l)[i]? = some (entD x) := by simp [rEn, h]

theorem rEn_ok (l : List Ent) : ∀ r ∈ rEn l, r.length = 9 ∧ ∀ d ∈ r, d.scalar = true := by
  intro r hr
  obtain ⟨x, _, rfl⟩ := List.mem_map.1 hr
  simp [entD, D.scalar]

theorem rEn_app (l : List Ent) (t : Ent) : rEn l ++ [entD t] = rEn (l ++ [t]) := by simp [rEn]

/-- a number of turns, and a state -/
structure FJ (c : Cfg) (n : Nat) where
  i : Nat
  s : St
  hi : i ≤ n
  hs : StOk c s

def RFold (c : Cfg) (res : AV) (hout : List HObj) : Prop := ∃ s' i bad, res = .tup [.inr (stC s'), .inl (.d (i64 i)), .inl (.d (i64 bad))] ∧ hout = [] ∧ StOk c s'

set_option maxHeartbeats 1000000 in
set_option maxRecDepth 100000 in
theorem fold_q (c : Cfg) (l : List Ent) (w : WG c) (hl : l.length ≤ 100000) : ExH Tryz.prog 81 [cfgV c, .c (.d (.sl (rEn l)))] [] (RFold c) := by
  have l1 := rEn_len l
  have hg := w.good
  have hC := hg.cells
  have hT := w.few
  refine callsE_of tab mixed noRel Tryz.func81 rfl (by decide) rfl rfl ?_
  conv => whnf
  refine ⟨_, _, new12_c c (by omega) (by omega), ?_⟩
  conv => whnf
  refine loopE tab mixed noRel (ι := FJ c l.length) (fun k => [(8, I k.i)]) (fun k => [(2, .box (stC k.s))]) 51 (fun k => l.length - k.i) ⟨0, newSt c, by omega, new_ok12 w⟩ [(2, some 2)] ?_
  conv => whnf
  refine ⟨?_, fun k => ?_⟩
  · repeat' (first | exact trivial | rfl | refine And.intro ?_ ?_)
    all_goals (conv => whnf)
    repeat' (first | exact trivial | rfl | refine And.intro ?_ ?_)
  obtain ⟨i, s, hi, hs⟩ := k
  dsimp only
  conv => whnf
  refine spD (fun h1 => ?_) (fun h1 => ?_) <;> conv => whnf
  · have hi' : i < l.length := by omega
    obtain ⟨⟨e1, e2, e3, e4, e5, e6, e7, e8, e9⟩, hx⟩ := get_of hi'
    refine ⟨by kernel_rfl, ?_⟩
    conv => whnf
    refine ⟨by omega, _, rEn_get hx, ?_⟩
    conv => whnf
    refine exK (apply_q c s ⟨e1, e2, e3, e4, e5, e6, e7, e8, e9⟩ w hs) ?_
    rintro _ _ ⟨⟨s1, s2, s3, s4, s5, s6, s7, s8⟩, b9, rfl, rfl, h9⟩
    conv => whnf
    refine spNe (fun h2 => ?_) (fun h2 => ?_) <;> conv => whnf
    · refine ⟨_, _, ⟨s, i, b9, rfl, rfl, hs⟩, [], rfl, ⟨⟨⟨rfl, rfl⟩, ⟨rfl, rfl⟩, rfl, rfl, ⟨rfl, rfl⟩, ⟨rfl, rfl⟩, ⟨rfl, rfl⟩, ⟨rfl, rfl⟩, trivial⟩, ⟨rfl, rfl⟩, ⟨rfl, rfl⟩, trivial⟩, trivial⟩
    · refine gv (by first | omega | (simp only []; omega) | (simp; omega)) (by first | omega | (simp only []; omega) | (simp; omega)) ?_
      conv => whnf
      refine ⟨⟨i + 1, ⟨s1, s2, s3, s4, s5, s6, s7, s8⟩, by omega, h9 (by simpa using h2)⟩, [(2, some 2)], ?_, by show l.length - (i + 1) < l.length - i; omega⟩
      repeat' (first | exact trivial | rfl | refine And.intro ?_ ?_)
      all_goals (conv => whnf)
      repeat' (first | exact trivial | rfl | refine And.intro ?_ ?_)
  · refine ⟨_, _, ⟨s, l.length, 0, rfl, rfl, hs⟩, [], rfl, ⟨⟨⟨rfl, rfl⟩, ⟨rfl, rfl⟩, rfl, rfl, ⟨rfl, rfl⟩, ⟨rfl, rfl⟩, ⟨rfl, rfl⟩, ⟨rfl, rfl⟩, trivial⟩, ⟨rfl, by simp [l1]⟩, ⟨rfl, rfl⟩, trivial⟩, trivial⟩

structure LJ (c : Cfg) (l : List Int) where
  a : Int
  s : St
  es : List Ent
  ha : 0 ≤ a ∧ a ≤ l.length + 50
  hs : StOk c s
  he : es.length ≤ a

def RLog (res : AV) (hout : List HObj) : Prop := ∃ es : List Ent, res = .c (.d (.sl (rEn es))) ∧ hout = [] ∧ es.length ≤ 2000

set_option maxHeartbeats 1000000 in
set_option maxRecDepth 100000 in
theorem log_q (l : List Int) (c : Cfg) (n : Int) (w : WG c) (hl : l.length ≤ 1000) : ExH Tryz.prog 82 [.c (.d (.sl (r1 l))), cfgV c, I n] [] RLog := by
  have hg := w.good
  have hC := hg.cells
  have hT := w.few
  refine callsE_of tab mixed noRel Tryz.func82 rfl (by decide) rfl rfl ?_
  conv => whnf
  refine ⟨_, _, new_c l, ?_⟩
  conv => whnf
  refine ⟨_, _, new12_c c (by omega) (by omega), ?_⟩
  conv => whnf
  refine loopE tab mixed noRel (ι := LJ c l) (fun k => [(9, .c (.gs 50))]) (fun k => [(1, tapeO l k.a), (2, .box (stC k.s)), (50, .arr 115 (rEn k.es))]) 51 (fun k => (l.length - k.a).toNat) ⟨0, newSt c, [], by omega, new_ok12 w, by simp⟩ [(1, some 1), (2, some 2), (50, none)] ?_
  conv => whnf
  refine ⟨?_, fun k => ?_⟩
  · repeat' (first | exact trivial | rfl | refine And.intro ?_ ?_)
    all_goals (conv => whnf)
    repeat' (first | exact trivial | rfl | refine And.intro ?_ ?_)
  obtain ⟨a, s, es, ha, hs, he⟩ := k
  have l2 := rEn_len es
  dsimp only
  conv => whnf
  refine spD (fun h1 => ?_) (fun h1 => ?_) <;> conv => whnf
  · refine ⟨_, _, more_c l a, ?_⟩
    conv => whnf
    refine spD (fun h2 => ?_) (fun h2 => ?_) <;> conv => whnf
    · have hne : l ≠ [] := by rintro rfl; simp at h2; omega
      refine exK (entry_q l c s a w hs hne (by omega) (by omega)) ?_
      rintro _ _ ⟨⟨e1, e2, e3, e4, e5, e6, e7, e8, e9⟩, a2, rfl, rfl, h5, h6⟩
      conv => whnf
      refine exK (apply_q c s ⟨e1, e2, e3, e4, e5, e6, e7, e8, e9⟩ w hs) ?_
      rintro _ _ ⟨⟨s1, s2, s3, s4, s5, s6, s7, s8⟩, b9, rfl, rfl, h9⟩
      conv => whnf
      refine spE (fun h3 => ?_) (fun h3 => ?_) <;> conv => whnf
      · refine ⟨rEn_ok [⟨e1, e2, e3, e4, e5, e6, e7, e8, e9⟩], ⟨by simp [rEn]; omega⟩, ?_⟩
        conv => whnf
        refine ⟨⟨a2, ⟨s1, s2, s3, s4, s5, s6, s7, s8⟩, es ++ [⟨e1, e2, e3, e4, e5, e6, e7, e8, e9⟩], by omega, h9 (by simpa using h3), by simp; omega⟩, [(1, some 1), (2, some 2), (50, some 54)], ?_, by show (l.length - a2).toNat < (l.length - a).toNat; omega⟩
        repeat' (first | exact trivial | rfl | refine And.intro ?_ ?_)
        all_goals (conv => whnf)
        repeat' (first | exact trivial | rfl | refine And.intro ?_ ?_)
        exact (rEn_app _ _).symm
      · refine ⟨⟨a2, s, es, by omega, hs, by omega⟩, [(1, some 1), (2, some 2), (50, some 50)], ?_, by show (l.length - a2).toNat < (l.length - a).toNat; omega⟩
        repeat' (first | exact trivial | rfl | refine And.intro ?_ ?_)
        all_goals (conv => whnf)
        repeat' (first | exact trivial | rfl | refine And.intro ?_ ?_)
    · exact ⟨_, _, ⟨es, rfl, rfl, by omega⟩, [], rfl, rfl, trivial⟩
  · exact ⟨_, _, ⟨es, rfl, rfl, by omega⟩, [], rfl, rfl, trivial⟩

def RSt (c : Cfg) (res : AV) (hout : List HObj) : Prop := ∃ s, res = stV s ∧ hout = [] ∧ StOk c s

theorem state_q (l : List Int) (c : Cfg) (n : Int) (w : WG c) (hl : l.length ≤ 1000) : ExH Tryz.prog 31 [.c (.d (.sl (r1 l))), cfgV c, I n] [] (RSt c) := by
  refine callsE_of tab mixed noRel Tryz.func31 rfl (by decide) rfl rfl ?_
  conv => whnf
  refine ⟨by kernel_rfl, ?_⟩
  conv => whnf
  refine exK (log_q l c n w hl) ?_
  rintro _ _ ⟨es, rfl, rfl, hes⟩
  conv => whnf
  refine exK (fold_q c es w (by omega)) ?_
  rintro _ _ ⟨⟨s1, s2, s3, s4, s5, s6, s7, s8⟩, i, bad, rfl, rfl, h9⟩
  conv => whnf
  exact ⟨_, _, ⟨⟨s1, s2, s3, s4, s5, s6, s7, s8⟩, rfl, rfl, h9⟩, [], rfl, ⟨⟨rfl, rfl⟩, ⟨rfl, rfl⟩, rfl, rfl, ⟨rfl, rfl⟩, ⟨rfl, rfl⟩, ⟨rfl, rfl⟩, ⟨rfl, rfl⟩, trivial⟩, trivial⟩

end Go.Proofs.YtncckpieemmmfaaGreat
