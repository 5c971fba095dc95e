/- Contracts: the maker of entries, for states that are right. Conditions: those ahead of each theorem. -/
import Derived.Test.YtncckpieemmmfaaGreatRef12f
namespace Go.Proofs.YtncckpieemmmfaaGreat
open Go Go.Cpl

theorem ta_ne {l : List Int} (h : l ≠ []) (a : Int) : ta l a = a + 1 := by simp [ta, h]

theorem next_e {l : List Int} (hl : l ≠ []) {a n : Int} (h0 : 0 ≤ a) (h1 : a ≤ 1000000) (hn : 0 < n) (hn' : n ≤ 1000000) : ∃ v, (0 ≤ v ∧ v < n) ∧ CallsH Tryz.prog 78 [.c (.ptr 0 0 0), I n] [tapeO l a] (I v) [tapeO l (a + 1)] :=
  ⟨_, tv_le l a hn, by rw [← ta_ne hl]; exact next_c l a n h0 h1 hn hn'⟩

theorem range_e {l : List Int} (hl : l ≠ []) {a lo hi : Int} (h0 : 0 ≤ a) (h1 : a ≤ 1000000) (hn : lo ≤ hi) (hlo : -1000 ≤ lo) (hhi : hi ≤ 100000) : ∃ v, (lo ≤ v ∧ v ≤ hi) ∧ CallsH Tryz.prog 79 [.c (.ptr 0 0 0), I lo, I hi] [tapeO l a] (I v) [tapeO l (a + 1)] :=
  ⟨lo + tv l a (hi - lo + 1), by have := tv_le l a (n := hi - lo + 1) (by omega); omega, by have := range_c l a lo hi h0 h1 hn hlo hhi; rw [ta_ne hl] at this; exact this⟩

theorem exB {P : Program} {f : FuncId} {args : List AV} {hin : List HObj} {hout : List HObj} {K : AV → List HObj → Prop} (h : ∃ b, CallsH P f args hin (B b) hout) (hk : ∀ b, K (B b) hout) : ∃ res hout, CallsH P f args hin res hout ∧ K res hout := by
  obtain ⟨v, hc⟩ := h
  exact ⟨_, _, hc, hk v⟩

theorem yes_e {l : List Int} (hl : l ≠ []) {a n : Int} (h0 : 0 ≤ a) (h1 : a ≤ 1000000) (hn : 0 < n) (hn' : n ≤ 1000000) : ∃ b, CallsH Tryz.prog 80 [.c (.ptr 0 0 0), I n] [tapeO l a] (B b) [tapeO l (a + 1)] :=
  ⟨_, by rw [← ta_ne hl]; exact yes_c l a n h0 h1 hn hn'⟩

theorem more_c (l : List Int) (a : Int) : CallsH Tryz.prog 117 [.c (.ptr 0 0 0)] [tapeO l a] (B (decide (a < l.length))) [tapeO l a] := by
  have hl := r1_len l
  refine callsR_of tab mixed Tryz.func117 rfl (by decide) rfl rfl ?_
  conv => whnf
  refine ⟨by kernel_rfl, ?_⟩
  conv => whnf
  refine ⟨[(0, some 0)], rfl, ?_, ⟨⟨rfl, ⟨rfl, rfl⟩, trivial⟩, trivial⟩⟩
  simp [mtV, Cpl.valOf, mtC, eqD, hl]

theorem none_c (k t : Int) : CallsH Tryz.prog 138 [I k, I t] [] (.agg [.d (i64 k), .d (i64 t), .d (i64 (-1)), .d (i64 (-1)), .d (i64 (-1)), .d (i64 0), .d (i64 0), .d (i64 0), .d (i64 0)]) [] := by
  refine callsR_of tab mixed Tryz.func138 rfl (by decide) rfl rfl ?_
  conv => whnf
  refine ⟨[], rfl, ?_⟩
  repeat' (first | exact trivial | rfl | refine And.intro ?_ ?_)
  all_goals (conv => whnf)
  repeat' (first | exact trivial | rfl | refine And.intro ?_ ?_)

/-- some entry, and the tape behind -/
def RE (l : List Int) (a : Int) (res : AV) (hout : List HObj) : Prop := ∃ e a', res = entV e ∧ hout = [tapeO l a'] ∧ a ≤ a' ∧ a' ≤ a + 20

set_option maxHeartbeats 4000000 in
set_option maxRecDepth 100000 in
theorem platform_q (l : List Int) (c : Cfg) (s : St) (a tick : Int) (w : WG c) (h : StOk c s) (hl : l ≠ []) (h0 : 0 ≤ a) (h1 : a ≤ 10000) (ht : -10 ≤ tick ∧ tick ≤ 1073741900) : ExH Tryz.prog 137 [.c (.ptr 0 0 0), cfgV c, stV s, I tick] [tapeO l a] (RE l a) := by
  have hg := w.good
  have hnc := h.pre.nc
  have hC := hg.cells
  have hR := hg.regions
  have hV := w.vers
  have hL := w.lease
  have hB := w.bake
  have l2 := rCS_len s.cs
  have l3 := r2_len c.cells
  have l4 := r2_len c.versions
  refine callsE_of tab mixed noRel Tryz.func137 rfl (by decide) rfl rfl ?_
  conv => whnf
  refine ⟨_, _, none_c _ _, ?_⟩
  conv => whnf
  refine exN (next_e hl h0 (by omega) (by omega) (by omega)) (fun k hk => ?_)
  conv => whnf
  obtain ⟨y, hy⟩ := get_int (l := s.cs) hk.1 (by omega)
  repeat' (first | contradiction | (refine gv (by omega) (by omega) ?_; conv => whnf) | (refine ⟨by kernel_rfl, ?_⟩; conv => whnf) | (refine ⟨_, _, has_c _ _, ?_⟩; conv => whnf) | (refine exN (next_e hl (by omega) (by omega) (by omega) (by omega)) (fun _ _ => ?_); conv => whnf) | (refine exN (range_e hl (by omega) (by omega) (by omega) (by omega) (by omega)) (fun _ _ => ?_); conv => whnf) | (refine ⟨hk.1, _, rCS_get hy, ?_⟩; conv => whnf) | (refine spD (fun _ => ?_) (fun _ => ?_) <;> conv => whnf) | (refine spN (fun _ => ?_) (fun _ => ?_) <;> conv => whnf) | (refine spE (fun _ => ?_) (fun _ => ?_) <;> conv => whnf) | (refine spNe (fun _ => ?_) (fun _ => ?_) <;> conv => whnf) | (refine gvu (by omega) (by omega) ?_; conv => whnf) | (refine spBn (fun _ => ?_) (fun _ => ?_) <;> conv => whnf) | (refine spG (fun _ => ?_) (fun _ => ?_) <;> conv => whnf))
  all_goals exact ⟨_, _, ⟨⟨_, _, _, _, _, _, _, _, _⟩, _, rfl, rfl, by omega, by omega⟩, [(0, some 0)], rfl, ⟨⟨rfl, rfl⟩, ⟨rfl, rfl⟩, ⟨rfl, rfl⟩, ⟨rfl, rfl⟩, ⟨rfl, rfl⟩, ⟨rfl, rfl⟩, ⟨rfl, rfl⟩, ⟨rfl, rfl⟩, ⟨rfl, rfl⟩, trivial⟩, ⟨⟨rfl, ⟨rfl, rfl⟩, trivial⟩, trivial⟩⟩

abbrev tsB (t : TS) : HObj := .box [.d (.bool t.placed), .d (.bool t.shed), .d (i64 t.home), .d (i64 t.standby), .d (i64 t.next), .d (i64 t.target), .d (i64 t.epoch), .d (i64 t.wc), .d (i64 t.we), .d (i64 t.wv), .d (i64 t.wf), .d (i64 t.wu)]

/-- where a grant stands at a cut: entry and tape -/
structure GS (c : Cfg) (a b : Int) (p : Int → Prop) where
  kind : Int
  tick : Int
  tenant : Int
  cell : Int
  other : Int
  epoch : Int
  from_ : Int
  until_ : Int
  n : Int
  at_ : Int
  h1 : a ≤ at_ ∧ at_ ≤ a + b
  h2 : 0 ≤ cell ∧ cell < c.cells.length
  h3 : 0 ≤ tick ∧ tick ≤ 1073741900
  h4 : p from_

set_option maxHeartbeats 4000000 in
set_option maxRecDepth 100000 in
theorem grantM_q (l : List Int) (c : Cfg) (s : St) (e : Ent) (a : Int) {x : TS} (w : WG c) (h : StOk c s) (hl : l ≠ []) (h0 : 0 ≤ a) (h1 : a ≤ 10000) (ht : 0 ≤ e.tenant) (hx : s.ts[e.tenant.toNat]? = some x) (hp : x.placed = true) (hk : 0 ≤ e.tick ∧ e.tick ≤ 1073741830) : ExH Tryz.prog 142 [.c (.ptr 0 0 0), cfgV c, stV s, entV e] [tapeO l a] (RE l a) := by
  have hg := w.good
  have hnc := h.pre.nc
  have hC := hg.cells
  have hL := w.lease
  have l2 := rCS_len s.cs
  have hxo := h.pre.t x (List.mem_of_getElem? hx)
  obtain ⟨xp, xs, xh, xb, xn, xt, xe, xwc, xwe, xwv, xwf, xwu⟩ := x
  obtain ⟨ek, et, ei, ec, eo, ee, ef, eu, en⟩ := e
  replace ht : 0 ≤ ei := ht
  replace hk : 0 ≤ et ∧ et ≤ 1073741830 := hk
  have hh : 0 ≤ xh := hxo.placed hp
  have hh2 : xh < c.cells.length := hxo.home.2
  have hs2 : xb < c.cells.length := hxo.standby.2
  have ht2 : xt < c.cells.length := hxo.target.2
  have hep : 0 ≤ xe ∧ xe ≤ 1048576 := hxo.epoch
  have hwu : 0 ≤ xwu ∧ xwu ≤ 1073741825 := hxo.wu
  refine callsD_of tab Tryz.func142 rfl (by decide) rfl rfl ?_
  refine dwp_cut tab mixed noRel (κ := GS c a 4 fun _ => True) 5 (fun k => [(0, .c (.ptr 0 0 0)), (5, .c (.ptr 1 0 0)), (6, .c (.ptr 2 0 0)), (7, .c (.ptr 3 0 0)), (8, .c (.ptr 4 0 0)), (9, .c (.ptr 5 0 0))]) (fun k => [(0, tapeO l k.at_), (1, .box (cfgC c)), (2, .box (stC s)), (3, .box [.d (i64 k.kind), .d (i64 k.tick), .d (i64 k.tenant), .d (i64 k.cell), .d (i64 k.other), .d (i64 k.epoch), .d (i64 k.from_), .d (i64 k.until_), .d (i64 k.n)]), (4, .box [.d (i64 0), .d (i64 0), .d (i64 0), .d (i64 0), .d (i64 0), .d (i64 0), .d (i64 0), .d (i64 0), .d (i64 0)]), (5, .box [.d (.bool xp), .d (.bool xs), .d (i64 xh), .d (i64 xb), .d (i64 xn), .d (i64 xt), .d (i64 xe), .d (i64 xwc), .d (i64 xwe), .d (i64 xwv), .d (i64 xwf), .d (i64 xwu)])]) 6 ?_ (fun k => ?_)
  · conv => whnf
    refine ⟨ht, _, rTS_get hx, ?_⟩
    conv => whnf
    repeat' (first | contradiction | (refine gv (by omega) (by omega) ?_; conv => whnf) | (refine ⟨by kernel_rfl, ?_⟩; conv => whnf) | (refine exN (next_e hl (by omega) (by omega) (by omega) (by omega)) (fun _ _ => ?_); conv => whnf) | (refine exN (range_e hl (by omega) (by omega) (by omega) (by omega) (by omega)) (fun _ _ => ?_); conv => whnf) | (refine exB (yes_e hl (by omega) (by omega) (by omega) (by omega)) (fun _ => ?_); conv => whnf) | (refine spD (fun _ => ?_) (fun _ => ?_) <;> conv => whnf) | (refine spN (fun _ => ?_) (fun _ => ?_) <;> conv => whnf) | (refine spE (fun _ => ?_) (fun _ => ?_) <;> conv => whnf) | (refine spNe (fun _ => ?_) (fun _ => ?_) <;> conv => whnf) | (refine gvu (by omega) (by omega) ?_; conv => whnf) | (refine spBn (fun _ => ?_) (fun _ => ?_) <;> conv => whnf) | (refine spG (fun _ => ?_) (fun _ => ?_) <;> conv => whnf))
    all_goals
      refine ⟨⟨?_, ?_, ?_, ?_, ?_, ?_, ?_, ?_, ?_, ?_, ?_, ?_, ?_, ?_⟩, [(0, some 0), (1, some 1), (2, some 2), (3, some 3), (4, some 4), (5, some 5)], ?_⟩
      rotate_right 1
      · repeat' (first | exact trivial | rfl | refine And.intro ?_ ?_)
        all_goals (conv => whnf)
        repeat' (first | exact trivial | rfl | refine And.intro ?_ ?_)
      all_goals first | trivial | omega | (dsimp only at *; omega) | (show 0 ≤ (if tick < xwu then xwu else tick) ∧ (if tick < xwu then xwu else tick) ≤ 1073741900; split <;> omega) | (show 0 ≤ (if tick < xwu then xwu else tick) ∧ (if tick < xwu then xwu else tick) ≤ 1073742000; split <;> omega) | (show 0 ≤ (if (if tick < xwu then xwu else tick) < xwu then xwu else (if tick < xwu then xwu else tick)) ∧ (if (if tick < xwu then xwu else tick) < xwu then xwu else (if tick < xwu then xwu else tick)) ≤ 1073742000; (repeat' split) <;> omega)
  obtain ⟨kind, tick, tenant, cell, other, epoch, from_, until_, n, a1, k1, k2, k3, k4⟩ := k
  dsimp only at k1 k2 k3 k4 ⊢
  refine dwp_cut tab mixed noRel (κ := GS c a 8 fun f => 0 ≤ f ∧ f ≤ 1073742000) 4 (fun k => [(0, .c (.ptr 0 0 0)), (5, .c (.ptr 1 0 0)), (6, .c (.ptr 2 0 0)), (7, .c (.ptr 3 0 0)), (8, .c (.ptr 4 0 0)), (9, .c (.ptr 5 0 0))]) (fun k => [(0, tapeO l k.at_), (1, .box (cfgC c)), (2, .box (stC s)), (3, .box [.d (i64 k.kind), .d (i64 k.tick), .d (i64 k.tenant), .d (i64 k.cell), .d (i64 k.other), .d (i64 k.epoch), .d (i64 k.from_), .d (i64 k.until_), .d (i64 k.n)]), (4, .box [.d (i64 0), .d (i64 0), .d (i64 0), .d (i64 0), .d (i64 0), .d (i64 0), .d (i64 0), .d (i64 0), .d (i64 0)]), (5, .box [.d (.bool xp), .d (.bool xs), .d (i64 xh), .d (i64 xb), .d (i64 xn), .d (i64 xt), .d (i64 xe), .d (i64 xwc), .d (i64 xwe), .d (i64 xwv), .d (i64 xwf), .d (i64 xwu)])]) 6 ?_ (fun k => ?_)
  · conv => whnf
    repeat' (first | contradiction | (refine gv (by omega) (by omega) ?_; conv => whnf) | (refine ⟨by kernel_rfl, ?_⟩; conv => whnf) | (refine exN (next_e hl (by omega) (by omega) (by omega) (by omega)) (fun _ _ => ?_); conv => whnf) | (refine exN (range_e hl (by omega) (by omega) (by omega) (by omega) (by omega)) (fun _ _ => ?_); conv => whnf) | (refine exB (yes_e hl (by omega) (by omega) (by omega) (by omega)) (fun _ => ?_); conv => whnf) | (refine spD (fun _ => ?_) (fun _ => ?_) <;> conv => whnf) | (refine spN (fun _ => ?_) (fun _ => ?_) <;> conv => whnf) | (refine spE (fun _ => ?_) (fun _ => ?_) <;> conv => whnf) | (refine spNe (fun _ => ?_) (fun _ => ?_) <;> conv => whnf) | (refine gvu (by omega) (by omega) ?_; conv => whnf) | (refine spBn (fun _ => ?_) (fun _ => ?_) <;> conv => whnf) | (refine spG (fun _ => ?_) (fun _ => ?_) <;> conv => whnf))
    all_goals
      refine ⟨⟨?_, ?_, ?_, ?_, ?_, ?_, ?_, ?_, ?_, ?_, ?_, ?_, ?_, ?_⟩, [(0, some 0), (1, some 1), (2, some 2), (3, some 3), (4, some 4), (5, some 5)], ?_⟩
      rotate_right 1
      · repeat' (first | exact trivial | rfl | refine And.intro ?_ ?_)
        all_goals (conv => whnf)
        repeat' (first | exact trivial | rfl | refine And.intro ?_ ?_)
      all_goals first | trivial | omega | (dsimp only at *; omega) | (show 0 ≤ (if tick < xwu then xwu else tick) ∧ (if tick < xwu then xwu else tick) ≤ 1073741900; split <;> omega) | (show 0 ≤ (if tick < xwu then xwu else tick) ∧ (if tick < xwu then xwu else tick) ≤ 1073742000; split <;> omega) | (show 0 ≤ (if (if tick < xwu then xwu else tick) < xwu then xwu else (if tick < xwu then xwu else tick)) ∧ (if (if tick < xwu then xwu else tick) < xwu then xwu else (if tick < xwu then xwu else tick)) ≤ 1073742000; (repeat' split) <;> omega)
  obtain ⟨kind, tick, tenant, cell, other, epoch, from_, until_, n, a1, k1, k2, k3, k4⟩ := k
  dsimp only at k1 k2 k3 k4 ⊢
  obtain ⟨y, hy⟩ := get_int (l := s.cs) k2.1 (by omega)
  refine dwp_fin tab mixed noRel ?_
  conv => whnf
  repeat' (first | contradiction | (refine gv (by omega) (by omega) ?_; conv => whnf) | (refine ⟨by kernel_rfl, ?_⟩; conv => whnf) | (refine exN (next_e hl (by omega) (by omega) (by omega) (by omega)) (fun _ _ => ?_); conv => whnf) | (refine exN (range_e hl (by omega) (by omega) (by omega) (by omega) (by omega)) (fun _ _ => ?_); conv => whnf) | (refine exB (yes_e hl (by omega) (by omega) (by omega) (by omega)) (fun _ => ?_); conv => whnf) | (refine ⟨k2.1, _, rCS_get hy, ?_⟩; conv => whnf) | (refine spD (fun _ => ?_) (fun _ => ?_) <;> conv => whnf) | (refine spN (fun _ => ?_) (fun _ => ?_) <;> conv => whnf) | (refine spE (fun _ => ?_) (fun _ => ?_) <;> conv => whnf) | (refine spNe (fun _ => ?_) (fun _ => ?_) <;> conv => whnf) | (refine gvu (by omega) (by omega) ?_; conv => whnf) | (refine spBn (fun _ => ?_) (fun _ => ?_) <;> conv => whnf) | (refine spG (fun _ => ?_) (fun _ => ?_) <;> conv => whnf))
  all_goals exact ⟨_, _, ⟨⟨_, _, _, _, _, _, _, _, _⟩, _, rfl, rfl, by omega, by omega⟩, [(0, some 0)], rfl, ⟨⟨rfl, rfl⟩, ⟨rfl, rfl⟩, ⟨rfl, rfl⟩, ⟨rfl, rfl⟩, ⟨rfl, rfl⟩, ⟨rfl, rfl⟩, ⟨rfl, rfl⟩, ⟨rfl, rfl⟩, ⟨rfl, rfl⟩, trivial⟩, ⟨⟨rfl, ⟨rfl, rfl⟩, trivial⟩, trivial⟩⟩

end Go.Proofs.YtncckpieemmmfaaGreat
