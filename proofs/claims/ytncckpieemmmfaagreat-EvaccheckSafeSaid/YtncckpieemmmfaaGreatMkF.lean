/- Contracts: the maker of entries, of logs and of states. Conditions: those ahead of each theorem. -/
import Derived.Test.YtncckpieemmmfaaGreatMkE
namespace Go.Proofs.YtncckpieemmmfaaGreat
open Go Go.Cpl

/-- a tenant's number at a cut of Entry: the tick, and where the tape stands -/
structure ES (c : Cfg) (a : Int) where
  tick : Int
  at_ : Int
  h1 : a + 1 ≤ at_ ∧ at_ ≤ a + 2
  h2 : 0 ≤ tick ∧ tick ≤ 1073741830

theorem exP {P : Program} {f : FuncId} {args : List AV} {hin : List HObj} {l : List Int} {p : Int → Prop} {K : AV → List HObj → Prop} (h : ∃ v a', p a' ∧ CallsH P f args hin (I v) [tapeO l a']) (hk : ∀ v a', p a' → K (I v) [tapeO l a']) : ∃ res hout, CallsH P f args hin res hout ∧ K res hout := by
  obtain ⟨v, a', hv, hc⟩ := h
  exact ⟨_, _, hc, hk v a' hv⟩

theorem pick_e {l xs : List Int} {a : Int} (h0 : 0 ≤ a) (h1 : a ≤ 100000) (hc : xs.length ≤ 1000) : ∃ v a', (a ≤ a' ∧ a' ≤ a + 1) ∧ CallsH Tryz.prog 139 [.c (.ptr 0 0 0), .c (.d (.sl (r1 xs)))] [tapeO l a] (I v) [tapeO l a'] :=
  ⟨_, _, pickA_le l xs a, pick_c l xs a h0 h1 hc⟩

theorem maxE (k : Int) : 0 ≤ (if (0 : Int) < k then k else 0) := by split <;> omega

def RF (l : List Int) (a : Int) (res : AV) (hout : List HObj) : Prop := ∃ e a', res = entV e ∧ hout = [tapeO l a'] ∧ a + 1 ≤ a' ∧ a' ≤ a + 50

set_option maxHeartbeats 4000000 in
set_option maxRecDepth 100000 in
theorem entry_q (l : List Int) (c : Cfg) (s : St) (a : Int) (w : WG c) (h : StOk c s) (hl : l ≠ []) (h0 : 0 ≤ a) (h1 : a ≤ 5000) : ExH Tryz.prog 118 [.c (.ptr 0 0 0), cfgV c, stV s] [tapeO l a] (RF l a) := by
  have hg := w.good
  have hn := h.pre.nt
  have hnc := h.pre.nc
  have hT := w.few
  have hk := h.pre.tick
  have l1 := rTS_len s.ts
  have l5 := rT_len c.tenants
  have hC : c.cells.length ≤ 1000 := by have := hg.cells; omega
  refine callsD_of tab Tryz.func118 rfl (by decide) rfl rfl ?_
  refine dwp_cut tab mixed noRel (κ := ES c a) 3 (fun k => [(0, .c (.ptr 0 0 0)), (4, .c (.ptr 1 0 0)), (5, .c (.ptr 2 0 0)), (6, .c (.ptr 3 0 0)), (7, I k.tick)]) (fun k => [(0, tapeO l k.at_), (1, .box (cfgC c)), (2, .box (stC s)), (3, .box [.d (i64 0), .d (i64 0), .d (i64 0), .d (i64 0), .d (i64 0), .d (i64 0), .d (i64 0), .d (i64 0), .d (i64 0)])]) 4 ?_ (fun k => ?_)
  · conv => whnf
    repeat' (first | contradiction | (refine gv (by omega) (by omega) ?_; conv => whnf) | (refine ⟨by kernel_rfl, ?_⟩; conv => whnf) | (refine exN (next_e hl (by omega) (by omega) (by omega) (by omega)) (fun _ _ => ?_); conv => whnf) | (refine exB (yes_e hl (by omega) (by omega) (by omega) (by omega)) (fun _ => ?_); conv => whnf) | (refine spD (fun _ => ?_) (fun _ => ?_) <;> conv => whnf) | (refine spN (fun _ => ?_) (fun _ => ?_) <;> conv => whnf) | (refine spE (fun _ => ?_) (fun _ => ?_) <;> conv => whnf) | (refine spNe (fun _ => ?_) (fun _ => ?_) <;> conv => whnf) | (refine gvu (by omega) (by omega) ?_; conv => whnf) | (refine spBn (fun _ => ?_) (fun _ => ?_) <;> conv => whnf) | (refine spG (fun _ => ?_) (fun _ => ?_) <;> conv => whnf))
    all_goals
      refine ⟨⟨?_, ?_, ?_, ?_⟩, [(0, some 0), (1, some 1), (2, some 2), (3, some 3)], ?_⟩
      rotate_right 1
      · repeat' (first | exact trivial | rfl | refine And.intro ?_ ?_)
        all_goals (conv => whnf)
        repeat' (first | exact trivial | rfl | refine And.intro ?_ ?_)
      all_goals first | omega | (show 0 ≤ (if (0 : Int) < s.tick - 1 then s.tick - 1 else 0) ∧ (if (0 : Int) < s.tick - 1 then s.tick - 1 else 0) ≤ 1073741830; split <;> omega)
  obtain ⟨tick, a1, k1, k2⟩ := k
  dsimp only at k1 k2 ⊢
  refine dwp_fin tab mixed noRel ?_
  conv => whnf
  refine spE (fun q1 => ?_) (fun q1 => ?_) <;> conv => whnf
  · refine exK (platform_q l c s _ tick w h hl (by omega) (by omega) (by omega)) ?_
    rintro _ _ ⟨⟨_, _, _, _, _, _, _, _, _⟩, a2, rfl, rfl, h5, h6⟩
    conv => whnf
    exact ⟨_, _, ⟨⟨_, _, _, _, _, _, _, _, _⟩, _, rfl, rfl, by omega, by omega⟩, [(0, some 0)], rfl, ⟨⟨rfl, rfl⟩, ⟨rfl, rfl⟩, ⟨rfl, rfl⟩, ⟨rfl, rfl⟩, ⟨rfl, rfl⟩, ⟨rfl, rfl⟩, ⟨rfl, rfl⟩, ⟨rfl, rfl⟩, ⟨rfl, rfl⟩, trivial⟩, ⟨⟨rfl, ⟨rfl, rfl⟩, trivial⟩, trivial⟩⟩
  refine exB (yes_e hl (by omega) (by omega) (by omega) (by omega)) (fun b => ?_)
  conv => whnf
  refine ⟨fun q2 => ?_, fun q2 => ?_⟩ <;> conv => whnf
  · refine exK (platform_q l c s _ tick w h hl (by omega) (by omega) (by omega)) ?_
    rintro _ _ ⟨⟨_, _, _, _, _, _, _, _, _⟩, a2, rfl, rfl, h5, h6⟩
    conv => whnf
    exact ⟨_, _, ⟨⟨_, _, _, _, _, _, _, _, _⟩, _, rfl, rfl, by omega, by omega⟩, [(0, some 0)], rfl, ⟨⟨rfl, rfl⟩, ⟨rfl, rfl⟩, ⟨rfl, rfl⟩, ⟨rfl, rfl⟩, ⟨rfl, rfl⟩, ⟨rfl, rfl⟩, ⟨rfl, rfl⟩, ⟨rfl, rfl⟩, ⟨rfl, rfl⟩, trivial⟩, ⟨⟨rfl, ⟨rfl, rfl⟩, trivial⟩, trivial⟩⟩
  refine exN (next_e hl (by omega) (by omega) (by omega) (by omega)) (fun i hi => ?_)
  conv => whnf
  obtain ⟨x, hx⟩ := get_int (l := s.ts) hi.1 (by omega)
  have hxo := h.pre.t x (List.mem_of_getElem? hx)
  refine ⟨hi.1, _, rTS_get hx, ?_⟩
  conv => whnf
  refine spBn (fun b1 => ?_) (fun b1 => ?_) <;> conv => whnf
  · repeat' (first | contradiction | (refine gv (by omega) (by omega) ?_; conv => whnf) | (refine ⟨by kernel_rfl, ?_⟩; conv => whnf) | (refine ⟨_, _, none_c _ _, ?_⟩; conv => whnf) | (refine ⟨_, _, (refHomes_c c i hg.laid).frozen, ?_⟩; conv => whnf) | (refine ⟨_, _, (refStandbys_c c i _ hg.laid).frozen, ?_⟩; conv => whnf) | (refine exP (pick_e (by omega) (by omega) (by first | exact homes_le hC | exact standbys_le hC)) (fun _ _ _ => ?_); conv => whnf) | (refine spD (fun _ => ?_) (fun _ => ?_) <;> conv => whnf) | (refine spN (fun _ => ?_) (fun _ => ?_) <;> conv => whnf) | (refine spE (fun _ => ?_) (fun _ => ?_) <;> conv => whnf) | (refine spNe (fun _ => ?_) (fun _ => ?_) <;> conv => whnf) | (refine gvu (by omega) (by omega) ?_; conv => whnf) | (refine spBn (fun _ => ?_) (fun _ => ?_) <;> conv => whnf) | (refine spG (fun _ => ?_) (fun _ => ?_) <;> conv => whnf))
    all_goals exact ⟨_, _, ⟨⟨_, _, _, _, _, _, _, _, _⟩, _, rfl, rfl, by omega, by omega⟩, [(0, some 0)], rfl, ⟨⟨rfl, rfl⟩, ⟨rfl, rfl⟩, ⟨rfl, rfl⟩, ⟨rfl, rfl⟩, ⟨rfl, rfl⟩, ⟨rfl, rfl⟩, ⟨rfl, rfl⟩, ⟨rfl, rfl⟩, ⟨rfl, rfl⟩, trivial⟩, ⟨⟨rfl, ⟨rfl, rfl⟩, trivial⟩, trivial⟩⟩
  repeat' (first | contradiction | (refine gv (by omega) (by omega) ?_; conv => whnf) | (refine ⟨by kernel_rfl, ?_⟩; conv => whnf) | (refine ⟨_, _, none_c _ _, ?_⟩; conv => whnf) | (refine ⟨_, _, (refHomes_c c i hg.laid).frozen, ?_⟩; conv => whnf) | (refine ⟨_, _, (refStandbys_c c i _ hg.laid).frozen, ?_⟩; conv => whnf) | (refine exP (pick_e (by omega) (by omega) (by first | exact homes_le hC | exact standbys_le hC)) (fun _ _ _ => ?_); conv => whnf) | (refine exN (next_e hl (by omega) (by omega) (by omega) (by omega)) (fun _ _ => ?_); conv => whnf) | (refine spD (fun _ => ?_) (fun _ => ?_) <;> conv => whnf) | (refine spN (fun _ => ?_) (fun _ => ?_) <;> conv => whnf) | (refine spE (fun _ => ?_) (fun _ => ?_) <;> conv => whnf) | (refine spNe (fun _ => ?_) (fun _ => ?_) <;> conv => whnf) | (refine gvu (by omega) (by omega) ?_; conv => whnf) | (refine spBn (fun _ => ?_) (fun _ => ?_) <;> conv => whnf) | (refine spG (fun _ => ?_) (fun _ => ?_) <;> conv => whnf))
  all_goals try exact ⟨_, _, ⟨⟨_, _, _, _, _, _, _, _, _⟩, _, rfl, rfl, by omega, by omega⟩, [(0, some 0)], rfl, ⟨⟨rfl, rfl⟩, ⟨rfl, rfl⟩, ⟨rfl, rfl⟩, ⟨rfl, rfl⟩, ⟨rfl, rfl⟩, ⟨rfl, rfl⟩, ⟨rfl, rfl⟩, ⟨rfl, rfl⟩, ⟨rfl, rfl⟩, trivial⟩, ⟨⟨rfl, ⟨rfl, rfl⟩, trivial⟩, trivial⟩⟩
  refine exK (grantM_q l c s ⟨_, _, _, _, _, _, _, _, _⟩ _ w h hl (by omega) (by omega) hi.1 hx b1 (by dsimp only; omega)) ?_
  rintro _ _ ⟨⟨_, _, _, _, _, _, _, _, _⟩, a2, rfl, rfl, h5, h6⟩
  conv => whnf
  exact ⟨_, _, ⟨⟨_, _, _, _, _, _, _, _, _⟩, _, rfl, rfl, by omega, by omega⟩, [(0, some 0)], rfl, ⟨⟨rfl, rfl⟩, ⟨rfl, rfl⟩, ⟨rfl, rfl⟩, ⟨rfl, rfl⟩, ⟨rfl, rfl⟩, ⟨rfl, rfl⟩, ⟨rfl, rfl⟩, ⟨rfl, rfl⟩, ⟨rfl, rfl⟩, trivial⟩, ⟨⟨rfl, ⟨rfl, rfl⟩, trivial⟩, trivial⟩⟩

end Go.Proofs.YtncckpieemmmfaaGreat
