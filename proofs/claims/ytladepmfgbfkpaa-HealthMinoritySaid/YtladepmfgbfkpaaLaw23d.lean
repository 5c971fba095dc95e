/- Contract: the law HealthMinority returns true at every input. No conditions. -/
import Derived.Test.YtladepmfgbfkpaaLaw23
namespace Go.Proofs.Ytladepmfgbfkpaa
open Go Go.Cpl

theorem votesTo_few {age cell tick : Int} {b : Bool} {l : List Rep} (hk : Keys l) (h0 : ∀ r ∈ l, 0 ≤ r.ob) : ∀ k : Nat, votesTo age cell tick b l k ≤ k
  | 0 => by rw [show ((0 : Nat) : Int) = 0 from rfl, votes_zero h0]; omega
  | k + 1 => by
    have h1 := votesTo_few (age := age) (cell := cell) (tick := tick) (b := b) hk h0 k
    have h2 := votes_step (age := age) (cell := cell) (tick := tick) (b := b) (k := k) hk
    rw [show ((k + 1 : Nat) : Int) = (k : Int) + 1 by omega, h2]
    split
    · split <;> omega
    · omega

theorem vote_few {n : Nat} {age cell tick : Int} {l : List Rep} (hk : Keys l) (h : ∀ r ∈ l, 0 ≤ r.ob ∧ r.ob < ((n / 2 : Nat) : Int)) : vote n age cell tick l = 3 := by
  have h1 := votesTo_few (age := age) (cell := cell) (tick := tick) (b := false) hk (fun r hr => (h r hr).1) (n / 2)
  have h2 := votesTo_few (age := age) (cell := cell) (tick := tick) (b := true) hk (fun r hr => (h r hr).1) (n / 2)
  rw [votes_all fun r hr => (h r hr).2] at h1 h2
  unfold vote voteOf
  rw [if_neg (by omega), if_neg (by omega)]

theorem adv_still {vt : Nat → Int} {hold tick : Int} {ver dou : List Int} (h : ∀ i, vt i = 3) : ∀ i, (adv vt hold tick ver dou i).ver = ver ∧ (adv vt hold tick ver dou i).chg = []
  | 0 => ⟨rfl, rfl⟩
  | i + 1 => by
    have ih := adv_still (hold := hold) (tick := tick) (ver := ver) (dou := dou) h i
    rw [adv, advStep, if_pos (.inl (h i))]
    exact ih

/-- reports of less than half of the observers; every verdict is good -/
structure Min (c : Cfg) (s : W23) : Prop where
  ok : WOk c s
  ob : ∀ r ∈ s.reps, r.ob < ((c.observers.length / 2 : Nat) : Int)
  ver : s.ver = List.replicate c.cells.length 1

theorem Min.report {c : Cfg} {s : W23} (h : Min c s) (hf : s.reps.length < 10000) {r : Rep} (hr : r.ob < ((c.observers.length / 2 : Nat) : Int)) : Min c (repW c s r) := by
  refine ⟨h.ok.report hf r, ?_, h.ver⟩
  show ∀ x ∈ repL c s.reps r, _
  unfold repL
  split
  · split
    · exact h.ob
    · intro x hx
      rcases set_memR hx with rfl | hx
      · exact hr
      · exact h.ob x hx
  · exact h.ob

theorem Min.vote {c : Cfg} {s : W23} (h : Min c s) (i : Nat) (t : Int) : Go.Proofs.Ytladepmfgbfkpaa.vote c.observers.length s.age i t s.reps = 3 := vote_few h.ok.keys fun r hr => ⟨(h.ok.rep r hr).1.1, h.ob r hr⟩

theorem Min.adv {c : Cfg} {s : W23} (h : Min c s) (t : Int) : Min c (advW c s t) := by
  refine ⟨h.ok.adv t, by rw [advW_reps]; exact h.ob, ?_⟩
  unfold advW
  split
  · exact h.ver
  · exact (adv_still (fun i => h.vote i t) _).1.trans h.ver

theorem Min.chg {c : Cfg} {s : W23} (h : Min c s) (t : Int) : advC c s t = [] := by
  unfold advC
  split
  · rfl
  · exact (adv_still (fun i => h.vote i t) _).2

theorem advW_tick {c : Cfg} {s : W23} {t : Int} (h : ¬ advBad s t) : (advW c s t).tick = t := by unfold advW; rw [if_neg h]

set_option maxHeartbeats 4000000 in
set_option maxRecDepth 100000 in
theorem healthMinority_c (l : List Int) (a b : Int) (steps : List (Int × Int × Int × Int × Bool)) : CallsH Try.prog 6 [.c (.d (.sl (r1 l))), polV a b, .c (.d (.sl (rS steps)))] [] (B true) [] := by
  obtain ⟨c, hm, hc⟩ := config_c l
  have hS := rS_len steps
  have hobs := hm.observers
  have hval := hm.valid5
  have hcl := hm.cells
  have hzl := hm.zones
  have hrg := hm.regions
  have hro := r1_len c.observers
  have hrc := r2_len c.cells
  have hn : valid5 c = 0 ∧ polOk (a % 12) (b % 8) := ⟨hval, pol_ok a b⟩
  have hw := new_ok hn (by omega)
  refine callsR_of tab mixed Try.func6 rfl (by decide) rfl rfl ?_
  conv => whnf
  refine ⟨_, _, light_c l, ?_⟩
  conv => whnf
  refine spN (fun h1 => ?_) (fun h1 => ?_) <;> conv => whnf
  · refine ⟨_, _, awake23_c, ?_⟩
    conv => whnf
    exact ⟨[], rfl, rfl, trivial⟩
  refine spD (fun h2 => ?_) (fun h2 => ?_) <;> conv => whnf
  · refine ⟨_, _, awake23_c, ?_⟩
    conv => whnf
    exact ⟨[], rfl, rfl, trivial⟩
  refine ⟨_, _, hc, ?_⟩
  conv => whnf
  refine ⟨by kernel_rfl, ?_⟩
  conv => whnf
  refine ⟨_, _, pol_c a b, ?_⟩
  conv => whnf
  refine ⟨_, _, newOk_c c _ _ hn, ?_⟩
  conv => whnf
  refine ⟨fun h => by simp at h, fun _ => ?_⟩
  conv => whnf
  refine spSame rfl ?_
  conv => whnf
  refine loopR tab mixed (ι := { x : Nat × Int × W23 // x.1 ≤ steps.length ∧ (0 ≤ x.2.1 ∧ x.2.1 ≤ 2 * x.1) ∧ x.2.2.tick ≤ x.2.1 ∧ x.2.2.reps.length ≤ x.1 ∧ Min c x.2.2 }) (fun x => [(11, I x.1.1), (10, I x.1.2.1)])
    (fun x => [(2, wBox c x.1.2.2 3 4 5), (3, .arr 3 (r1 x.1.2.2.ver)), (4, .arr 3 (r1 x.1.2.2.dou)), (5, wM x.1.2.2)])
    51 (fun x => steps.length - x.1.1) ⟨(0, 0, w0 c (a % 12) (b % 8)), by omega, by simp, by simp, by simp, ⟨hw, by simp, rfl⟩⟩ [(2, some 2), (3, some 3), (4, some 4), (5, some 5)] ?_
  conv => whnf
  refine ⟨?_, ?_⟩
  · repeat' (first | exact trivial | rfl | refine And.intro ?_ ?_)
    all_goals (conv => whnf)
    repeat' (first | exact trivial | rfl | refine And.intro ?_ ?_)
  rintro ⟨⟨i, tick, s⟩, hi, htk, hst, hle, hmin⟩
  dsimp only at hi htk hst hle hmin ⊢
  conv => whnf
  refine spD (fun h4 => ?_) (fun h4 => ?_) <;> conv => whnf
  · have hi' : i < steps.length := by omega
    obtain ⟨⟨which, o, ce, ti, bad⟩, hx⟩ := get_of hi'
    have b1 := Int.emod_nonneg ti (b := 3) (by omega)
    have b2 := Int.emod_lt_of_pos ti (b := 3) (by omega)
    refine ⟨by omega, _, rS_get hx, ?_⟩
    conv => whnf
    refine ⟨_, _, mod_c _ _ (by omega) (by omega), ?_⟩
    conv => whnf
    refine gv (by first | omega | (simp only []; omega) | (simp; omega)) (by first | omega | (simp only []; omega) | (simp; omega)) ?_
    conv => whnf
    have hfin : ∀ s1, Min c s1 → s1.tick ≤ tick + ti % 3 → advE s1 (tick + ti % 3) = 0 ∧ (advW c s1 (tick + ti % 3)).tick = tick + ti % 3 := fun s1 _ ht => by
      have hnb : ¬ advBad s1 (tick + ti % 3) := by unfold advBad; omega
      exact ⟨by simp [advE, hnb], advW_tick hnb⟩
    refine spD (fun h5 => ?_) (fun h5 => ?_) <;> conv => whnf
    · refine ⟨by kernel_rfl, ?_⟩
      conv => whnf
      refine ⟨by omega, .intro ((c.observers.length / 2 : Nat) : Int) (by rw [hro, Int.tdiv_eq_ediv_of_nonneg (by omega), wr (by omega) (by omega)]; omega) ?_⟩
      conv => whnf
      refine ⟨_, _, mod_c _ _ (by omega) (by omega), ?_⟩
      conv => whnf
      refine ⟨_, _, mod_c _ _ (by omega) (by omega), ?_⟩
      conv => whnf
      have hmr := hmin.report (r := ⟨o % ((c.observers.length / 2 : Nat) : Int), ce % ((r2 c.cells).length : Int), tick + ti % 3, bad⟩) (by omega) (Int.emod_lt_of_pos _ (by omega))
      have hrl := repL_len c s.reps ⟨o % ((c.observers.length / 2 : Nat) : Int), ce % ((r2 c.cells).length : Int), tick + ti % 3, bad⟩
      refine ⟨_, _, report_c c s ⟨o % ((c.observers.length / 2 : Nat) : Int), ce % ((r2 c.cells).length : Int), tick + ti % 3, bad⟩ hmin.ok, ?_⟩
      conv => whnf
      generalize hs1 : repW c s ⟨o % ((c.observers.length / 2 : Nat) : Int), ce % ((r2 c.cells).length : Int), tick + ti % 3, bad⟩ = s1 at hmr ⊢
      have hs1l : s1.reps.length ≤ s.reps.length + 1 := by rw [← hs1]; exact hrl
      have hs1t : s1.tick = s.tick := by rw [← hs1]
      obtain ⟨f1, f2⟩ := hfin s1 hmr (by omega)
      refine ⟨_, _, advance_c c s1 (tick + ti % 3) hmr.ok, ?_⟩
      conv => whnf
      refine spSame f1 ?_
      conv => whnf
      refine spD (fun h6 => by rw [hmr.chg] at h6; simp [r1] at h6) (fun h6 => ?_) <;> conv => whnf
      refine gv (by first | omega | (simp only []; omega) | (simp; omega)) (by first | omega | (simp only []; omega) | (simp; omega)) ?_
      conv => whnf
      refine ⟨⟨(i + 1, tick + ti % 3, advW c s1 (tick + ti % 3)), hi', ⟨by show 0 ≤ tick + ti % 3; omega, by show tick + ti % 3 ≤ 2 * ((i + 1 : Nat) : Int); omega⟩, by show (advW c s1 (tick + ti % 3)).tick ≤ tick + ti % 3; omega, by show (advW c s1 (tick + ti % 3)).reps.length ≤ i + 1; rw [advW_reps]; omega, hmr.adv _⟩, [(2, some 2), (3, some 3), (4, some 4), (5, some 5)], ?_, by show steps.length - (i + 1) < steps.length - i; omega⟩
      repeat' (first | exact trivial | rfl | refine And.intro ?_ ?_)
      all_goals (conv => whnf)
      repeat' (first | exact trivial | rfl | refine And.intro ?_ ?_)
    · obtain ⟨f1, f2⟩ := hfin s hmin (by omega)
      refine ⟨_, _, advance_c c s (tick + ti % 3) hmin.ok, ?_⟩
      conv => whnf
      refine spSame f1 ?_
      conv => whnf
      refine spD (fun h6 => by rw [hmin.chg] at h6; simp [r1] at h6) (fun h6 => ?_) <;> conv => whnf
      refine gv (by first | omega | (simp only []; omega) | (simp; omega)) (by first | omega | (simp only []; omega) | (simp; omega)) ?_
      conv => whnf
      refine ⟨⟨(i + 1, tick + ti % 3, advW c s (tick + ti % 3)), hi', ⟨by show 0 ≤ tick + ti % 3; omega, by show tick + ti % 3 ≤ 2 * ((i + 1 : Nat) : Int); omega⟩, by show (advW c s (tick + ti % 3)).tick ≤ tick + ti % 3; omega, by show (advW c s (tick + ti % 3)).reps.length ≤ i + 1; rw [advW_reps]; omega, hmin.adv _⟩, [(2, some 2), (3, some 3), (4, some 4), (5, some 5)], ?_, by show steps.length - (i + 1) < steps.length - i; omega⟩
      repeat' (first | exact trivial | rfl | refine And.intro ?_ ?_)
      all_goals (conv => whnf)
      repeat' (first | exact trivial | rfl | refine And.intro ?_ ?_)
  refine loopN tab mixed (fun k => k ≤ c.cells.length) c.cells.length (fun k => [(15, I k)]) (fun _ => []) 51 [] (by omega) ?_
  conv => whnf
  refine ⟨?_, fun k hk => ?_⟩
  · repeat' (first | exact trivial | rfl | refine And.intro ?_ ?_)
    all_goals (conv => whnf)
    repeat' (first | exact trivial | rfl | refine And.intro ?_ ?_)
  conv => whnf
  refine spD (fun h5 => ?_) (fun h5 => ?_) <;> conv => whnf
  · have hk' : k < c.cells.length := by omega
    refine ⟨_, _, cellW_c' c s k hmin.ok, ?_⟩
    conv => whnf
    refine spSame (by rw [hmin.ver, verdAt, if_pos (by omega)]; simp [hk']) ?_
    conv => whnf
    refine gv (by first | omega | (simp only []; omega) | (simp; omega)) (by first | omega | (simp only []; omega) | (simp; omega)) ?_
    conv => whnf
    refine ⟨⟨hk', hk'⟩, [], ?_⟩
    repeat' (first | exact trivial | rfl | refine And.intro ?_ ?_)
    all_goals (conv => whnf)
    repeat' (first | exact trivial | rfl | refine And.intro ?_ ?_)
  · refine ⟨_, _, awake23_c, ?_⟩
    conv => whnf
    exact ⟨[], rfl, rfl, trivial⟩

end Go.Proofs.Ytladepmfgbfkpaa
