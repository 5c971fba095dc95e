/- Contract: the law HealthHolds returns true at every input. No conditions. -/
import Derived.Test.YtladepmfgbfkpaaLaw23
namespace Go.Proofs.Ytladepmfgbfkpaa
open Go Go.Cpl

/-! ### what Advance does to each cell -/

section
variable {vt : Nat → Int} {hold tick : Int} {ver dou : List Int}

theorem adv_ver_behind : ∀ {i j : Nat}, i ≤ j → (adv vt hold tick ver dou i).ver[j]? = ver[j]?
  | 0, _, _ => rfl
  | i + 1, j, h => by
    have ih := adv_ver_behind (i := i) (j := j) (by omega)
    rw [adv, advStep]
    split
    · exact ih
    · split
      · simp only [List.getElem?_set]
        rw [if_neg (by omega)]
        exact ih
      · exact ih

theorem adv_ver_ahead {j : Nat} : ∀ {m : Nat}, j + 1 ≤ m → (adv vt hold tick ver dou m).ver[j]? = (adv vt hold tick ver dou (j + 1)).ver[j]?
  | 0, h => by omega
  | m + 1, h => by
    by_cases hm : j + 1 = m + 1
    · rw [hm]
    · have ih := adv_ver_ahead (j := j) (m := m) (by omega)
      rw [adv, advStep]
      split
      · exact ih
      · split
        · simp only [List.getElem?_set]
          rw [if_neg (by omega)]
          exact ih
        · exact ih

theorem adv_chg_ahead {j : Nat} : ∀ {m : Nat}, j ≤ m → ∃ r, (adv vt hold tick ver dou m).chg = (adv vt hold tick ver dou j).chg ++ r
  | 0, h => ⟨[], by have : j = 0 := by omega
                    subst this; simp⟩
  | m + 1, h => by
    by_cases hm : j = m + 1
    · exact ⟨[], by rw [hm]; simp⟩
    · obtain ⟨r, hr⟩ := adv_chg_ahead (j := j) (m := m) (by omega)
      rw [adv, advStep]
      split
      · exact ⟨r, hr⟩
      · split
        · exact ⟨r ++ [(m : Int)], by simp [hr]⟩
        · exact ⟨r, hr⟩
end

theorem rep_neg {n : Nat} : ∀ {i : Nat}, i ≤ n → (List.replicate i (-1 : Int) ++ List.replicate (n - i) 0).length = n := by
  intro i h; simp; omega

theorem neg_set {n i : Nat} (h : i < n) : (List.replicate i (-1 : Int) ++ List.replicate (n - i) 0).set i (-1) = List.replicate (i + 1) (-1) ++ List.replicate (n - (i + 1)) 0 := by
  rw [show n - i = (n - (i + 1)) + 1 by omega, List.replicate_succ, List.set_append_right _ _ (by simp)]
  simp [List.replicate_succ', List.append_assoc]

theorem neg_get {n i : Nat} (h : i < n) : (List.replicate i (-1 : Int) ++ List.replicate (n - i) 0)[i]? = some 0 := by
  rw [List.getElem?_append_right (by simp)]
  simp only [List.length_replicate, Nat.sub_self, List.getElem?_replicate]
  rw [if_pos (by omega)]

theorem zero_r1 (n : Nat) : List.replicate n [i64 0] = r1 (List.replicate 0 (-1 : Int) ++ List.replicate (n - 0) 0) := by simp [r1]

/-- verdicts told for the first k cells -/
def told (ver : List Int) (k n : Nat) : List Int := ver.take k ++ List.replicate (n - k) 0

theorem told_len {ver : List Int} {k n : Nat} (hv : ver.length = n) (h : k ≤ n) : (told ver k n).length = n := by simp [told]; omega

theorem told_get {ver : List Int} {k n : Nat} (hv : ver.length = n) (h : k < n) : (told ver k n)[k]? = some 0 := by
  unfold told
  have e : k - (ver.take k).length = 0 := by simp; omega
  rw [List.getElem?_append_right (by simp; omega), e, List.getElem?_replicate, if_pos (by omega)]

theorem told_set {ver : List Int} {k n : Nat} {x : Int} (hx : ver[k]? = some x) (hv : ver.length = n) (h : k < n) : (told ver k n).set k x = told ver (k + 1) n := by
  unfold told
  rw [show n - k = (n - (k + 1)) + 1 by omega, List.replicate_succ, List.set_append_right _ _ (by simp; omega), take_succ_of hx]
  have : k - (ver.take k).length = 0 := by simp; omega
  rw [this]
  simp

theorem told_all {ver : List Int} {n : Nat} (hv : ver.length = n) : told ver n n = ver := by
  unfold told; simp [← hv]

theorem told_zero (ver : List Int) (n : Nat) : List.replicate n [i64 0] = r1 (told ver 0 n) := by simp [told, r1]

theorem spB3 {x y : Bool} {A C : Prop} (h : x = y) (k : C) : ((!(x == y)) = true → A) ∧ ((!(x == y)) = false → C) := ⟨fun h' => by subst h; simp at h', fun _ => k⟩

/-- what is to be known of the steps of an Advance -/
structure Steps (c : Cfg) (s : W23) (tick : Int) (F : Nat → A3) : Prop where
  zero : F 0 = ⟨s.ver, s.dou, []⟩
  succ : ∀ k : Nat, F (k + 1) = advStep (vote c.observers.length s.age k tick s.reps) s.hold tick k (F k)
  len : ∀ k, (F k).ver.length = c.cells.length ∧ (F k).dou.length = c.cells.length ∧ (F k).chg.length ≤ k
  behind : ∀ k, (F k).ver[k]? = s.ver[k]?
  ahead : ∀ k, k < c.cells.length → (F c.cells.length).ver[k]? = (F (k + 1)).ver[k]?
  chg : ∀ k, k < c.cells.length → ∃ r, (F c.cells.length).chg = (F (k + 1)).chg ++ r
  dou : ∀ k, ∀ x ∈ (F k).dou, -1 ≤ x ∧ x ≤ 1073741824

theorem steps_ok {c : Cfg} {s : W23} (h : WOk c s) {tick : Int} (hb : ¬ advBad s tick) : ∃ F, Steps c s tick F ∧ advAt c s tick c.cells.length = F c.cells.length :=
  ⟨advAt c s tick, ⟨rfl, fun _ => rfl, fun k => ⟨(adv_len _ _ _ _ _ k).1.trans h.ver, (adv_len _ _ _ _ _ k).2.1.trans h.dou, (adv_len _ _ _ _ _ k).2.2⟩, fun k => adv_ver_behind (Nat.le_refl k), fun _ hk => adv_ver_ahead hk, fun _ hk => adv_chg_ahead hk, fun k => (h.mid hb k).doubt⟩, rfl⟩

theorem advW_good {c : Cfg} {s : W23} {t : Int} (h : ¬ advBad s t) : (advW c s t).ver = (advAt c s t c.cells.length).ver ∧ (advW c s t).dou = (advAt c s t c.cells.length).dou ∧ (advW c s t).tick = t ∧ (advW c s t).age = s.age ∧ (advW c s t).hold = s.hold ∧ advC c s t = (advAt c s t c.cells.length).chg ∧ advE s t = 0 := by
  unfold advW advC advE
  simp [h]

set_option maxHeartbeats 8000000 in
set_option maxRecDepth 100000 in
theorem healthHolds_c (l : List Int) (a b : Int) (steps : List (Int × Int × Int × Int × Bool)) : CallsH Try.prog 7 [.c (.d (.sl (r1 l))), polV a b, .c (.d (.sl (rS steps)))] [] (B true) [] := by
  obtain ⟨c, hm, hc⟩ := config_c l
  have hS := rS_len steps
  have hobs := hm.observers
  have hval := hm.valid5
  have hcl := hm.cells
  have hzl := hm.zones
  have hrg := hm.regions
  have hro := r1_len c.observers
  have hrc := r2_len c.cells
  have hn : valid5 c = 0 ∧ polOk (a % 12) (b % 8) := ⟨hval, pol_ok a b⟩
  have hw := new_ok hn (by omega)
  have hb1 := Int.emod_nonneg b (b := 8) (by omega)
  have hb2 := Int.emod_lt_of_pos b (b := 8) (by omega)
  refine callsR_of tab mixed Try.func7 rfl (by decide) rfl rfl ?_
  conv => whnf
  refine ⟨_, _, light_c l, ?_⟩
  conv => whnf
  refine spN (fun h1 => ?_) (fun h1 => ?_) <;> conv => whnf
  · refine ⟨_, _, awake23_c, ?_⟩
    conv => whnf
    exact ⟨[], rfl, rfl, trivial⟩
  refine spD (fun h2 => ?_) (fun h2 => ?_) <;> conv => whnf
  · refine ⟨_, _, awake23_c, ?_⟩
    conv => whnf
    exact ⟨[], rfl, rfl, trivial⟩
  refine ⟨_, _, pol_c a b, ?_⟩
  conv => whnf
  refine ⟨_, _, hc, ?_⟩
  conv => whnf
  refine ⟨_, _, newOk_c c _ _ hn, ?_⟩
  conv => whnf
  refine ⟨fun h => by simp at h, fun _ => ?_⟩
  conv => whnf
  refine spSame rfl ?_
  conv => whnf
  refine ⟨by omega, by omega, ⟨by omega⟩, ?_⟩
  conv => whnf
  rw [show (((r2 c.cells).length : Nat) : Int).toNat = c.cells.length by omega, zero_r1]
  refine loopN tab mixed (fun i => i ≤ c.cells.length) c.cells.length (fun i => [(12, I i)]) (fun i => [(6, .arr 3 (r1 (List.replicate i (-1 : Int) ++ List.replicate (c.cells.length - i) 0)))]) 7 [(6, some 6)] (by omega) ?_
  conv => whnf
  refine ⟨?_, fun i hi => ?_⟩
  · repeat' (first | exact trivial | rfl | refine And.intro ?_ ?_)
    all_goals (conv => whnf)
    repeat' (first | exact trivial | rfl | refine And.intro ?_ ?_)
  conv => whnf
  have hni := r1_len (List.replicate i (-1 : Int) ++ List.replicate (c.cells.length - i) 0)
  rw [rep_neg hi] at hni
  refine spD (fun h4 => ?_) (fun h4 => ?_) <;> conv => whnf
  · have hi' : i < c.cells.length := by omega
    refine ⟨by omega, by omega, _, r1_get (neg_get hi'), ?_⟩
    conv => whnf
    refine gv (by first | omega | (simp only []; omega) | (simp; omega)) (by first | omega | (simp only []; omega) | (simp; omega)) ?_
    conv => whnf
    refine ⟨⟨hi', hi'⟩, [(6, some 6)], ?_⟩
    repeat' (first | exact trivial | rfl | refine And.intro ?_ ?_)
    all_goals (conv => whnf)
    repeat' (first | exact trivial | rfl | refine And.intro ?_ ?_)
    rw [← neg_set hi']
    exact (r1_set' _ _ _).symm
  have hi' : i = c.cells.length := by omega
  subst hi'
  rw [show List.replicate c.cells.length (-1 : Int) ++ List.replicate (c.cells.length - c.cells.length) 0 = (w0 c (a % 12) (b % 8)).dou by simp]
  refine loopR tab mixed (ι := { x : Nat × Int × W23 // x.1 ≤ steps.length ∧ (0 ≤ x.2.1 ∧ x.2.1 ≤ 3 * x.1) ∧ x.2.2.tick ≤ x.2.1 ∧ x.2.2.reps.length ≤ x.1 ∧ x.2.2.hold = b % 8 ∧ WOk c x.2.2 }) (fun x => [(13, I x.1.1), (10, I x.1.2.1)])
    (fun x => [(2, wBox c x.1.2.2 3 4 5), (3, .arr 3 (r1 x.1.2.2.ver)), (4, .arr 3 (r1 x.1.2.2.dou)), (5, wM x.1.2.2), (6, .arr 3 (r1 x.1.2.2.dou))])
    51 (fun x => steps.length - x.1.1) ⟨(0, 0, w0 c (a % 12) (b % 8)), by omega, by simp, by simp, by simp, rfl, hw⟩ [(2, some 2), (3, some 3), (4, some 4), (5, some 5), (6, some 6)] ?_
  conv => whnf
  refine ⟨?_, ?_⟩
  · repeat' (first | exact trivial | rfl | refine And.intro ?_ ?_)
    all_goals (conv => whnf)
    repeat' (first | exact trivial | rfl | refine And.intro ?_ ?_)
  rintro ⟨⟨i, tick0, s0⟩, hi, htk, hst, hle, hho, hok⟩
  dsimp only at hi htk hst hle hho hok ⊢
  conv => whnf
  refine spD (fun h5 => ?_) (fun h5 => ?_) <;> conv => whnf
  · have hi' : i < steps.length := by omega
    obtain ⟨⟨which, o, ce, ti, bad⟩, hx⟩ := get_of hi'
    have b1 := Int.emod_nonneg ti (b := 4) (by omega)
    have b2 := Int.emod_lt_of_pos ti (b := 4) (by omega)
    refine ⟨by omega, _, rS_get hx, ?_⟩
    conv => whnf
    refine ⟨_, _, mod_c _ _ (by omega) (by omega), ?_⟩
    conv => whnf
    refine gv (by first | omega | (simp only []; omega) | (simp; omega)) (by first | omega | (simp only []; omega) | (simp; omega)) ?_
    conv => whnf
    generalize htick : tick0 + ti % 4 = tick
    have htb : 0 ≤ tick ∧ tick ≤ 3 * ((i + 1 : Nat) : Int) ∧ s0.tick ≤ tick := by omega
    refine ⟨by kernel_rfl, ?_⟩
    conv => whnf
    refine ⟨_, _, mod_c _ _ (by omega) (by omega), ?_⟩
    conv => whnf
    refine ⟨_, _, mod_c _ _ (by omega) (by omega), ?_⟩
    conv => whnf
    obtain ⟨r, hr0⟩ : ∃ r : Rep, r = ⟨o % ((r1 c.observers).length : Int), ce % ((r2 c.cells).length : Int), tick, bad⟩ := ⟨_, rfl⟩
    have hok1 := hok.report (by omega) r
    have hrl := repL_len c s0.reps r
    have hcall := report_c c s0 r hok
    obtain ⟨s, hs1⟩ : ∃ s, repW c s0 r = s := ⟨_, rfl⟩
    rw [hs1] at hcall hok1
    rw [show repV r = repV ⟨o % ((r1 c.observers).length : Int), ce % ((r2 c.cells).length : Int), tick, bad⟩ by rw [hr0]] at hcall
    refine ⟨_, _, hcall, ?_⟩
    conv => whnf
    have hs1l : s.reps.length ≤ s0.reps.length + 1 := by rw [← hs1]; exact hrl
    have hs1t : s.tick = s0.tick := by rw [← hs1]
    have hs1h : s.hold = b % 8 := by rw [← hs1]; exact hho
    have hs1d : s0.dou = s.dou := by rw [← hs1]
    rw [hs1d]
    have hsv := hok1.ver
    have hsd := hok1.dou
    refine ⟨by omega, by omega, ⟨by omega⟩, ?_⟩
    conv => whnf
    rw [show (((r2 c.cells).length : Nat) : Int).toNat = c.cells.length by omega, told_zero s.ver]
    refine loopN tab mixed (fun k => k ≤ c.cells.length) c.cells.length (fun k => [(16, I k)]) (fun k => [(52, .arr 3 (r1 (told s.ver k c.cells.length)))]) 53 [(52, some 52)] (by omega) ?_
    conv => whnf
    refine ⟨?_, fun k hk => ?_⟩
    · repeat' (first | exact trivial | rfl | refine And.intro ?_ ?_)
      all_goals (conv => whnf)
      repeat' (first | exact trivial | rfl | refine And.intro ?_ ?_)
    conv => whnf
    have hnk := r1_len (told s.ver k c.cells.length)
    rw [told_len hsv hk] at hnk
    refine spD (fun h6 => ?_) (fun h6 => ?_) <;> conv => whnf
    · have hk' : k < c.cells.length := by omega
      obtain ⟨x, hx2⟩ := get_of (l := s.ver) (i := k) (by omega)
      have hvx : verdAt s.ver k = x := by rw [verdAt, if_pos (by omega)]; simp [hx2]
      refine ⟨_, _, cellW_c' c s k hok1, ?_⟩
      conv => whnf
      rw [hvx]
      refine ⟨by omega, by omega, _, r1_get (told_get hsv hk'), ?_⟩
      conv => whnf
      refine gv (by first | omega | (simp only []; omega) | (simp; omega)) (by first | omega | (simp only []; omega) | (simp; omega)) ?_
      conv => whnf
      refine ⟨⟨hk', hk'⟩, [(52, some 52)], ?_⟩
      repeat' (first | exact trivial | rfl | refine And.intro ?_ ?_)
      all_goals (conv => whnf)
      repeat' (first | exact trivial | rfl | refine And.intro ?_ ?_)
      rw [← told_set hx2 hsv hk']
      exact (r1_set' _ _ _).symm
    have hk' : k = c.cells.length := by omega
    subst hk'
    rw [told_all hsv]
    have hnb : ¬ advBad s tick := by unfold advBad; omega
    obtain ⟨a1, a2, a3, a4, a5, a6, a7⟩ := advW_good (c := c) hnb
    have hok2 := hok1.adv tick
    have har := advW_reps c s tick
    obtain ⟨F, hF, hFN⟩ := steps_ok hok1 hnb
    rw [hFN] at a1 a2 a6
    have hcalla := advance_c c s tick hok1
    obtain ⟨s2, hs2⟩ : ∃ s2, advW c s tick = s2 := ⟨_, rfl⟩
    rw [hs2] at hcalla a1 a2 a3 a4 a5 hok2 har
    rw [a6, a7] at hcalla
    refine ⟨_, _, hcalla, ?_⟩
    conv => whnf
    refine spSame rfl ?_
    conv => whnf
    have hrv := r1_len s.ver
    have hrchg := r1_len (F c.cells.length).chg
    clear hFN
    refine loopN tab mixed (fun k => k ≤ c.cells.length) c.cells.length (fun k => [(20, I k), (19, I (F k).chg.length)]) (fun k => [(6, .arr 3 (r1 (F k).dou))]) 54 [(6, some 6)] (by omega) ?_
    conv => whnf
    refine ⟨?_, fun k hk => ?_⟩
    · repeat' (first | exact trivial | rfl | refine And.intro ?_ ?_)
      all_goals (conv => whnf)
      repeat' (first | exact trivial | rfl | refine And.intro ?_ ?_)
      · rw [hF.zero]; rfl
      · rw [hF.zero]
    conv => whnf
    refine spD (fun h7 => ?_) (fun h7 => ?_) <;> conv => whnf
    · have hk' : k < c.cells.length := by omega
      obtain ⟨hak1, hak2, hak3⟩ := hF.len k
      obtain ⟨x, hx2⟩ := get_of (l := s.ver) (i := k) (by omega)
      obtain ⟨d, hd⟩ := get_of (l := (F k).dou) (i := k) (by omega)
      have hdr := hF.dou k d (List.mem_of_getElem? hd)
      have hbe : (F k).ver[k]? = some x := (hF.behind k).trans hx2
      obtain ⟨rest, hrest⟩ := hF.chg k hk'
      have hstep := hF.succ k
      have hcallv := vote_c c s2 k tick hok2
      rw [a4, har] at hcallv
      have hcell : verdAt s2.ver k = ((F (k + 1)).ver[k]?).getD 3 := by
        rw [verdAt, if_pos (by omega), a1]
        simp [hF.ahead k hk']
      obtain ⟨v, hvv⟩ : ∃ v, vote c.observers.length s.age k tick s.reps = v := ⟨_, rfl⟩
      rw [hvv] at hcallv hstep
      refine ⟨_, _, hcallv, ?_⟩
      conv => whnf
      have hr2 := r1_len (F k).dou
      have gx : (r1 s.ver)[((k : Nat) : Int).toNat]? = some [i64 x] := r1_get hx2
      have gd : (r1 (F k).dou)[((k : Nat) : Int).toNat]? = some [i64 d] := r1_get hd
      have gn : ∀ y, ((r1 (F k).dou).set ((k : Nat) : Int).toNat [i64 y])[((k : Nat) : Int).toNat]? = some [i64 y] := fun y => by rw [List.getElem?_set]; simp; omega
      have hstay : v = 3 ∨ v = x → advStep v s.hold tick k (F k) = ⟨(F k).ver, (F k).dou.set k (-1), (F k).chg⟩ := fun hh => by simp [advStep, hbe, hh]
      have hflip : ¬ (v = 3 ∨ v = x) → s.hold ≤ tick - sinceT d tick → advStep v s.hold tick k (F k) = ⟨(F k).ver.set k v, (F k).dou.set k (-1), (F k).chg ++ [(k : Int)]⟩ := fun hh h2 => by simp [advStep, hbe, hd, hh, h2]
      have hwait : ¬ (v = 3 ∨ v = x) → ¬ s.hold ≤ tick - sinceT d tick → advStep v s.hold tick k (F k) = ⟨(F k).ver, (F k).dou.set k (sinceT d tick), (F k).chg⟩ := fun hh h2 => by simp [advStep, hbe, hd, hh, h2]
      refine spE (fun h8 => ?_) (fun h8 => ?_) <;> conv => whnf
      · rw [hstay (.inl h8)] at hstep
        rw [hstep] at hcell
        have hcx : verdAt s2.ver k = x := by rw [hcell]; simp [hbe]
        refine ⟨by omega, by omega, _, gd, ?_⟩
        conv => whnf
        refine ⟨by kernel_rfl, ?_⟩
        conv => whnf
        refine ⟨by omega, by rw [List.length_set]; omega, _, gn (-1), ?_⟩
        conv => whnf
        refine spD (fun h9 => by omega) (fun h9 => ?_) <;> conv => whnf
        refine ⟨by kernel_rfl, ?_⟩
        conv => whnf
        refine ⟨_, _, cellW_c' c s2 k hok2, ?_⟩
        conv => whnf
        refine ⟨by omega, by omega, _, gx, ?_⟩
        conv => whnf
        refine ⟨fun h => by simp [hcx] at h, fun _ => ?_⟩
        conv => whnf
        refine gv (by first | omega | (simp only []; omega) | (simp; omega)) (by first | omega | (simp only []; omega) | (simp; omega)) ?_
        conv => whnf
        refine ⟨⟨hk', hk'⟩, [(6, some 6)], ?_⟩
        rw [hstep]
        repeat' (first | exact trivial | rfl | refine And.intro ?_ ?_)
        all_goals (conv => whnf)
        repeat' (first | exact trivial | rfl | refine And.intro ?_ ?_)
        exact (r1_set' _ _ _).symm
      refine ⟨by omega, by omega, _, gx, ?_⟩
      conv => whnf
      refine spE (fun h9 => ?_) (fun h9 => ?_) <;> conv => whnf
      · rw [hstay (.inr h9)] at hstep
        rw [hstep] at hcell
        have hcx : verdAt s2.ver k = x := by rw [hcell]; simp [hbe]
        refine ⟨by omega, by omega, _, gd, ?_⟩
        conv => whnf
        refine ⟨by kernel_rfl, ?_⟩
        conv => whnf
        refine ⟨by omega, by rw [List.length_set]; omega, _, gn (-1), ?_⟩
        conv => whnf
        refine spD (fun h9 => by omega) (fun h9 => ?_) <;> conv => whnf
        refine ⟨by kernel_rfl, ?_⟩
        conv => whnf
        refine ⟨_, _, cellW_c' c s2 k hok2, ?_⟩
        conv => whnf
        refine ⟨by omega, by omega, _, gx, ?_⟩
        conv => whnf
        refine ⟨fun h => by simp [hcx] at h, fun _ => ?_⟩
        conv => whnf
        refine gv (by first | omega | (simp only []; omega) | (simp; omega)) (by first | omega | (simp only []; omega) | (simp; omega)) ?_
        conv => whnf
        refine ⟨⟨hk', hk'⟩, [(6, some 6)], ?_⟩
        rw [hstep]
        repeat' (first | exact trivial | rfl | refine And.intro ?_ ?_)
        all_goals (conv => whnf)
        repeat' (first | exact trivial | rfl | refine And.intro ?_ ?_)
        exact (r1_set' _ _ _).symm
      have hgo : ¬ (v = 3 ∨ v = x) := by omega
      refine ⟨by omega, by omega, _, gd, ?_⟩
      conv => whnf
      refine spD (fun h10 => ?_) (fun h10 => ?_) <;> conv => whnf
      · have hsi : sinceT d tick = tick := by simp [sinceT, h10]
        refine ⟨by omega, by omega, _, gd, ?_⟩
        conv => whnf
        rw [hsi] at hflip hwait
        refine ⟨by kernel_rfl, ?_⟩
        conv => whnf
        refine ⟨by omega, by rw [List.length_set]; omega, _, gn tick, ?_⟩
        conv => whnf
        refine spD (fun h11 => ?_) (fun h11 => by omega) <;> conv => whnf
        refine ⟨by omega, by rw [List.length_set]; omega, _, gn tick, ?_⟩
        conv => whnf
        refine gv (by first | omega | (simp only []; omega) | (simp; omega)) (by first | omega | (simp only []; omega) | (simp; omega)) ?_
        conv => whnf
        by_cases hfl : s.hold ≤ tick - tick
        · rw [hflip hgo hfl] at hstep
          rw [hstep] at hcell hrest
          have hcx : verdAt s2.ver k = v := by
            rw [hcell]
            show (((F k).ver.set k v)[k]?).getD 3 = v
            rw [List.getElem?_set, if_pos rfl, if_pos (by omega)]
            rfl
          simp only at hrest
          have hlc : (F c.cells.length).chg.length = (F k).chg.length + 1 + rest.length := by rw [hrest, List.length_append, List.length_append]; rfl
          have gc : (r1 (F c.cells.length).chg)[(((F k).chg.length : Nat) : Int).toNat]? = some [i64 (k : Int)] := r1_get (by rw [hrest, Int.toNat_natCast, List.append_assoc, List.getElem?_append_right (by omega)]; simp)
          have hfl2 : b % 8 ≤ tick - tick := by omega
          refine ⟨by kernel_rfl, ?_⟩
          conv => whnf
          refine ⟨_, _, cellW_c' c s2 k hok2, ?_⟩
          conv => whnf
          refine ⟨by omega, by omega, _, gx, ?_⟩
          conv => whnf
          refine spB3 (by rw [hcx, decide_eq_true hfl2, bne_iff_ne]; omega) ?_
          conv => whnf
          refine spD (fun _ => ?_) (fun h => absurd hfl2 h) <;> conv => whnf
          refine ⟨_, _, cellW_c' c s2 k hok2, ?_⟩
          conv => whnf
          refine spSame hcx ?_
          conv => whnf
          refine spD (fun _ => ?_) (fun h => absurd hfl2 h) <;> conv => whnf
          refine spD (fun h12 => by omega) (fun h12 => ?_) <;> conv => whnf
          refine ⟨by omega, by omega, _, gc, ?_⟩
          conv => whnf
          refine spSame rfl ?_
          conv => whnf
          refine gv (by first | omega | (simp only []; omega) | (simp; omega)) (by first | omega | (simp only []; omega) | (simp; omega)) ?_
          conv => whnf
          refine ⟨by omega, by rw [List.length_set]; omega, _, gn tick, ?_⟩
          conv => whnf
          refine gv (by first | omega | (simp only []; omega) | (simp; omega)) (by first | omega | (simp only []; omega) | (simp; omega)) ?_
          conv => whnf
          refine ⟨⟨hk', hk'⟩, [(6, some 6)], ?_⟩
          rw [hstep]
          repeat' (first | exact trivial | rfl | refine And.intro ?_ ?_)
          all_goals (conv => whnf)
          repeat' (first | exact trivial | rfl | refine And.intro ?_ ?_)
          · simp
          · rw [List.set_set]; exact (r1_set' _ _ _).symm
        · rw [hwait hgo hfl] at hstep
          rw [hstep] at hcell
          have hcx : verdAt s2.ver k = x := by rw [hcell]; simp [hbe]
          have hfl2 : ¬ b % 8 ≤ tick - tick := by omega
          refine ⟨by kernel_rfl, ?_⟩
          conv => whnf
          refine ⟨_, _, cellW_c' c s2 k hok2, ?_⟩
          conv => whnf
          refine ⟨by omega, by omega, _, gx, ?_⟩
          conv => whnf
          refine spB3 (by rw [hcx, decide_eq_false hfl2]; simp) ?_
          conv => whnf
          refine spD (fun h => absurd h hfl2) (fun _ => ?_) <;> conv => whnf
          refine spD (fun h => absurd h hfl2) (fun _ => ?_) <;> conv => whnf
          refine gv (by first | omega | (simp only []; omega) | (simp; omega)) (by first | omega | (simp only []; omega) | (simp; omega)) ?_
          conv => whnf
          refine ⟨⟨hk', hk'⟩, [(6, some 6)], ?_⟩
          rw [hstep]
          repeat' (first | exact trivial | rfl | refine And.intro ?_ ?_)
          all_goals (conv => whnf)
          repeat' (first | exact trivial | rfl | refine And.intro ?_ ?_)
          exact (r1_set' _ _ _).symm
      · have hsi : sinceT d tick = d := by simp [sinceT, h10]
        rw [hsi] at hflip hwait
        refine ⟨by kernel_rfl, ?_⟩
        conv => whnf
        refine ⟨by omega, by omega, _, gd, ?_⟩
        conv => whnf
        refine spD (fun h11 => ?_) (fun h11 => by omega) <;> conv => whnf
        refine ⟨by omega, by omega, _, gd, ?_⟩
        conv => whnf
        refine gv (by first | omega | (simp only []; omega) | (simp; omega)) (by first | omega | (simp only []; omega) | (simp; omega)) ?_
        conv => whnf
        by_cases hfl : s.hold ≤ tick - d
        · rw [hflip hgo hfl] at hstep
          rw [hstep] at hcell hrest
          have hcx : verdAt s2.ver k = v := by
            rw [hcell]
            show (((F k).ver.set k v)[k]?).getD 3 = v
            rw [List.getElem?_set, if_pos rfl, if_pos (by omega)]
            rfl
          simp only at hrest
          have hlc : (F c.cells.length).chg.length = (F k).chg.length + 1 + rest.length := by rw [hrest, List.length_append, List.length_append]; rfl
          have gc : (r1 (F c.cells.length).chg)[(((F k).chg.length : Nat) : Int).toNat]? = some [i64 (k : Int)] := r1_get (by rw [hrest, Int.toNat_natCast, List.append_assoc, List.getElem?_append_right (by omega)]; simp)
          have hfl2 : b % 8 ≤ tick - d := by omega
          refine ⟨by kernel_rfl, ?_⟩
          conv => whnf
          refine ⟨_, _, cellW_c' c s2 k hok2, ?_⟩
          conv => whnf
          refine ⟨by omega, by omega, _, gx, ?_⟩
          conv => whnf
          refine spB3 (by rw [hcx, decide_eq_true hfl2, bne_iff_ne]; omega) ?_
          conv => whnf
          refine spD (fun _ => ?_) (fun h => absurd hfl2 h) <;> conv => whnf
          refine ⟨_, _, cellW_c' c s2 k hok2, ?_⟩
          conv => whnf
          refine spSame hcx ?_
          conv => whnf
          refine spD (fun _ => ?_) (fun h => absurd hfl2 h) <;> conv => whnf
          refine spD (fun h12 => by omega) (fun h12 => ?_) <;> conv => whnf
          refine ⟨by omega, by omega, _, gc, ?_⟩
          conv => whnf
          refine spSame rfl ?_
          conv => whnf
          refine gv (by first | omega | (simp only []; omega) | (simp; omega)) (by first | omega | (simp only []; omega) | (simp; omega)) ?_
          conv => whnf
          refine ⟨by omega, by omega, _, gd, ?_⟩
          conv => whnf
          refine gv (by first | omega | (simp only []; omega) | (simp; omega)) (by first | omega | (simp only []; omega) | (simp; omega)) ?_
          conv => whnf
          refine ⟨⟨hk', hk'⟩, [(6, some 6)], ?_⟩
          rw [hstep]
          repeat' (first | exact trivial | rfl | refine And.intro ?_ ?_)
          all_goals (conv => whnf)
          repeat' (first | exact trivial | rfl | refine And.intro ?_ ?_)
          · simp
          · exact (r1_set' _ _ _).symm
        · rw [hwait hgo hfl] at hstep
          rw [hstep] at hcell
          have hcx : verdAt s2.ver k = x := by rw [hcell]; simp [hbe]
          have hfl2 : ¬ b % 8 ≤ tick - d := by omega
          refine ⟨by kernel_rfl, ?_⟩
          conv => whnf
          refine ⟨_, _, cellW_c' c s2 k hok2, ?_⟩
          conv => whnf
          refine ⟨by omega, by omega, _, gx, ?_⟩
          conv => whnf
          refine spB3 (by rw [hcx, decide_eq_false hfl2]; simp) ?_
          conv => whnf
          refine spD (fun h => absurd h hfl2) (fun _ => ?_) <;> conv => whnf
          refine spD (fun h => absurd h hfl2) (fun _ => ?_) <;> conv => whnf
          refine gv (by first | omega | (simp only []; omega) | (simp; omega)) (by first | omega | (simp only []; omega) | (simp; omega)) ?_
          conv => whnf
          refine ⟨⟨hk', hk'⟩, [(6, some 6)], ?_⟩
          rw [hstep]
          repeat' (first | exact trivial | rfl | refine And.intro ?_ ?_)
          all_goals (conv => whnf)
          repeat' (first | exact trivial | rfl | refine And.intro ?_ ?_)
          exact congrArg r1 (set_self hd)
    · have hk' : k = c.cells.length := by omega
      subst hk'
      refine spSame (by rw [hrchg]) ?_
      conv => whnf
      refine gv (by first | omega | (simp only []; omega) | (simp; omega)) (by first | omega | (simp only []; omega) | (simp; omega)) ?_
      conv => whnf
      refine ⟨⟨(i + 1, tick, s2), hi', ⟨htb.1, htb.2.1⟩, by show s2.tick ≤ tick; omega, by show s2.reps.length ≤ i + 1; rw [har]; omega, a5.trans hs1h, hok2⟩, [(2, some 2), (3, some 3), (4, some 4), (5, some 5), (6, some 6)], ?_, by show steps.length - (i + 1) < steps.length - i; omega⟩
      repeat' (first | exact trivial | rfl | refine And.intro ?_ ?_)
      all_goals (conv => whnf)
      repeat' (first | exact trivial | rfl | refine And.intro ?_ ?_)
      rw [a2]
  · refine ⟨_, _, awake23_c, ?_⟩
    conv => whnf
    exact ⟨[], rfl, rfl, trivial⟩

end Go.Proofs.Ytladepmfgbfkpaa
