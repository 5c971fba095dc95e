/- Contracts: the mill's tape and its configurations. Conditions: those ahead of each theorem. -/
import Derived.Test.YtncckpieemmmfaaGreatMkG
namespace Go.Proofs.YtncckpieemmmfaaGreat
open Go Go.Cpl

theorem lightM_c (l : List Int) : CallsH Tryz.prog 11 [.c (.d (.sl (r1 l)))] [] (B (decide ((l.length : Int) ≤ 150))) [] := by
  have hl := r1_len l
  refine callsR_of tab mixed Tryz.func11 rfl (by decide) rfl rfl ?_
  conv => whnf
  refine ⟨[], rfl, ?_, trivial⟩
  simp [mtV, Cpl.valOf, mtC, eqD, hl]

theorem modM_e (v n : Int) (hn : 0 < n) (hn' : n ≤ 1000000) : ∃ r, (0 ≤ r ∧ r < n) ∧ CallsH Tryz.prog 14 [I v, I n] [] (I r) [] := by
  have h1 := Int.emod_nonneg v (b := n) (by omega)
  have h2 := Int.emod_lt_of_pos v hn
  have e := Int.tmod_eq_emod (a := v) (b := n)
  have hr : -n < v.tmod n ∧ v.tmod n < n := by rw [e]; split <;> omega
  refine ⟨if v.tmod n < 0 then v.tmod n + n else v.tmod n, by split <;> omega, ?_⟩
  refine callsR_of tab mixed Tryz.func14 rfl (by decide) rfl rfl ?_
  conv => whnf
  refine ⟨by omega, .intro (v.tmod n) rfl ?_⟩
  conv => whnf
  refine spD (fun h => ?_) (fun h => ?_) <;> conv => whnf
  · rw [if_pos (by simpa using h)]
    refine gv (by first | omega | (simp only []; omega) | (simp; omega)) (by first | omega | (simp only []; omega) | (simp; omega)) ?_
    conv => whnf
    exact ⟨[], rfl, ⟨rfl, rfl⟩, trivial⟩
  · rw [if_neg (by simpa using h)]
    exact ⟨[], rfl, ⟨rfl, rfl⟩, trivial⟩

theorem newM_c (l : List Int) : CallsH Tryz.prog 47 [.c (.d (.sl (r1 l)))] [] (.c (.ptr 0 0 0)) [tapeO l 0] := by
  refine callsR_of tab mixed Tryz.func47 rfl (by decide) rfl rfl ?_
  conv => whnf
  exact ⟨[(0, some 0)], rfl, ⟨rfl, rfl, rfl⟩, ⟨⟨rfl, ⟨rfl, rfl⟩, trivial⟩, trivial⟩⟩

/-- how the mill's tape goes on -/
def Mv (l : List Int) (a a' : Int) : Prop := a ≤ a' ∧ a' ≤ l.length ∧ (a < l.length → a' = a + 1)

theorem nextM_e {l : List Int} {a n : Int} (ha : 0 ≤ a ∧ a ≤ l.length) (hl : l.length ≤ 100000) (hn : 0 < n) (hn' : n ≤ 1000000) : ∃ v a', ((0 ≤ v ∧ v < n) ∧ Mv l a a') ∧ CallsH Tryz.prog 50 [.c (.ptr 0 0 0), I n] [tapeO l a] (I v) [tapeO l a'] := by
  have hl1 := r1_len l
  rcases Int.lt_or_le a l.length with h1 | h1
  · obtain ⟨x, hx⟩ := get_int (l := l) ha.1 (by omega)
    obtain ⟨r, hr, hc⟩ := modM_e x n hn hn'
    refine ⟨r, a + 1, ⟨hr, by omega, by omega, fun _ => rfl⟩, ?_⟩
    refine callsR_of tab mixed Tryz.func50 rfl (by decide) rfl rfl ?_
    conv => whnf
    refine ⟨by kernel_rfl, ?_⟩
    conv => whnf
    refine spD (fun h => ?_) (fun h => ?_) <;> conv => whnf
    · omega
    · refine gv (by first | omega | (simp only []; omega) | (simp; omega)) (by first | omega | (simp only []; omega) | (simp; omega)) ?_
      conv => whnf
      refine ⟨by kernel_rfl, ?_⟩
      conv => whnf
      refine gv (by first | omega | (simp only []; omega) | (simp; omega)) (by first | omega | (simp only []; omega) | (simp; omega)) ?_
      conv => whnf
      have e : a + 1 - 1 = a := by omega
      refine ⟨by omega, _, r1_get (by rw [e]; exact hx), ?_⟩
      conv => whnf
      refine ⟨_, _, hc, ?_⟩
      conv => whnf
      exact ⟨[(0, some 0)], rfl, ⟨rfl, rfl⟩, ⟨⟨rfl, ⟨rfl, rfl⟩, trivial⟩, trivial⟩⟩
  · refine ⟨0, a, ⟨by omega, by omega, by omega, fun _ => by omega⟩, ?_⟩
    refine callsR_of tab mixed Tryz.func50 rfl (by decide) rfl rfl ?_
    conv => whnf
    refine ⟨by kernel_rfl, ?_⟩
    conv => whnf
    refine spD (fun h => ?_) (fun h => ?_) <;> conv => whnf
    · exact ⟨[(0, some 0)], rfl, ⟨rfl, rfl⟩, ⟨⟨rfl, ⟨rfl, rfl⟩, trivial⟩, trivial⟩⟩
    · omega

theorem rangeM_e {l : List Int} {a lo hi : Int} (ha : 0 ≤ a ∧ a ≤ l.length) (hl : l.length ≤ 100000) (hn : lo ≤ hi) (hlo : -1000 ≤ lo) (hhi : hi ≤ 100000) : ∃ v a', ((lo ≤ v ∧ v ≤ hi) ∧ Mv l a a') ∧ CallsH Tryz.prog 49 [.c (.ptr 0 0 0), I lo, I hi] [tapeO l a] (I v) [tapeO l a'] := by
  obtain ⟨v, a', ⟨h1, h2⟩, hc⟩ := nextM_e (n := hi - lo + 1) ha hl (by omega) (by omega)
  refine ⟨lo + v, a', ⟨by omega, h2⟩, ?_⟩
  refine callsR_of tab mixed Tryz.func49 rfl (by decide) rfl rfl ?_
  conv => whnf
  refine gv (by first | omega | (simp only []; omega) | (simp; omega)) (by first | omega | (simp only []; omega) | (simp; omega)) ?_
  conv => whnf
  refine gv (by first | omega | (simp only []; omega) | (simp; omega)) (by first | omega | (simp only []; omega) | (simp; omega)) ?_
  conv => whnf
  refine ⟨_, _, hc, ?_⟩
  conv => whnf
  refine gv (by first | omega | (simp only []; omega) | (simp; omega)) (by first | omega | (simp only []; omega) | (simp; omega)) ?_
  conv => whnf
  exact ⟨[(0, some 0)], rfl, ⟨rfl, rfl⟩, ⟨⟨rfl, ⟨rfl, rfl⟩, trivial⟩, trivial⟩⟩

theorem moreM_c (l : List Int) (a : Int) : CallsH Tryz.prog 48 [.c (.ptr 0 0 0)] [tapeO l a] (B (decide (a < l.length))) [tapeO l a] := by
  have hl := r1_len l
  refine callsR_of tab mixed Tryz.func48 rfl (by decide) rfl rfl ?_
  conv => whnf
  refine ⟨by kernel_rfl, ?_⟩
  conv => whnf
  refine ⟨[(0, some 0)], rfl, ?_, ⟨⟨rfl, ⟨rfl, rfl⟩, trivial⟩, trivial⟩⟩
  simp [mtV, Cpl.valOf, mtC, eqD, hl]

theorem entryM_c (k t i a b : Int) : CallsH Tryz.prog 75 [I k, I t, I i, I a, I b] [] (.agg [.d (i64 k), .d (i64 t), .d (i64 i), .d (i64 a), .d (i64 b), .d (i64 0), .d (i64 0), .d (i64 0), .d (i64 0)]) [] := by
  refine callsR_of tab mixed Tryz.func75 rfl (by decide) rfl rfl ?_
  conv => whnf
  exact ⟨[], rfl, ⟨⟨rfl, rfl⟩, ⟨rfl, rfl⟩, ⟨rfl, rfl⟩, ⟨rfl, rfl⟩, ⟨rfl, rfl⟩, ⟨rfl, rfl⟩, ⟨rfl, rfl⟩, ⟨rfl, rfl⟩, ⟨rfl, rfl⟩, trivial⟩, trivial⟩

theorem exM {P : Program} {f : FuncId} {args : List AV} {hin : List HObj} {l : List Int} {p : Int → Prop} {a : Int} {K : AV → List HObj → Prop} (h : ∃ v a', (p v ∧ Mv l a a') ∧ CallsH P f args hin (I v) [tapeO l a']) (hk : ∀ v a', p v → Mv l a a' → K (I v) [tapeO l a']) : ∃ res hout, CallsH P f args hin res hout ∧ K res hout := by
  obtain ⟨v, a', ⟨h1, h2⟩, hc⟩ := h
  exact ⟨_, _, hc, hk v a' h1 h2⟩

theorem mv_in {l : List Int} {a a' : Int} (ha : 0 ≤ a ∧ a ≤ l.length) (h : Mv l a a') : 0 ≤ a' ∧ a' ≤ l.length := ⟨by have := h.1; omega, h.2.1⟩

structure ZJ (l : List Int) (R : Int) where
  i : Nat
  zs : List Int
  cs : List (Int × Int)
  a : Int
  hi : (i : Int) ≤ R
  hz : zs.length = i
  hz2 : ∀ (k : Nat) x, zs[k]? = some x → x = k
  hc : cs.length ≤ 2 * i
  hc2 : ∀ x ∈ cs, (0 ≤ x.1 ∧ x.1 < i) ∧ 8 ≤ x.2 ∧ x.2 ≤ 30
  hc3 : 0 < i → ∃ x, cs[0]? = some x ∧ x.1 = 0
  ha : 0 ≤ a ∧ a ≤ l.length

structure ZK (l : List Int) (i : Nat) where
  k : Int
  cs : List (Int × Int)
  a : Int
  hk : 0 ≤ k
  hc : cs.length + k ≤ 2 * i + 2
  hc2 : ∀ x ∈ cs, (0 ≤ x.1 ∧ x.1 < i + 1) ∧ 8 ≤ x.2 ∧ x.2 ≤ 30
  hc3 : k = 0 ∨ 0 < i → ∃ x, cs[0]? = some x ∧ x.1 = 0
  hc4 : 0 < cs.length ∨ (i = 0 ∧ 0 < k)
  ha : 0 ≤ a ∧ a ≤ l.length

structure TK (l : List Int) (R : Int) where
  k : Int
  ts : List Tenant
  a : Int
  hk : 0 ≤ k
  hc : ts.length + k ≤ 8
  hc1 : 2 ≤ ts.length + k
  hc2 : ∀ x ∈ ts, okT R x
  ha : 0 ≤ a ∧ a ≤ l.length

structure MillCfg (c : Cfg) : Prop where
  wg : WG c
  few : 2 ≤ c.tenants.length ∧ c.tenants.length ≤ 8
  zero : 0 < (inRegion c 0).length

def RCfg (l : List Int) (res : AV) (hout : List HObj) : Prop := ∃ c a, res = cfgV c ∧ hout = [tapeO l a] ∧ MillCfg c ∧ 0 ≤ a ∧ a ≤ l.length

theorem millCfg {R v1 v2 v3 v4 v5 v6 : Int} {zs : List Int} {cs : List (Int × Int)} {ts : List Tenant} (hR : 2 ≤ R ∧ R ≤ 3) (h1 : 1 ≤ v1 ∧ v1 ≤ 2) (h2 : 2 ≤ v2 ∧ v2 ≤ 8) (h3 : 0 ≤ v3 ∧ v3 < 5)
    (hz : (zs.length : Int) = R) (hz2 : ∀ (k : Nat) x, zs[k]? = some x → x = k) (hc : (cs.length : Int) ≤ 2 * R) (hc2 : ∀ x ∈ cs, (0 ≤ x.1 ∧ x.1 < R) ∧ 8 ≤ x.2 ∧ x.2 ≤ 30) (hc3 : ∃ x, cs[0]? = some x ∧ x.1 = 0)
    (ht : 2 ≤ ts.length ∧ ts.length ≤ 8) (ht2 : ∀ x ∈ ts, okT R x) : MillCfg ⟨R, zs, cs, ts, [(0, 2), (0, v4), (v5, 2)], [v6, R - 1, R - 1], [0], v1, v2, v3⟩ := by
  obtain ⟨x, hx, hx0⟩ := hc3
  have hl := (List.getElem?_eq_some_iff.1 hx).1
  refine ⟨⟨⟨⟨by dsimp only; omega, by dsimp only; omega, fun y hy => ?_, fun y hy => ?_, fun y hy => ?_, by dsimp only; omega⟩, by dsimp only; omega, by dsimp only; omega, by dsimp only; omega, by dsimp only; omega, ht2⟩, by dsimp only; omega, by simp, by dsimp only; omega, by dsimp only; omega, fun y hy => ?_⟩, ht, ?_⟩
  · have := hc2 y hy; dsimp only; omega
  · obtain ⟨k, hk⟩ := List.mem_iff_getElem?.1 hy
    have hk' := (List.getElem?_eq_some_iff.1 hk).1
    have := hz2 k y hk; dsimp only at *; omega
  · have := hc2 y hy; omega
  · have := hc2 y hy; omega
  · have hz0 : ∃ z, zs[0]? = some z := get_of (by omega)
    obtain ⟨z, hz0⟩ := hz0
    have := hz2 0 z hz0
    have hr : ∀ (c : Cfg), c.zones = zs → c.cells = cs → (0 : Int) ∈ inRegion c 0 := by
      intro c e1 e2
      have hr0 : regionOf c 0 = 0 := by simp [regionOf, regionOfZone, zoneOf, e1, e2, hx, hx0, hz0, this]
      have : ∀ n, 0 < n → (0 : Int) ∈ upto (fun i => decide (regionOf c i = 0)) n := by
        intro n
        induction n with
        | zero => intro h; omega
        | succ n ih =>
          intro _
          rcases Nat.eq_zero_or_pos n with e | e
          · subst e
            rw [upto_yes (by simpa using hr0)]
            simp
          · rw [upto]
            split
            · simp [ih e]
            · exact ih e
      unfold inRegion
      exact this _ (by rw [e2]; exact hl)
    exact List.length_pos_of_mem (hr _ rfl rfl)

set_option maxHeartbeats 2000000 in
set_option maxRecDepth 100000 in
theorem config_q (l : List Int) (a : Int) (ha : 0 ≤ a ∧ a ≤ l.length) (hl : l.length ≤ 1000) : ExH Tryz.prog 70 [.c (.ptr 0 0 0)] [tapeO l a] (RCfg l) := by
  refine callsE_of tab mixed noRel Tryz.func70 rfl (by decide) rfl rfl ?_
  conv => whnf
  refine exM (rangeM_e ha (by omega) (by omega) (by omega) (by omega)) (fun R a1 hR m1 => ?_)
  conv => whnf
  have ha := mv_in ha m1
  refine exM (rangeM_e ha (by omega) (by omega) (by omega) (by omega)) (fun v1 a2 h1 m2 => ?_)
  conv => whnf
  have ha := mv_in ha m2
  refine exM (rangeM_e ha (by omega) (by omega) (by omega) (by omega)) (fun v2 a3 h2 m3 => ?_)
  conv => whnf
  have ha := mv_in ha m3
  refine exM (nextM_e ha (by omega) (by omega) (by omega)) (fun v3 a4 h3 m4 => ?_)
  conv => whnf
  have ha := mv_in ha m4
  refine exM (nextM_e ha (by omega) (by omega) (by omega)) (fun v4 a5 h4 m5 => ?_)
  conv => whnf
  have ha := mv_in ha m5
  refine gv (by first | omega | (simp only []; omega) | (simp; omega)) (by first | omega | (simp only []; omega) | (simp; omega)) ?_
  conv => whnf
  refine exM (nextM_e ha (by omega) (by omega) (by omega)) (fun v5 a6 h5 m6 => ?_)
  conv => whnf
  have ha := mv_in ha m6
  clear m1 m2 m3 m4 m5 m6
  refine loopE tab mixed noRel (ι := ZJ l R) (fun k => [(4, I k.i)]) (fun k => [(0, tapeO l k.a), (4, .box [.d (i64 R), .gs 50, .gs 60, .ns, .gs 2, .ns, .gs 3, .d (i64 v1), .d (i64 v2), .d (i64 v3)]), (50, .arr 127 (r1 k.zs)), (60, .arr 65 (r2 k.cs))]) 61 (fun k => (R - k.i).toNat) ⟨0, [], [], a6, by omega, rfl, by simp, by simp, by simp, by simp, ha⟩ [(0, some 0), (4, some 4), (50, none), (60, none)] ?_
  conv => whnf
  refine ⟨?_, fun k => ?_⟩
  · repeat' (first | exact trivial | rfl | refine And.intro ?_ ?_)
    all_goals (conv => whnf)
    repeat' (first | exact trivial | rfl | refine And.intro ?_ ?_)
  obtain ⟨i, zs, cs, a, hi, hz, hz2, hc, hc2, hc3, ha⟩ := k
  dsimp only
  conv => whnf
  refine spD (fun q1 => ?_) (fun q1 => ?_) <;> conv => whnf
  · refine ⟨row1 _ rfl, ⟨by simp [r1]; omega⟩, ?_⟩
    conv => whnf
    refine exM (rangeM_e ha (by omega) (by omega) (by omega) (by omega)) (fun k0 b1 hk0 m1 => ?_)
    conv => whnf
    have hb := mv_in ha m1
    refine loopE tab mixed noRel (ι := ZK l i) (fun k => [(5, I k.k)]) (fun k => [(0, tapeO l k.a), (4, .box [.d (i64 R), .gs 62, .gs 60, .ns, .gs 2, .ns, .gs 3, .d (i64 v1), .d (i64 v2), .d (i64 v3)]), (60, .arr 65 (r2 k.cs))]) 71 (fun k => k.k.toNat) ⟨k0, cs, b1, by omega, by omega, fun x hx => by have := hc2 x hx; omega, fun h => hc3 (by omega), ?_, hb⟩ [(0, some 0), (4, some 4), (60, some 60)] ?_
    · rcases Nat.eq_zero_or_pos i with e | e
      · right; omega
      · obtain ⟨x, hx, _⟩ := hc3 e
        left; exact (List.getElem?_eq_some_iff.1 hx).1
    conv => whnf
    refine ⟨?_, fun k => ?_⟩
    · repeat' (first | exact trivial | rfl | refine And.intro ?_ ?_)
      all_goals (conv => whnf)
      repeat' (first | exact trivial | rfl | refine And.intro ?_ ?_)
    obtain ⟨k, ds, b, hk, hd, hd2, hd3, hd4, hb⟩ := k
    dsimp only
    conv => whnf
    refine spD (fun q2 => ?_) (fun q2 => ?_) <;> conv => whnf
    · refine ⟨by kernel_rfl, ?_⟩
      conv => whnf
      refine exM (rangeM_e hb (by omega) (by omega) (by omega) (by omega)) (fun cap b2 hcap m2 => ?_)
      conv => whnf
      have hb := mv_in hb m2
      refine ⟨by simp [D.scalar], ⟨by simp [r2]; omega⟩, ?_⟩
      conv => whnf
      refine gv (by first | omega | (simp only []; omega) | (simp; omega)) (by first | omega | (simp only []; omega) | (simp; omega)) ?_
      conv => whnf
      refine ⟨⟨k - 1, ds ++ [((i : Int), cap)], b2, by omega, by simp; omega, ?_, fun _ => ?_, by simp, hb⟩, [(0, some 0), (4, some 4), (60, some 72)], ?_, by show (k - 1).toNat < k.toNat; omega⟩
      · intro x hx
        rcases List.mem_append.1 hx with h | h
        · exact hd2 x h
        · have := List.mem_singleton.1 h
          subst this
          dsimp only; omega
      · rcases hd4 with h | ⟨h, _⟩
        · rcases Nat.eq_zero_or_pos i with e | e
          · obtain ⟨x, hx⟩ := get_of h
            have := hd2 x (List.mem_of_getElem? hx)
            exact ⟨x, by rw [List.getElem?_append_left h]; exact hx, by omega⟩
          · obtain ⟨x, hx, hx0⟩ := hd3 (.inr e)
            exact ⟨x, by rw [List.getElem?_append_left h]; exact hx, hx0⟩
        · rcases Nat.eq_zero_or_pos ds.length with e | e
          · rw [List.length_eq_zero_iff.1 e]
            exact ⟨_, rfl, by dsimp only; omega⟩
          · obtain ⟨x, hx⟩ := get_of e
            have := hd2 x (List.mem_of_getElem? hx)
            exact ⟨x, by rw [List.getElem?_append_left e]; exact hx, by omega⟩
      repeat' (first | exact trivial | rfl | refine And.intro ?_ ?_)
      all_goals (conv => whnf)
      repeat' (first | exact trivial | rfl | refine And.intro ?_ ?_)
      exact (r2_app _ _ _).symm
    · refine gv (by first | omega | (simp only []; omega) | (simp; omega)) (by first | omega | (simp only []; omega) | (simp; omega)) ?_
      conv => whnf
      refine ⟨⟨i + 1, zs ++ [(i : Int)], ds, b, by omega, by simp [hz], ?_, by omega, fun x hx => by have := hd2 x hx; omega, fun _ => hd3 (.inl (by omega)), hb⟩, [(0, some 0), (4, some 4), (50, some 62), (60, some 60)], ?_, by show (R - (i + 1 : Nat)).toNat < (R - i).toNat; omega⟩
      · intro k x hx
        rcases app_get hx with h | ⟨h, h'⟩
        · exact hz2 k x h
        · rw [h', h, hz]
      repeat' (first | exact trivial | rfl | refine And.intro ?_ ?_)
      all_goals (conv => whnf)
      repeat' (first | exact trivial | rfl | refine And.intro ?_ ?_)
      exact (r1_app _ _).symm
  have hi' : (i : Int) = R := by omega
  have hc3 := hc3 (by omega)
  refine exM (rangeM_e ha (by omega) (by omega) (by omega) (by omega)) (fun k0 b1 hk0 m1 => ?_)
  conv => whnf
  have hb := mv_in ha m1
  refine loopE tab mixed noRel (ι := TK l R) (fun k => [(6, I k.k)]) (fun k => [(0, tapeO l k.a), (4, .box [.d (i64 R), .gs 50, .gs 60, .gs 80, .gs 2, .ns, .gs 3, .d (i64 v1), .d (i64 v2), .d (i64 v3)]), (80, .arr 67 (rT k.ts))]) 81 (fun k => k.k.toNat) ⟨k0, [], b1, by omega, by simp; omega, by simp; omega, by simp, hb⟩ [(0, some 0), (4, some 4), (80, none)] ?_
  conv => whnf
  refine ⟨?_, fun k => ?_⟩
  · repeat' (first | exact trivial | rfl | refine And.intro ?_ ?_)
    all_goals (conv => whnf)
    repeat' (first | exact trivial | rfl | refine And.intro ?_ ?_)
  obtain ⟨k, ts, b, hk, hd, hd1, hd2, hb⟩ := k
  dsimp only
  conv => whnf
  refine spD (fun q2 => ?_) (fun q2 => ?_) <;> conv => whnf
  · refine exM (rangeM_e hb (by omega) (by omega) (by omega) (by omega)) (fun n b1 hn m1 => ?_)
    conv => whnf
    have hb := mv_in hb m1
    have hR' : 1 ≤ R ∧ R ≤ 3 := by omega
    have hP := two_pow hR'
    refine ⟨by kernel_rfl, ?_⟩
    conv => whnf
    refine gv (by first | omega | (simp only []; omega) | (simp; omega)) (by first | omega | (simp only []; omega) | (simp; omega)) ?_
    conv => whnf
    refine exM (nextM_e hb (by omega) (by omega) (by omega)) (fun sh b2 hsh m2 => ?_)
    conv => whnf
    have hb := mv_in hb m2
    refine exM (nextM_e hb (by omega) (by omega) (by omega)) (fun pr b3 hpr m3 => ?_)
    conv => whnf
    have hb := mv_in hb m3
    refine exM (rangeM_e hb (by omega) (by omega) (by omega) (by omega)) (fun lag b4 hlag m4 => ?_)
    conv => whnf
    have hb := mv_in hb m4
    refine gvu (by first | omega | (simp only []; omega) | (simp; omega)) (by first | omega | (simp only []; omega) | (simp; omega)) ?_
    conv => whnf
    refine ⟨by omega, .intro _ (shl1 hR') ?_⟩
    conv => whnf
    refine gv (by first | omega | (simp only []; omega) | (simp; omega)) (by first | omega | (simp only []; omega) | (simp; omega)) ?_
    conv => whnf
    refine ⟨by simp [D.scalar], ⟨by simp [rT]; omega⟩, ?_⟩
    conv => whnf
    refine gv (by first | omega | (simp only []; omega) | (simp; omega)) (by first | omega | (simp only []; omega) | (simp; omega)) ?_
    conv => whnf
    refine ⟨⟨k - 1, ts ++ [⟨n, sh, pr, lag, 2 ^ R.toNat - 1, 0, false⟩], b4, by omega, by simp; omega, by simp; omega, ?_, hb⟩, [(0, some 0), (4, some 4), (80, some 82)], ?_, by show (k - 1).toNat < k.toNat; omega⟩
    · intro x hx
      rcases List.mem_append.1 hx with h | h
      · exact hd2 x h
      · have := List.mem_singleton.1 h
        subst this
        unfold okT
        dsimp only
        omega
    repeat' (first | exact trivial | rfl | refine And.intro ?_ ?_)
    all_goals (conv => whnf)
    repeat' (first | exact trivial | rfl | refine And.intro ?_ ?_)
    exact (by simp [rT])
  · refine ⟨by kernel_rfl, ?_⟩
    conv => whnf
    refine exM (nextM_e hb (by omega) (by omega) (by omega)) (fun v6 b1 hv6 m1 => ?_)
    conv => whnf
    have hb := mv_in hb m1
    refine gv (by first | omega | (simp only []; omega) | (simp; omega)) (by first | omega | (simp only []; omega) | (simp; omega)) ?_
    conv => whnf
    refine gv (by first | omega | (simp only []; omega) | (simp; omega)) (by first | omega | (simp only []; omega) | (simp; omega)) ?_
    conv => whnf
    refine ⟨_, _, ⟨⟨R, zs, cs, ts, [(0, 2), (0, 1 + v4), (v5, 2)], [v6, R - 1, R - 1], [0], v1, v2, v3⟩, b1, rfl, rfl, millCfg hR h1 h2 h3 (by omega) hz2 (by omega) (fun x hx => by have := hc2 x hx; omega) hc3 (by omega) hd2, hb⟩, [(0, some 0)], rfl, ?_⟩
    repeat' (first | exact trivial | rfl | refine And.intro ?_ ?_)
    all_goals (conv => whnf)
    repeat' (first | exact trivial | rfl | refine And.intro ?_ ?_)

end Go.Proofs.YtncckpieemmmfaaGreat
