/- Contracts: the steps that move a tenant (evacplan). Conditions: those ahead of each theorem. -/
import Derived.Test.YtncckpieemmmfaaGreatEvD
namespace Go.Proofs.YtncckpieemmmfaaGreat
open Go Go.Cpl

structure PkJ (c : Cfg) (L ysF : List Int) (mF : Int) where
  i : Nat
  m : Int
  ys : List Int
  hi : i ≤ L.length
  h1 : ysF = ys ++ (pick c m (L.drop i)).1
  h2 : mF = (pick c m (L.drop i)).2
  hm : -1000000000200000 - 65536 * (i : Int) ≤ m ∧ m ≤ 1000000000200000
  hy : ys.length ≤ i

theorem pick_end {c : Cfg} {L : List Int} {i : Nat} {m : Int} (h : L.length ≤ i ∨ m ≤ 0) : pick c m (L.drop i) = ([], m) := by
  rcases h with h | h
  · rw [List.drop_eq_nil_of_le h]; rfl
  · cases L.drop i with
    | nil => rfl
    | cons y r => simp [pick, h]

theorem pick_go {c : Cfg} {L : List Int} {i : Nat} {m y : Int} (hy : L[i]? = some y) (h : ¬ m ≤ 0) : (pick c m (L.drop i)).1 = y :: (pick c (m - ldOf c y) (L.drop (i + 1))).1 ∧ (pick c m (L.drop i)).2 = (pick c (m - ldOf c y) (L.drop (i + 1))).2 := by
  rw [drop_of hy]
  simp [pick, h]

theorem steps_none {c : Cfg} {s : St} {p : Sit} {x : Int} {t : Seat} (ht : p.seats[x.toNat]? = some t) (h : ¬ (t.active = true ∧ usableP c s t.standby = true)) : stepsF c s p x = [] := by
  unfold stepsF; rw [ht]; simp only; rw [if_neg h]

theorem steps_over {c : Cfg} {s : St} {p : Sit} {x : Int} {t : Seat} (ht : p.seats[x.toNat]? = some t) (h : 0 < (pickOf c p x t).2) : stepsF c s p x = [] := by
  unfold stepsF; rw [ht]; simp only; rw [if_pos h]; simp

theorem steps_some {c : Cfg} {s : St} {p : Sit} {x : Int} {t : Seat} (ht : p.seats[x.toNat]? = some t) (h : t.active = true ∧ usableP c s t.standby = true) (h2 : ¬ 0 < (pickOf c p x t).2) : stepsF c s p x = (pickOf c p x t).1.map (shS t.standby) ++ [⟨2, x, t.standby⟩] := by
  unfold stepsF; rw [ht]; simp only; rw [if_pos h, if_neg h2]

set_option maxHeartbeats 2000000 in
set_option maxRecDepth 100000 in
theorem steps_c (c : Cfg) (s : St) {b : Int} {se : List Seat} {bk : List Int} (x : Int) (w : WG c) (hn : s.cs.length = c.cells.length) (h : Sz c b se bk) (hx : 0 ≤ x ∧ x < se.length) : CallsH Tryz.prog 34 [.c (.ptr 0 0 0), I x] (sitH c s 138 se bk) (.c (.gs 3)) (sitH c s 138 se bk ++ [.arr 60 (rSt (stepsF c s ⟨se, bk⟩ x))]) := by
  have l1 := rSe_len se
  have l2 := rT_len c.tenants
  have l3 := r2_len c.cells
  have l4 := r1_len bk
  have hnn := h.n
  have hkk := h.k
  have hle := h.le
  have hT := w.few
  have hg := w.good
  obtain ⟨⟨ac, ho, sb, nx, tg⟩, ht⟩ := get_int (l := se) hx.1 (by omega)
  obtain ⟨⟨d1, d2, d3, d4, d5, d6, d7⟩, hd⟩ := get_int (l := c.tenants) hx.1 (by omega)
  have hdd := hg.ten _ (List.mem_of_getElem? hd)
  unfold okT at hdd
  dsimp only at hdd
  by_cases hu : ac = true ∧ usableP c s sb = true
  rotate_left 1
  · rw [steps_none (p := ⟨se, bk⟩) ht hu]
    refine callsR_of tab mixed Tryz.func34 rfl (by decide) rfl rfl ?_
    conv => whnf
    refine ⟨by omega, by omega, _, rSe_get ht, ?_⟩
    conv => whnf
    refine ⟨by kernel_rfl, ?_⟩
    conv => whnf
    cases ac
    · refine ⟨fun _ => ?_, fun q => (by cases q)⟩
      conv => whnf
      refine ⟨[(0, some 0), (1, some 1), (2, some 2), (3, none)], ?_⟩
      repeat' (first | exact trivial | rfl | refine And.intro ?_ ?_)
      all_goals (conv => whnf)
      repeat' (first | exact trivial | rfl | refine And.intro ?_ ?_)
    · refine ⟨fun q => (by cases q), fun _ => ?_⟩
      conv => whnf
      refine ⟨_, _, usable_e c s sb hg hn, ?_⟩
      conv => whnf
      have hu' : usableP c s sb = false := by simpa using hu
      rw [hu']
      refine ⟨fun _ => ?_, fun q => (by cases q)⟩
      conv => whnf
      refine ⟨[(0, some 0), (1, some 1), (2, some 2), (3, none)], ?_⟩
      repeat' (first | exact trivial | rfl | refine And.intro ?_ ?_)
      all_goals (conv => whnf)
      repeat' (first | exact trivial | rfl | refine And.intro ?_ ?_)
  · obtain ⟨hac, hus⟩ := hu
    subst hac
    have hci := usable_in hus
    obtain ⟨y, hy⟩ := get_int (l := c.cells) hci.1 (by omega)
    obtain ⟨z, hz⟩ := get_int (l := bk) hci.1 (by omega)
    have hb := h.bd z (List.mem_of_getElem? hz)
    have hcap := w.caps y (List.mem_of_getElem? hy)
    have em : missF c ⟨se, bk⟩ x ⟨true, ho, sb, nx, tg⟩ = d1 - d2 - (y.2 - z) := by simp [missF, ldOf, shOf, capOf, atI, hd, hy, hz]
    have ep : prioOf c x = d3 := by simp [prioOf, hd]
    have e1 : pickOf c ⟨se, bk⟩ x ⟨true, ho, sb, nx, tg⟩ = pick c (d1 - d2 - (y.2 - z)) (sOrd c (lowL c se sb d3)) := by unfold pickOf; rw [em, ep]
    have hL1 : (lowL c se sb d3).length ≤ 12 := by have := upto_le (lowP c se sb d3) se.length; unfold lowL; omega
    have hso := sOrd_ok c (lowL_ne c se sb d3)
    have hL2 : (sOrd c (lowL c se sb d3)).length ≤ 12 := by unfold sOrd; rw [isort_len]; exact hL1
    have hL3 : ∀ q ∈ sOrd c (lowL c se sb d3), inT c q := fun q hq => low_in hnn q ((hso.2 q).1 hq)
    have h1 := steps_over (s := s) (p := ⟨se, bk⟩) (c := c) ht
    have h2 := steps_some (s := s) (p := ⟨se, bk⟩) (c := c) ht ⟨rfl, hus⟩
    rw [e1] at h1 h2
    dsimp only at h2
    have hcall := below_c c s (b := b) sb d3 w h
    generalize stepsF c s ⟨se, bk⟩ x = res at *
    generalize sOrd c (lowL c se sb d3) = L at *
    have l5 := r1_len L
    have g1 : (pick c (d1 - d2 - (y.2 - z)) L).1 = [] ++ (pick c (d1 - d2 - (y.2 - z)) (L.drop 0)).1 := rfl
    have g2 : (pick c (d1 - d2 - (y.2 - z)) L).2 = (pick c (d1 - d2 - (y.2 - z)) (L.drop 0)).2 := rfl
    have hyl := (pickM_sub (c := c) L (d1 - d2 - (y.2 - z))).length_le
    generalize (pick c (d1 - d2 - (y.2 - z)) L).1 = ysF at *
    generalize (pick c (d1 - d2 - (y.2 - z)) L).2 = mF at *
    have l6 := rSt_len (ysF.map (shS sb))
    refine callsR_of tab mixed Tryz.func34 rfl (by decide) rfl rfl ?_
    conv => whnf
    refine ⟨by omega, by omega, _, rSe_get ht, ?_⟩
    conv => whnf
    refine ⟨by kernel_rfl, ?_⟩
    conv => whnf
    refine ⟨fun q => (by cases q), fun _ => ?_⟩
    conv => whnf
    refine ⟨_, _, usable_e c s sb hg hn, ?_⟩
    conv => whnf
    rw [hus]
    refine ⟨fun q => (by cases q), fun _ => ?_⟩
    conv => whnf
    refine ⟨by omega, _, rT_get hd, ?_⟩
    conv => whnf
    refine ⟨by kernel_rfl, ?_⟩
    conv => whnf
    refine ⟨by dsimp only; omega, _, r2_get hy, ?_⟩
    conv => whnf
    refine ⟨by dsimp only; omega, by dsimp only; omega, _, r1_get hz, ?_⟩
    conv => whnf
    refine gv (by first | omega | (simp only []; omega) | (simp; omega)) (by first | omega | (simp only []; omega) | (simp; omega)) ?_
    conv => whnf
    refine gv (by first | omega | (simp only []; omega) | (simp; omega)) (by first | omega | (simp only []; omega) | (simp; omega)) ?_
    conv => whnf
    refine gv (by first | omega | (simp only []; omega) | (simp; omega)) (by first | omega | (simp only []; omega) | (simp; omega)) ?_
    conv => whnf
    refine ⟨_, _, hcall, ?_⟩
    conv => whnf
    refine loopRX tab mixed (ι := PkJ c L ysF mF) (κ := Unit) (fun k => [(77, I k.i), (8, I k.m), (9, .c (.gs 50))]) (fun k => [(50, .arr 60 (rSt (k.ys.map (shS sb))))]) 51 (fun k => L.length - k.i) 0 (fun _ => [(8, I mF), (9, .c (.gs 50))]) (fun _ => [(50, .arr 60 (rSt (ysF.map (shS sb))))]) 51 ⟨0, d1 - d2 - (y.2 - z), [], by omega, g1, g2, by omega, by simp⟩ [(50, none)] ?_
    conv => whnf
    refine ⟨?_, fun k => ?_, fun k => ?_⟩
    · repeat' (first | exact trivial | rfl | refine And.intro ?_ ?_)
      all_goals (conv => whnf)
      repeat' (first | exact trivial | rfl | refine And.intro ?_ ?_)
    · obtain ⟨i, m, ys, hi, k1, k2, hm, hys⟩ := k
      have l7 := rSt_len (ys.map (shS sb))
      dsimp only
      conv => whnf
      refine spD (fun q1 => ?_) (fun q1 => ?_) <;> conv => whnf
      · have hi' : i < L.length := by omega
        obtain ⟨v, hv⟩ := get_of hi'
        have hvi := hL3 v (List.mem_of_getElem? hv)
        unfold inT at hvi
        obtain ⟨⟨f1, f2, f3, f4, f5, f6, f7⟩, hf⟩ := get_int (l := c.tenants) hvi.1 (by omega)
        have hff := hg.ten _ (List.mem_of_getElem? hf)
        unfold okT at hff
        dsimp only at hff
        have el : ldOf c v = f1 := by simp [ldOf, hf]
        refine ⟨by omega, by omega, _, r1_get hv, ?_⟩
        conv => whnf
        refine spD (fun q2 => ?_) (fun q2 => ?_) <;> conv => whnf
        · have ep := pick_end (c := c) (L := L) (i := i) (m := m) (.inr q2)
          rw [ep] at k1 k2
          refine ⟨(), [(50, some 50)], ?_⟩
          repeat' (first | exact trivial | rfl | refine And.intro ?_ ?_)
          all_goals (conv => whnf)
          repeat' (first | exact trivial | rfl | refine And.intro ?_ ?_)
          all_goals simp [k1, k2]
        · have hgo := pick_go (c := c) hv q2
          rw [el] at hgo
          refine ⟨by omega, _, rT_get hf, ?_⟩
          conv => whnf
          refine gv (by first | omega | (simp only []; omega) | (simp; omega)) (by first | omega | (simp only []; omega) | (simp; omega)) ?_
          conv => whnf
          refine ⟨rSt_ok [shS sb v], ⟨by simp [rSt]; omega⟩, ?_⟩
          conv => whnf
          refine gv (by first | omega | (simp only []; omega) | (simp; omega)) (by first | omega | (simp only []; omega) | (simp; omega)) ?_
          conv => whnf
          refine ⟨⟨i + 1, m - f1, ys ++ [v], by omega, by rw [k1, hgo.1]; simp, by rw [k2, hgo.2], by omega, by simp; omega⟩, [(50, some 52)], ?_, by show L.length - (i + 1) < L.length - i; omega⟩
          repeat' (first | exact trivial | rfl | refine And.intro ?_ ?_)
          all_goals (conv => whnf)
          repeat' (first | exact trivial | rfl | refine And.intro ?_ ?_)
          all_goals first | rfl | (simp [rSt]; done) | (simp [rSt]; rfl)
      · have ep := pick_end (c := c) (L := L) (i := i) (m := m) (.inl (by omega))
        rw [ep] at k1 k2
        refine ⟨(), [(50, some 50)], ?_⟩
        repeat' (first | exact trivial | rfl | refine And.intro ?_ ?_)
        all_goals (conv => whnf)
        repeat' (first | exact trivial | rfl | refine And.intro ?_ ?_)
        all_goals simp [k1, k2]
    · conv => whnf
      refine spD (fun q1 => ?_) (fun q1 => ?_) <;> conv => whnf
      · rw [h1 q1]
        refine ⟨[(0, some 0), (1, some 1), (2, some 2), (3, none)], ?_⟩
        repeat' (first | exact trivial | rfl | refine And.intro ?_ ?_)
        all_goals (conv => whnf)
        repeat' (first | exact trivial | rfl | refine And.intro ?_ ?_)
      · rw [h2 q1]
        refine ⟨rSt_ok [⟨2, x, sb⟩], ⟨by simp [rSt]; omega⟩, ?_⟩
        conv => whnf
        refine ⟨[(0, some 0), (1, some 1), (2, some 2), (3, some 52)], ?_⟩
        repeat' (first | exact trivial | rfl | refine And.intro ?_ ?_)
        all_goals (conv => whnf)
        repeat' (first | exact trivial | rfl | refine And.intro ?_ ?_)
        exact (rSt_app _ _).symm

end Go.Proofs.YtncckpieemmmfaaGreat
