/- Contract: cellplanemake.Config returns a configuration with the bounds that Made states, at every list. No conditions. -/
import Derived.Test.YtelnligfebjjiaaGreatMake
namespace Go.Proofs.YtelnligfebjjiaaGreat
open Go Go.Cpl

theorem row7 (a b c d e f : Int) (g : Bool) : ∀ r ∈ [[i64 a, i64 b, i64 c, i64 d, i64 e, i64 f, .bool g]], r.length = 7 ∧ ∀ d ∈ r, d.scalar = true := by simp [D.scalar]

theorem shl1 {R : Int} (h : 1 ≤ R ∧ R ≤ 3) : IntKind.i64.wrap (1 * 2 ^ (min R.toNat IntKind.i64.bits)) = 2 ^ R.toNat := by
  have : R = 1 ∨ R = 2 ∨ R = 3 := by omega
  rcases this with rfl | rfl | rfl <;> rfl

theorem down_yes {α : Type} {g : Int → α} {f : Int → Int} {s : CS α} (h : 0 < s.i) : downStep g f s = some ⟨s.i - 1, f s.at_, s.l ++ [g s.at_]⟩ := by simp [downStep, h]

theorem down_no {α : Type} {g : Int → α} {f : Int → Int} {s : CS α} (h : ¬ 0 < s.i) : downStep g f s = none := by simp [downStep, h]

set_option maxHeartbeats 8000000 in
theorem config_c (l : List Int) : ∃ c, Made c ∧ CallsH Tryz.prog 38 [.c (.d (.sl (r1 l)))] [] (cfgV c) [] := by
  have hv1 := tv_le l 0 (n := 5) (by omega)
  have ha1 := ta_le l 0
  generalize hn1 : tv l 0 5 = n1 at *
  generalize hat1 : ta l 0 = a1 at *
  have hv2 := tv_le l a1 (n := 3) (by omega)
  have ha2 := ta_le l a1
  generalize hn2 : tv l a1 3 = n2 at *
  generalize hat2 : ta l a1 = a2 at *
  have hv3 := tv_le l a2 (n := 11) (by omega)
  have ha3 := ta_le l a2
  generalize hn3 : tv l a2 11 = n3 at *
  generalize hat3 : ta l a2 = a3 at *
  have hv4 := tv_le l a3 (n := 9) (by omega)
  have ha4 := ta_le l a3
  generalize hn4 : tv l a3 9 = n4 at *
  generalize hat4 : ta l a3 = a4 at *
  have hR1 := Int.emod_nonneg (n1 + 1) (b := 3 - 1 + 1) (by omega)
  have hR2 := Int.emod_lt_of_pos (n1 + 1) (b := 3 - 1 + 1) (by omega)
  obtain ⟨R, hR⟩ : ∃ R, R = 1 + (n1 + 1) % (3 - 1 + 1) := ⟨_, rfl⟩
  have hRR : 1 ≤ R ∧ R ≤ 3 := by omega
  have hP := two_pow hRR
  obtain ⟨N1, s1, z0, z1, z2, z3⟩ := zones_made l R a4 hRR
  obtain ⟨e1, e2, e3, e4, e5⟩ := z3 N1 (Nat.le_refl _)
  have eR : R ≤ (s1 N1).i := by
    by_cases h : (s1 N1).i < R
    · simp [zoneStep, h] at z2
    · omega
  have hb1 := ta_le l (s1 N1).at_
  obtain ⟨b1, hb1e⟩ : ∃ b, b = ta l (s1 N1).at_ := ⟨_, rfl⟩
  obtain ⟨nz, hnz⟩ : ∃ n : Int, n = (s1 N1).l.length := ⟨_, rfl⟩
  have hnz1 : 1 ≤ nz ∧ nz ≤ 6 := by omega
  obtain ⟨N2, s2, y0, y1, y2, y3⟩ := cells_made l nz b1 hnz1
  obtain ⟨f1, f2, f3, f4, f5⟩ := y3 N2 (Nat.le_refl _)
  have fR : nz ≤ (s2 N2).i := by
    by_cases h : (s2 N2).i < nz
    · simp [cellStep, h] at y2
    · omega
  have hb2 := ta_le l (s2 N2).at_
  obtain ⟨b2, hb2e⟩ : ∃ b, b = ta l (s2 N2).at_ := ⟨_, rfl⟩
  have hv5 := tv_le l b2 (n := 6) (by omega)
  have hb3 := ta_le l b2
  obtain ⟨n5, hn5⟩ : ∃ n, n = tv l b2 6 := ⟨_, rfl⟩
  obtain ⟨b3, hb3e⟩ : ∃ b, b = ta l b2 := ⟨_, rfl⟩
  obtain ⟨N3, s3, x0, x1, x2, x3⟩ := down_made (MadeT R) (tenantOf l R) (tenantAt l) 8 b3 n5 [] (by omega) (tenant_made l hRR) (tenantAt_le l)
  obtain ⟨g1, g2, g3, gr, g4, g5, g6⟩ := x3 N3 (Nat.le_refl _)
  have g7 : (s3 N3).i = 0 := by
    by_cases h : 0 < (s3 N3).i
    · simp [downStep, h] at x2
    · omega
  have hv6 := tv_le l (s3 N3).at_ (n := 3) (by omega)
  have hb4 := ta_le l (s3 N3).at_
  obtain ⟨n6, hn6⟩ : ∃ n, n = tv l (s3 N3).at_ 3 := ⟨_, rfl⟩
  obtain ⟨b4, hb4e⟩ : ∃ b, b = ta l (s3 N3).at_ := ⟨_, rfl⟩
  have hv7 := tv_le l b4 (n := 3) (by omega)
  have hb5 := ta_le l b4
  obtain ⟨n7, hn7⟩ : ∃ n, n = tv l b4 3 := ⟨_, rfl⟩
  obtain ⟨b5, hb5e⟩ : ∃ b, b = ta l b4 := ⟨_, rfl⟩
  obtain ⟨N4, s4, w0, w1, w2, w3⟩ := down_made (fun x : Int × Int => 0 ≤ x.1 ∧ x.1 ≤ x.2 ∧ x.2 ≤ 3) (fun a => (tv l a 2, tv l a 2 + tv l (ta l a) 3)) (fun a => ta l (ta l a)) 2 b5 n7 [(0, n6)] (by omega)
    (fun x => by have := tv_le l x (n := 2) (by omega); have := tv_le l (ta l x) (n := 3) (by omega); simp only; omega) (fun x => by have := ta_le l x; have := ta_le l (ta l x); omega)
  obtain ⟨k1, k2, k3, kr, k4, k5, k6⟩ := w3 N4 (Nat.le_refl _)
  have k7 : (s4 N4).i = 0 := by
    by_cases h : 0 < (s4 N4).i
    · simp [downStep, h] at w2
    · omega
  have hv8 := tv_le l (s4 N4).at_ (n := 2) (by omega)
  have hb6 := ta_le l (s4 N4).at_
  obtain ⟨n8, hn8⟩ : ∃ n, n = tv l (s4 N4).at_ 2 := ⟨_, rfl⟩
  obtain ⟨b6, hb6e⟩ : ∃ b, b = ta l (s4 N4).at_ := ⟨_, rfl⟩
  obtain ⟨N5, s5, v0, v1, v2, v3⟩ := down_made (fun x : Int => 0 ≤ x ∧ x < nz) (fun a => tv l a nz) (fun a => ta l a) 1 b6 (2 * n8 + 1) [] (by omega) (fun x => tv_le l x (by omega)) (fun x => ta_le l x)
  obtain ⟨o1, o2, o3, or_, o4, o5, o6⟩ := v3 N5 (Nat.le_refl _)
  have o7 : (s5 N5).i = 0 := by
    by_cases h : 0 < (s5 N5).i
    · simp [downStep, h] at v2
    · omega
  have hv9 := tv_le l (s5 N5).at_ (n := 4) (by omega)
  have hb7 := ta_le l (s5 N5).at_
  obtain ⟨n9, hn9⟩ : ∃ n, n = tv l (s5 N5).at_ 4 := ⟨_, rfl⟩
  obtain ⟨b7, hb7e⟩ : ∃ b, b = ta l (s5 N5).at_ := ⟨_, rfl⟩
  obtain ⟨N6, s6, u0, u1, u2, u3⟩ := down_made (fun x : Int => 0 ≤ x ∧ x < nz) (fun a => tv l a nz) (fun a => ta l a) 1 b7 (1 + n9) [] (by omega) (fun x => tv_le l x (by omega)) (fun x => ta_le l x)
  obtain ⟨q1, q2, q3, qr, q4, q5, q6⟩ := u3 N6 (Nat.le_refl _)
  have q7 : (s6 N6).i = 0 := by
    by_cases h : 0 < (s6 N6).i
    · simp [downStep, h] at u2
    · omega
  refine ⟨⟨R, (s1 N1).l, (s2 N2).l, (s3 N3).l, (s4 N4).l, (s5 N5).l, (s6 N6).l, 1 + n2, 2 + n3, n4⟩, ?_, ?_⟩
  · refine ⟨hRR, by simp only; omega, by simp only; omega, by simp only; omega, by simp only; omega, e5, by simp only; omega, ?_, ?_, ?_, ⟨n6, kr, k4, by omega, by omega, by omega, k6⟩, ?_, ?_, ?_, ?_⟩
    · simp only; rw [← hnz]; exact f5
    · simp only [g4, List.nil_append]; omega
    · simp only [g4, List.nil_append]; exact g6
    · simp only [o4, List.nil_append]; omega
    · simp only [o4, List.nil_append]; rw [← hnz]; exact o6
    · simp only [q4, List.nil_append]; omega
    · simp only [q4, List.nil_append]; rw [← hnz]; exact q6
  refine callsR_of tab mixed Tryz.func38 rfl (by decide) rfl rfl ?_
  conv => whnf
  refine ⟨_, _, new_c l, ?_⟩
  conv => whnf
  refine ⟨_, _, next_c l 0 5 (by omega) (by omega) (by omega) (by omega), ?_⟩
  rw [hn1, hat1]
  conv => whnf
  refine gv (by omega) (by omega) ?_
  conv => whnf
  refine ⟨_, _, between_c _ _ _ (by omega) (by omega) (by omega), ?_⟩
  rw [← hR]
  conv => whnf
  refine ⟨_, _, range_c l a1 1 3 (by omega) (by omega) (by omega) (by omega) (by omega), ?_⟩
  rw [show (3 : Int) - 1 + 1 = 3 from rfl, hn2, hat2]
  conv => whnf
  refine ⟨_, _, range_c l a2 2 12 (by omega) (by omega) (by omega) (by omega) (by omega), ?_⟩
  rw [show (12 : Int) - 2 + 1 = 11 from rfl, hn3, hat3]
  conv => whnf
  refine ⟨_, _, next_c l a3 9 (by omega) (by omega) (by omega) (by omega), ?_⟩
  rw [hn4, hat4]
  conv => whnf
  refine loopRX tab mixed (ι := { i : Nat // i ≤ N1 }) (κ := Unit) (fun i => [(5, I (s1 i.1).i)]) (fun i => [(1, tapeO l (s1 i.1).at_), (2, .box [.d (i64 R), .gs 50, .ns, .ns, .ns, .ns, .ns, .d (i64 (1 + n2)), .d (i64 (2 + n3)), .d (i64 n4)]), (50, .arr 88 (r1 (s1 i.1).l))]) 51 (fun i => N1 - i.1)
    0 (fun _ => []) (fun _ => [(1, tapeO l (ta l (s1 N1).at_)), (2, .box [.d (i64 R), .gs 50, .ns, .ns, .ns, .ns, .ns, .d (i64 (1 + n2)), .d (i64 (2 + n3)), .d (i64 n4)]), (50, .arr 88 (r1 (s1 N1).l))]) 51 ⟨0, by omega⟩ [(1, some 1), (2, some 2), (50, none)] ?_
  conv => whnf
  refine ⟨⟨rfl, ⟨⟨⟨rfl, by simp [z0]⟩, trivial⟩, ⟨rfl, ⟨rfl, by simp [z0]⟩, trivial⟩, ⟨⟨rfl, rfl⟩, rfl, trivial, trivial, trivial, trivial, trivial, ⟨rfl, rfl⟩, ⟨rfl, rfl⟩, ⟨rfl, rfl⟩, trivial⟩, (by show r1 (s1 0).l = []; rw [z0]; rfl), trivial⟩, rfl, rfl⟩, fun ⟨i, hi⟩ => ?_, fun _ => ?_⟩
  · obtain ⟨j1, j2, j3, j4, j5⟩ := z3 i hi
    have ht := ta_le l (s1 i).at_
    conv => whnf
    refine spD (fun h => ?_) (fun h => ?_)
    · have h' : (s1 i).i < R := h
      obtain ⟨hlt, hs⟩ := not_last z1 z2 hi (s' := ⟨(s1 i).i + 1, (s1 i).at_, (s1 i).l ++ [(s1 i).i.tmod R]⟩) (by simp [zoneStep, h'])
      conv => whnf
      refine ⟨by kernel_rfl, ?_⟩
      conv => whnf
      refine ⟨by omega, gg ?_⟩
      conv => whnf
      refine ⟨row1 _ rfl, ⟨by rw [r1_len]; simp; omega⟩, ?_⟩
      conv => whnf
      refine gv (by simp; omega) (by simp; omega) ?_
      conv => whnf
      refine ⟨⟨i + 1, hlt⟩, [(1, some 1), (2, some 2), (50, some 52)], ⟨rfl, ⟨⟨⟨rfl, by simp [hs]⟩, trivial⟩, ⟨rfl, ⟨rfl, by simp [hs]⟩, trivial⟩, ⟨⟨rfl, rfl⟩, rfl, trivial, trivial, trivial, trivial, trivial, ⟨rfl, rfl⟩, ⟨rfl, rfl⟩, ⟨rfl, rfl⟩, trivial⟩, ⟨rfl, by simp [hs, r1]⟩, trivial⟩, rfl, rfl⟩, by simp; omega⟩
    · have h' : ¬ (s1 i).i < R := h
      conv => whnf
      refine ⟨_, _, yes_c l (s1 i).at_ 3 (by omega) (by omega) (by omega) (by omega), ?_⟩
      conv => whnf
      refine spE (fun hy => ?_) (fun hy => ?_)
      · conv => whnf
        refine spD (fun h6 => ?_) (fun h6 => ?_)
        · obtain ⟨hlt, hs⟩ := not_last z1 z2 hi (s' := ⟨(s1 i).i + 1, ta l (s1 i).at_, (s1 i).l ++ [(s1 i).i.tmod R]⟩) (by simp [zoneStep, h', hy, h6])
          conv => whnf
          refine ⟨by kernel_rfl, ?_⟩
          conv => whnf
          refine ⟨by omega, gg ?_⟩
          conv => whnf
          refine ⟨row1 _ rfl, ⟨by rw [r1_len]; simp; omega⟩, ?_⟩
          conv => whnf
          refine gv (by simp; omega) (by simp; omega) ?_
          conv => whnf
          refine ⟨⟨i + 1, hlt⟩, [(1, some 1), (2, some 2), (50, some 52)], ⟨rfl, ⟨⟨⟨rfl, by simp [hs]⟩, trivial⟩, ⟨rfl, ⟨rfl, by simp [hs]⟩, trivial⟩, ⟨⟨rfl, rfl⟩, rfl, trivial, trivial, trivial, trivial, trivial, ⟨rfl, rfl⟩, ⟨rfl, rfl⟩, ⟨rfl, rfl⟩, trivial⟩, ⟨rfl, by simp [hs, r1]⟩, trivial⟩, rfl, rfl⟩, by simp; omega⟩
        · obtain rfl := at_last z1 hi (by simp [zoneStep, h', h6])
          conv => whnf
          exact ⟨(), [(1, some 1), (2, some 2), (50, some 50)], rfl, ⟨trivial, ⟨rfl, ⟨rfl, rfl⟩, trivial⟩, ⟨⟨rfl, rfl⟩, rfl, trivial, trivial, trivial, trivial, trivial, ⟨rfl, rfl⟩, ⟨rfl, rfl⟩, ⟨rfl, rfl⟩, trivial⟩, ⟨rfl, rfl⟩, trivial⟩, rfl, rfl⟩
      · obtain rfl := at_last z1 hi (by simp [zoneStep, h', hy])
        conv => whnf
        exact ⟨(), [(1, some 1), (2, some 2), (50, some 50)], rfl, ⟨trivial, ⟨rfl, ⟨rfl, rfl⟩, trivial⟩, ⟨⟨rfl, rfl⟩, rfl, trivial, trivial, trivial, trivial, trivial, ⟨rfl, rfl⟩, ⟨rfl, rfl⟩, ⟨rfl, rfl⟩, trivial⟩, ⟨rfl, rfl⟩, trivial⟩, rfl, rfl⟩
  conv => whnf
  refine loopRX tab mixed (ι := { i : Nat // i ≤ N2 }) (κ := Unit) (fun i => [(6, I (s2 i.1).i)]) (fun i => [(1, tapeO l (s2 i.1).at_), (2, .box [.d (i64 R), .gs 50, .gs 60, .ns, .ns, .ns, .ns, .d (i64 (1 + n2)), .d (i64 (2 + n3)), .d (i64 n4)]), (60, .arr 90 (r2 (s2 i.1).l))]) 61 (fun i => N2 - i.1)
    2 (fun _ => []) (fun _ => [(1, tapeO l (ta l (s2 N2).at_)), (2, .box [.d (i64 R), .gs 50, .gs 60, .ns, .ns, .ns, .ns, .d (i64 (1 + n2)), .d (i64 (2 + n3)), .d (i64 n4)]), (60, .arr 90 (r2 (s2 N2).l))]) 61 ⟨0, by omega⟩ [(1, some 1), (2, some 2), (60, none)] ?_
  conv => whnf
  refine ⟨⟨rfl, ⟨⟨⟨rfl, by simp [y0]⟩, trivial⟩, ⟨rfl, ⟨rfl, by simp [y0, hb1e]⟩, trivial⟩, ⟨⟨rfl, rfl⟩, rfl, rfl, trivial, trivial, trivial, trivial, ⟨rfl, rfl⟩, ⟨rfl, rfl⟩, ⟨rfl, rfl⟩, trivial⟩, (by show r2 (s2 0).l = []; rw [y0]; rfl), trivial⟩, rfl, rfl⟩, fun ⟨i, hi⟩ => ?_, fun _ => ?_⟩
  · obtain ⟨j1, j2, j3, j4, j5⟩ := y3 i hi
    have ht := ta_le l (s2 i).at_
    conv => whnf
    refine spD (fun h => ?_) (fun h => ?_)
    · have h' : (s2 i).i < nz := by rw [r1_len, ← hnz] at h; exact h
      obtain ⟨hlt, hs⟩ := not_last y1 y2 hi (s' := ⟨(s2 i).i + 1, ta l (s2 i).at_, (s2 i).l ++ [((s2 i).i.tmod nz, (1 + tv l (s2 i).at_ 4) * 10)]⟩) (by simp [cellStep, h'])
      conv => whnf
      refine ⟨by kernel_rfl, ?_⟩
      conv => whnf
      refine ⟨by rw [r1_len]; omega, .intro ((s2 i).i.tmod nz) (by rw [r1_len, ← hnz]) ?_⟩
      conv => whnf
      have hv := tv_le l (s2 i).at_ (n := 4) (by omega)
      refine ⟨_, _, range_c l (s2 i).at_ 1 4 (by omega) (by omega) (by omega) (by omega) (by omega), ?_⟩
      rw [show (4 : Int) - 1 + 1 = 4 from rfl]
      conv => whnf
      refine gv (by omega) (by omega) ?_
      conv => whnf
      refine ⟨row2 _ _ rfl rfl, ⟨by rw [r2_len]; simp; omega⟩, ?_⟩
      conv => whnf
      refine gv (by simp; omega) (by simp; omega) ?_
      conv => whnf
      refine ⟨⟨i + 1, hlt⟩, [(1, some 1), (2, some 2), (60, some 62)], ⟨rfl, ⟨⟨⟨rfl, by simp [hs]⟩, trivial⟩, ⟨rfl, ⟨rfl, by simp [hs]⟩, trivial⟩, ⟨⟨rfl, rfl⟩, rfl, rfl, trivial, trivial, trivial, trivial, ⟨rfl, rfl⟩, ⟨rfl, rfl⟩, ⟨rfl, rfl⟩, trivial⟩, ⟨rfl, by simp [hs, r2]⟩, trivial⟩, rfl, rfl⟩, by simp; omega⟩
    · have h' : ¬ (s2 i).i < nz := by rw [r1_len, ← hnz] at h; exact h
      conv => whnf
      refine ⟨_, _, yes_c l (s2 i).at_ 2 (by omega) (by omega) (by omega) (by omega), ?_⟩
      conv => whnf
      refine spE (fun hy => ?_) (fun hy => ?_)
      · conv => whnf
        refine spD (fun h6 => ?_) (fun h6 => ?_)
        · obtain ⟨hlt, hs⟩ := not_last y1 y2 hi (s' := ⟨(s2 i).i + 1, ta l (ta l (s2 i).at_), (s2 i).l ++ [((s2 i).i.tmod nz, (1 + tv l (ta l (s2 i).at_) 4) * 10)]⟩) (by simp [cellStep, h', hy, h6])
          conv => whnf
          refine ⟨by kernel_rfl, ?_⟩
          conv => whnf
          refine ⟨by rw [r1_len]; omega, .intro ((s2 i).i.tmod nz) (by rw [r1_len, ← hnz]) ?_⟩
          conv => whnf
          have hv := tv_le l (ta l (s2 i).at_) (n := 4) (by omega)
          refine ⟨_, _, range_c l (ta l (s2 i).at_) 1 4 (by omega) (by omega) (by omega) (by omega) (by omega), ?_⟩
          rw [show (4 : Int) - 1 + 1 = 4 from rfl]
          conv => whnf
          refine gv (by omega) (by omega) ?_
          conv => whnf
          refine ⟨row2 _ _ rfl rfl, ⟨by rw [r2_len]; simp; omega⟩, ?_⟩
          conv => whnf
          refine gv (by simp; omega) (by simp; omega) ?_
          conv => whnf
          refine ⟨⟨i + 1, hlt⟩, [(1, some 1), (2, some 2), (60, some 62)], ⟨rfl, ⟨⟨⟨rfl, by simp [hs]⟩, trivial⟩, ⟨rfl, ⟨rfl, by simp [hs]⟩, trivial⟩, ⟨⟨rfl, rfl⟩, rfl, rfl, trivial, trivial, trivial, trivial, ⟨rfl, rfl⟩, ⟨rfl, rfl⟩, ⟨rfl, rfl⟩, trivial⟩, ⟨rfl, by simp [hs, r2]⟩, trivial⟩, rfl, rfl⟩, by simp; omega⟩
        · obtain rfl := at_last y1 hi (by simp [cellStep, h', h6])
          conv => whnf
          exact ⟨(), [(1, some 1), (2, some 2), (60, some 60)], rfl, ⟨trivial, ⟨rfl, ⟨rfl, rfl⟩, trivial⟩, ⟨⟨rfl, rfl⟩, rfl, rfl, trivial, trivial, trivial, trivial, ⟨rfl, rfl⟩, ⟨rfl, rfl⟩, ⟨rfl, rfl⟩, trivial⟩, ⟨rfl, rfl⟩, trivial⟩, rfl, rfl⟩
      · obtain rfl := at_last y1 hi (by simp [cellStep, h', hy])
        conv => whnf
        exact ⟨(), [(1, some 1), (2, some 2), (60, some 60)], rfl, ⟨trivial, ⟨rfl, ⟨rfl, rfl⟩, trivial⟩, ⟨⟨rfl, rfl⟩, rfl, rfl, trivial, trivial, trivial, trivial, ⟨rfl, rfl⟩, ⟨rfl, rfl⟩, ⟨rfl, rfl⟩, trivial⟩, ⟨rfl, rfl⟩, trivial⟩, rfl, rfl⟩
  conv => whnf
  refine ⟨_, _, next_c l _ 6 (by omega) (by omega) (by omega) (by omega), ?_⟩
  rw [← hb2e, ← hn5, ← hb3e]
  conv => whnf
  refine loopRX tab mixed (ι := { i : Nat // i ≤ N3 }) (κ := Unit) (fun i => [(7, I (s3 i.1).i)]) (fun i => [(1, tapeO l (s3 i.1).at_), (2, .box [.d (i64 R), .gs 50, .gs 60, .gs 70, .ns, .ns, .ns, .d (i64 (1 + n2)), .d (i64 (2 + n3)), .d (i64 n4)]), (70, .arr 94 (rT (s3 i.1).l))]) 71 (fun i => N3 - i.1)
    4 (fun _ => []) (fun _ => [(1, tapeO l (s3 N3).at_), (2, .box [.d (i64 R), .gs 50, .gs 60, .gs 70, .ns, .ns, .ns, .d (i64 (1 + n2)), .d (i64 (2 + n3)), .d (i64 n4)]), (70, .arr 94 (rT (s3 N3).l))]) 71 ⟨0, by omega⟩ [(1, some 1), (2, some 2), (70, none)] ?_
  conv => whnf
  refine ⟨⟨rfl, ⟨⟨⟨rfl, by simp [x0]⟩, trivial⟩, ⟨rfl, ⟨rfl, by simp [x0]⟩, trivial⟩, ⟨⟨rfl, rfl⟩, rfl, rfl, rfl, trivial, trivial, trivial, ⟨rfl, rfl⟩, ⟨rfl, rfl⟩, ⟨rfl, rfl⟩, trivial⟩, (by show rT (s3 0).l = []; rw [x0]; rfl), trivial⟩, rfl, rfl⟩, fun ⟨i, hi⟩ => ?_, fun _ => ?_⟩
  · obtain ⟨j1, j2, j3, jr, j4, j5, j6⟩ := x3 i hi
    conv => whnf
    refine spD (fun h => ?_) (fun h => ?_)
    · obtain ⟨hlt, hs⟩ := not_last x1 x2 hi (down_yes h)
      conv => whnf
      have t0 := ta_le l (s3 i).at_
      have t1 := ta_le l (ta l (s3 i).at_)
      have t2 := ta_le l (ta l (ta l (s3 i).at_))
      have t3 := ta_le l (ta l (ta l (ta l (s3 i).at_)))
      have t4 := ta_le l (ta l (ta l (ta l (ta l (s3 i).at_))))
      have t5 := ta_le l (ta l (ta l (ta l (ta l (ta l (s3 i).at_)))))
      have t6 := ta_le l (ta l (ta l (ta l (ta l (ta l (ta l (s3 i).at_))))))
      have t7 := ta_le l (ta l (ta l (ta l (ta l (ta l (ta l (ta l (s3 i).at_)))))))
      have v0 := tv_le l (s3 i).at_ (n := 12) (by omega)
      have v1 := tv_le l (ta l (s3 i).at_) (n := 1 + tv l (s3 i).at_ 12 + 1) (by omega)
      refine ⟨_, _, range_c l (s3 i).at_ 1 12 (by omega) (by omega) (by omega) (by omega) (by omega), ?_⟩
      rw [show (12 : Int) - 1 + 1 = 12 from rfl]
      conv => whnf
      refine ⟨by kernel_rfl, ?_⟩
      conv => whnf
      refine gv (by omega) (by omega) ?_
      conv => whnf
      refine ⟨_, _, next_c l (ta l (s3 i).at_) _ (by omega) (by omega) (by omega) (by omega), ?_⟩
      conv => whnf
      refine ⟨_, _, next_c l (ta l (ta l (s3 i).at_)) 4 (by omega) (by omega) (by omega) (by omega), ?_⟩
      conv => whnf
      refine ⟨_, _, range_c l (ta l (ta l (ta l (s3 i).at_))) (-1) 3 (by omega) (by omega) (by omega) (by omega) (by omega), ?_⟩
      rw [show (3 : Int) - -1 + 1 = 5 from rfl]
      conv => whnf
      refine gvu (by omega) (by omega) ?_
      conv => whnf
      refine ⟨by omega, .intro _ (shl1 hRR) ?_⟩
      conv => whnf
      refine gv (by omega) (by omega) ?_
      conv => whnf
      refine ⟨_, _, next_c l (ta l (ta l (ta l (ta l (s3 i).at_)))) 3 (by omega) (by omega) (by omega) (by omega), ?_⟩
      conv => whnf
      refine ⟨_, _, yes_c l (ta l (ta l (ta l (ta l (ta l (s3 i).at_))))) 4 (by omega) (by omega) (by omega) (by omega), ?_⟩
      conv => whnf
      refine ⟨_, _, yes_c l (ta l (ta l (ta l (ta l (ta l (ta l (s3 i).at_)))))) 4 (by omega) (by omega) (by omega) (by omega), ?_⟩
      conv => whnf
      refine spE (fun hy => ?_) (fun hy => ?_)
      · conv => whnf
        refine gvu (by omega) (by omega) ?_
        conv => whnf
        refine ⟨by omega, .intro _ (shl1 hRR) ?_⟩
        conv => whnf
        refine gv (by omega) (by omega) ?_
        conv => whnf
        refine ⟨_, _, range_c l (ta l (ta l (ta l (ta l (ta l (ta l (ta l (s3 i).at_))))))) 1 _ (by omega) (by omega) (by omega) (by omega) (by omega), ?_⟩
        conv => whnf
        refine ⟨row7 _ _ _ _ _ _ _, ⟨by rw [rT_len]; simp [j4]; omega⟩, ?_⟩
        conv => whnf
        refine gv (by simp; omega) (by simp; omega) ?_
        conv => whnf
        refine ⟨⟨i + 1, hlt⟩, [(1, some 1), (2, some 2), (70, some 73)], ⟨rfl, ⟨⟨⟨rfl, by simp [hs]⟩, trivial⟩, ⟨rfl, ⟨rfl, by simp [hs, tenantAt, hy]⟩, trivial⟩, ⟨⟨rfl, rfl⟩, rfl, rfl, rfl, trivial, trivial, trivial, ⟨rfl, rfl⟩, ⟨rfl, rfl⟩, ⟨rfl, rfl⟩, trivial⟩, ⟨rfl, by simp [hs, rT, tenantOf, hy]⟩, trivial⟩, rfl, rfl⟩, by simp; omega⟩
      · conv => whnf
        refine ⟨row7 _ _ _ _ _ _ _, ⟨by rw [rT_len]; simp [j4]; omega⟩, ?_⟩
        conv => whnf
        refine gv (by simp; omega) (by simp; omega) ?_
        conv => whnf
        refine ⟨⟨i + 1, hlt⟩, [(1, some 1), (2, some 2), (70, some 73)], ⟨rfl, ⟨⟨⟨rfl, by simp [hs]⟩, trivial⟩, ⟨rfl, ⟨rfl, by simp [hs, tenantAt, hy]⟩, trivial⟩, ⟨⟨rfl, rfl⟩, rfl, rfl, rfl, trivial, trivial, trivial, ⟨rfl, rfl⟩, ⟨rfl, rfl⟩, ⟨rfl, rfl⟩, trivial⟩, ⟨rfl, by simp [hs, rT, tenantOf, hy]⟩, trivial⟩, rfl, rfl⟩, by simp; omega⟩
    · obtain rfl := at_last x1 hi (down_no h)
      conv => whnf
      exact ⟨(), [(1, some 1), (2, some 2), (70, some 70)], rfl, ⟨trivial, ⟨rfl, ⟨rfl, rfl⟩, trivial⟩, ⟨⟨rfl, rfl⟩, rfl, rfl, rfl, trivial, trivial, trivial, ⟨rfl, rfl⟩, ⟨rfl, rfl⟩, ⟨rfl, rfl⟩, trivial⟩, ⟨rfl, rfl⟩, trivial⟩, rfl, rfl⟩
  conv => whnf
  refine ⟨_, _, next_c l _ 3 (by omega) (by omega) (by omega) (by omega), ?_⟩
  rw [← hn6, ← hb4e]
  conv => whnf
  refine ⟨_, _, next_c l _ 3 (by omega) (by omega) (by omega) (by omega), ?_⟩
  rw [← hn7, ← hb5e]
  conv => whnf
  refine loopRX tab mixed (ι := { i : Nat // i ≤ N4 }) (κ := Unit) (fun i => [(10, I (s4 i.1).i), (126, .top)]) (fun i => [(1, tapeO l (s4 i.1).at_), (2, .box [.d (i64 R), .gs 50, .gs 60, .gs 70, .gs 71, .ns, .ns, .d (i64 (1 + n2)), .d (i64 (2 + n3)), .d (i64 n4)]), (71, .arr 92 (r2 (s4 i.1).l))]) 72 (fun i => N4 - i.1)
    6 (fun _ => []) (fun _ => [(1, tapeO l (s4 N4).at_), (2, .box [.d (i64 R), .gs 50, .gs 60, .gs 70, .gs 71, .ns, .ns, .d (i64 (1 + n2)), .d (i64 (2 + n3)), .d (i64 n4)]), (71, .arr 92 (r2 (s4 N4).l))]) 72 ⟨0, by omega⟩ [(1, some 1), (2, some 2), (71, some 71)] ?_
  conv => whnf
  refine ⟨⟨rfl, ⟨⟨⟨rfl, by simp [w0]⟩, trivial, trivial⟩, ⟨rfl, ⟨rfl, by simp [w0]⟩, trivial⟩, ⟨⟨rfl, rfl⟩, rfl, rfl, rfl, rfl, trivial, trivial, ⟨rfl, rfl⟩, ⟨rfl, rfl⟩, ⟨rfl, rfl⟩, trivial⟩, ⟨rfl, by simp [w0, r2]⟩, trivial⟩, rfl, rfl⟩, fun ⟨i, hi⟩ => ?_, fun _ => ?_⟩
  · obtain ⟨j1, j2, j3, jr, j4, j5, j6⟩ := w3 i hi
    conv => whnf
    refine spD (fun h => ?_) (fun h => ?_)
    · obtain ⟨hlt, hs⟩ := not_last w1 w2 hi (down_yes h)
      conv => whnf
      have t0 := ta_le l (s4 i).at_
      have v0 := tv_le l (s4 i).at_ (n := 2) (by omega)
      have v1 := tv_le l (ta l (s4 i).at_) (n := 3) (by omega)
      refine ⟨_, _, next_c l (s4 i).at_ 2 (by omega) (by omega) (by omega) (by omega), ?_⟩
      conv => whnf
      refine ⟨by kernel_rfl, ?_⟩
      conv => whnf
      refine ⟨_, _, next_c l (ta l (s4 i).at_) 3 (by omega) (by omega) (by omega) (by omega), ?_⟩
      conv => whnf
      refine gv (by omega) (by omega) ?_
      conv => whnf
      refine ⟨row2 _ _ rfl rfl, ⟨by rw [r2_len]; simp [j4]; omega⟩, ?_⟩
      conv => whnf
      refine gv (by simp; omega) (by simp; omega) ?_
      conv => whnf
      refine ⟨⟨i + 1, hlt⟩, [(1, some 1), (2, some 2), (71, some 73)], ⟨rfl, ⟨⟨⟨rfl, by simp [hs]⟩, trivial, trivial⟩, ⟨rfl, ⟨rfl, by simp [hs]⟩, trivial⟩, ⟨⟨rfl, rfl⟩, rfl, rfl, rfl, rfl, trivial, trivial, ⟨rfl, rfl⟩, ⟨rfl, rfl⟩, ⟨rfl, rfl⟩, trivial⟩, ⟨rfl, by simp [hs, r2]⟩, trivial⟩, rfl, rfl⟩, by simp; omega⟩
    · obtain rfl := at_last w1 hi (down_no h)
      conv => whnf
      exact ⟨(), [(1, some 1), (2, some 2), (71, some 71)], rfl, ⟨trivial, ⟨rfl, ⟨rfl, rfl⟩, trivial⟩, ⟨⟨rfl, rfl⟩, rfl, rfl, rfl, rfl, trivial, trivial, ⟨rfl, rfl⟩, ⟨rfl, rfl⟩, ⟨rfl, rfl⟩, trivial⟩, ⟨rfl, rfl⟩, trivial⟩, rfl, rfl⟩
  conv => whnf
  refine ⟨_, _, next_c l _ 2 (by omega) (by omega) (by omega) (by omega), ?_⟩
  rw [← hn8, ← hb6e]
  conv => whnf
  refine gv (by omega) (by omega) ?_
  conv => whnf
  refine gv (by omega) (by omega) ?_
  conv => whnf
  refine loopRX tab mixed (ι := { i : Nat // i ≤ N5 }) (κ := Unit) (fun i => [(12, I (s5 i.1).i)]) (fun i => [(1, tapeO l (s5 i.1).at_), (2, .box [.d (i64 R), .gs 50, .gs 60, .gs 70, .gs 71, .gs 90, .ns, .d (i64 (1 + n2)), .d (i64 (2 + n3)), .d (i64 n4)]), (90, .arr 3 (r1 (s5 i.1).l))]) 91 (fun i => N5 - i.1)
    8 (fun _ => []) (fun _ => [(1, tapeO l (s5 N5).at_), (2, .box [.d (i64 R), .gs 50, .gs 60, .gs 70, .gs 71, .gs 90, .ns, .d (i64 (1 + n2)), .d (i64 (2 + n3)), .d (i64 n4)]), (90, .arr 3 (r1 (s5 N5).l))]) 91 ⟨0, by omega⟩ [(1, some 1), (2, some 2), (90, none)] ?_
  conv => whnf
  refine ⟨⟨rfl, ⟨⟨⟨rfl, by simp [v0]⟩, trivial⟩, ⟨rfl, ⟨rfl, by simp [v0]⟩, trivial⟩, ⟨⟨rfl, rfl⟩, rfl, rfl, rfl, rfl, rfl, trivial, ⟨rfl, rfl⟩, ⟨rfl, rfl⟩, ⟨rfl, rfl⟩, trivial⟩, (by show r1 (s5 0).l = []; rw [v0]; rfl), trivial⟩, rfl, rfl⟩, fun ⟨i, hi⟩ => ?_, fun _ => ?_⟩
  · obtain ⟨j1, j2, j3, jr, j4, j5, j6⟩ := v3 i hi
    conv => whnf
    refine spD (fun h => ?_) (fun h => ?_)
    · obtain ⟨hlt, hs⟩ := not_last v1 v2 hi (down_yes h)
      conv => whnf
      refine ⟨by kernel_rfl, ?_⟩
      conv => whnf
      rw [r1_len, ← hnz]
      refine ⟨_, _, next_c l (s5 i).at_ nz (by omega) (by omega) (by omega) (by omega), ?_⟩
      conv => whnf
      refine ⟨row1 _ rfl, ⟨by rw [r1_len]; simp [j4]; omega⟩, ?_⟩
      conv => whnf
      refine gv (by simp; omega) (by simp; omega) ?_
      conv => whnf
      refine ⟨⟨i + 1, hlt⟩, [(1, some 1), (2, some 2), (90, some 92)], ⟨rfl, ⟨⟨⟨rfl, by simp [hs]⟩, trivial⟩, ⟨rfl, ⟨rfl, by simp [hs]⟩, trivial⟩, ⟨⟨rfl, rfl⟩, rfl, rfl, rfl, rfl, rfl, trivial, ⟨rfl, rfl⟩, ⟨rfl, rfl⟩, ⟨rfl, rfl⟩, trivial⟩, ⟨rfl, by simp [hs, r1]⟩, trivial⟩, rfl, rfl⟩, by simp; omega⟩
    · obtain rfl := at_last v1 hi (down_no h)
      conv => whnf
      exact ⟨(), [(1, some 1), (2, some 2), (90, some 90)], rfl, ⟨trivial, ⟨rfl, ⟨rfl, rfl⟩, trivial⟩, ⟨⟨rfl, rfl⟩, rfl, rfl, rfl, rfl, rfl, trivial, ⟨rfl, rfl⟩, ⟨rfl, rfl⟩, ⟨rfl, rfl⟩, trivial⟩, ⟨rfl, rfl⟩, trivial⟩, rfl, rfl⟩
  conv => whnf
  refine ⟨_, _, range_c l _ 1 4 (by omega) (by omega) (by omega) (by omega) (by omega), ?_⟩
  rw [show (4 : Int) - 1 + 1 = 4 from rfl, ← hn9, ← hb7e]
  conv => whnf
  refine loopRX tab mixed (ι := { i : Nat // i ≤ N6 }) (κ := Unit) (fun i => [(13, I (s6 i.1).i)]) (fun i => [(1, tapeO l (s6 i.1).at_), (2, .box [.d (i64 R), .gs 50, .gs 60, .gs 70, .gs 71, .gs 90, .gs 100, .d (i64 (1 + n2)), .d (i64 (2 + n3)), .d (i64 n4)]), (100, .arr 3 (r1 (s6 i.1).l))]) 101 (fun i => N6 - i.1)
    10 (fun _ => []) (fun _ => [(1, tapeO l (s6 N6).at_), (2, .box [.d (i64 R), .gs 50, .gs 60, .gs 70, .gs 71, .gs 90, .gs 100, .d (i64 (1 + n2)), .d (i64 (2 + n3)), .d (i64 n4)]), (100, .arr 3 (r1 (s6 N6).l))]) 101 ⟨0, by omega⟩ [(1, some 1), (2, some 2), (100, none)] ?_
  conv => whnf
  refine ⟨⟨rfl, ⟨⟨⟨rfl, by simp [u0]⟩, trivial⟩, ⟨rfl, ⟨rfl, by simp [u0]⟩, trivial⟩, ⟨⟨rfl, rfl⟩, rfl, rfl, rfl, rfl, rfl, rfl, ⟨rfl, rfl⟩, ⟨rfl, rfl⟩, ⟨rfl, rfl⟩, trivial⟩, (by show r1 (s6 0).l = []; rw [u0]; rfl), trivial⟩, rfl, rfl⟩, fun ⟨i, hi⟩ => ?_, fun _ => ?_⟩
  · obtain ⟨j1, j2, j3, jr, j4, j5, j6⟩ := u3 i hi
    conv => whnf
    refine spD (fun h => ?_) (fun h => ?_)
    · obtain ⟨hlt, hs⟩ := not_last u1 u2 hi (down_yes h)
      conv => whnf
      refine ⟨by kernel_rfl, ?_⟩
      conv => whnf
      rw [r1_len, ← hnz]
      refine ⟨_, _, next_c l (s6 i).at_ nz (by omega) (by omega) (by omega) (by omega), ?_⟩
      conv => whnf
      refine ⟨row1 _ rfl, ⟨by rw [r1_len]; simp [j4]; omega⟩, ?_⟩
      conv => whnf
      refine gv (by simp; omega) (by simp; omega) ?_
      conv => whnf
      refine ⟨⟨i + 1, hlt⟩, [(1, some 1), (2, some 2), (100, some 102)], ⟨rfl, ⟨⟨⟨rfl, by simp [hs]⟩, trivial⟩, ⟨rfl, ⟨rfl, by simp [hs]⟩, trivial⟩, ⟨⟨rfl, rfl⟩, rfl, rfl, rfl, rfl, rfl, rfl, ⟨rfl, rfl⟩, ⟨rfl, rfl⟩, ⟨rfl, rfl⟩, trivial⟩, ⟨rfl, by simp [hs, r1]⟩, trivial⟩, rfl, rfl⟩, by simp; omega⟩
    · obtain rfl := at_last u1 hi (down_no h)
      conv => whnf
      exact ⟨(), [(1, some 1), (2, some 2), (100, some 100)], rfl, ⟨trivial, ⟨rfl, ⟨rfl, rfl⟩, trivial⟩, ⟨⟨rfl, rfl⟩, rfl, rfl, rfl, rfl, rfl, rfl, ⟨rfl, rfl⟩, ⟨rfl, rfl⟩, ⟨rfl, rfl⟩, trivial⟩, ⟨rfl, rfl⟩, trivial⟩, rfl, rfl⟩
  conv => whnf
  exact ⟨[], rfl, ⟨⟨rfl, rfl⟩, rfl, rfl, rfl, rfl, rfl, rfl, ⟨rfl, rfl⟩, ⟨rfl, rfl⟩, ⟨rfl, rfl⟩, trivial⟩, trivial⟩

end Go.Proofs.YtelnligfebjjiaaGreat
