/- Contracts: law SolveMore returns true at every input. No conditions. -/
import Derived.Test.YthpngoplkekkaaaLaw20
namespace Go.Proofs.Ythpngoplkekkaaa
open Go Go.Cpl

theorem bit_mod (x k r : Int) : bit (x + k * 18446744073709551616) r = bit x r := by
  by_cases hr : 0 ≤ r ∧ r < 62
  · obtain ⟨n, rfl⟩ := Int.eq_ofNat_of_zero_le hr.1
    have hn : n < 62 := by omega
    have hp : (0 : Int) < 2 ^ n := Int.pow_pos (by omega)
    have e : (k * 18446744073709551616 : Int) = (k * 2 ^ (63 - n) * 2) * 2 ^ n := by
      have : (18446744073709551616 : Int) = 2 ^ (63 - n) * 2 * 2 ^ n := by
        rw [← Int.pow_succ, ← Int.pow_add, show 63 - n + 1 + n = 64 by omega]; rfl
      rw [this]; simp only [Int.mul_assoc]
    unfold bit
    rw [Int.toNat_natCast, e, Int.fdiv_eq_ediv_of_nonneg _ (by omega), Int.fdiv_eq_ediv_of_nonneg _ (by omega), Int.add_mul_ediv_right _ _ (by omega), Int.add_mul_emod_self_right]
  · unfold bit
    have h1 : ∀ P : Prop, ¬ (0 ≤ r ∧ r < 62 ∧ P) := fun P h => hr ⟨h.1, h.2.1⟩
    simp [h1]

theorem bit_emod (x r : Int) : bit (x % 18446744073709551616) r = bit x r := by
  have := bit_mod (x % 18446744073709551616) (x / 18446744073709551616) r
  rw [← this]
  congr 1
  omega

theorem bit_wrap (x r : Int) : bit (IntKind.i64.wrap x) r = bit x r := by
  have e : ∃ k : Int, IntKind.i64.wrap x = x + k * 18446744073709551616 := by
    by_cases h : x % 18446744073709551616 ≥ 9223372036854775808
    · exact ⟨-(x / 18446744073709551616) - 1, by simp [IntKind.wrap, IntKind.signed, IntKind.bits]; omega⟩
    · exact ⟨-(x / 18446744073709551616), by simp [IntKind.wrap, IntKind.signed, IntKind.bits]; omega⟩
  obtain ⟨k, hk⟩ := e
  rw [hk, bit_mod]

theorem bit_or64 (a b r : Int) (h : bit a r = true) : bit (IntKind.i64.wrap ((BitVec.ofInt IntKind.i64.bits a ||| BitVec.ofInt IntKind.i64.bits b).toNat : Int)) r = true := by
  have hr : 0 ≤ r ∧ r < 62 := by unfold bit at h; simp at h; exact ⟨h.1, h.2.1⟩
  obtain ⟨n, rfl⟩ := Int.eq_ofNat_of_zero_le hr.1
  have ha : ((BitVec.ofInt IntKind.i64.bits a).toNat : Int) = a % 18446744073709551616 := by
    rw [BitVec.toNat_ofInt]
    simp only [IntKind.bits]
    omega
  rw [bit_wrap, BitVec.toNat_or, bit_nat _ n (by omega), Nat.testBit_or, ← bit_nat _ n (by omega), ha, bit_emod, h]
  rfl

set_option maxRecDepth 100000 in
set_option maxHeartbeats 4000000 in
theorem solveMore_c (l : List Int) (cells more : Int) : CallsH Try.prog 4 [.c (.d (.sl (r1 l))), I cells, I more] [] (B true) [] := by
  obtain ⟨c, u, hm, hprob⟩ := problem_c l cells true
  have hv := hm.valid5
  have hTl := rN_len (findT (findL c u true))
  refine callsR_of tab mixed Try.func4 rfl (by decide) rfl rfl ?_
  conv => whnf
  refine ⟨_, _, light_c l, ?_⟩
  conv => whnf
  refine spN (fun h => ?_) (fun h => ?_) <;> conv => whnf
  · refine ⟨_, _, awake20_c, ?_⟩
    conv => whnf
    exact ⟨[], rfl, rfl, trivial⟩
  refine ⟨_, _, hprob, ?_⟩
  conv => whnf
  refine ⟨_, _, find_c c u true hm.t12, ?_⟩
  conv => whnf
  refine spNe (fun h => ?_) (fun h0 => ?_) <;> conv => whnf
  · refine ⟨_, _, awake20_c, ?_⟩
    conv => whnf
    exact ⟨[], rfl, rfl, trivial⟩
  refine spD (fun h => ?_) (fun h1 => ?_) <;> conv => whnf
  · refine ⟨_, _, awake20_c, ?_⟩
    conv => whnf
    exact ⟨[], rfl, rfl, trivial⟩
  have hcode : (findL c u true).code ≠ 2 := fun h => by
    rcases findE_ne (u := u) (hd := true) hv with ⟨_, h'⟩ | ⟨h', _⟩
    · exact h' h
    · rw [h'] at h0; exact absurd h0 (by decide)
  have hfe : feasible c u true (findP (findL c u true)) (findT (findL c u true)) = true := by
    obtain ⟨g1, _, g3, g4⟩ := find_cert u true hv hcode
    rcases g3 with g3 | g3
    · exact g4 g3
    · have hT0 : findT (findL c u true) = [] := List.length_eq_zero_iff.1 (by omega)
      rw [Bool.or_eq_true] at g1
      rcases g1 with g1 | g1
      · exact g1
      · rw [hT0] at g1
        simp [refuted, readAll, rdN] at g1
  simp only [feasible, decide_eq_true_eq] at hfe
  obtain ⟨hT0, hy, hfull⟩ := hfe
  generalize findP (findL c u true) = y at hy hfull ⊢
  rw [hT0]
  refine .intro _ rfl ?_
  conv => whnf
  generalize hu' : IntKind.i64.wrap ((BitVec.ofInt IntKind.i64.bits u ||| BitVec.ofInt IntKind.i64.bits more).toNat : Int) = u'
  have hbit : ∀ i : Int, 0 ≤ i → i < c.cells.length → bit u i = true → bit u' i = true := fun i _ _ hb => by rw [← hu']; exact bit_or64 u more i hb
  have hq := full_more (hd' := true) hy hfull hbit (.inl rfl)
  have hr := full_more (hd' := false) hy hfull hbit (.inr rfl)
  have fq : feasible c u' true y [] = true := by simp only [feasible, decide_eq_true_eq]; exact ⟨trivial, hy, hq⟩
  have fr : feasible c u' false y [] = true := by simp only [feasible, decide_eq_true_eq]; exact ⟨trivial, hy, hr⟩
  refine ⟨_, _, find_c c u' true hm.t12, ?_⟩
  conv => whnf
  refine ⟨_, _, find_c c u' false hm.t12, ?_⟩
  conv => whnf
  refine ⟨_, _, awake20_c, ?_⟩
  conv => whnf
  refine ⟨fun _ => ?_, fun h => (by cases h)⟩
  conv => whnf
  rcases findE_ne (u := u') (hd := true) hv with ⟨he, hcode⟩ | ⟨he, hcode⟩
  · rw [he]
    refine ⟨fun h => (by cases h), fun _ => ?_⟩
    conv => whnf
    refine ⟨fun _ => ?_, fun h => (by cases h)⟩
    conv => whnf
    refine ⟨_, _, feasible_c c u' true _ _, ?_⟩
    conv => whnf
    rw [find_feas hy hq hcode]
    refine ⟨fun _ => ?_, fun h => (by cases h)⟩
    conv => whnf
    rcases findE_ne (u := u') (hd := false) hv with ⟨he, hcode⟩ | ⟨he, hcode⟩
    · rw [he]
      refine ⟨fun h => (by cases h), fun _ => ?_⟩
      conv => whnf
      refine ⟨fun _ => ?_, fun h => (by cases h)⟩
      conv => whnf
      refine ⟨_, _, feasible_c c u' false _ _, ?_⟩
      conv => whnf
      rw [find_feas hy hr hcode]
      refine ⟨fun _ => ?_, fun h => (by cases h)⟩
      conv => whnf
      refine ⟨_, _, feasible_c c u' true y [], ?_⟩
      conv => whnf
      rw [fq]
      refine ⟨fun _ => ?_, fun h => (by cases h)⟩
      conv => whnf
      refine ⟨_, _, feasible_c c u' false y [], ?_⟩
      conv => whnf
      rw [fr]
      exact ⟨[], rfl, rfl, trivial⟩
    · rw [he]
      refine ⟨fun _ => ?_, fun h => (by cases h)⟩
      conv => whnf
      refine ⟨_, _, feasible_c c u' true y [], ?_⟩
      conv => whnf
      rw [fq]
      refine ⟨fun _ => ?_, fun h => (by cases h)⟩
      conv => whnf
      refine ⟨_, _, feasible_c c u' false y [], ?_⟩
      conv => whnf
      rw [fr]
      exact ⟨[], rfl, rfl, trivial⟩
  · rw [he]
    refine ⟨fun _ => ?_, fun h => (by cases h)⟩
    conv => whnf
    rcases findE_ne (u := u') (hd := false) hv with ⟨he, hcode⟩ | ⟨he, hcode⟩
    · rw [he]
      refine ⟨fun h => (by cases h), fun _ => ?_⟩
      conv => whnf
      refine ⟨fun _ => ?_, fun h => (by cases h)⟩
      conv => whnf
      refine ⟨_, _, feasible_c c u' false _ _, ?_⟩
      conv => whnf
      rw [find_feas hy hr hcode]
      refine ⟨fun _ => ?_, fun h => (by cases h)⟩
      conv => whnf
      refine ⟨_, _, feasible_c c u' true y [], ?_⟩
      conv => whnf
      rw [fq]
      refine ⟨fun _ => ?_, fun h => (by cases h)⟩
      conv => whnf
      refine ⟨_, _, feasible_c c u' false y [], ?_⟩
      conv => whnf
      rw [fr]
      exact ⟨[], rfl, rfl, trivial⟩
    · rw [he]
      refine ⟨fun _ => ?_, fun h => (by cases h)⟩
      conv => whnf
      refine ⟨_, _, feasible_c c u' true y [], ?_⟩
      conv => whnf
      rw [fq]
      refine ⟨fun _ => ?_, fun h => (by cases h)⟩
      conv => whnf
      refine ⟨_, _, feasible_c c u' false y [], ?_⟩
      conv => whnf
      rw [fr]
      exact ⟨[], rfl, rfl, trivial⟩

end Go.Proofs.Ythpngoplkekkaaa
