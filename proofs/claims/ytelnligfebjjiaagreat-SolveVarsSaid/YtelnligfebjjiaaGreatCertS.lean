/- Contracts: the reference of cert. Conditions: those ahead of each theorem. -/
import Derived.Test.YtelnligfebjjiaaGreatCertF
import Derived.Test.YtelnligfebjjiaaGreatRulesR2
import Derived.Test.YtelnligfebjjiaaGreatBoundR
namespace Go.Proofs.YtelnligfebjjiaaGreat
open Go Go.Cpl

theorem filled_c (l : List (Int × Int)) (v x : Int) (h0 : 0 ≤ v) (h1 : v / 2 < l.length) (hl : l.length ≤ 1000) : CallsH Tryz.prog 79 [plV l, I v, I x] [] (.c (.gs 0)) [.arr 64 (r2 (setV l v x))] := by
  have hlr := r2_len l
  obtain ⟨p, hp⟩ := get_of (l := l) (i := (v / 2).toNat) (by omega)
  have hq : IntKind.i64.wrap (v.tdiv 2) = v / 2 := by
    rw [Int.tdiv_eq_ediv_of_nonneg (by omega)]; exact wr (by omega) (by omega)
  have hrm : v.tmod 2 = v % 2 := Int.tmod_eq_emod_of_nonneg (by omega)
  refine callsR_of tab mixed Tryz.func79 rfl (by decide) rfl rfl ?_
  conv => whnf
  refine ⟨fun r hr => by obtain ⟨x, _, rfl⟩ := List.mem_map.1 hr; simp [D.scalar], ⟨by simp; omega⟩, ?_⟩
  conv => whnf
  rw [List.nil_append]
  refine ⟨by decide, .intro _ hrm ?_⟩
  conv => whnf
  refine spE (fun hm => ?_) (fun hm => ?_) <;> conv => whnf
  · refine ⟨by decide, .intro _ hq ?_⟩
    conv => whnf
    refine ⟨by omega, by omega, ?_⟩
    conv => whnf
    refine ⟨_, r2_get hp, ?_⟩
    conv => whnf
    refine ⟨[(0, some 1)], rfl, ?_⟩
    rw [setV_even (by omega) hp]
    repeat' (first | exact trivial | rfl | refine And.intro ?_ ?_)
    all_goals (conv => whnf)
    repeat' (first | exact trivial | rfl | refine And.intro ?_ ?_)
    rw [r2_set'']
  · refine ⟨by decide, .intro _ hq ?_⟩
    conv => whnf
    refine ⟨by omega, by omega, ?_⟩
    conv => whnf
    refine ⟨_, r2_get hp, ?_⟩
    conv => whnf
    refine ⟨[(0, some 1)], rfl, ?_⟩
    rw [setV_odd (by omega) hp]
    repeat' (first | exact trivial | rfl | refine And.intro ?_ ?_)
    all_goals (conv => whnf)
    repeat' (first | exact trivial | rfl | refine And.intro ?_ ?_)
    rw [r2_set'']

theorem open19_c (c : Cfg) (u : Int) (hd : Bool) (l : List (Int × Int)) (v : Int) (hf : Fit c l) (hv : v ≤ 9223372036854775807) : CallsH Tryz.prog 77 [probV c u hd, plV l, I v] [] (B (openV c l v)) [] := by
  have hg := good_of hf.val
  have hT := hg.tenants
  have hlr := r2_len l
  have hlen := hf.len
  refine callsR_of tab mixed Tryz.func77 rfl (by decide) rfl rfl ?_
  conv => whnf
  refine spD (fun h => ?_) (fun h0 => ?_) <;> conv => whnf
  · have e : openV c l v = false := by simp [openV]; omega
    rw [e]
    exact ⟨[], rfl, rfl, trivial⟩
  refine gv (by first | omega | (simp only []; omega) | (simp; omega)) (by first | omega | (simp only []; omega) | (simp; omega)) ?_
  conv => whnf
  refine spD (fun h => ?_) (fun h1 => ?_) <;> conv => whnf
  · have e : openV c l v = false := by simp [openV]; omega
    rw [e]
    exact ⟨[], rfl, rfl, trivial⟩
  obtain ⟨p, hp⟩ := get_of (l := l) (i := (v / 2).toNat) (by omega)
  have hpr := hf.rng p (List.mem_of_getElem? hp)
  have hq : IntKind.i64.wrap (v.tdiv 2) = v / 2 := by
    rw [Int.tdiv_eq_ediv_of_nonneg (by omega)]; exact wr (by omega) (by omega)
  have hrm : v.tmod 2 = v % 2 := Int.tmod_eq_emod_of_nonneg (by omega)
  refine ⟨by decide, .intro _ hrm ?_⟩
  conv => whnf
  refine spE (fun hm => ?_) (fun hm => ?_) <;> conv => whnf
  · refine ⟨by decide, .intro _ hq ?_⟩
    conv => whnf
    refine ⟨by omega, _, r2_get hp, ?_⟩
    conv => whnf
    have e : openV c l v = decide (p.1 < 0) := by
      have h2 : v / 2 < l.length := by omega
      have h3 : ¬ v % 2 = 1 := by omega
      have hgv : getV l v = p.1 := by unfold getV; rw [if_neg h3, hp]; rfl
      rw [Bool.eq_iff_iff]
      simp only [openV, hgv, h3, decide_false, Bool.false_and, Bool.not_false, Bool.and_true, decide_eq_true_eq]
      omega
    rw [e]
    exact ⟨[], rfl, rfl, trivial⟩
  · refine ⟨by decide, .intro _ hq ?_⟩
    conv => whnf
    refine ⟨by omega, _, r2_get hp, ?_⟩
    conv => whnf
    have h2 : v / 2 < l.length := by omega
    have h3 : v % 2 = 1 := by omega
    refine spD (fun h => ?_) (fun h => ?_) <;> conv => whnf
    · refine ⟨by decide, .intro _ hq ?_⟩
      conv => whnf
      refine ⟨_, _, refSingle_c c u hd (v / 2) hg, ?_⟩
      conv => whnf
      have e : openV c l v = !single c (v / 2) := by
        have h4 : p.2 = -1 := by omega
        have h5 : 0 ≤ v := by omega
        simp [openV, getV, hp, h3, h4, h5, h2]
      rw [e]
      exact ⟨[], rfl, rfl, trivial⟩
    · have e : openV c l v = false := by
        have h4 : ¬ p.2 = -1 := by omega
        simp [openV, getV, hp, h3, h4]
      rw [e]
      exact ⟨[], rfl, rfl, trivial⟩

end Go.Proofs.YtelnligfebjjiaaGreat
