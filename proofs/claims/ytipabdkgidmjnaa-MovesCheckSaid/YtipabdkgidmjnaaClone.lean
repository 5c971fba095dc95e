/- Contract: slices.Clone of no places. No conditions. -/
import Derived.Test.YtipabdkgidmjnaaMovesB
import Derived.WalkKit
import Derived.WalkSpells
import Derived.Lib.SliceRun
namespace Go.Proofs.Ytipabdkgidmjnaa
open Go Go.Cpl

open Go.RowKit in
set_option maxRecDepth 1000000 in
theorem clone_some (a : Addr) (cap : Nat) (w : World) : Calls Try.prog 68 #[.slice (some a) 0 cap] w fun e w' => e = .returned (.slice (some ⟨w.heap.size, 0, none⟩) 0 0) ∧ w' = w.alloc (.cells #[] 39) := by
  have qT : ∀ (w : World) (a : Option Addr) (n c n' c' : Nat), (binOp .eql 23 (.slice a n c) (.slice none n' c')).run Try.prog w = .ok (.bool a.isNone) w := fun w a n c n' c' => Lib.run_eql_slice_nil w _ _ a n c n' c' Try.underlying23
  go_enter Try.func68, Try.ntmps68
  go_wp2
  go_ret
  exact ⟨rfl, rfl⟩

open Go.RowKit in
set_option maxRecDepth 1000000 in
theorem clone_none (cap : Nat) (w : World) : Calls Try.prog 68 #[.slice none 0 cap] w fun e w' => e = .returned (.slice none 0 0) ∧ w' = w := by
  have qT : ∀ (w : World) (a : Option Addr) (n c n' c' : Nat), (binOp .eql 23 (.slice a n c) (.slice none n' c')).run Try.prog w = .ok (.bool a.isNone) w := fun w a n c n' c' => Lib.run_eql_slice_nil w _ _ a n c n' c' Try.underlying23
  go_enter Try.func68, Try.ntmps68
  go_wp2
  go_ret
  exact ⟨rfl, rfl⟩

theorem hp_one (x : HObj) : hpOf [x] = updF (hpOf []) 0 x := by
  funext i
  cases i <;> simp [hpOf, updF]

theorem clone0_c : CallsH Try.prog 68 [.c (.d (.sl []))] [] (.c (.gs 0)) [.arr 39 []] := by
  refine ⟨⟨_, Try.func68, rfl, rfl⟩, fun M τ w us hinv hall => ?_⟩
  rw [hp_one]
  obtain ⟨inf, z, i1, i2, i3, i4, i5, i6, i7, i8⟩ := (tab 39).info (by decide)
  have hs2 : inf.size = 2 := i2
  have hfr : FreshH (hpOf []) 0 := ⟨rfl, fun j => by simp [hpOf, HObj.ids]⟩
  match us, hall with
  | [u], hall =>
    obtain ⟨hu, _⟩ := hall
    obtain ⟨a, cap, rfl⟩ : ∃ a cap, u = .slice a 0 cap := by
      rcases drep_sl hu with ⟨_, a, cap, h⟩ | ⟨b, off, cap, cs, e, fz, s, vs, hv, _⟩
      · exact ⟨a, cap, h⟩
      · exact ⟨_, cap, hv⟩
    cases a with
    | none =>
      refine (clone_none cap w).mono ?_
      rintro e w' ⟨rfl, rfl⟩
      have hn := Nx.push hinv hfr (.arr 39 []) ⟨0, 0, 2, true⟩ (WSame.refl _ _) (.inl (by simp [blkOf, updF])) ⟨by simp [updF, Program.cellsOf, i1, hs2], by simp, by
        simp only [updF, if_true]
        exact ⟨by simp [flat], .inl ⟨by simp [Loc.slice], by simp⟩⟩⟩
      exact ⟨_, M, _, rfl, hn.inv, by simp [AVRep, ACRep, Loc.slice, updF], hn.mb, fun i hi => absurd hi (Nat.not_lt_zero i), hn.own, hn.frame, hn.size, hn.os, hn.tape, hn.output⟩
    | some a =>
      refine (clone_some a cap w).mono ?_
      rintro e w' ⟨rfl, rfl⟩
      have hn := Nx.push (w' := w.alloc (.cells #[] 39)) hinv hfr (.arr 39 []) ⟨w.heap.size, 0, 2, false⟩ (WSame.alloc _ _ _) (.inr (Nat.le_refl _)) ⟨by simp [updF, Program.cellsOf, i1, hs2], by simp, by
        simp only [updF, if_true]
        refine owns_of_block rfl (by simp [flat]) (alloc_new _ _) ?_ ?_ ?_ ?_
        · simp
        · show 0 ≤ maxLen; omega
        · simp
        · simp [flat]⟩
      exact ⟨_, M, _, rfl, hn.inv, by simp [AVRep, ACRep, Loc.slice, updF], hn.mb, fun i hi => absurd hi (Nat.not_lt_zero i), hn.own, hn.frame, hn.size, hn.os, hn.tape, hn.output⟩

theorem clone_c (l : List (Int × Int)) (hn : l.length ≤ 1000) : CallsH Try.prog 68 [plV l] [] (.c (.gs 0)) [.arr 39 (r2 l)] := by
  by_cases hl : l = []
  · subst hl; exact clone0_c
  have h1 := r2_len l
  refine callsR_of tab mixed Try.func68 rfl (by decide) rfl rfl ?_
  conv => whnf
  refine ⟨fun h => hl (by cases l <;> simp_all [r2]), ?_⟩
  conv => whnf
  refine ⟨fun h => (by cases h), fun _ => ?_⟩
  conv => whnf
  refine ⟨fun r hr => by obtain ⟨x, _, rfl⟩ := List.mem_map.1 hr; simp [D.scalar], ⟨by simp; omega⟩, ?_⟩
  conv => whnf
  simp only [List.nil_append]
  exact ⟨[(0, some 1)], rfl, rfl, ⟨rfl, rfl⟩, trivial⟩

end Go.Proofs.Ytipabdkgidmjnaa
