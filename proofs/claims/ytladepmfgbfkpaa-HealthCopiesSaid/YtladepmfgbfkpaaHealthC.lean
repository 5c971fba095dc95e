/- Contracts: copies of watches; what slices.Clone and maps.Clone return for them. Conditions: those ahead of each theorem. -/
import Derived.Test.YtladepmfgbfkpaaHealthB
import Derived.WalkKit
import Derived.WalkSpells
import Derived.Lib.SliceRun
import Derived.Laws.Externs
namespace Go.Proofs.Ytladepmfgbfkpaa
open Go Go.Cpl

open Go.RowKit in
set_option maxRecDepth 1000000 in
theorem cloneI_some (a : Addr) (cap : Nat) (w : World) : Calls Try.prog 46 #[.slice (some a) 0 cap] w fun e w' => e = .returned (.slice (some ⟨w.heap.size, 0, none⟩) 0 0) ∧ w' = w.alloc (.cells #[] 3) := by
  have qT : ∀ (w : World) (a : Option Addr) (n c n' c' : Nat), (binOp .eql 22 (.slice a n c) (.slice none n' c')).run Try.prog w = .ok (.bool a.isNone) w := fun w a n c n' c' => Lib.run_eql_slice_nil w _ _ a n c n' c' Try.underlying22
  go_enter Try.func46, Try.ntmps46
  go_wp2
  go_ret
  exact ⟨rfl, rfl⟩

open Go.RowKit in
set_option maxRecDepth 1000000 in
theorem cloneI_none (cap : Nat) (w : World) : Calls Try.prog 46 #[.slice none 0 cap] w fun e w' => e = .returned (.slice none 0 0) ∧ w' = w := by
  have qT : ∀ (w : World) (a : Option Addr) (n c n' c' : Nat), (binOp .eql 22 (.slice a n c) (.slice none n' c')).run Try.prog w = .ok (.bool a.isNone) w := fun w a n c n' c' => Lib.run_eql_slice_nil w _ _ a n c n' c' Try.underlying22
  go_enter Try.func46, Try.ntmps46
  go_wp2
  go_ret
  exact ⟨rfl, rfl⟩

theorem hpI_one (x : HObj) : hpOf [x] = updF (hpOf []) 0 x := by
  funext i
  cases i <;> simp [hpOf, updF]

theorem cloneI0_c : CallsH Try.prog 46 [.c (.d (.sl []))] [] (.c (.gs 0)) [.arr 3 []] := by
  refine ⟨⟨_, Try.func46, rfl, rfl⟩, fun M τ w us hinv hall => ?_⟩
  rw [hpI_one]
  obtain ⟨inf, z, i1, i2, i3, i4, i5, i6, i7, i8⟩ := (tab 3).info (by decide)
  have hs2 : inf.size = 1 := i2
  have hfr : FreshH (hpOf []) 0 := ⟨rfl, fun j => by simp [hpOf, HObj.ids]⟩
  match us, hall with
  | [u], hall =>
    obtain ⟨hu, _⟩ := hall
    obtain ⟨a, cap, rfl⟩ : ∃ a cap, u = .slice a 0 cap := by
      rcases drep_sl hu with ⟨_, a, cap, h⟩ | ⟨b, off, cap, cs, e, fz, s, vs, hv, _⟩
      · exact ⟨a, cap, h⟩
      · exact ⟨_, cap, hv⟩
    cases a with
    | none =>
      refine (cloneI_none cap w).mono ?_
      rintro e w' ⟨rfl, rfl⟩
      have hn := Nx.push hinv hfr (.arr 3 []) ⟨0, 0, 1, true⟩ (WSame.refl _ _) (.inl (by simp [blkOf, updF])) ⟨by simp [updF, Program.cellsOf, i1, hs2], by simp, by
        simp only [updF, if_true]
        exact ⟨by simp [flat], .inl ⟨by simp [Loc.slice], by simp⟩⟩⟩
      exact ⟨_, M, _, rfl, hn.inv, by simp [AVRep, ACRep, Loc.slice, updF], hn.mb, fun i hi => absurd hi (Nat.not_lt_zero i), hn.own, hn.frame, hn.size, hn.os, hn.tape, hn.output⟩
    | some a =>
      refine (cloneI_some a cap w).mono ?_
      rintro e w' ⟨rfl, rfl⟩
      have hn := Nx.push (w' := w.alloc (.cells #[] 3)) hinv hfr (.arr 3 []) ⟨w.heap.size, 0, 1, false⟩ (WSame.alloc _ _ _) (.inr (Nat.le_refl _)) ⟨by simp [updF, Program.cellsOf, i1, hs2], by simp, by
        simp only [updF, if_true]
        refine owns_of_block rfl (by simp [flat]) (alloc_new _ _) ?_ ?_ ?_ ?_
        · simp
        · show 0 ≤ maxLen; omega
        · simp
        · simp [flat]⟩
      exact ⟨_, M, _, rfl, hn.inv, by simp [AVRep, ACRep, Loc.slice, updF], hn.mb, fun i hi => absurd hi (Nat.not_lt_zero i), hn.own, hn.frame, hn.size, hn.os, hn.tape, hn.output⟩

theorem r1_okH (l : List Int) : ∀ r ∈ r1 l, r.length = 1 ∧ ∀ d ∈ r, d.scalar = true := by
  intro r hr
  obtain ⟨x, _, rfl⟩ := List.mem_map.1 hr
  simp [D.scalar]

theorem cloneI_c (l : List Int) (hn : l.length ≤ 1000000) : CallsH Try.prog 46 [.c (.d (.sl (r1 l)))] [] (.c (.gs 0)) [.arr 3 (r1 l)] := by
  by_cases hl : l = []
  · subst hl; exact cloneI0_c
  have h1 := r1_len l
  refine callsR_of tab mixed Try.func46 rfl (by decide) rfl rfl ?_
  conv => whnf
  refine ⟨fun h => hl (by cases l <;> simp_all [r1]), ?_⟩
  conv => whnf
  refine ⟨fun h => (by cases h), fun _ => ?_⟩
  conv => whnf
  refine ⟨r1_okH l, ⟨by simp; omega⟩, ?_⟩
  conv => whnf
  simp only [List.nil_append]
  exact ⟨[(0, some 1)], rfl, rfl, ⟨rfl, rfl⟩, trivial⟩

/-! ### maps -/

theorem run_clone {P : Program} (w : World) {r : Nat} {es : Array MapEntry} {clock : Nat} (t : TypeId) (hb : w.heap[r]? = some (.map es clock)) :
    (Extern.MapsClone.clone #[.iface t (.map (some r))]).run P w = .ok (.iface t (.map (some w.heap.size))) (w.alloc (.map es clock)) := by
  have e : Extern.MapsClone.clone #[.iface t (.map (some r))] = (getObj r >>= fun o => match o with
      | .map entries clock => (newObj (.map entries clock) >>= fun n => pure (.iface t (.map (some n))))
      | _ => stuck "maps.clone: a map expected") := rfl
  rw [e]
  simp [MapKept.run_getObj_map hb, Result.andThen]

theorem run_eqlMap {P : Program} (w : World) {t k e : TypeId} (p : Option Nat) (h : P.underlying t = some (.map k e)) : (binOp .eql t (.map p) (.map none)).run P w = .ok (.bool p.isNone) w := by
  have : ∀ d, (Op.equalIn (d + 1) t (.map p) (.map none)).run P w = .ok p.isNone w := fun d => by cases p <;> simp [Op.equalIn, run_underlying h]
  have h2 : (Op.equal t (.map p) (.map none)).run P w = .ok p.isNone w := this 9999
  simp [binOp, h2]

theorem run_assertMap {P : Program} (w : World) {t xT k e : TypeId} (v : Value) (h : P.underlying t = some (.map k e)) : (Instr.typeAssert (.iface t v) xT t false).run P w = .ok v w := by
  simp [Instr.typeAssert, run_underlying h, go_sem, Result.andThen]

open Go.RowKit in
set_option maxHeartbeats 2000000 in
set_option maxRecDepth 1000000 in
theorem cloneM_run (b : Nat) (es : Array MapEntry) (clock : Nat) (w : World) (hb : w.heap[b]? = some (.map es clock)) :
    Calls Try.prog 47 #[.map (some b)] w fun e w' => e = .returned (.map (some w.heap.size)) ∧ w' = w.alloc (.map es clock) := by
  have hq : ∀ w, (binOp .eql 84 (.map (some b)) (.map none)).run Try.prog w = .ok (.bool false) w := fun w => run_eqlMap w (some b) Try.underlying84
  go_enter Try.func47, Try.ntmps47
  go_wp2
  rw [run_callFunc_extern Try.func55 (by kernel_rfl) (by kernel_rfl) (by kernel_rfl) (e := Extern.MapsClone.clone) (by kernel_rfl), run_clone w _ hb]
  simp only [Result.andThen]
  rw [Oper.upon_value]
  go_wp2
  rw [run_assertMap _ _ Try.underlying84]
  simp only [Result.andThen]
  rw [Oper.upon_value]
  go_wp2
  go_ret
  exact ⟨rfl, rfl⟩

theorem cloneM_c (ents : List (List D × List D)) : CallsH Try.prog 47 [.c (.mp 0)] [.mp true true ents] (.c (.mp 1)) [.mp true true ents, .mp true true ents] := by
  refine ⟨⟨_, Try.func47, rfl, rfl⟩, fun M τ w us hinv hall => ?_⟩
  have e2 : hpOf [.mp true true ents, .mp true true ents] = updF (hpOf [.mp true true ents]) 1 (.mp true true ents) := by
    funext i
    match i with
    | 0 => rfl
    | 1 => rfl
    | i + 2 => simp [hpOf, updF]
  rw [e2]
  have hfr : FreshH (hpOf [.mp true true ents]) 1 := ⟨rfl, fun j => by
    match j with
    | 0 => simp [hpOf, HObj.ids]
    | j + 1 => simp [hpOf, HObj.ids]⟩
  match us, hall with
  | [u], hall =>
    obtain ⟨hu, _⟩ := hall
    have hu : u = .map (some (τ 0).b) := hu
    subst hu
    obtain ⟨es, clock, h1, h2⟩ := mp_at (id := 0) hinv rfl
    refine (cloneM_run (τ 0).b es clock w h1).mono ?_
    rintro e w' ⟨rfl, rfl⟩
    have hn := Nx.push (w' := w.alloc (.map es clock)) hinv hfr (.mp true true ents) ⟨w.heap.size, 0, 0, false⟩ (WSame.alloc _ _ _) (.inr (Nat.le_refl _)) ⟨es, clock, by simpa [updF] using alloc_new w _, h2⟩
    exact ⟨_, M, _, rfl, hn.inv, by simp [AVRep, ACRep, updF], hn.mb, fun i hi => hn.keep i (by simp at hi ⊢; omega), hn.own, hn.frame, hn.size, hn.os, hn.tape, hn.output⟩

set_option maxHeartbeats 2000000 in
set_option maxRecDepth 100000 in
theorem copyW_c (c : Cfg) (s : W23) (h : WOk c s) : CallsH Try.prog 30 [.c (.ptr 0 0 0)] (wH c s) (.c (.ptr 4 0 0)) (wH c s ++ [wBox c s 5 6 7, .arr 3 (r1 s.ver), .arr 3 (r1 s.dou), wM s]) := by
  have hL := h.laid
  have hZ := hL.zones
  have hC := hL.cells
  have hl := zoneR_len c c.zones.length
  have hv := h.ver
  have hd := h.dou
  refine callsR_of tab mixed Try.func30 rfl (by decide) rfl rfl ?_
  conv => whnf
  refine loopN tab mixed (fun i => i ≤ c.zones.length) c.zones.length (fun i => [(15, I i)]) (fun i => [(4, .box [.d (i64 s.age), .d (i64 s.hold), .d (i64 c.observers.length), .gs 50, .d (.sl (r1 c.zones)), .d (i64 s.tick), .gs 1, .gs 2, .mp 3]), (50, .brr 22 (zoneR c i))]) 51 [(4, some 4), (50, none)] (by omega) ?_
  conv => whnf
  refine ⟨?_, fun i hi => ?_⟩
  · repeat' (first | exact trivial | rfl | refine And.intro ?_ ?_)
    all_goals (conv => whnf)
    repeat' (first | exact trivial | rfl | refine And.intro ?_ ?_)
  conv => whnf
  refine spD (fun h1 => ?_) (fun h1 => ?_) <;> conv => whnf
  · have hi' : i < c.zones.length := by omega
    have hzl := zoneR_len c i
    have hin := inZone_le c i
    refine ⟨by omega, _, zoneR_get c (show ((i : Nat) : Int).toNat < c.zones.length by simpa using hi'), ?_⟩
    conv => whnf
    refine ⟨by kernel_rfl, ?_⟩
    conv => whnf
    refine ⟨_, _, cloneI_c (inZone c i) (by omega), ?_⟩
    conv => whnf
    refine ⟨by simp, ⟨by simp only [List.length_cons, List.length_nil]; omega⟩, ?_⟩
    conv => whnf
    refine gv (by first | omega | (simp only []; omega) | (simp; omega)) (by first | omega | (simp only []; omega) | (simp; omega)) ?_
    conv => whnf
    refine ⟨⟨hi', hi'⟩, [(4, some 4), (50, some 52)], ?_⟩
    repeat' (first | exact trivial | rfl | refine And.intro ?_ ?_)
    all_goals (conv => whnf)
    repeat' (first | exact trivial | rfl | refine And.intro ?_ ?_)
  have hi' : i = c.zones.length := by omega
  subst hi'
  refine ⟨_, _, cloneI_c c.zones (by omega), ?_⟩
  conv => whnf
  refine ⟨_, _, cloneI_c s.ver (by omega), ?_⟩
  conv => whnf
  refine ⟨_, _, cloneI_c s.dou (by omega), ?_⟩
  conv => whnf
  refine ⟨_, _, cloneM_c (s.reps.map entO), ?_⟩
  conv => whnf
  refine ⟨[(0, some 0), (1, some 1), (2, some 2), (3, some 3), (4, some 4), (5, some 52), (6, some 53), (7, some 54)], rfl, ?_⟩
  repeat' (first | exact trivial | rfl | refine And.intro ?_ ?_)
  all_goals (conv => whnf)
  repeat' (first | exact trivial | rfl | refine And.intro ?_ ?_)

theorem rR_ok (l : List Rep) : ∀ r ∈ rR l, r.length = 4 ∧ ∀ d ∈ r, d.scalar = true := by
  intro r hr
  obtain ⟨x, _, rfl⟩ := List.mem_map.1 hr
  simp [repD, D.scalar]

set_option maxHeartbeats 2000000 in
set_option maxRecDepth 100000 in
theorem copyR_c (c : Cfg) (s : W23) (h : WOk c s) : CallsH Try.prog 31 [.c (.ptr 0 0 0)] (rH c s) (.c (.ptr 4 0 0)) (rH c s ++ [rBox c s 5 6 7, .arr 45 (rR s.reps), .arr 3 (r1 s.ver), .arr 3 (r1 s.dou)]) := by
  have hC := h.laid.cells
  have hv := h.ver
  have hd := h.dou
  have hf := h.few
  have l1 := r1_len s.ver
  have l2 := r1_len s.dou
  have l3 := rR_len s.reps
  refine callsR_of tab mixed Try.func31 rfl (by decide) rfl rfl ?_
  conv => whnf
  refine ⟨rR_ok _, ⟨by simp only [List.length_nil]; omega⟩, ?_⟩
  conv => whnf
  refine ⟨r1_okH _, ⟨by simp only [List.length_nil]; omega⟩, ?_⟩
  conv => whnf
  refine ⟨r1_okH _, ⟨by simp only [List.length_nil]; omega⟩, ?_⟩
  conv => whnf
  refine ⟨[(0, some 0), (1, some 1), (2, some 2), (3, some 3), (4, some 4), (5, some 6), (6, some 8), (7, some 10)], rfl, ?_⟩
  repeat' (first | exact trivial | rfl | refine And.intro ?_ ?_)
  all_goals (conv => whnf)
  repeat' (first | exact trivial | rfl | refine And.intro ?_ ?_)

end Go.Proofs.Ytladepmfgbfkpaa
