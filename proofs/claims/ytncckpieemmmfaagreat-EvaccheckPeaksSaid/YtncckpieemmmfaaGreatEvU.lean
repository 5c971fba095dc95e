/- Contracts: DeleteFunc with the checker's closure, the tenants that a plan moves, peaks, and who would fit (evaccheck). Conditions: those ahead of each theorem. -/
import Derived.Test.YtncckpieemmmfaaGreatEvT
namespace Go.Proofs.YtncckpieemmmfaaGreat
open Go Go.Cpl

abbrev sitC (c : Cfg) (s : St) (a b : Nat) : List AC := [.d (i64 c.regions), .d (.sl (r1 c.zones)), .d (.sl (r2 c.cells)), .d (.sl (rT c.tenants)), .d (.sl (r2 c.versions)), .d (.sl (r1 c.replicas)), .d (.sl (r1 c.observers)), .d (i64 c.blast), .d (i64 c.lease), .d (i64 c.bake),
  .d (i64 s.tick), .d (i64 s.count), .d (.sl (rTS s.ts)), .d (.sl (rCS s.cs)), .d (i64 s.proven), .d (i64 s.evac), .d (i64 s.low), .d (i64 s.high), .gs a, .gs b]

abbrev evC (r : Int) (steps : List Stp) (left : List Int) : List AC := [.d (i64 r), .d (.sl (rSt steps)), .d (.sl (r1 left))]

abbrev evV (r : Int) (steps : List Stp) (left : List Int) : AV := .agg (evC r steps left)

theorem check2_c (m : List Int) (x : Int) (hm : m.length ≤ 100000) : CallsH Tryz.prog 43 [I x, .c (.ptr 0 0 0)] [.box [.gs 1], .arr 3 (r1 m)] (B (decide (x ∈ m))) [.box [.gs 1], .arr 3 (r1 m)] := by
  refine callsR_of tab mixed Tryz.func43 rfl (by decide) rfl rfl ?_
  conv => whnf
  refine ⟨_, _, contains_c m x hm, ?_⟩
  conv => whnf
  refine ⟨[(0, some 0), (1, some 1)], ?_⟩
  repeat' (first | exact trivial | rfl | refine And.intro ?_ ?_)
  all_goals (conv => whnf)
  repeat' (first | exact trivial | rfl | refine And.intro ?_ ?_)

abbrev delH (l m : List Int) : List HObj := [.arr 3 (r1 l), .box [.gs 2], .arr 3 (r1 m)]

set_option maxRecDepth 100000 in
theorem indexFunc_c (l m : List Int) (hl : l.length ≤ 100000) (hm : m.length ≤ 100000) : CallsH Tryz.prog 89 [.c (.gs 0), .fn 43 [.ptr 1 0 0]] (delH l m) (I (idxI (fun y => decide (y ∈ m)) l 0)) (delH l m) := by
  have l1 := r1_len l
  refine callsR_of tab mixed Tryz.func89 rfl (by decide) rfl rfl ?_
  conv => whnf
  refine loopN tab mixed (fun i => i ≤ l.length ∧ idxI (fun y => decide (y ∈ m)) l 0 = idxI (fun y => decide (y ∈ m)) (l.drop i) i) l.length (fun i => [(8, I i)]) (fun _ => []) 51 [] ⟨by omega, by simp⟩ ?_
  conv => whnf
  refine ⟨?_, fun i ⟨hi, hJ⟩ => ?_⟩
  · repeat' (first | exact trivial | rfl | refine And.intro ?_ ?_)
    all_goals (conv => whnf)
    repeat' (first | exact trivial | rfl | refine And.intro ?_ ?_)
  conv => whnf
  refine spD (fun q1 => ?_) (fun q1 => ?_) <;> conv => whnf
  · have hi' : i < l.length := by omega
    obtain ⟨y, hy⟩ := get_of hi'
    rw [idxI_drop hy] at hJ
    refine ⟨by omega, by omega, _, r1_get hy, ?_⟩
    conv => whnf
    refine ⟨_, _, check2_c m y hm, ?_⟩
    conv => whnf
    refine spD (fun q2 => ?_) (fun q2 => ?_) <;> conv => whnf
    · rw [hJ, if_pos (by simpa using q2)]
      refine ⟨[(0, some 0), (1, some 1), (2, some 2)], ?_⟩
      repeat' (first | exact trivial | rfl | refine And.intro ?_ ?_)
      all_goals (conv => whnf)
      repeat' (first | exact trivial | rfl | refine And.intro ?_ ?_)
    · refine gv (by first | omega | (simp only []; omega) | (simp; omega)) (by first | omega | (simp only []; omega) | (simp; omega)) ?_
      conv => whnf
      refine ⟨⟨hi', hi', by rw [hJ, if_neg (by simpa using q2)]⟩, [], ?_⟩
      repeat' (first | exact trivial | rfl | refine And.intro ?_ ?_)
      all_goals (conv => whnf)
      repeat' (first | exact trivial | rfl | refine And.intro ?_ ?_)
  · have hi' : i = l.length := by omega
    rw [hi', List.drop_length] at hJ
    rw [hJ]
    refine ⟨[(0, some 0), (1, some 1), (2, some 2)], ?_⟩
    repeat' (first | exact trivial | rfl | refine And.intro ?_ ?_)
    all_goals (conv => whnf)
    repeat' (first | exact trivial | rfl | refine And.intro ?_ ?_)

set_option maxRecDepth 100000 in
theorem delete_none (l m : List Int) (hl : l.length ≤ 100000) (hm : m.length ≤ 100000) (h : idxI (fun y => decide (y ∈ m)) l 0 = -1) : CallsH Tryz.prog 42 [.c (.gs 0), .fn 43 [.ptr 1 0 0]] (delH l m) (.c (.gs 0)) (delH l m) := by
  refine callsR_of tab mixed Tryz.func42 rfl (by decide) rfl rfl ?_
  conv => whnf
  refine ⟨_, _, indexFunc_c l m hl hm, ?_⟩
  conv => whnf
  refine spE (fun _ => ?_) (fun q => absurd h q)
  conv => whnf
  refine ⟨[(0, some 0), (1, some 1), (2, some 2)], ?_⟩
  repeat' (first | exact trivial | rfl | refine And.intro ?_ ?_)
  all_goals (conv => whnf)
  repeat' (first | exact trivial | rfl | refine And.intro ?_ ?_)

structure DJ (l m : List Int) where
  j : Nat
  i : Nat
  a : List Int
  hj : j ≤ l.length
  hi : i < j
  ha : a.length = l.length
  h1 : a.take i = (l.take j).filter fun x => !decide (x ∈ m)
  h2 : a.drop j = l.drop j

theorem take_set {α : Type} {a : List α} {i : Nat} {x : α} (h : i < a.length) : (a.set i x).take (i + 1) = a.take i ++ [x] := by
  rw [take_succ_of (x := x) (by rw [List.getElem?_set_self h]), List.take_set_of_le (Nat.le_refl _)]

theorem copyRows_len {rows src : List (List D)} {lo n : Nat} (h : lo + n ≤ rows.length) (hs : src.length = n) : (copyRows rows lo n src).length = rows.length := by
  unfold copyRows; simp; omega

theorem r1_take (l : List Int) (n : Nat) : r1 (l.take n) = (r1 l).take n := by simp [r1, List.map_take]

theorem copyRows_zeros {a : List Int} {i : Nat} (h : i ≤ a.length) : copyRows (r1 a) i (a.length - i) (List.replicate (a.length - i) [D.int .i64 0]) = r1 (a.take i ++ List.replicate (a.length - i) 0) := by
  unfold copyRows
  rw [← r1_take, List.take_of_length_le (l := List.replicate (a.length - i) [D.int .i64 0]) (by simp), List.drop_eq_nil_of_le (by rw [r1_len, List.length_replicate]; omega), List.append_nil]
  simp [r1]

set_option maxHeartbeats 1000000 in
set_option maxRecDepth 100000 in
theorem delete_some (l m : List Int) (hl : l.length ≤ 100000) (hm : m.length ≤ 100000) {j0 : Nat} {x0 : Int} (h : idxI (fun y => decide (y ∈ m)) l 0 = j0) (hx0 : l[j0]? = some x0) (hm0 : x0 ∈ m) (hb : ∀ y ∈ l.take j0, y ∉ m) :
    CallsH Tryz.prog 42 [.c (.gs 0), .fn 43 [.ptr 1 0 0]] (delH l m) (.c (.gv 0 0 (l.filter fun x => !decide (x ∈ m)).length)) [.arr 3 (r1 ((l.filter fun x => !decide (x ∈ m)) ++ List.replicate (l.length - (l.filter fun x => !decide (x ∈ m)).length) 0)), .box [.gs 2], .arr 3 (r1 m)] := by
  have l1 := r1_len l
  have hj0 := (List.getElem?_eq_some_iff.1 hx0).1
  have hst : l.take j0 = (l.take (j0 + 1)).filter fun x => !decide (x ∈ m) := by
    rw [take_succ_of hx0, List.filter_append, List.filter_eq_self.2 fun y hy => by simpa using hb y hy]
    simp [hm0]
  refine callsR_of tab mixed Tryz.func42 rfl (by decide) rfl rfl ?_
  conv => whnf
  refine ⟨_, _, indexFunc_c l m hl hm, ?_⟩
  conv => whnf
  rw [h]
  refine spE (fun q => absurd q (by omega)) (fun _ => ?_)
  conv => whnf
  refine gv (by first | omega | (simp only []; omega) | (simp; omega)) (by first | omega | (simp only []; omega) | (simp; omega)) ?_
  conv => whnf
  refine loopR tab mixed (ι := DJ l m) (fun k => [(6, I k.j), (5, I k.i)]) (fun k => [(0, .arr 3 (r1 k.a))]) 51 (fun k => l.length - k.j) ⟨j0 + 1, j0, l, by omega, by omega, rfl, hst, rfl⟩ [(0, some 0)] ?_
  conv => whnf
  refine ⟨?_, fun k => ?_⟩
  · repeat' (first | exact trivial | rfl | refine And.intro ?_ ?_)
    all_goals (conv => whnf)
    repeat' (first | exact trivial | rfl | refine And.intro ?_ ?_)
  obtain ⟨j, i, a, hj, hi, ha, k1, k2⟩ := k
  have l2 := r1_len a
  dsimp only
  conv => whnf
  refine spD (fun q1 => ?_) (fun q1 => ?_) <;> conv => whnf
  · have hj' : j < l.length := by omega
    obtain ⟨v, hv⟩ := get_of hj'
    have hv2 : a[j]? = some v := by
      have e1 := drop_of hv
      rw [← k2] at e1
      have : (a.drop j)[0]? = some v := by rw [e1]; rfl
      simpa using this
    refine ⟨by omega, by omega, _, r1_get hv2, ?_⟩
    conv => whnf
    refine ⟨_, _, check2_c m v hm, ?_⟩
    conv => whnf
    refine spN (fun q2 => ?_) (fun q2 => ?_) <;> conv => whnf
    · obtain ⟨u, hu⟩ := get_of (l := a) (i := i) (by omega)
      refine ⟨by omega, by omega, _, r1_get hu, ?_⟩
      conv => whnf
      refine gv (by first | omega | (simp only []; omega) | (simp; omega)) (by first | omega | (simp only []; omega) | (simp; omega)) ?_
      conv => whnf
      refine gv (by first | omega | (simp only []; omega) | (simp; omega)) (by first | omega | (simp only []; omega) | (simp; omega)) ?_
      conv => whnf
      refine ⟨⟨j + 1, i + 1, a.set i v, by omega, by omega, by simp [ha], ?_, ?_⟩, [(0, some 0)], ?_, by show l.length - (j + 1) < l.length - j; omega⟩
      · rw [take_set (by omega), k1, take_succ_of hv, List.filter_append]
        simp [q2]
      · rw [List.drop_set_of_lt (by omega), ← List.drop_drop, k2, List.drop_drop]
      repeat' (first | exact trivial | rfl | refine And.intro ?_ ?_)
      all_goals (conv => whnf)
      repeat' (first | exact trivial | rfl | refine And.intro ?_ ?_)
      exact r1_set' _ _ _
    · refine gv (by first | omega | (simp only []; omega) | (simp; omega)) (by first | omega | (simp only []; omega) | (simp; omega)) ?_
      conv => whnf
      refine ⟨⟨j + 1, i, a, by omega, by omega, ha, ?_, ?_⟩, [(0, some 0)], ?_, by show l.length - (j + 1) < l.length - j; omega⟩
      · rw [k1, take_succ_of hv, List.filter_append]
        simp [q2]
      · rw [← List.drop_drop, k2, List.drop_drop]
      repeat' (first | exact trivial | rfl | refine And.intro ?_ ?_)
      all_goals (conv => whnf)
      repeat' (first | exact trivial | rfl | refine And.intro ?_ ?_)
  · have hj' : j = l.length := by omega
    rw [hj', List.take_length] at k1
    refine ⟨by omega, by omega, ?_⟩
    conv => whnf
    have hil : i = (l.filter fun x => !decide (x ∈ m)).length := by rw [← k1]; simp; omega
    have hX := copyRows_zeros (a := a) (i := i) (by omega)
    rw [k1, ha, hil] at hX
    have hle : i ≤ (copyRows (r1 a) i ((r1 a).length - i) (List.replicate ((r1 a).length - i) [D.int .i64 0])).length := by rw [copyRows_len (by omega) (by simp)]; omega
    refine ⟨by omega, hle, ?_⟩
    conv => whnf
    refine ⟨[(0, some 0), (1, some 1), (2, some 2)], ?_⟩
    repeat' (first | exact trivial | rfl | refine And.intro ?_ ?_)
    all_goals (conv => whnf)
    repeat' (first | exact trivial | rfl | refine And.intro ?_ ?_)
    · exact hil.symm
    · rw [← hX, ← hil, l2, ha]
      rfl

set_option maxRecDepth 100000 in
theorem moved_c (r : Int) (steps : List Stp) (left : List Int) (hl : steps.length ≤ 100000) : CallsH Tryz.prog 24 [evV r steps left] [] (.c (.gs 0)) [.arr 3 (r1 (movedL steps))] := by
  have l1 := rSt_len steps
  have hnamed : CallsH Tryz.prog 64 [evV r steps left, I 2] [] (.c (.gs 0)) [.arr 3 (r1 (movedL steps))] := by
    refine callsR_of tab mixed Tryz.func64 rfl (by decide) rfl rfl ?_
    conv => whnf
    refine loopN tab mixed (fun i => i ≤ steps.length) steps.length (fun i => [(11, I i), (5, .c (.gs 50))]) (fun i => [(50, .arr 3 (r1 (movedL (steps.take i))))]) 51 [(50, none)] (by omega) ?_
    conv => whnf
    refine ⟨?_, fun i hi => ?_⟩
    · repeat' (first | exact trivial | rfl | refine And.intro ?_ ?_)
      all_goals (conv => whnf)
      repeat' (first | exact trivial | rfl | refine And.intro ?_ ?_)
    conv => whnf
    refine spD (fun q1 => ?_) (fun q1 => ?_) <;> conv => whnf
    · have hi' : i < steps.length := by omega
      obtain ⟨⟨kind, ten, cell⟩, hx⟩ := get_of hi'
      have hts : movedL (steps.take (i + 1)) = movedL (steps.take i) ++ movedL [⟨kind, ten, cell⟩] := by rw [take_succ_of hx, movedL_app]
      have hle : (movedL (steps.take i)).length ≤ 100000 := by
        unfold movedL
        have h1 := List.length_filter_le (fun x : Stp => decide (x.kind = 2)) (steps.take i)
        have h2 := List.length_take_le' i steps
        simp; simp at h1 h2; omega
      have l2 := r1_len (movedL (steps.take i))
      refine ⟨by omega, _, rSt_get hx, ?_⟩
      conv => whnf
      refine spE (fun q2 => ?_) (fun q2 => ?_) <;> dsimp only at q2 <;> conv => whnf
      · refine ⟨row1 _ rfl, ⟨by simp; omega⟩, ?_⟩
        conv => whnf
        refine gv (by first | omega | (simp only []; omega) | (simp; omega)) (by first | omega | (simp only []; omega) | (simp; omega)) ?_
        conv => whnf
        refine ⟨⟨hi', hi'⟩, [(50, some 53)], ?_⟩
        repeat' (first | exact trivial | rfl | refine And.intro ?_ ?_)
        all_goals (conv => whnf)
        repeat' (first | exact trivial | rfl | refine And.intro ?_ ?_)
        rw [hts]
        have : movedL [⟨kind, ten, cell⟩] = [ten] := by simp [movedL, q2]
        rw [this]
        exact (r1_app _ _).symm
      · refine gv (by first | omega | (simp only []; omega) | (simp; omega)) (by first | omega | (simp only []; omega) | (simp; omega)) ?_
        conv => whnf
        refine ⟨⟨hi', hi'⟩, [(50, some 50)], ?_⟩
        repeat' (first | exact trivial | rfl | refine And.intro ?_ ?_)
        all_goals (conv => whnf)
        repeat' (first | exact trivial | rfl | refine And.intro ?_ ?_)
        rw [hts]
        have : movedL [⟨kind, ten, cell⟩] = [] := by simp [movedL, q2]
        rw [this, List.append_nil]
    · have hi' : i = steps.length := by omega
      refine ⟨[(0, some 50)], rfl, rfl, ⟨rfl, ?_⟩, trivial⟩
      rw [hi', List.take_length]
  refine callsR_of tab mixed Tryz.func24 rfl (by decide) rfl rfl ?_
  conv => whnf
  refine ⟨_, _, hnamed, ?_⟩
  conv => whnf
  exact ⟨[(0, some 1)], rfl, rfl, ⟨rfl, rfl⟩, trivial⟩

theorem set_mid {A m : List Int} {i : Nat} {v : Int} (hA : A[i]? = some v) (hl : A.length = m.length) : (A.take i ++ m.drop i).set i v = A.take (i + 1) ++ m.drop (i + 1) := by
  have hi := (List.getElem?_eq_some_iff.1 hA).1
  obtain ⟨u, hu⟩ := get_of (l := m) (i := i) (by omega)
  have h1 : (A.take i).length = i := by simp; omega
  rw [drop_of hu, List.set_append_right _ _ (by omega), h1, Nat.sub_self, take_succ_of hA]
  simp

theorem get_mid {A m : List Int} {i : Nat} (hl : A.length = m.length) (hi : i < m.length) : (A.take i ++ m.drop i)[i]? = m[i]? := by
  have h1 : (A.take i).length = i := by simp; omega
  rw [List.getElem?_append_right (by omega), h1, List.getElem?_drop]; simp

abbrev peakH (c : Cfg) (s : St) (ty : Nat) (se : List Seat) (bk m : List Int) : List HObj := [.box [.ptr 2 0 0], .box [.gs 3], .box (sitC c s 4 5), .arr 3 (r1 m), .arr ty (rSe se), .arr 3 (r1 bk)]

set_option maxRecDepth 100000 in
theorem peak1_c (c : Cfg) (s : St) (i : Int) {se : List Seat} {bk m : List Int} (hm : m.length = bk.length) (hl : bk.length ≤ 1000) : CallsH Tryz.prog 66 [I i, .c (.ptr 0 0 0), .c (.ptr 1 0 0)] (peakH c s 102 se bk m) (B true) (peakH c s 102 se bk (maxL m bk)) := by
  have l1 := r1_len bk
  have l2 := maxL_len hm
  refine callsR_of tab mixed Tryz.func66 rfl (by decide) rfl rfl ?_
  conv => whnf
  refine loopN tab mixed (fun i => i ≤ bk.length) bk.length (fun i => [(12, I i)]) (fun i => [(3, .arr 3 (r1 ((maxL m bk).take i ++ m.drop i)))]) 51 [(3, some 3)] (by omega) ?_
  conv => whnf
  refine ⟨?_, fun i hi => ?_⟩
  · repeat' (first | exact trivial | rfl | refine And.intro ?_ ?_)
    all_goals (conv => whnf)
    repeat' (first | exact trivial | rfl | refine And.intro ?_ ?_)
  conv => whnf
  refine spD (fun q1 => ?_) (fun q1 => ?_) <;> conv => whnf
  · have hi' : i < bk.length := by omega
    obtain ⟨z, hz⟩ := get_of hi'
    obtain ⟨u, hu⟩ := get_of (l := m) (i := i) (by omega)
    have hA : (maxL m bk)[i]? = some (if z > u then z else u) := by simp [maxL, List.getElem?_zipWith, hz, hu]
    have hg := get_mid (A := maxL m bk) (m := m) l2 (i := i) (by omega)
    rw [hu] at hg
    have hs := set_mid (m := m) hA l2
    have hla : ((maxL m bk).take i ++ m.drop i).length = m.length := by simp; omega
    have l3 := r1_len ((maxL m bk).take i ++ m.drop i)
    refine ⟨by omega, by omega, _, r1_get hz, ?_⟩
    conv => whnf
    refine ⟨by kernel_rfl, ?_⟩
    conv => whnf
    refine ⟨by omega, by omega, _, r1_get hg, ?_⟩
    conv => whnf
    refine ⟨by omega, by omega, _, r1_get hg, ?_⟩
    conv => whnf
    refine gv (by first | omega | (simp only []; omega) | (simp; omega)) (by first | omega | (simp only []; omega) | (simp; omega)) ?_
    conv => whnf
    refine ⟨⟨hi', hi'⟩, [(3, some 3)], ?_⟩
    repeat' (first | exact trivial | rfl | refine And.intro ?_ ?_)
    all_goals (conv => whnf)
    repeat' (first | exact trivial | rfl | refine And.intro ?_ ?_)
    rw [← hs]
    exact r1_set' _ _ _
  · have hi' : i = bk.length := by omega
    subst hi'
    rw [List.take_of_length_le (by omega), List.drop_eq_nil_of_le (by omega), List.append_nil]
    refine ⟨[(0, some 0), (1, some 1), (2, some 2), (3, some 3), (4, some 4), (5, some 5)], ?_⟩
    repeat' (first | exact trivial | rfl | refine And.intro ?_ ?_)
    all_goals (conv => whnf)
    repeat' (first | exact trivial | rfl | refine And.intro ?_ ?_)

end Go.Proofs.YtncckpieemmmfaaGreat
