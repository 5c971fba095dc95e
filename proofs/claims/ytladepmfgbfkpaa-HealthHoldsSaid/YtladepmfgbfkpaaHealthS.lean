/- Contracts: New, Report and Advance of the reference of health. Conditions: those ahead of each theorem. -/
import Derived.Test.YtladepmfgbfkpaaHealthR
namespace Go.Proofs.Ytladepmfgbfkpaa
open Go Go.Cpl

theorem newRBad_c (c : Cfg) (a b : Int) (h : ¬ (valid5 c = 0 ∧ polOk a b)) : CallsH Try.prog 15 [cfgV c, polV a b] [] (.tup [.inl (.d .nilp), .inl (.d (i64 (newE c)))]) [] := by
  refine callsR_of tab mixed Try.func15 rfl (by decide) rfl rfl ?_
  conv => whnf
  refine ⟨_, _, refTenValid_c c, ?_⟩
  conv => whnf
  refine spNe (fun h1 => ?_) (fun h1 => ?_) <;> conv => whnf
  · have e : newE c = valid5 c := by simp [newE, h1]
    rw [e]
    exact ⟨[], rfl, ⟨trivial, ⟨rfl, rfl⟩, trivial⟩, trivial⟩
  have e : newE c = 1 := by simp [newE, h1]
  rw [e]
  refine spD (fun h2 => ?_) (fun h2 => ?_) <;> conv => whnf
  · exact ⟨[], rfl, ⟨trivial, ⟨rfl, rfl⟩, trivial⟩, trivial⟩
  refine spD (fun h3 => ?_) (fun h3 => ?_) <;> conv => whnf
  · exact ⟨[], rfl, ⟨trivial, ⟨rfl, rfl⟩, trivial⟩, trivial⟩
  refine spD (fun h4 => ?_) (fun h4 => ?_) <;> conv => whnf
  · exact ⟨[], rfl, ⟨trivial, ⟨rfl, rfl⟩, trivial⟩, trivial⟩
  refine spD (fun h5 => ?_) (fun h5 => ?_) <;> conv => whnf
  · exact ⟨[], rfl, ⟨trivial, ⟨rfl, rfl⟩, trivial⟩, trivial⟩
  exact absurd ⟨h1, by unfold polOk; omega⟩ h

abbrev rBoxN (c : Cfg) (a b : Int) (l v d : AC) : HObj := .box [.d (i64 c.regions), .d (.sl (r1 c.zones)), .d (.sl (r2 c.cells)), .d (.sl (rT c.tenants)), .d (.sl (r2 c.versions)), .d (.sl (r1 c.replicas)), .d (.sl (r1 c.observers)), .d (i64 c.blast), .d (i64 c.lease), .d (i64 c.bake), .d (i64 a), .d (i64 b), .d (i64 0), l, v, d]

set_option maxHeartbeats 2000000 in
set_option maxRecDepth 100000 in
theorem newROk_c (c : Cfg) (a b : Int) (h : valid5 c = 0 ∧ polOk a b) : CallsH Try.prog 15 [cfgV c, polV a b] [] (.tup [.inl (.ptr 0 0 0), .inl (.d (i64 0))]) (rH c (w0 c a b)) := by
  have hL := valid_laid (valid5_valid h.1).1
  have hC := hL.cells
  have hrc := r2_len c.cells
  have hp := h.2
  unfold polOk at hp
  refine callsR_of tab mixed Try.func15 rfl (by decide) rfl rfl ?_
  conv => whnf
  refine ⟨_, _, refTenValid_c c, ?_⟩
  conv => whnf
  refine spNe (fun h1 => absurd h.1 h1) (fun h1 => ?_) <;> conv => whnf
  refine spD (fun h2 => by omega) (fun h2 => ?_) <;> conv => whnf
  refine spD (fun h3 => by omega) (fun h3 => ?_) <;> conv => whnf
  refine spD (fun h4 => by omega) (fun h4 => ?_) <;> conv => whnf
  refine spD (fun h5 => by omega) (fun h5 => ?_) <;> conv => whnf
  refine loopN tab mixed (fun i => i ≤ c.cells.length) c.cells.length (fun i => [(8, I i)]) (fun i => [(2, rBoxN c a b .ns (.gs 50) (.gs 51)), (50, .arr 3 (r1 (List.replicate i 1))), (51, .arr 3 (r1 (List.replicate i (-1))))]) 52 [(2, some 2), (50, none), (51, none)] (by omega) ?_
  conv => whnf
  refine ⟨?_, fun i hi => ?_⟩
  · repeat' (first | exact trivial | rfl | refine And.intro ?_ ?_)
    all_goals (conv => whnf)
    repeat' (first | exact trivial | rfl | refine And.intro ?_ ?_)
  conv => whnf
  refine spD (fun h7 => ?_) (fun h7 => ?_) <;> conv => whnf
  · have hi' : i < c.cells.length := by omega
    have hv1 := r1_len (List.replicate i (1 : Int))
    have hv2 := r1_len (List.replicate i (-1 : Int))
    simp only [List.length_replicate] at hv1 hv2
    refine ⟨row1 _ rfl, ⟨by simp only [List.length_cons, List.length_nil]; omega⟩, ?_⟩
    conv => whnf
    refine ⟨row1 _ rfl, ⟨by simp only [List.length_cons, List.length_nil]; omega⟩, ?_⟩
    conv => whnf
    refine gv (by first | omega | (simp only []; omega) | (simp; omega)) (by first | omega | (simp only []; omega) | (simp; omega)) ?_
    conv => whnf
    refine ⟨⟨hi', hi'⟩, [(2, some 2), (50, some 53), (51, some 55)], ?_⟩
    repeat' (first | exact trivial | rfl | refine And.intro ?_ ?_)
    all_goals (conv => whnf)
    repeat' (first | exact trivial | rfl | refine And.intro ?_ ?_)
    · exact (r1_rep _ _).symm
    · exact (r1_rep _ _).symm
  · have hi' : i = c.cells.length := by omega
    subst hi'
    refine ⟨[(0, some 2), (1, none), (2, some 50), (3, some 51)], rfl, ?_⟩
    repeat' (first | exact trivial | rfl | refine And.intro ?_ ?_)
    all_goals (conv => whnf)
    repeat' (first | exact trivial | rfl | refine And.intro ?_ ?_)

/-- the other reports, and this one behind them -/
def notKey (r x : Rep) : Bool := decide (x.ob ≠ r.ob ∨ x.ce ≠ r.ce)

def refL (c : Cfg) (l : List Rep) (r : Rep) : List Rep := if repOk c r then (if older l r then l else l.filter (notKey r) ++ [r]) else l

theorem find_of_mem {l : List Rep} (hk : Keys l) {x : Rep} (hx : x ∈ l) : findR x.ob x.ce l = some x := by
  induction l with
  | nil => cases hx
  | cons a l ih =>
    have h := List.pairwise_cons.1 hk
    rw [findR]
    rcases List.mem_cons.1 hx with rfl | hx
    · rw [isKey_iff.2 ⟨rfl, rfl⟩]
    · cases hq : isKey x.ob x.ce a with
      | true =>
        have := isKey_iff.1 hq
        exact absurd ⟨this.1.symm, this.2.symm⟩ (h.1 x hx)
      | false => exact ih h.2 hx

theorem older_yes {l : List Rep} (hk : Keys l) {r x : Rep} (hx : x ∈ l) (h1 : x.ob = r.ob) (h2 : x.ce = r.ce) (h3 : r.ti < x.ti) : older l r = true := by
  have := find_of_mem hk hx
  rw [h1, h2] at this
  simp [older, this, h3]

theorem older_no {l : List Rep} {r : Rep} (h : ∀ x ∈ l, notKey r x = true ∨ ¬ r.ti < x.ti) : older l r = false := by
  unfold older
  cases hf : findR r.ob r.ce l with
  | none => rfl
  | some q =>
    have := find_some hf
    rcases h q this.1 with h | h
    · simp only [notKey, decide_eq_true_eq] at h; omega
    · simpa using h

set_option maxHeartbeats 2000000 in
set_option maxRecDepth 100000 in
theorem reportR_c (c : Cfg) (s : W23) (r : Rep) (h : WOk c s) : CallsH Try.prog 41 [.c (.ptr 0 0 0), repV r] (rH c s) (I (repE c s.reps r))
    [rBox c s 4 2 3, .gone, .arr 3 (r1 s.ver), .arr 3 (r1 s.dou), .arr 45 (rR (refL c s.reps r))] := by
  have hbad : ¬ repOk c r → repE c s.reps r = 1 ∧ refL c s.reps r = s.reps := fun hb => by simp [repE, refL, hb]
  have hro := r1_len c.observers
  have hrc := r2_len c.cells
  have hrr := rR_len s.reps
  have hfew := h.few
  refine callsR_of tab mixed Try.func41 rfl (by decide) rfl rfl ?_
  conv => whnf
  refine ⟨by kernel_rfl, ?_⟩
  conv => whnf
  refine spD (fun h1 => ?_) (fun h1 => ?_) <;> conv => whnf
  · obtain ⟨e1, e2⟩ := hbad (fun hb => by have := hb.1; omega)
    refine ⟨[(0, some 0), (4, some 1), (2, some 2), (3, some 3)], rfl, ?_⟩
    rw [e1]
    repeat' (first | exact trivial | rfl | refine And.intro ?_ ?_)
    all_goals (conv => whnf)
    repeat' (first | exact trivial | rfl | refine And.intro ?_ ?_)
    rw [e2]
  refine spD (fun h2 => ?_) (fun h2 => ?_) <;> conv => whnf
  · obtain ⟨e1, e2⟩ := hbad (fun hb => by have := hb.1; omega)
    refine ⟨[(0, some 0), (4, some 1), (2, some 2), (3, some 3)], rfl, ?_⟩
    rw [e1]
    repeat' (first | exact trivial | rfl | refine And.intro ?_ ?_)
    all_goals (conv => whnf)
    repeat' (first | exact trivial | rfl | refine And.intro ?_ ?_)
    rw [e2]
  refine spD (fun h3 => ?_) (fun h3 => ?_) <;> conv => whnf
  · obtain ⟨e1, e2⟩ := hbad (fun hb => by have := hb.2.1; omega)
    refine ⟨[(0, some 0), (4, some 1), (2, some 2), (3, some 3)], rfl, ?_⟩
    rw [e1]
    repeat' (first | exact trivial | rfl | refine And.intro ?_ ?_)
    all_goals (conv => whnf)
    repeat' (first | exact trivial | rfl | refine And.intro ?_ ?_)
    rw [e2]
  refine spD (fun h3' => ?_) (fun h3' => ?_) <;> conv => whnf
  · obtain ⟨e1, e2⟩ := hbad (fun hb => by have := hb.2.1; omega)
    refine ⟨[(0, some 0), (4, some 1), (2, some 2), (3, some 3)], rfl, ?_⟩
    rw [e1]
    repeat' (first | exact trivial | rfl | refine And.intro ?_ ?_)
    all_goals (conv => whnf)
    repeat' (first | exact trivial | rfl | refine And.intro ?_ ?_)
    rw [e2]
  refine spD (fun h4 => ?_) (fun h4 => ?_) <;> conv => whnf
  · obtain ⟨e1, e2⟩ := hbad (fun hb => by have := hb.2.2; omega)
    refine ⟨[(0, some 0), (4, some 1), (2, some 2), (3, some 3)], rfl, ?_⟩
    rw [e1]
    repeat' (first | exact trivial | rfl | refine And.intro ?_ ?_)
    all_goals (conv => whnf)
    repeat' (first | exact trivial | rfl | refine And.intro ?_ ?_)
    rw [e2]
  refine spD (fun h5 => ?_) (fun h5 => ?_) <;> conv => whnf
  · obtain ⟨e1, e2⟩ := hbad (fun hb => by have := hb.2.2; omega)
    refine ⟨[(0, some 0), (4, some 1), (2, some 2), (3, some 3)], rfl, ?_⟩
    rw [e1]
    repeat' (first | exact trivial | rfl | refine And.intro ?_ ?_)
    all_goals (conv => whnf)
    repeat' (first | exact trivial | rfl | refine And.intro ?_ ?_)
    rw [e2]
  have hok : repOk c r := ⟨by omega, by omega, by omega, by omega⟩
  refine loopN tab mixed (fun i => i ≤ s.reps.length ∧ ∀ x ∈ s.reps.take i, notKey r x = true ∨ ¬ r.ti < x.ti) s.reps.length (fun i => [(6, I i), (5, .c (.gs 50))]) (fun i => [(50, .arr 45 (rR ((s.reps.take i).filter (notKey r))))]) 51 [(50, none)] ⟨by omega, by simp⟩ ?_
  conv => whnf
  refine ⟨?_, fun i ⟨hi, hall⟩ => ?_⟩
  · repeat' (first | exact trivial | rfl | refine And.intro ?_ ?_)
    all_goals (conv => whnf)
    repeat' (first | exact trivial | rfl | refine And.intro ?_ ?_)
  conv => whnf
  have hfl : ((s.reps.take i).filter (notKey r)).length ≤ i := Nat.le_trans (List.length_filter_le ..) (List.length_take_le ..)
  have hfr := rR_len ((s.reps.take i).filter (notKey r))
  refine spD (fun h6 => ?_) (fun h6 => ?_) <;> conv => whnf
  · have hi' : i < s.reps.length := by omega
    obtain ⟨x, hx⟩ := get_of hi'
    have hyes : notKey r x = true → (s.reps.take (i + 1)).filter (notKey r) = (s.reps.take i).filter (notKey r) ++ [x] := fun hk => by rw [take_succ_of hx, List.filter_append]; simp [hk]
    have hno : notKey r x = false → (s.reps.take (i + 1)).filter (notKey r) = (s.reps.take i).filter (notKey r) := fun hk => by rw [take_succ_of hx, List.filter_append]; simp [hk]
    refine ⟨by omega, by omega, _, rR_get hx, ?_⟩
    conv => whnf
    refine spNe (fun h7 => ?_) (fun h7 => ?_) <;> conv => whnf
    · have hk : notKey r x = true := by simp [notKey, h7]
      refine ⟨row4 _, ⟨by simp only [List.length_cons, List.length_nil]; omega⟩, ?_⟩
      conv => whnf
      refine gv (by first | omega | (simp only []; omega) | (simp; omega)) (by first | omega | (simp only []; omega) | (simp; omega)) ?_
      conv => whnf
      refine ⟨⟨hi', hi', take_all hx hall (.inl hk)⟩, [(50, some 53)], ?_⟩
      rw [hyes hk]
      repeat' (first | exact trivial | rfl | refine And.intro ?_ ?_)
      all_goals (conv => whnf)
      repeat' (first | exact trivial | rfl | refine And.intro ?_ ?_)
      exact (rR_app _ _).symm
    refine spNe (fun h8 => ?_) (fun h8 => ?_) <;> conv => whnf
    · have hk : notKey r x = true := by simp [notKey, h8]
      refine ⟨row4 _, ⟨by simp only [List.length_cons, List.length_nil]; omega⟩, ?_⟩
      conv => whnf
      refine gv (by first | omega | (simp only []; omega) | (simp; omega)) (by first | omega | (simp only []; omega) | (simp; omega)) ?_
      conv => whnf
      refine ⟨⟨hi', hi', take_all hx hall (.inl hk)⟩, [(50, some 53)], ?_⟩
      rw [hyes hk]
      repeat' (first | exact trivial | rfl | refine And.intro ?_ ?_)
      all_goals (conv => whnf)
      repeat' (first | exact trivial | rfl | refine And.intro ?_ ?_)
      exact (rR_app _ _).symm
    have hk : notKey r x = false := by simp [notKey, h7, h8]
    refine spD (fun h9 => ?_) (fun h9 => ?_) <;> conv => whnf
    · have ho := older_yes h.keys (List.mem_of_getElem? hx) h7 h8 h9
      have e1 : repE c s.reps r = 20 := by simp [repE, hok, ho]
      have e2 : refL c s.reps r = s.reps := by simp [refL, hok, ho]
      refine ⟨[(0, some 0), (4, some 1), (2, some 2), (3, some 3)], rfl, ?_⟩
      rw [e1]
      repeat' (first | exact trivial | rfl | refine And.intro ?_ ?_)
      all_goals (conv => whnf)
      repeat' (first | exact trivial | rfl | refine And.intro ?_ ?_)
      rw [e2]
    · refine gv (by first | omega | (simp only []; omega) | (simp; omega)) (by first | omega | (simp only []; omega) | (simp; omega)) ?_
      conv => whnf
      refine ⟨⟨hi', hi', take_all hx hall (.inr h9)⟩, [(50, some 50)], ?_⟩
      rw [hno hk]
      repeat' (first | exact trivial | rfl | refine And.intro ?_ ?_)
      all_goals (conv => whnf)
      repeat' (first | exact trivial | rfl | refine And.intro ?_ ?_)
  · have hi' : i = s.reps.length := by omega
    rw [hi', List.take_length] at hall
    have ho := older_no hall
    have e1 : repE c s.reps r = 0 := by simp [repE, hok, ho]
    have e2 : refL c s.reps r = s.reps.filter (notKey r) ++ [r] := by simp [refL, hok, ho]
    refine ⟨row4 r, ⟨by simp only [List.length_cons, List.length_nil]; omega⟩, ?_⟩
    conv => whnf
    refine ⟨[(0, some 0), (4, some 52), (2, some 2), (3, some 3)], rfl, ?_⟩
    rw [e1]
    repeat' (first | exact trivial | rfl | refine And.intro ?_ ?_)
    all_goals (conv => whnf)
    repeat' (first | exact trivial | rfl | refine And.intro ?_ ?_)
    rw [e2, hi', List.take_length]
    exact (rR_app _ _).symm

end Go.Proofs.Ytladepmfgbfkpaa
