/- Contracts: the plans that the reference makes (cellplaneref34.Make): how long they are. Conditions: those ahead of each theorem. -/
import Derived.Test.YtncckpieemmmfaaGreatRfB
namespace Go.Proofs.YtncckpieemmmfaaGreat
open Go Go.Cpl

set_option maxRecDepth 100000 in
theorem before33_c (c : Cfg) (a b : Int) (ha : inT c a) (hb : inT c b) : CallsH Tryz.prog 127 [cfgV c, I a, I b] [] (B (befS c a b)) [] := by
  have hl := rT_len c.tenants
  obtain ⟨a1, a2⟩ := ha
  obtain ⟨b1, b2⟩ := hb
  obtain ⟨x, hx⟩ := get_int (l := c.tenants) a1 (by omega)
  obtain ⟨y, hy⟩ := get_int (l := c.tenants) b1 (by omega)
  have e1 : prioOf c a = x.priority := by simp [prioOf, hx]
  have e2 : prioOf c b = y.priority := by simp [prioOf, hy]
  have e3 : loadAt c a = x.load := by simp [loadAt, hx]
  have e4 : loadAt c b = y.load := by simp [loadAt, hy]
  have e := befS_iff c a b
  rw [e1, e2, e3, e4] at e
  generalize hR : befS c a b = R at *
  have hyes : (x.priority < y.priority ∨ x.priority = y.priority ∧ (y.load < x.load ∨ y.load = x.load ∧ a < b)) → R = true := e.2
  have hnot : ¬ (x.priority < y.priority ∨ x.priority = y.priority ∧ (y.load < x.load ∨ y.load = x.load ∧ a < b)) → R = false := fun h => by
    cases R with
    | false => rfl
    | true => exact absurd (e.1 rfl) h
  refine callsR_of tab mixed Tryz.func127 rfl (by decide) rfl rfl ?_
  conv => whnf
  refine ⟨by kernel_rfl, ?_⟩
  conv => whnf
  refine ⟨by omega, _, rT_get hx, ?_⟩
  conv => whnf
  refine ⟨by omega, _, rT_get hy, ?_⟩
  conv => whnf
  refine spNe (fun q1 => ?_) (fun q1 => ?_) <;> (try dsimp only at q1) <;> conv => whnf
  · have : R = decide (x.priority < y.priority) := by
      by_cases hh : x.priority < y.priority
      · rw [hyes (by omega), decide_eq_true hh]
      · rw [hnot (by omega), decide_eq_false hh]
    subst this
    first | exact ⟨[], rfl, ⟨rfl, rfl⟩, trivial⟩ | exact ⟨[], rfl, rfl, trivial⟩
  refine spNe (fun q2 => ?_) (fun q2 => ?_) <;> (try dsimp only at q2) <;> conv => whnf
  · have : R = decide (y.load < x.load) := by
      by_cases hh : y.load < x.load
      · rw [hyes (by omega), decide_eq_true hh]
      · rw [hnot (by omega), decide_eq_false hh]
    subst this
    first | exact ⟨[], rfl, ⟨rfl, rfl⟩, trivial⟩ | exact ⟨[], rfl, rfl, trivial⟩
  · have : R = decide (a < b) := by
      by_cases hh : a < b
      · rw [hyes (by omega), decide_eq_true hh]
      · rw [hnot (by omega), decide_eq_false hh]
    subst this
    first | exact ⟨[], rfl, ⟨rfl, rfl⟩, trivial⟩ | exact ⟨[], rfl, rfl, trivial⟩

theorem ins_rows (out : List Int) (n : Nat) (i : Int) : r1 (out.take n ++ i :: out.drop n) = [] ++ List.take n (List.drop 0 (r1 out)) ++ [[i64 i]] ++ List.take ((r1 out).length - n) (List.drop n (r1 out)) := by
  rw [List.take_of_length_le (l := List.drop n (r1 out)) (by simp)]
  simp [r1, List.map_take, List.map_drop]

/-- the tenants among some, in the making of their order -/
structure OJ (c : Cfg) (l : List Int) where
  i : Nat
  out : List Int
  hi : i ≤ c.tenants.length
  hp : out.Perm (upto (fun k => decide ((k : Int) ∈ l)) i)

def ROrd (c : Cfg) (l : List Int) (res : AV) (hout : List HObj) : Prop := ∃ out, res = .c (.gs 0) ∧ hout = [.arr 3 (r1 out)] ∧ out.Perm (upto (fun k => decide ((k : Int) ∈ l)) c.tenants.length)

set_option maxHeartbeats 2000000 in
set_option maxRecDepth 100000 in
theorem order33_q (c : Cfg) (l : List Int) (hl : l.length ≤ 1000) (hT : c.tenants.length ≤ 100) : ExH Tryz.prog 98 [cfgV c, .c (.d (.sl (r1 l)))] [] (ROrd c l) := by
  have l1 := r1_len l
  have l2 := rT_len c.tenants
  refine callsE_of tab mixed noRel Tryz.func98 rfl (by decide) rfl rfl ?_
  conv => whnf
  refine loopE tab mixed noRel (ι := OJ c l) (fun k => [(14, I k.i), (5, .c (.gs 50))]) (fun k => [(50, .arr 3 (r1 k.out))]) 51 (fun k => c.tenants.length - k.i) ⟨0, [], by omega, by simp [upto]⟩ [(50, none)] ?_
  conv => whnf
  refine ⟨?_, fun k => ?_⟩
  · repeat' (first | exact trivial | rfl | refine And.intro ?_ ?_)
    all_goals (conv => whnf)
    repeat' (first | exact trivial | rfl | refine And.intro ?_ ?_)
  obtain ⟨i, out, hi, hp⟩ := k
  have hol : out.length ≤ i := by rw [hp.length_eq]; exact upto_leN _ i
  have hin : ∀ z ∈ out, inT c z := fun z hz => by
    obtain ⟨k, hk, rfl, _⟩ := upto_mem (hp.subset hz)
    unfold inT; omega
  have l3 := r1_len out
  dsimp only
  conv => whnf
  refine spD (fun q1 => ?_) (fun q1 => ?_) <;> conv => whnf
  rotate_left 1
  · have hi' : i = c.tenants.length := by omega
    subst hi'
    exact ⟨_, _, ⟨out, rfl, rfl, hp⟩, [(0, some 50)], rfl, rfl, ⟨rfl, rfl⟩, trivial⟩
  have hi' : i < c.tenants.length := by omega
  refine loopEN tab mixed noRel (fun j => j ≤ l.length) l.length (fun j => [(19, I j), (7, B (decide ((i : Int) ∈ l.take j)))]) (fun _ => []) 61 [] (by omega) ?_
  conv => whnf
  refine ⟨?_, fun j hj => ?_⟩
  · repeat' (first | exact trivial | rfl | refine And.intro ?_ ?_)
    all_goals (conv => whnf)
    repeat' (first | exact trivial | rfl | refine And.intro ?_ ?_)
  conv => whnf
  refine spD (fun q2 => ?_) (fun q2 => ?_) <;> conv => whnf
  · have hj' : j < l.length := by omega
    obtain ⟨v, hv⟩ := get_of hj'
    have hts := take_succ_of hv
    refine ⟨by omega, _, r1_get hv, ?_⟩
    conv => whnf
    refine spD (fun q3 => ?_) (fun q3 => ?_) <;> conv => whnf
    · refine gv (by first | omega | (simp only []; omega) | (simp; omega)) (by first | omega | (simp only []; omega) | (simp; omega)) ?_
      conv => whnf
      refine ⟨⟨hj', hj'⟩, [], ?_⟩
      repeat' (first | exact trivial | rfl | refine And.intro ?_ ?_)
      all_goals (conv => whnf)
      repeat' (first | exact trivial | rfl | refine And.intro ?_ ?_)
      rw [hts]
      simp [q3]
    · refine gv (by first | omega | (simp only []; omega) | (simp; omega)) (by first | omega | (simp only []; omega) | (simp; omega)) ?_
      conv => whnf
      refine ⟨⟨hj', hj'⟩, [], ?_⟩
      repeat' (first | exact trivial | rfl | refine And.intro ?_ ?_)
      all_goals (conv => whnf)
      repeat' (first | exact trivial | rfl | refine And.intro ?_ ?_)
      rw [hts]
      simp [q3]
      exact decide_eq_decide.2 ⟨Eq.symm, Eq.symm⟩
  have hj' : j = l.length := by omega
  rw [hj', List.take_length]
  refine spN (fun q3 => ?_) (fun q3 => ?_) <;> conv => whnf
  · refine gv (by first | omega | (simp only []; omega) | (simp; omega)) (by first | omega | (simp only []; omega) | (simp; omega)) ?_
    conv => whnf
    refine ⟨⟨i + 1, out, by omega, by rw [upto_no (by simpa using q3)]; exact hp⟩, [(50, some 50)], ?_, by show c.tenants.length - (i + 1) < c.tenants.length - i; omega⟩
    repeat' (first | exact trivial | rfl | refine And.intro ?_ ?_)
    all_goals (conv => whnf)
    repeat' (first | exact trivial | rfl | refine And.intro ?_ ?_)
  -- the place
  refine loopE tab mixed noRel (ι := { n : Nat // n ≤ out.length }) (fun k => [(10, I k.1)]) (fun _ => []) 71 (fun k => out.length - k.1) ⟨0, by omega⟩ [] ?_
  conv => whnf
  refine ⟨?_, fun k => ?_⟩
  · repeat' (first | exact trivial | rfl | refine And.intro ?_ ?_)
    all_goals (conv => whnf)
    repeat' (first | exact trivial | rfl | refine And.intro ?_ ?_)
  obtain ⟨n, hn⟩ := k
  have hins : (out.take n ++ (i : Int) :: out.drop n).Perm (upto (fun k => decide ((k : Int) ∈ l)) (i + 1)) := by
    rw [upto_yes (by simpa using q3)]
    refine (List.perm_middle).trans ?_
    rw [List.take_append_drop]
    exact (List.Perm.cons _ hp).trans (List.perm_append_comm (l₁ := [(i : Int)]))
  dsimp only
  conv => whnf
  refine ⟨by kernel_rfl, ?_⟩
  conv => whnf
  refine spD (fun q4 => ?_) (fun q4 => ?_) <;> conv => whnf
  · obtain ⟨v, hv⟩ := get_of (l := out) (i := n) (by omega)
    refine ⟨by omega, by omega, _, r1_get hv, ?_⟩
    conv => whnf
    refine ⟨_, _, before33_c c v i (hin v (List.mem_of_getElem? hv)) ⟨by omega, by omega⟩, ?_⟩
    conv => whnf
    refine ⟨fun q5 => ?_, fun q5 => ?_⟩ <;> conv => whnf
    · refine gv (by first | omega | (simp only []; omega) | (simp; omega)) (by first | omega | (simp only []; omega) | (simp; omega)) ?_
      conv => whnf
      refine ⟨⟨n + 1, by omega⟩, [], ?_, by show out.length - (n + 1) < out.length - n; omega⟩
      repeat' (first | exact trivial | rfl | refine And.intro ?_ ?_)
      all_goals (conv => whnf)
      repeat' (first | exact trivial | rfl | refine And.intro ?_ ?_)
    · skip
      refine ⟨by kernel_rfl, ?_⟩
      conv => whnf
      refine ⟨by omega, by omega, ?_⟩
      conv => whnf
      refine ⟨fun r hr => r1_okE out r (List.mem_of_mem_drop (List.mem_of_mem_take hr)), ⟨by simp; omega⟩, ?_⟩
      conv => whnf
      refine ⟨row1 _ rfl, ⟨by simp; omega⟩, ?_⟩
      conv => whnf
      refine ⟨by omega, by omega, ?_⟩
      conv => whnf
      refine ⟨fun r hr => r1_okE out r (List.mem_of_mem_drop (List.mem_of_mem_take hr)), ⟨by simp; omega⟩, ?_⟩
      conv => whnf
      refine gv (by first | omega | (simp only []; omega) | (simp; omega)) (by first | omega | (simp only []; omega) | (simp; omega)) ?_
      conv => whnf
      refine ⟨⟨i + 1, out.take n ++ (i : Int) :: out.drop n, by omega, hins⟩, [(50, some 75)], ?_, by show c.tenants.length - (i + 1) < c.tenants.length - i; omega⟩
      repeat' (first | exact trivial | rfl | refine And.intro ?_ ?_)
      all_goals (conv => whnf)
      repeat' (first | exact trivial | rfl | refine And.intro ?_ ?_)
      all_goals exact ins_rows out n i
  · skip
    refine ⟨by kernel_rfl, ?_⟩
    conv => whnf
    refine ⟨by omega, by omega, ?_⟩
    conv => whnf
    refine ⟨fun r hr => r1_okE out r (List.mem_of_mem_drop (List.mem_of_mem_take hr)), ⟨by simp; omega⟩, ?_⟩
    conv => whnf
    refine ⟨row1 _ rfl, ⟨by simp; omega⟩, ?_⟩
    conv => whnf
    refine ⟨by omega, by omega, ?_⟩
    conv => whnf
    refine ⟨fun r hr => r1_okE out r (List.mem_of_mem_drop (List.mem_of_mem_take hr)), ⟨by simp; omega⟩, ?_⟩
    conv => whnf
    refine gv (by first | omega | (simp only []; omega) | (simp; omega)) (by first | omega | (simp only []; omega) | (simp; omega)) ?_
    conv => whnf
    refine ⟨⟨i + 1, out.take n ++ (i : Int) :: out.drop n, by omega, hins⟩, [(50, some 75)], ?_, by show c.tenants.length - (i + 1) < c.tenants.length - i; omega⟩
    repeat' (first | exact trivial | rfl | refine And.intro ?_ ?_)
    all_goals (conv => whnf)
    repeat' (first | exact trivial | rfl | refine And.intro ?_ ?_)
    all_goals exact ins_rows out n i

theorem upto_again {p : Nat → Bool} {n : Nat} : upto (fun k => decide ((k : Int) ∈ upto p n)) n = upto p n := by
  have : ∀ m, m ≤ n → upto (fun k => decide ((k : Int) ∈ upto p n)) m = upto p m := by
    intro m
    induction m with
    | zero => intro _; rfl
    | succ m ih =>
      intro hm
      have hi := ih (by omega)
      cases h : p m with
      | true => rw [upto_yes (p := p) h, upto_yes (by simpa using upto_in (by omega) h), hi]
      | false =>
        rw [upto_no (p := p) h, upto_no, hi]
        refine decide_eq_false fun hh => ?_
        obtain ⟨k, _, e, hk⟩ := upto_mem hh
        have : k = m := by omega
        subst this
        rw [h] at hk; cases hk
  exact this n (Nat.le_refl _)

def RLow (c : Cfg) (s : St) (T : List TS) (Bk : List Int) (cell prio : Int) (res : AV) (hout : List HObj) : Prop := ∃ out, res = .c (.gs 3) ∧ hout = rfH c s T Bk ++ [.arr 3 (r1 out)] ∧ out.Perm (lowL c (T.map seatOf) cell prio)

set_option maxHeartbeats 1000000 in
set_option maxRecDepth 100000 in
theorem lowerR_q (c : Cfg) (s : St) {T : List TS} {Bk : List Int} (cell prio : Int) (hT : c.tenants.length ≤ 12) (hn : T.length = c.tenants.length) : ExH Tryz.prog 62 [.c (.ptr 0 0 0), I cell, I prio] (rfH c s T Bk) (RLow c s T Bk cell prio) := by
  have l1 := rTS_len T
  have l2 := rT_len c.tenants
  have hlow : lowL c (T.map seatOf) cell prio = upto (lowP c (T.map seatOf) cell prio) T.length := by unfold lowL; rw [List.length_map]
  have hll := upto_leN (lowP c (T.map seatOf) cell prio) T.length
  have hord := order33_q c (lowL c (T.map seatOf) cell prio) (by rw [hlow]; omega) (by omega)
  refine callsE_of tab mixed noRel Tryz.func62 rfl (by decide) rfl rfl ?_
  conv => whnf
  refine loopEN tab mixed noRel (fun i => i ≤ T.length) T.length (fun i => [(15, I i), (7, .c (.gs 50))]) (fun i => [(50, .arr 3 (r1 (upto (lowP c (T.map seatOf) cell prio) i)))]) 51 [(50, none)] (by omega) ?_
  conv => whnf
  refine ⟨?_, fun i hi => ?_⟩
  · repeat' (first | exact trivial | rfl | refine And.intro ?_ ?_)
    all_goals (conv => whnf)
    repeat' (first | exact trivial | rfl | refine And.intro ?_ ?_)
  conv => whnf
  refine spD (fun q1 => ?_) (fun q1 => ?_) <;> conv => whnf
  · have hi' : i < T.length := by omega
    obtain ⟨t, hx⟩ := get_of hi'
    obtain ⟨d, hd⟩ := get_of (l := c.tenants) (i := i) (by omega)
    have ep : prioOf c (i : Int) = d.priority := by simp [prioOf, hd]
    have hx2 : (T.map seatOf)[i]? = some (seatOf t) := by rw [List.getElem?_map, hx]; rfl
    have e : lowP c (T.map seatOf) cell prio i = ((t.placed && !t.shed) && (decide (t.home = cell) && decide (d.priority < prio))) := by
      unfold lowP; rw [hx2, ep]; rfl
    have hact := activeR_c c s (Bk := Bk) (i := (i : Int)) (by omega) (by simpa using hx)
    refine ⟨by omega, by omega, _, rTS_get hx, ?_⟩
    conv => whnf
    refine ⟨_, _, hact, ?_⟩
    conv => whnf
    cases hac : (t.placed && !t.shed)
    · rw [hac] at e
      refine ⟨fun q => (by cases q), fun _ => ?_⟩
      conv => whnf
      refine gv (by first | omega | (simp only []; omega) | (simp; omega)) (by first | omega | (simp only []; omega) | (simp; omega)) ?_
      conv => whnf
      refine ⟨⟨hi', hi'⟩, [(50, some 50)], ?_⟩
      repeat' (first | exact trivial | rfl | refine And.intro ?_ ?_)
      all_goals (conv => whnf)
      repeat' (first | exact trivial | rfl | refine And.intro ?_ ?_)
      rw [upto_no (by rw [e]; rfl)]
    rw [hac] at e
    refine ⟨fun _ => ?_, fun q => (by cases q)⟩
    conv => whnf
    refine spE (fun q2 => ?_) (fun q2 => ?_) <;> (try dsimp only at q2) <;> conv => whnf
    rotate_left 1
    · refine gv (by first | omega | (simp only []; omega) | (simp; omega)) (by first | omega | (simp only []; omega) | (simp; omega)) ?_
      conv => whnf
      refine ⟨⟨hi', hi'⟩, [(50, some 50)], ?_⟩
      repeat' (first | exact trivial | rfl | refine And.intro ?_ ?_)
      all_goals (conv => whnf)
      repeat' (first | exact trivial | rfl | refine And.intro ?_ ?_)
      rw [upto_no (by rw [e, decide_eq_false q2]; rfl)]
    refine ⟨by omega, _, rT_get hd, ?_⟩
    conv => whnf
    refine spD (fun q3 => ?_) (fun q3 => ?_) <;> (try dsimp only at q3) <;> conv => whnf
    · refine ⟨row1 _ rfl, up_fits hi' (by omega) _ rfl, ?_⟩
      conv => whnf
      refine gv (by first | omega | (simp only []; omega) | (simp; omega)) (by first | omega | (simp only []; omega) | (simp; omega)) ?_
      conv => whnf
      refine ⟨⟨hi', hi'⟩, [(50, some 53)], ?_⟩
      repeat' (first | exact trivial | rfl | refine And.intro ?_ ?_)
      all_goals (conv => whnf)
      repeat' (first | exact trivial | rfl | refine And.intro ?_ ?_)
      rw [upto_yes (by rw [e, decide_eq_true q2, decide_eq_true q3]; rfl)]
      exact (r1_app _ _).symm
    · refine gv (by first | omega | (simp only []; omega) | (simp; omega)) (by first | omega | (simp only []; omega) | (simp; omega)) ?_
      conv => whnf
      refine ⟨⟨hi', hi'⟩, [(50, some 50)], ?_⟩
      repeat' (first | exact trivial | rfl | refine And.intro ?_ ?_)
      all_goals (conv => whnf)
      repeat' (first | exact trivial | rfl | refine And.intro ?_ ?_)
      rw [upto_no (by rw [e, decide_eq_false q3]; simp)]
  · have hi' : i = T.length := by omega
    rw [hi', ← hlow]
    refine exK hord ?_
    rintro _ _ ⟨out, rfl, rfl, hp⟩
    conv => whnf
    refine ⟨_, _, ⟨out, rfl, rfl, ?_⟩, [(0, some 0), (1, some 1), (2, some 2), (3, some 51)], ?_⟩
    · have : upto (fun k => decide ((k : Int) ∈ lowL c (T.map seatOf) cell prio)) c.tenants.length = lowL c (T.map seatOf) cell prio := by
        rw [hlow, ← hn]; exact upto_again
      rw [this] at hp
      exact hp
    · repeat' (first | exact trivial | rfl | refine And.intro ?_ ?_)
      all_goals (conv => whnf)
      repeat' (first | exact trivial | rfl | refine And.intro ?_ ?_)

def RPre (l : List Int) (res : AV) (hout : List HObj) : Prop := (∃ out : List Int, res = .tup [.inl (.gs 0), .inl (.d (.bool true))] ∧ hout = [.arr 3 (r1 out)] ∧ out.length ≤ l.length ∧ ∀ x ∈ out, x ∈ l) ∨ (res = .tup [.inl .ns, .inl (.d (.bool false))] ∧ hout = [])

structure XJ (l : List Int) where
  i : Nat
  out : List Int
  sum : Int
  hi : i ≤ l.length
  ho : out.length ≤ i
  hs : 0 ≤ sum ∧ sum ≤ 65536 * (i : Int)
  hm : ∀ x ∈ out, x ∈ l

set_option maxRecDepth 100000 in
theorem prefix_q (c : Cfg) (l : List Int) (m b : Int) (hg : Good c) (hl : l.length ≤ 1000) (hin : ∀ x ∈ l, inT c x) : ExH Tryz.prog 91 [cfgV c, .c (.d (.sl (r1 l))), I m, I b] [] (RPre l) := by
  have l1 := r1_len l
  refine callsE_of tab mixed noRel Tryz.func91 rfl (by decide) rfl rfl ?_
  conv => whnf
  refine loopE tab mixed noRel (ι := XJ l) (fun k => [(16, I k.i), (10, .c (.gs 50)), (11, I k.sum)]) (fun k => [(50, .arr 3 (r1 k.out))]) 51 (fun k => l.length - k.i) ⟨0, [], 0, by omega, by simp, by simp, by simp⟩ [(50, none)] ?_
  conv => whnf
  refine ⟨?_, fun k => ?_⟩
  · repeat' (first | exact trivial | rfl | refine And.intro ?_ ?_)
    all_goals (conv => whnf)
    repeat' (first | exact trivial | rfl | refine And.intro ?_ ?_)
  obtain ⟨i, out, sum, hi, ho, hs, hm⟩ := k
  have l2 := r1_len out
  dsimp only
  conv => whnf
  refine spD (fun q1 => ?_) (fun q1 => ?_) <;> conv => whnf
  · have hi' : i < l.length := by omega
    obtain ⟨v, hv⟩ := get_of hi'
    have hvi := hin v (List.mem_of_getElem? hv)
    unfold inT at hvi
    obtain ⟨⟨f1, f2, f3, f4, f5, f6, f7⟩, hf⟩ := get_int (l := c.tenants) hvi.1 (by omega)
    have hff := hg.ten _ (List.mem_of_getElem? hf)
    unfold okT at hff
    dsimp only at hff
    refine ⟨by omega, _, r1_get hv, ?_⟩
    conv => whnf
    refine ⟨by omega, _, rT_get hf, ?_⟩
    conv => whnf
    refine spD (fun q2 => ?_) (fun q2 => ?_) <;> (try dsimp only at q2) <;> conv => whnf
    rotate_left 1
    · refine gv (by first | omega | (simp only []; omega) | (simp; omega)) (by first | omega | (simp only []; omega) | (simp; omega)) ?_
      conv => whnf
      refine ⟨⟨i + 1, out, sum, by omega, by omega, by omega, hm⟩, [(50, some 50)], ?_, by show l.length - (i + 1) < l.length - i; omega⟩
      repeat' (first | exact trivial | rfl | refine And.intro ?_ ?_)
      all_goals (conv => whnf)
      repeat' (first | exact trivial | rfl | refine And.intro ?_ ?_)
    refine spD (fun q3 => ?_) (fun q3 => ?_) <;> (try dsimp only at q3) <;> conv => whnf
    rotate_left 1
    · refine gv (by first | omega | (simp only []; omega) | (simp; omega)) (by first | omega | (simp only []; omega) | (simp; omega)) ?_
      conv => whnf
      refine ⟨⟨i + 1, out, sum, by omega, by omega, by omega, hm⟩, [(50, some 50)], ?_, by show l.length - (i + 1) < l.length - i; omega⟩
      repeat' (first | exact trivial | rfl | refine And.intro ?_ ?_)
      all_goals (conv => whnf)
      repeat' (first | exact trivial | rfl | refine And.intro ?_ ?_)
    refine ⟨row1 _ rfl, ⟨by simp; omega⟩, ?_⟩
    conv => whnf
    refine ⟨by omega, _, rT_get hf, ?_⟩
    conv => whnf
    refine gv (by first | omega | (simp only []; omega) | (simp; omega)) (by first | omega | (simp only []; omega) | (simp; omega)) ?_
    conv => whnf
    refine gv (by first | omega | (simp only []; omega) | (simp; omega)) (by first | omega | (simp only []; omega) | (simp; omega)) ?_
    conv => whnf
    refine ⟨⟨i + 1, out ++ [v], sum + f1, by omega, by simp; omega, by omega, fun x hx => by
      rcases List.mem_append.1 hx with hx | hx
      · exact hm x hx
      · rw [List.mem_singleton] at hx; rw [hx]; exact List.mem_of_getElem? hv⟩, [(50, some 52)], ?_, by show l.length - (i + 1) < l.length - i; omega⟩
    repeat' (first | exact trivial | rfl | refine And.intro ?_ ?_)
    all_goals (conv => whnf)
    repeat' (first | exact trivial | rfl | refine And.intro ?_ ?_)
    exact (r1_app _ _).symm
  · refine spD (fun q2 => ?_) (fun q2 => ?_) <;> (try dsimp only at q2) <;> conv => whnf
    · exact ⟨_, _, .inr ⟨rfl, rfl⟩, [], rfl, ⟨trivial, rfl, trivial⟩, trivial⟩
    · exact ⟨_, _, .inl ⟨out, rfl, rfl, by omega, hm⟩, [(0, some 50)], rfl, ⟨rfl, rfl, trivial⟩, ⟨rfl, rfl⟩, trivial⟩

end Go.Proofs.YtncckpieemmmfaaGreat

namespace Go.Proofs.YtncckpieemmmfaaGreat
open Go Go.Cpl

abbrev mvS (i k : Int) : Stp := ⟨2, i, k⟩

structure KJ (c : Cfg) (b : Int) (l : List Stp) where
  j : Nat
  T : List TS
  Bk : List Int
  hj : j ≤ l.length
  hz : SzT c (b + 262144 * (j : Int)) T Bk

theorem szb_step {c : Cfg} (hg : Good c) {b : Int} {T : List TS} {Bk : List Int} {i : Nat} (x : Stp) (h : SzT c (b + 262144 * (i : Int)) T Bk) (hi : b + 262144 * (i : Int) ≤ 999999999000000) (hb : 0 ≤ b) : SzT c (b + 262144 * ((i + 1 : Nat) : Int)) (takeT T x) (takeB c T Bk x) := by
  have := szt_take hg x h hi (by omega)
  rwa [show b + 262144 * (i : Int) + 262144 = b + 262144 * ((i + 1 : Nat) : Int) by omega] at this

def RMove (c : Cfg) (s : St) (b : Int) (T : List TS) (Bk : List Int) (res : AV) (hout : List HObj) : Prop :=
  (res = .c .ns ∧ hout = rfH c s T Bk) ∨ ∃ l T' Bk', res = .c (.d (.sl (rSt l))) ∧ l ≠ [] ∧ l.length ≤ 13 ∧ hout = rfH c s T' Bk' ∧ SzT c (b + 3407872) T' Bk'

set_option maxHeartbeats 4000000 in
set_option maxRecDepth 100000 in
theorem moveR_q (c : Cfg) (s : St) {b : Int} {T : List TS} {Bk : List Int} (i : Int) (w : WG c) (hns : s.cs.length = c.cells.length) (h : SzT c b T Bk) (hb : b ≤ 900000000000000) (hb0 : 0 ≤ b) (hi : inT c i) : ExH Tryz.prog 46 [.c (.ptr 0 0 0), I i] (rfH c s T Bk) (RMove c s b T Bk) := by
  have hg := w.good
  have hnn := h.n
  have hT := w.few
  have l1 := rTS_len T
  unfold inT at hi
  obtain ⟨t, ht⟩ := get_int (l := T) hi.1 (by omega)
  obtain ⟨d, hd⟩ := get_int (l := c.tenants) hi.1 (by omega)
  have hmiss := fun hk => missingR_c c s w h hi.1 ht hk
  refine callsE_of tab mixed noRel Tryz.func46 rfl (by decide) rfl rfl ?_
  conv => whnf
  refine ⟨_, _, okR_c c s hg hns hi.1 ht, ?_⟩
  conv => whnf
  cases hu : usableP c s t.standby
  · refine ⟨fun _ => ?_, fun q => (by cases q)⟩
    conv => whnf
    exact ⟨_, _, .inl ⟨rfl, rfl⟩, [(0, some 0), (1, some 1), (2, some 2)], rfl, trivial, ⟨⟨⟨rfl, rfl⟩, rfl, rfl, rfl, rfl, rfl, rfl, ⟨rfl, rfl⟩, ⟨rfl, rfl⟩, ⟨rfl, rfl⟩, ⟨rfl, rfl⟩, ⟨rfl, rfl⟩, rfl, rfl, ⟨rfl, rfl⟩, ⟨rfl, rfl⟩, ⟨rfl, rfl⟩, ⟨rfl, rfl⟩, rfl, rfl, trivial⟩, ⟨rfl, rfl⟩, ⟨rfl, rfl⟩, trivial⟩⟩
  have hci := usable_in hu
  replace hmiss := hmiss hci
  refine ⟨fun q => (by cases q), fun _ => ?_⟩
  conv => whnf
  refine ⟨by omega, by omega, _, rTS_get ht, ?_⟩
  conv => whnf
  refine ⟨_, _, hmiss, ?_⟩
  conv => whnf
  refine spD (fun q2 => ?_) (fun q2 => ?_) <;> conv => whnf
  · refine ⟨by kernel_rfl, ?_⟩
    conv => whnf
    refine ⟨by omega, _, rT_get hd, ?_⟩
    conv => whnf
    refine exK (lowerR_q c s t.standby d.priority hT hnn) ?_
    rintro _ _ ⟨out, rfl, rfl, hp⟩
    have hol : out.length ≤ 12 := by
      rw [hp.length_eq]
      have := upto_leN (lowP c (T.map seatOf) t.standby d.priority) (T.map seatOf).length
      rw [List.length_map] at this
      unfold lowL; rw [List.length_map]; omega
    have hoi : ∀ x ∈ out, inT c x := fun x hx => low_in (by simp [hnn]) x (hp.subset hx)
    conv => whnf
    refine ⟨rfl, rfl, rfl, ?_⟩
    conv => whnf
    refine exK (prefix_q c out (missB c Bk i t.standby) 10 hg (by omega) hoi) ?_
    rintro _ _ (⟨ys, rfl, rfl, hyl, hym⟩ | ⟨rfl, rfl⟩)
    rotate_left 1
    · conv => whnf
      refine ⟨fun _ => ?_, fun q => (by cases q)⟩
      conv => whnf
      refine ⟨_, _, .inl ⟨rfl, rfl⟩, [(0, some 0), (1, some 1), (2, some 2)], ?_⟩
      repeat' (first | exact trivial | rfl | refine And.intro ?_ ?_)
      all_goals (conv => whnf)
      repeat' (first | exact trivial | rfl | refine And.intro ?_ ?_)
    have hyi : ∀ y ∈ ys, inT c y := fun y hy => hoi y (hym y hy)
    have l3 := r1_len ys
    conv => whnf
    refine ⟨fun q => (by cases q), fun _ => ?_⟩
    conv => whnf
    refine loopEN tab mixed noRel (fun j => j ≤ ys.length) ys.length (fun j => [(56, I j), (6, .c (.gs 50))]) (fun j => [(50, .arr 60 (rSt ((ys.take j).map (shS t.standby))))]) 51 [(50, none)] (by omega) ?_
    conv => whnf
    refine ⟨?_, fun j hj => ?_⟩
    · repeat' (first | exact trivial | rfl | refine And.intro ?_ ?_)
      all_goals (conv => whnf)
      repeat' (first | exact trivial | rfl | refine And.intro ?_ ?_)
    conv => whnf
    refine spD (fun q3 => ?_) (fun q3 => ?_) <;> conv => whnf
    · have hj' : j < ys.length := by omega
      obtain ⟨v, hv⟩ := get_of hj'
      have hts := take_succ_of hv
      refine ⟨by omega, by omega, _, r1_get hv, ?_⟩
      conv => whnf
      refine ⟨rSt_ok [shS t.standby v], ⟨by simp [rSt]; omega⟩, ?_⟩
      conv => whnf
      refine gv (by first | omega | (simp only []; omega) | (simp; omega)) (by first | omega | (simp only []; omega) | (simp; omega)) ?_
      conv => whnf
      refine ⟨⟨hj', hj'⟩, [(50, some 52)], ?_⟩
      repeat' (first | exact trivial | rfl | refine And.intro ?_ ?_)
      all_goals (conv => whnf)
      repeat' (first | exact trivial | rfl | refine And.intro ?_ ?_)
      rw [hts, List.map_append]
      exact (rSt_app _ _).symm
    have hj' : j = ys.length := by omega
    rw [hj', List.take_length]
    refine ⟨rSt_ok [mvS i t.standby], ⟨by simp [rSt] <;> omega⟩, ?_⟩
    conv => whnf
    have hlen : (ys.map (shS t.standby) ++ [mvS i t.standby]).length ≤ 13 := by simp <;> omega
    refine loopE tab mixed noRel (ι := KJ c b (ys.map (shS t.standby) ++ [mvS i t.standby])) (fun k => [(75, I k.j)]) (fun k => [(1, .arr 58 (rTS k.T)), (2, .arr 3 (r1 k.Bk))]) 61 (fun k => (ys.map (shS t.standby) ++ [mvS i t.standby]).length - k.j) ⟨0, T, Bk, by omega, by simpa using h⟩ [(1, some 1), (2, some 2)] ?_
    conv => whnf
    refine ⟨?_, fun k => ?_⟩
    · repeat' (first | exact trivial | rfl | refine And.intro ?_ ?_)
      all_goals (conv => whnf)
      repeat' (first | exact trivial | rfl | refine And.intro ?_ ?_)
    obtain ⟨j, T2, Bk2, hj, hz2⟩ := k
    have hrow : rSt (ys.map (shS t.standby)) ++ [[i64 2, i64 i, i64 t.standby]] = rSt (ys.map (shS t.standby) ++ [mvS i t.standby]) := by simp [rSt, stD]
    have hn2 := hz2.n
    dsimp only
    conv => whnf
    refine spD (fun q5 => ?_) (fun q5 => ?_)
    · rw [hrow, rSt_len] at q5
      have hj' : j < (ys.map (shS t.standby) ++ [mvS i t.standby]).length := by omega
      obtain ⟨⟨kind, ten, cell⟩, hx⟩ := get_of hj'
      have hten : 0 ≤ ten ∧ ten < T2.length := by
        rcases List.mem_append.1 (List.mem_of_getElem? hx) with hh | hh
        · obtain ⟨y, hy, e⟩ := List.mem_map.1 hh
          cases e
          have := hyi _ hy
          unfold inT at this
          omega
        · rw [List.mem_singleton] at hh
          cases hh
          omega
      conv => whnf
      refine ⟨by omega, by rw [hrow, rSt_len]; omega, _, by rw [hrow]; exact rSt_get hx, ?_⟩
      conv => whnf
      refine ⟨_, _, takeR_c c s kind ten cell w hz2 (by omega) hten, ?_⟩
      conv => whnf
      refine gv (by first | omega | (simp only []; omega) | (simp; omega)) (by first | omega | (simp only []; omega) | (simp; omega)) ?_
      conv => whnf
      refine ⟨⟨j + 1, takeT T2 ⟨kind, ten, cell⟩, takeB c T2 Bk2 ⟨kind, ten, cell⟩, by omega, szb_step hg _ hz2 (by omega) hb0⟩, [(1, some 1), (2, some 2)], ?_, by show (ys.map (shS t.standby) ++ [mvS i t.standby]).length - (j + 1) < (ys.map (shS t.standby) ++ [mvS i t.standby]).length - j; omega⟩
      repeat' (first | exact trivial | rfl | refine And.intro ?_ ?_)
      all_goals (conv => whnf)
      repeat' (first | exact trivial | rfl | refine And.intro ?_ ?_)
    · conv => whnf
      refine ⟨_, _, .inr ⟨_, T2, Bk2, rfl, by simp, hlen, rfl, hz2.n, hz2.k, fun x hx => by have := hz2.bd x hx; omega, by omega⟩, [(0, some 0), (1, some 1), (2, some 2)], ?_⟩
      repeat' (first | exact trivial | rfl | refine And.intro ?_ ?_)
      all_goals (conv => whnf)
      repeat' (first | exact trivial | rfl | refine And.intro ?_ ?_)
      exact hrow.symm
  · obtain ⟨ys, hys⟩ : ∃ ys : List Int, ys = [] := ⟨_, rfl⟩
    have hyi : ∀ y ∈ ys, inT c y := by rw [hys]; simp
    have hyl : ys.length ≤ 0 := by rw [hys]; simp
    refine ⟨rSt_ok [mvS i t.standby], ⟨by simp [rSt] <;> omega⟩, ?_⟩
    conv => whnf
    have hlen : (ys.map (shS t.standby) ++ [mvS i t.standby]).length ≤ 13 := by simp <;> omega
    refine loopE tab mixed noRel (ι := KJ c b (ys.map (shS t.standby) ++ [mvS i t.standby])) (fun k => [(75, I k.j)]) (fun k => [(1, .arr 58 (rTS k.T)), (2, .arr 3 (r1 k.Bk))]) 61 (fun k => (ys.map (shS t.standby) ++ [mvS i t.standby]).length - k.j) ⟨0, T, Bk, by omega, by simpa using h⟩ [(1, some 1), (2, some 2)] ?_
    conv => whnf
    refine ⟨?_, fun k => ?_⟩
    · repeat' (first | exact trivial | rfl | refine And.intro ?_ ?_)
      all_goals (conv => whnf)
      repeat' (first | exact trivial | rfl | refine And.intro ?_ ?_)
    obtain ⟨j, T2, Bk2, hj, hz2⟩ := k
    have hrow : [[i64 2, i64 i, i64 t.standby]] = rSt (ys.map (shS t.standby) ++ [mvS i t.standby]) := by simp [rSt, stD, hys]
    have hn2 := hz2.n
    dsimp only
    conv => whnf
    refine spD (fun q5 => ?_) (fun q5 => ?_)
    · rw [hrow, rSt_len] at q5
      have hj' : j < (ys.map (shS t.standby) ++ [mvS i t.standby]).length := by omega
      obtain ⟨⟨kind, ten, cell⟩, hx⟩ := get_of hj'
      have hten : 0 ≤ ten ∧ ten < T2.length := by
        rcases List.mem_append.1 (List.mem_of_getElem? hx) with hh | hh
        · obtain ⟨y, hy, e⟩ := List.mem_map.1 hh
          cases e
          have := hyi _ hy
          unfold inT at this
          omega
        · rw [List.mem_singleton] at hh
          cases hh
          omega
      conv => whnf
      refine ⟨by omega, by rw [hrow, rSt_len]; omega, _, by rw [hrow]; exact rSt_get hx, ?_⟩
      conv => whnf
      refine ⟨_, _, takeR_c c s kind ten cell w hz2 (by omega) hten, ?_⟩
      conv => whnf
      refine gv (by first | omega | (simp only []; omega) | (simp; omega)) (by first | omega | (simp only []; omega) | (simp; omega)) ?_
      conv => whnf
      refine ⟨⟨j + 1, takeT T2 ⟨kind, ten, cell⟩, takeB c T2 Bk2 ⟨kind, ten, cell⟩, by omega, szb_step hg _ hz2 (by omega) hb0⟩, [(1, some 1), (2, some 2)], ?_, by show (ys.map (shS t.standby) ++ [mvS i t.standby]).length - (j + 1) < (ys.map (shS t.standby) ++ [mvS i t.standby]).length - j; omega⟩
      repeat' (first | exact trivial | rfl | refine And.intro ?_ ?_)
      all_goals (conv => whnf)
      repeat' (first | exact trivial | rfl | refine And.intro ?_ ?_)
    · conv => whnf
      refine ⟨_, _, .inr ⟨_, T2, Bk2, rfl, by simp, hlen, rfl, hz2.n, hz2.k, fun x hx => by have := hz2.bd x hx; omega, by omega⟩, [(0, some 0), (1, some 1), (2, some 2)], ?_⟩
      repeat' (first | exact trivial | rfl | refine And.intro ?_ ?_)
      all_goals (conv => whnf)
      repeat' (first | exact trivial | rfl | refine And.intro ?_ ?_)
      exact hrow.symm

/-- between rounds of the reference -/
structure ROut (c : Cfg) (cn : Nat) where
  steps : List Stp
  left : List Int
  T : List TS
  Bk : List Int
  again : Bool
  b : Int
  hin : ∀ x ∈ left, inT c x
  hl : steps.length + 13 * left.length ≤ 13 * cn
  hb : 0 ≤ b ∧ b + 3407872 * (left.length : Int) ≤ 100000000 + 3407872 * (cn : Int)
  hz : SzT c b T Bk

/-- within a round of the reference -/
structure RInn (c : Cfg) (cn : Nat) (L : List Int) where
  i : Nat
  steps : List Stp
  left : List Int
  T : List TS
  Bk : List Int
  again : Bool
  b : Int
  hi : i ≤ L.length
  hll : left.length ≤ i
  hag : again = true → left.length < i
  hno : again = false → left.length = i
  hin : ∀ x ∈ left, x ∈ L
  hl : steps.length + 13 * (left.length + (L.length - i)) ≤ 13 * cn
  hb : 0 ≤ b ∧ b + 3407872 * ((left.length + (L.length - i) : Nat) : Int) ≤ 100000000 + 3407872 * (cn : Int)
  hz : SzT c b T Bk

def RMk (r : Int) (res : AV) (hout : List HObj) : Prop := ∃ (steps : List Stp) (left : List Int), res = .tup [.inr [.d (i64 r), .d (.sl (rSt steps)), .d (.sl (r1 left))], .inl (.d (i64 0))] ∧ hout = [] ∧ steps.length ≤ 200 ∧ left.length ≤ 12

set_option maxHeartbeats 4000000 in
set_option maxRecDepth 100000 in
theorem makeR_q (c : Cfg) (s : St) (r : Int) (w : WG c) (h : StOk c s) (hr : 0 ≤ r ∧ r < c.regions) : ExH Tryz.prog 16 [cfgV c, stV s, I r] [] (RMk r) := by
  have hn := h.pre.nc
  have hT := w.few
  have hcl := cand_len c s r
  have hci : ∀ x ∈ cand c s r, inT c x := fun x hx => cand_in hx
  have hz0 := szt0 w h
  have hcand := refCand_c c s r w h.pre.nt
  generalize cand c s r = cd at *
  refine callsE_of tab mixed noRel Tryz.func16 rfl (by decide) rfl rfl ?_
  conv => whnf
  refine spD (fun q => absurd q (by omega)) (fun _ => ?_)
  conv => whnf
  refine spD (fun q => absurd q (by omega)) (fun _ => ?_)
  conv => whnf
  refine ⟨_, _, hcand, ?_⟩
  conv => whnf
  refine ⟨_, _, startR_c c s w h, ?_⟩
  conv => whnf
  refine loopE tab mixed noRel (ι := ROut c cd.length) (fun k => [(28, .top), (29, .top), (10, B k.again)]) (fun k => [(6, .arr 58 (rTS k.T)), (7, .arr 3 (r1 k.Bk)), (4, .box [.d (i64 r), .gs 50, .gs 3]), (50, .arr 60 (rSt k.steps)), (3, .arr 3 (r1 k.left))]) 51 (fun k => 2 * k.left.length + (if k.again = true then 1 else 0)) ⟨[], cd, s.ts, bkd c s.ts, true, 100000000, hci, by simp, by omega, hz0⟩ [(6, some 6), (7, some 7), (4, some 4), (50, none), (3, some 3)] ?_
  conv => whnf
  refine ⟨?_, fun k => ?_⟩
  · repeat' (first | exact trivial | rfl | refine And.intro ?_ ?_)
    all_goals (conv => whnf)
    repeat' (first | exact trivial | rfl | refine And.intro ?_ ?_)
  obtain ⟨steps0, L, T0, Bk0, again0, b0, hin0, hl0, hb0, hzz0⟩ := k
  have l1 := r1_len L
  dsimp only
  conv => whnf
  cases again0
  · refine ⟨fun q => (by cases q), fun _ => ?_⟩
    conv => whnf
    refine ⟨_, _, ⟨steps0, L, rfl, rfl, by omega, by omega⟩, [], rfl, ?_⟩
    repeat' (first | exact trivial | rfl | refine And.intro ?_ ?_)
    all_goals (conv => whnf)
    repeat' (first | exact trivial | rfl | refine And.intro ?_ ?_)
  refine ⟨fun _ => ?_, fun q => (by cases q)⟩
  conv => whnf
  refine loopE tab mixed noRel (ι := RInn c cd.length L) (fun k => [(37, I k.i), (11, .c (.gs 60)), (10, B k.again)]) (fun k => [(6, .arr 58 (rTS k.T)), (7, .arr 3 (r1 k.Bk)), (4, .box [.d (i64 r), .gs 50, .gs 3]), (50, .arr 60 (rSt k.steps)), (60, .arr 3 (r1 k.left))]) 71 (fun k => L.length - k.i) ⟨0, steps0, [], T0, Bk0, false, b0, by omega, by simp, by simp, by simp, by simp, by simpa using hl0, by simpa using hb0, hzz0⟩ [(6, some 6), (7, some 7), (4, some 4), (50, some 50), (60, none)] ?_
  conv => whnf
  refine ⟨?_, fun k => ?_⟩
  · repeat' (first | exact trivial | rfl | refine And.intro ?_ ?_)
    all_goals (conv => whnf)
    repeat' (first | exact trivial | rfl | refine And.intro ?_ ?_)
  obtain ⟨i, steps, left, T, Bk, again, b, hi, hll, hag, hnoa, hinl, hl, hb, hz⟩ := k
  have l2 := rSt_len steps
  have l3 := r1_len left
  dsimp only
  conv => whnf
  refine spD (fun q1 => ?_) (fun q1 => ?_) <;> conv => whnf
  · have hi' : i < L.length := by omega
    obtain ⟨x, hx⟩ := get_of hi'
    have hxL := List.mem_of_getElem? hx
    refine ⟨by omega, by omega, _, r1_get hx, ?_⟩
    conv => whnf
    refine exK (moveR_q c s x w hn hz (by omega) hb.1 (hin0 x hxL)) ?_
    rintro _ _ (⟨rfl, rfl⟩ | ⟨l, T2, Bk2, rfl, hne, hlen, rfl, hz2⟩)
    · conv => whnf
      refine ⟨fun _ => ?_, fun q => (by cases q)⟩
      conv => whnf
      refine ⟨row1 _ rfl, ⟨by simp; omega⟩, ?_⟩
      conv => whnf
      refine gv (by first | omega | (simp only []; omega) | (simp; omega)) (by first | omega | (simp only []; omega) | (simp; omega)) ?_
      conv => whnf
      refine ⟨⟨i + 1, steps, left ++ [x], T, Bk, again, b, by omega, by simp; omega, fun q => by have := hag q; simp; omega, fun q => by have := hnoa q; simp; omega, fun y hy => ?_, by simp; omega, by simp; omega, hz⟩, [(6, some 6), (7, some 7), (4, some 4), (50, some 50), (60, some 72)], ?_, by show L.length - (i + 1) < L.length - i; omega⟩
      · rcases List.mem_append.1 hy with hy | hy
        · exact hinl y hy
        · rw [List.mem_singleton] at hy; rw [hy]; exact hxL
      repeat' (first | exact trivial | rfl | refine And.intro ?_ ?_)
      all_goals (conv => whnf)
      repeat' (first | exact trivial | rfl | refine And.intro ?_ ?_)
      exact (r1_app _ _).symm
    · conv => whnf
      have l4 := rSt_len l
      refine ⟨by simpa [rSt] using hne, ?_⟩
      conv => whnf
      refine ⟨fun q => (by cases q), fun _ => ?_⟩
      conv => whnf
      refine ⟨rSt_ok _, ⟨by omega⟩, ?_⟩
      conv => whnf
      refine gv (by first | omega | (simp only []; omega) | (simp; omega)) (by first | omega | (simp only []; omega) | (simp; omega)) ?_
      conv => whnf
      refine ⟨⟨i + 1, steps ++ l, left, T2, Bk2, true, b + 3407872, by omega, by omega, fun _ => by omega, fun q => (by cases q), hinl, by simp; omega, by omega, hz2⟩, [(6, some 6), (7, some 7), (4, some 4), (50, some 71), (60, some 60)], ?_, by show L.length - (i + 1) < L.length - i; omega⟩
      repeat' (first | exact trivial | rfl | refine And.intro ?_ ?_)
      all_goals (conv => whnf)
      repeat' (first | exact trivial | rfl | refine And.intro ?_ ?_)
      exact (rSt_apps _ _).symm
  · have hi' : i = L.length := by omega
    subst hi'
    refine ⟨⟨steps, left, T, Bk, again, b, fun y hy => hin0 y (hinl y hy), by omega, by omega, hz⟩, [(6, some 6), (7, some 7), (4, some 4), (50, some 50), (3, some 60)], ?_, ?_⟩
    · repeat' (first | exact trivial | rfl | refine And.intro ?_ ?_)
      all_goals (conv => whnf)
      repeat' (first | exact trivial | rfl | refine And.intro ?_ ?_)
    · show 2 * left.length + (if again = true then 1 else 0) < 2 * L.length + 1
      cases again
      · simp; omega
      · have := hag rfl
        simp; omega

end Go.Proofs.YtncckpieemmmfaaGreat
