/- Contracts: the order in which tenants are shed; the tenants below a priority; the steps that move a tenant (evacplan). Conditions: those ahead of each theorem. -/
import Derived.Test.YtncckpieemmmfaaGreatEvQ
namespace Go.Proofs.YtncckpieemmmfaaGreat
open Go Go.Cpl

set_option maxRecDepth 100000 in
theorem order1S_c (c : Cfg) (a b : Int) (ha : inT c a) (hb : inT c b) : CallsH Tryz.prog 146 [I a, I b, .c (.ptr 0 0 0)] [.box (cfgC c)] (I (cmpS c a b)) [.box (cfgC c)] := by
  have hl := rT_len c.tenants
  obtain ⟨a1, a2⟩ := ha
  obtain ⟨b1, b2⟩ := hb
  obtain ⟨x, hx⟩ := get_int (l := c.tenants) a1 (by omega)
  obtain ⟨y, hy⟩ := get_int (l := c.tenants) b1 (by omega)
  have e : cmpS c a b = orV [cmpV x.priority y.priority, cmpV y.load x.load, cmpV a b] := by simp [cmpS, prioOf, loadAt, hx, hy]
  refine callsR_of tab mixed Tryz.func146 rfl (by decide) rfl rfl ?_
  conv => whnf
  refine ⟨by kernel_rfl, ?_⟩
  conv => whnf
  refine ⟨by omega, _, rT_get hx, ?_⟩
  conv => whnf
  refine ⟨by omega, _, rT_get hy, ?_⟩
  conv => whnf
  refine ⟨_, _, compare_c x.priority y.priority, ?_⟩
  conv => whnf
  refine ⟨by omega, _, rT_get hy, ?_⟩
  conv => whnf
  refine ⟨by omega, _, rT_get hx, ?_⟩
  conv => whnf
  refine ⟨_, _, compare_c y.load x.load, ?_⟩
  conv => whnf
  refine ⟨_, _, compare_c a b, ?_⟩
  conv => whnf
  refine ⟨_, _, or_c [cmpV x.priority y.priority, cmpV y.load x.load, cmpV a b] (by simp), ?_⟩
  conv => whnf
  rw [e]
  exact ⟨[(0, some 0)], rfl, ⟨rfl, rfl⟩, ⟨⟨⟨rfl, rfl⟩, rfl, rfl, rfl, rfl, rfl, rfl, ⟨rfl, rfl⟩, ⟨rfl, rfl⟩, ⟨rfl, rfl⟩, trivial⟩, trivial⟩⟩

structure InsJS (c : Cfg) (l : List Int) (k : Nat) (s : Nat × List Int) : Prop where
  le : s.1 ≤ k + 1
  len : s.2.length = l.length
  rng : ∀ x ∈ s.2, inT c x
  fin : sink (befS c) s.2 s.1 = isort (befS c) l (k + 1)

set_option maxRecDepth 100000 in
set_option maxHeartbeats 2000000 in
theorem insertionS_c (c : Cfg) (l : List Int) (hl : l.length ≤ 1000) (hr : ∀ x ∈ l, inT c x) : CallsH Tryz.prog 153 [.c (.gs 0), I 0, I l.length, .fn 146 [.ptr 1 0 0]] [.arr 3 (r1 l), .box (cfgC c)] (.tup []) [.arr 3 (r1 (isort (befS c) l (l.length - 1))), .box (cfgC c)] := by
  refine callsR_of tab mixed Tryz.func153 rfl (by decide) rfl rfl ?_
  conv => whnf
  refine gv (by first | omega | (simp only []; omega) | (simp; omega)) (by first | omega | (simp only []; omega) | (simp; omega)) ?_
  conv => whnf
  refine loopN tab mixed (fun k => k = 0 ∨ k < l.length) l.length (fun k => [(8, I ((k + 1 : Nat) : Int))]) (fun k => [(0, .arr 3 (r1 (isort (befS c) l k)))]) 51 [(0, some 0)] (.inl rfl) ?_
  conv => whnf
  refine ⟨?_, fun k hk => ?_⟩
  · repeat' (first | exact trivial | rfl | refine And.intro ?_ ?_)
    all_goals (conv => whnf)
    repeat' (first | exact trivial | rfl | refine And.intro ?_ ?_)
  conv => whnf
  refine spD (fun h => ?_) (fun h => ?_) <;> conv => whnf
  · have hk' : k + 1 < l.length := by omega
    refine loopR tab mixed (ι := { s : Nat × List Int // InsJS c l k s }) (fun s => [(9, I (s.1.1 : Nat))]) (fun s => [(0, .arr 3 (r1 s.1.2))]) 61 (fun s => s.1.1) ⟨(k + 1, isort (befS c) l k), ⟨Nat.le_refl _, isort_len _ _ _, fun x hx => hr x (isort_mem _ _ _ x hx), rfl⟩⟩ [(0, some 0)] ?_
    conv => whnf
    refine ⟨?_, fun s => ?_⟩
    · repeat' (first | exact trivial | rfl | refine And.intro ?_ ?_)
      all_goals (conv => whnf)
      repeat' (first | exact trivial | rfl | refine And.intro ?_ ?_)
    conv => whnf
    obtain ⟨j1, j2, j3, j4⟩ := s.2
    generalize s.1.1 = j at *
    generalize s.1.2 = m at *
    have hm1 := r1_len m
    refine ⟨by kernel_rfl, ?_⟩
    conv => whnf
    refine spD (fun h1 => ?_) (fun h1 => ?_) <;> conv => whnf
    · obtain ⟨i, rfl⟩ : ∃ i, j = i + 1 := ⟨j - 1, by omega⟩
      obtain ⟨x, hx⟩ := get_of (l := m) (i := i + 1) (by omega)
      obtain ⟨y, hy⟩ := get_of (l := m) (i := i) (by omega)
      have e1 : ((i + 1 : Nat) : Int) - 1 = (i : Int) := by omega
      refine ⟨by omega, by omega, _, r1_get hx, ?_⟩
      conv => whnf
      refine gv (by first | omega | (simp only []; omega) | (simp; omega)) (by first | omega | (simp only []; omega) | (simp; omega)) ?_
      conv => whnf
      rw [e1]
      refine ⟨by omega, by omega, _, r1_get hy, ?_⟩
      conv => whnf
      refine ⟨_, _, order1S_c c x y (j3 x (List.mem_of_getElem? hx)) (j3 y (List.mem_of_getElem? hy)), ?_⟩
      conv => whnf
      refine spD (fun h2 => ?_) (fun h2 => ?_) <;> conv => whnf
      · refine ⟨by kernel_rfl, ?_⟩
        conv => whnf
        refine gv (by first | omega | (simp only []; omega) | (simp; omega)) (by first | omega | (simp only []; omega) | (simp; omega)) ?_
        conv => whnf
        refine gv (by first | omega | (simp only []; omega) | (simp; omega)) (by first | omega | (simp only []; omega) | (simp; omega)) ?_
        conv => whnf
        rw [e1]
        refine ⟨by omega, by omega, _, r1_get hy, ?_⟩
        conv => whnf
        refine ⟨by omega, by omega, _, r1_get hx, ?_⟩
        conv => whnf
        refine ⟨by omega, by omega, _, r1_get hx, ?_⟩
        conv => whnf
        have hy2 : (m.set (i + 1) y)[i]? = some y := by rw [List.getElem?_set_ne (by omega)]; exact hy
        have hl2 : (r1 (m.set (i + 1) y)).length = l.length := by rw [r1_len, List.length_set, j2]
        rw [show (r1 m).set ((i + 1 : Nat) : Int).toNat [i64 y] = r1 (m.set (i + 1) y) from (r1_set' _ _ _).symm]
        refine ⟨by omega, by omega, _, r1_get hy2, ?_⟩
        conv => whnf
        refine gv (by first | omega | (simp only []; omega) | (simp; omega)) (by first | omega | (simp only []; omega) | (simp; omega)) ?_
        conv => whnf
        have hb : befS c x y = true := by unfold befS; exact decide_eq_true h2
        have hJ' : InsJS c l k (i, (m.set (i + 1) y).set i x) := by
          refine ⟨by simp only; omega, by simp [j2], fun z hz => j3 z (mem_swap hx hy z hz), ?_⟩
          rw [← j4]
          simp only [sink, hx, hy, hb, if_true]
        refine ⟨⟨_, hJ'⟩, [(0, some 0)], ?_, Nat.lt_succ_self i⟩
        repeat' (first | exact trivial | rfl | refine And.intro ?_ ?_)
        all_goals (conv => whnf)
        repeat' (first | exact trivial | rfl | refine And.intro ?_ ?_)
        all_goals first | exact e1.symm | exact r1_set' _ _ _
      · have hb : befS c x y = false := by unfold befS; exact decide_eq_false h2
        have e4 : m = isort (befS c) l (k + 1) := by
          rw [← j4]
          simp only [sink, hx, hy, hb, Bool.false_eq_true, if_false]
        refine gv (by first | omega | (simp only []; omega) | (simp; omega)) (by first | omega | (simp only []; omega) | (simp; omega)) ?_
        conv => whnf
        refine ⟨⟨by omega, .inr hk'⟩, [(0, some 0)], ?_⟩
        repeat' (first | exact trivial | rfl | refine And.intro ?_ ?_)
        all_goals (conv => whnf)
        repeat' (first | exact trivial | rfl | refine And.intro ?_ ?_)
        rw [e4]
    · have hj0 : j = 0 := by omega
      subst hj0
      have e4 : m = isort (befS c) l (k + 1) := by rw [← j4]; rfl
      refine gv (by first | omega | (simp only []; omega) | (simp; omega)) (by first | omega | (simp only []; omega) | (simp; omega)) ?_
      conv => whnf
      refine ⟨⟨by omega, .inr hk'⟩, [(0, some 0)], ?_⟩
      repeat' (first | exact trivial | rfl | refine And.intro ?_ ?_)
      all_goals (conv => whnf)
      repeat' (first | exact trivial | rfl | refine And.intro ?_ ?_)
      rw [e4]
  · have : k = l.length - 1 := by omega
    rw [this]
    exact ⟨[(0, some 0), (1, some 1)], rfl, trivial, ⟨⟨rfl, rfl⟩, ⟨⟨rfl, rfl⟩, rfl, rfl, rfl, rfl, rfl, rfl, ⟨rfl, rfl⟩, ⟨rfl, rfl⟩, ⟨rfl, rfl⟩, trivial⟩, trivial⟩⟩

set_option maxRecDepth 100000 in
theorem pdqS_c (c : Cfg) (l : List Int) (lim : Int) (hl : l.length ≤ 12) (hr : ∀ x ∈ l, inT c x) : CallsH Tryz.prog 143 [.c (.gs 0), I 0, I l.length, I lim, .fn 146 [.ptr 1 0 0]] [.arr 3 (r1 l), .box (cfgC c)] (.tup []) [.arr 3 (r1 (isort (befS c) l (l.length - 1))), .box (cfgC c)] := by
  refine callsR_of tab mixed Tryz.func143 rfl (by decide) rfl rfl ?_
  conv => whnf
  refine loopN tab mixed (fun k => k = 0) 1 (fun _ => [(1, I 0), (2, I l.length), (3, I lim)]) (fun _ => []) 51 [] rfl ?_
  conv => whnf
  refine ⟨?_, fun k hk => ?_⟩
  · repeat' (first | exact trivial | rfl | refine And.intro ?_ ?_)
    all_goals (conv => whnf)
    repeat' (first | exact trivial | rfl | refine And.intro ?_ ?_)
  conv => whnf
  refine gv (by first | omega | (simp only []; omega) | (simp; omega)) (by first | omega | (simp only []; omega) | (simp; omega)) ?_
  conv => whnf
  refine spD (fun h => ?_) (fun h => absurd (by omega) h)
  conv => whnf
  refine ⟨_, _, insertionS_c c l (by omega) hr, ?_⟩
  conv => whnf
  exact ⟨[(0, some 0), (1, some 1)], rfl, trivial, ⟨⟨rfl, rfl⟩, ⟨⟨rfl, rfl⟩, rfl, rfl, rfl, rfl, rfl, rfl, ⟨rfl, rfl⟩, ⟨rfl, rfl⟩, ⟨rfl, rfl⟩, trivial⟩, trivial⟩⟩

set_option maxRecDepth 100000 in
theorem sortFuncS_c (c : Cfg) (l : List Int) (hl : l.length ≤ 12) (hr : ∀ x ∈ l, inT c x) : CallsH Tryz.prog 119 [.c (.gs 0), .fn 146 [.ptr 1 0 0]] [.arr 3 (r1 l), .box (cfgC c)] (.tup []) [.arr 3 (r1 (isort (befS c) l (l.length - 1))), .box (cfgC c)] := by
  have h1 := r1_len l
  refine callsR_of tab mixed Tryz.func119 rfl (by decide) rfl rfl ?_
  conv => whnf
  rw [h1]
  refine gvu (by first | omega | (simp only []; omega) | (simp; omega)) (by first | omega | (simp only []; omega) | (simp; omega)) ?_
  conv => whnf
  refine ⟨_, _, len_c l.length (by omega) (by omega), ?_⟩
  conv => whnf
  refine ⟨_, _, pdqS_c c l _ hl hr, ?_⟩
  conv => whnf
  exact ⟨[(0, some 0), (1, some 1)], rfl, trivial, ⟨⟨rfl, rfl⟩, ⟨⟨rfl, rfl⟩, rfl, rfl, rfl, rfl, rfl, rfl, ⟨rfl, rfl⟩, ⟨rfl, rfl⟩, ⟨rfl, rfl⟩, trivial⟩, trivial⟩⟩

set_option maxRecDepth 100000 in
theorem compact_c (l : List Int) (hl : l.length ≤ 1000) (hp : l.Pairwise (· ≠ ·)) : CallsH Tryz.prog 147 [.c (.gs 0)] [.arr 3 (r1 l)] (.c (.gs 0)) [.arr 3 (r1 l)] := by
  have h1 := r1_len l
  refine callsR_of tab mixed Tryz.func147 rfl (by decide) rfl rfl ?_
  conv => whnf
  refine spD (fun h => ?_) (fun h => ?_) <;> conv => whnf
  · exact ⟨[(0, some 0)], rfl, rfl, ⟨⟨rfl, rfl⟩, trivial⟩⟩
  refine loopN tab mixed (fun k => k + 1 ≤ l.length) l.length (fun k => [(3, I ((k + 1 : Nat) : Int))]) (fun k => []) 51 [] (by omega) ?_
  conv => whnf
  refine ⟨?_, fun k hk => ?_⟩
  · repeat' (first | exact trivial | rfl | refine And.intro ?_ ?_)
    all_goals (conv => whnf)
    repeat' (first | exact trivial | rfl | refine And.intro ?_ ?_)
  conv => whnf
  refine spD (fun h2 => ?_) (fun h2 => ?_) <;> conv => whnf
  · obtain ⟨x, hx⟩ := get_of (l := l) (i := k + 1) (by omega)
    obtain ⟨y, hy⟩ := get_of (l := l) (i := k) (by omega)
    have e1 : ((k + 1 : Nat) : Int) - 1 = (k : Int) := by omega
    have hne : x ≠ y := by
      have a := (List.getElem?_eq_some_iff.1 hx)
      have b := (List.getElem?_eq_some_iff.1 hy)
      have := List.pairwise_iff_getElem.1 hp k (k + 1) b.1 a.1 (by omega)
      rw [a.2, b.2] at this
      exact this.symm
    refine ⟨by kernel_rfl, ?_⟩
    conv => whnf
    refine ⟨by omega, by omega, _, r1_get hx, ?_⟩
    conv => whnf
    refine gv (by first | omega | (simp only []; omega) | (simp; omega)) (by first | omega | (simp only []; omega) | (simp; omega)) ?_
    conv => whnf
    rw [e1]
    refine ⟨by omega, by omega, _, r1_get hy, ?_⟩
    conv => whnf
    refine spE (fun h3 => absurd h3 hne) (fun h3 => ?_)
    conv => whnf
    refine gv (by first | omega | (simp only []; omega) | (simp; omega)) (by first | omega | (simp only []; omega) | (simp; omega)) ?_
    conv => whnf
    refine ⟨⟨by omega, by omega⟩, [], ?_⟩
    repeat' (first | exact trivial | rfl | refine And.intro ?_ ?_)
    all_goals (conv => whnf)
    repeat' (first | exact trivial | rfl | refine And.intro ?_ ?_)
  · exact ⟨[(0, some 0)], rfl, rfl, ⟨⟨rfl, rfl⟩, trivial⟩⟩

set_option maxRecDepth 100000 in
theorem shedOrder_c (c : Cfg) (l : List Int) (hl : l.length ≤ 12) (hr : ∀ x ∈ l, inT c x) (hp : l.Pairwise (· ≠ ·)) : CallsH Tryz.prog 123 [cfgV c, .c (.d (.sl (r1 l)))] [] (.c (.gs 0)) [.arr 3 (r1 (sOrd c l))] := by
  have h1 := r1_len l
  have h2 := rT_len c.tenants
  have ho := sOrd_ok c hp
  have hol : (sOrd c l).length = l.length := by unfold sOrd; rw [isort_len]
  refine callsR_of tab mixed Tryz.func123 rfl (by decide) rfl rfl ?_
  conv => whnf
  refine loopN tab mixed (fun i => i ≤ l.length) l.length (fun i => [(10, I i), (5, .c (.gs 50))]) (fun i => [(50, .arr 3 (r1 (l.take i)))]) 51 [(50, none)] (by omega) ?_
  conv => whnf
  refine ⟨?_, fun i hi => ?_⟩
  · repeat' (first | exact trivial | rfl | refine And.intro ?_ ?_)
    all_goals (conv => whnf)
    repeat' (first | exact trivial | rfl | refine And.intro ?_ ?_)
  conv => whnf
  refine spD (fun h => ?_) (fun h => ?_) <;> conv => whnf
  · have hi' : i < l.length := by omega
    obtain ⟨x, hx⟩ := get_of hi'
    have hts := take_succ_of hx
    have hin := hr x (List.mem_of_getElem? hx)
    have htl := List.length_take_le' i l
    have htr := r1_len (l.take i)
    unfold inT at hin
    refine ⟨by omega, _, r1_get hx, ?_⟩
    conv => whnf
    refine spD (fun _ => ?_) (fun q => absurd (by omega) q)
    conv => whnf
    refine spD (fun _ => ?_) (fun q => absurd (by omega) q)
    conv => whnf
    refine ⟨row1 _ rfl, ⟨by simp; omega⟩, ?_⟩
    conv => whnf
    refine gv (by first | omega | (simp only []; omega) | (simp; omega)) (by first | omega | (simp only []; omega) | (simp; omega)) ?_
    conv => whnf
    refine ⟨⟨hi', hi'⟩, [(50, some 52)], ?_⟩
    repeat' (first | exact trivial | rfl | refine And.intro ?_ ?_)
    all_goals (conv => whnf)
    repeat' (first | exact trivial | rfl | refine And.intro ?_ ?_)
    rw [hts]
    exact (r1_app _ _).symm
  · have hi' : i = l.length := by omega
    subst hi'
    rw [List.take_length]
    refine ⟨_, _, sortFuncS_c c l hl hr, ?_⟩
    conv => whnf
    refine ⟨_, _, compact_c (sOrd c l) (by omega) (ho.1.imp fun h => befS_irr c h), ?_⟩
    conv => whnf
    exact ⟨[(0, some 50)], rfl, rfl, ⟨⟨rfl, rfl⟩, trivial⟩⟩

theorem low_in {c : Cfg} {se : List Seat} (hn : se.length = c.tenants.length) {cell prio : Int} : ∀ x ∈ lowL c se cell prio, inT c x := fun x hx => by
  have := (low_facts hx).1
  unfold inT; omega

set_option maxRecDepth 100000 in
theorem below_c (c : Cfg) (s : St) {b : Int} {se : List Seat} {bk : List Int} (cell prio : Int) (w : WG c) (h : Sz c b se bk) : CallsH Tryz.prog 85 [.c (.ptr 0 0 0), I cell, I prio] (sitH c s 138 se bk) (.c (.gs 3)) (sitH c s 138 se bk ++ [.arr 3 (r1 (sOrd c (lowL c se cell prio)))]) := by
  have l1 := rSe_len se
  have l2 := rT_len c.tenants
  have hn := h.n
  have hT := w.few
  have hll := upto_le (lowP c se cell prio) se.length
  refine callsR_of tab mixed Tryz.func85 rfl (by decide) rfl rfl ?_
  conv => whnf
  refine loopN tab mixed (fun i => i ≤ se.length) se.length (fun i => [(15, I i), (7, .c (.gs 50))]) (fun i => [(50, .arr 3 (r1 (upto (lowP c se cell prio) i)))]) 51 [(50, none)] (by omega) ?_
  conv => whnf
  refine ⟨?_, fun i hi => ?_⟩
  · repeat' (first | exact trivial | rfl | refine And.intro ?_ ?_)
    all_goals (conv => whnf)
    repeat' (first | exact trivial | rfl | refine And.intro ?_ ?_)
  conv => whnf
  refine spD (fun h => ?_) (fun h => ?_) <;> conv => whnf
  · have hi' : i < se.length := by omega
    obtain ⟨⟨ac, ho, sb, nx, tg⟩, hx⟩ := get_of hi'
    obtain ⟨d, hd⟩ := get_of (l := c.tenants) (i := i) (by omega)
    have ep : prioOf c (i : Int) = d.priority := by simp [prioOf, hd]
    have e : lowP c se cell prio i = (ac && (decide (ho = cell) && decide (d.priority < prio))) := by simp [lowP, hx, ep]
    refine ⟨by omega, by omega, _, rSe_get hx, ?_⟩
    conv => whnf
    cases ac
    · refine ⟨fun q => (by cases q), fun _ => ?_⟩
      conv => whnf
      refine gv (by first | omega | (simp only []; omega) | (simp; omega)) (by first | omega | (simp only []; omega) | (simp; omega)) ?_
      conv => whnf
      refine ⟨⟨hi', hi'⟩, [(50, some 50)], ?_⟩
      repeat' (first | exact trivial | rfl | refine And.intro ?_ ?_)
      all_goals (conv => whnf)
      repeat' (first | exact trivial | rfl | refine And.intro ?_ ?_)
      rw [upto_no (by rw [e]; rfl)]
    · refine ⟨fun _ => ?_, fun q => (by cases q)⟩
      conv => whnf
      refine spE (fun h3 => ?_) (fun h3 => ?_) <;> dsimp only at h3 <;> conv => whnf
      · refine ⟨by omega, _, rT_get hd, ?_⟩
        conv => whnf
        refine spD (fun h4 => ?_) (fun h4 => ?_) <;> conv => whnf
        · refine ⟨row1 _ rfl, up_fits hi' (by omega) _ rfl, ?_⟩
          conv => whnf
          refine gv (by first | omega | (simp only []; omega) | (simp; omega)) (by first | omega | (simp only []; omega) | (simp; omega)) ?_
          conv => whnf
          refine ⟨⟨hi', hi'⟩, [(50, some 53)], ?_⟩
          repeat' (first | exact trivial | rfl | refine And.intro ?_ ?_)
          all_goals (conv => whnf)
          repeat' (first | exact trivial | rfl | refine And.intro ?_ ?_)
          rw [upto_yes (by rw [e]; simp [h3, h4])]
          exact (r1_app _ _).symm
        · refine gv (by first | omega | (simp only []; omega) | (simp; omega)) (by first | omega | (simp only []; omega) | (simp; omega)) ?_
          conv => whnf
          refine ⟨⟨hi', hi'⟩, [(50, some 50)], ?_⟩
          repeat' (first | exact trivial | rfl | refine And.intro ?_ ?_)
          all_goals (conv => whnf)
          repeat' (first | exact trivial | rfl | refine And.intro ?_ ?_)
          rw [upto_no (by rw [e]; simp [h4])]
      · refine gv (by first | omega | (simp only []; omega) | (simp; omega)) (by first | omega | (simp only []; omega) | (simp; omega)) ?_
        conv => whnf
        refine ⟨⟨hi', hi'⟩, [(50, some 50)], ?_⟩
        repeat' (first | exact trivial | rfl | refine And.intro ?_ ?_)
        all_goals (conv => whnf)
        repeat' (first | exact trivial | rfl | refine And.intro ?_ ?_)
        rw [upto_no (by rw [e]; simp [h3])]
  · have hi' : i = se.length := by omega
    subst hi'
    refine ⟨_, _, shedOrder_c c (lowL c se cell prio) (by unfold lowL; omega) (low_in hn) (lowL_ne c se cell prio), ?_⟩
    conv => whnf
    refine ⟨[(0, some 0), (1, some 1), (2, some 2), (3, some 51)], ?_⟩
    repeat' (first | exact trivial | rfl | refine And.intro ?_ ?_)
    all_goals (conv => whnf)
    repeat' (first | exact trivial | rfl | refine And.intro ?_ ?_)

end Go.Proofs.YtncckpieemmmfaaGreat
