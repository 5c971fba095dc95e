/- Contracts: more laws of chapter 17 return true at every input. No conditions. -/
import Derived.Test.YtlcgeeacgjdnkaaLaw17
import Derived.Test.YtlcgeeacgjdnkaaMono
namespace Go.Proofs.Ytlcgeeacgjdnkaa
open Go Go.Cpl

theorem rB_rows (l : List Brk) : ∀ r ∈ rB l, r.length = 5 := fun r hr => (rB_ok l r hr).1

theorem rB_cut (l : List Brk) (n : Nat) : ((rB l).take (rB l).length).drop n = rB (l.drop n) := by
  rw [List.take_length]; simp [rB, List.map_drop]

theorem rB_cut' (l : List Brk) (n : Nat) : ((rB l).take n).drop 0 = rB (l.take n) := by
  simp [rB, List.map_take]

set_option maxRecDepth 100000 in
set_option maxHeartbeats 2000000 in
theorem rulesFull_c (l more : List Int) (cells : Int) (hd : Bool) : CallsH Try.prog 11 [.c (.d (.sl (r1 l))), .c (.d (.sl (r1 more))), I cells, B hd] [] (B true) [] := by
  obtain ⟨c, u, hm, hprob⟩ := problem_c l cells hd
  have hf := hm.fit more
  have hpl := hm.places more
  generalize pl more c c.tenants.length = x at hf hpl
  have hg := hm.good
  have hT := hg.tenants
  have hlen := hf.len
  have hp := r2_len x
  have p1 := partial_len (u := u) (hd := hd) hf
  have hfull : fullL c u hd x = hoL x x.length ++ sbL c x x.length ++ partialL c u hd x := by simp [fullL]
  refine callsR_of tab mixed Try.func11 rfl (by decide) rfl rfl ?_
  conv => whnf
  refine ⟨_, _, light_c l, ?_⟩
  conv => whnf
  refine spN (fun h => ?_) (fun h => ?_) <;> conv => whnf
  · refine ⟨_, _, awake17_c, ?_⟩
    conv => whnf
    exact ⟨[], rfl, rfl, trivial⟩
  refine ⟨_, _, light_c more, ?_⟩
  conv => whnf
  refine spN (fun h => ?_) (fun h => ?_) <;> conv => whnf
  · refine ⟨_, _, awake17_c, ?_⟩
    conv => whnf
    exact ⟨[], rfl, rfl, trivial⟩
  refine ⟨_, _, hprob, ?_⟩
  conv => whnf
  refine ⟨_, _, hpl, ?_⟩
  conv => whnf
  refine loopN tab mixed (fun i => i ≤ x.length) x.length (fun i => [(12, I i), (11, I ((hoL x i).length + (sbL c x i).length : Nat))]) (fun _ => []) 51 [] (by omega) ?_
  conv => whnf
  refine ⟨?_, fun i hi => ?_⟩
  · repeat' (first | exact trivial | rfl | refine And.intro ?_ ?_)
    all_goals (conv => whnf)
    repeat' (first | exact trivial | rfl | refine And.intro ?_ ?_)
  conv => whnf
  refine spD (fun h => ?_) (fun h => ?_) <;> conv => whnf
  · have hi' : i < x.length := by omega
    obtain ⟨p, hx⟩ := get_of hi'
    have hrg := hf.rng p (List.mem_of_getElem? hx)
    have h1 := hoL_len x i
    have h2 := sbL_len c x i
    have s1 : hoL x (i + 1) = hoL x i ++ hoT i p := by simp [hoL, hx]
    have s2 : sbL c x (i + 1) = sbL c x i ++ sbT c i p := by simp [sbL, hx]
    refine ⟨by omega, _, r2_get hx, ?_⟩
    conv => whnf
    refine spD (fun h3 => ?_) (fun h3 => ?_) <;> conv => whnf
    · have e1 : (hoL x (i + 1)).length = (hoL x i).length + 1 := by
        have : p.1 = -1 := by omega
        rw [s1]; simp [hoT, this]
      refine gv (by first | omega | (simp only []; omega) | (simp; omega)) (by first | omega | (simp only []; omega) | (simp; omega)) ?_
      conv => whnf
      refine ⟨by omega, _, r2_get hx, ?_⟩
      conv => whnf
      refine spD (fun h4 => ?_) (fun h4 => ?_) <;> conv => whnf
      · have g4 : p.2 = -1 := by omega
        refine ⟨_, _, single_c c u hd i hg, ?_⟩
        conv => whnf
        refine ⟨fun h5 => ?_, fun h5 => ?_⟩ <;> conv => whnf
        · refine gv (by first | omega | (simp only []; omega) | (simp; omega)) (by first | omega | (simp only []; omega) | (simp; omega)) ?_
          conv => whnf
          refine gv (by first | omega | (simp only []; omega) | (simp; omega)) (by first | omega | (simp only []; omega) | (simp; omega)) ?_
          conv => whnf
          refine ⟨⟨hi', hi'⟩, [], ?_⟩
          repeat' (first | exact trivial | rfl | refine And.intro ?_ ?_)
          all_goals (conv => whnf)
          repeat' (first | exact trivial | rfl | refine And.intro ?_ ?_)
          have : (sbL c x (i + 1)).length = (sbL c x i).length + 1 := by rw [s2]; simp only [sbT, g4, h5, decide_true, Bool.and_self, if_true, List.length_append, List.length_singleton]
          omega
        · refine gv (by first | omega | (simp only []; omega) | (simp; omega)) (by first | omega | (simp only []; omega) | (simp; omega)) ?_
          conv => whnf
          refine ⟨⟨hi', hi'⟩, [], ?_⟩
          repeat' (first | exact trivial | rfl | refine And.intro ?_ ?_)
          all_goals (conv => whnf)
          repeat' (first | exact trivial | rfl | refine And.intro ?_ ?_)
          have : (sbL c x (i + 1)).length = (sbL c x i).length := by rw [s2]; simp [sbT, h5]
          omega
      · have g4 : p.2 ≠ -1 := by omega
        refine gv (by first | omega | (simp only []; omega) | (simp; omega)) (by first | omega | (simp only []; omega) | (simp; omega)) ?_
        conv => whnf
        refine ⟨⟨hi', hi'⟩, [], ?_⟩
        repeat' (first | exact trivial | rfl | refine And.intro ?_ ?_)
        all_goals (conv => whnf)
        repeat' (first | exact trivial | rfl | refine And.intro ?_ ?_)
        have : (sbL c x (i + 1)).length = (sbL c x i).length := by rw [s2]; simp [sbT, g4]
        omega
    · have e1 : (hoL x (i + 1)).length = (hoL x i).length := by
        have : p.1 ≠ -1 := by omega
        rw [s1]; simp [hoT, this]
      refine ⟨by omega, _, r2_get hx, ?_⟩
      conv => whnf
      refine spD (fun h4 => ?_) (fun h4 => ?_) <;> conv => whnf
      · have g4 : p.2 = -1 := by omega
        refine ⟨_, _, single_c c u hd i hg, ?_⟩
        conv => whnf
        refine ⟨fun h5 => ?_, fun h5 => ?_⟩ <;> conv => whnf
        · refine gv (by first | omega | (simp only []; omega) | (simp; omega)) (by first | omega | (simp only []; omega) | (simp; omega)) ?_
          conv => whnf
          refine gv (by first | omega | (simp only []; omega) | (simp; omega)) (by first | omega | (simp only []; omega) | (simp; omega)) ?_
          conv => whnf
          refine ⟨⟨hi', hi'⟩, [], ?_⟩
          repeat' (first | exact trivial | rfl | refine And.intro ?_ ?_)
          all_goals (conv => whnf)
          repeat' (first | exact trivial | rfl | refine And.intro ?_ ?_)
          have : (sbL c x (i + 1)).length = (sbL c x i).length + 1 := by rw [s2]; simp only [sbT, g4, h5, decide_true, Bool.and_self, if_true, List.length_append, List.length_singleton]
          omega
        · refine gv (by first | omega | (simp only []; omega) | (simp; omega)) (by first | omega | (simp only []; omega) | (simp; omega)) ?_
          conv => whnf
          refine ⟨⟨hi', hi'⟩, [], ?_⟩
          repeat' (first | exact trivial | rfl | refine And.intro ?_ ?_)
          all_goals (conv => whnf)
          repeat' (first | exact trivial | rfl | refine And.intro ?_ ?_)
          have : (sbL c x (i + 1)).length = (sbL c x i).length := by rw [s2]; simp [sbT, h5]
          omega
      · have g4 : p.2 ≠ -1 := by omega
        refine gv (by first | omega | (simp only []; omega) | (simp; omega)) (by first | omega | (simp only []; omega) | (simp; omega)) ?_
        conv => whnf
        refine ⟨⟨hi', hi'⟩, [], ?_⟩
        repeat' (first | exact trivial | rfl | refine And.intro ?_ ?_)
        all_goals (conv => whnf)
        repeat' (first | exact trivial | rfl | refine And.intro ?_ ?_)
        have : (sbL c x (i + 1)).length = (sbL c x i).length := by rw [s2]; simp [sbT, g4]
        omega
  have hi' : i = x.length := by omega
  subst hi'
  have h1 := hoL_len x x.length
  have h2 := sbL_len c x x.length
  obtain ⟨Q, hQ⟩ : ∃ Q, Q = hoL x x.length ++ sbL c x x.length := ⟨_, rfl⟩
  rw [← hQ] at hfull
  have hQl : Q.length = (hoL x x.length).length + (sbL c x x.length).length := by rw [hQ, List.length_append]
  have hQr : ∀ b ∈ Q, b.rule = 1 ∨ b.rule = 2 := fun b hb => by
    rw [hQ] at hb
    rcases List.mem_append.1 hb with h | h
    · exact .inl (ho_rule h)
    · exact .inr (sb_rule h)
  rw [← hQl]
  have hFl : (fullL c u hd x).length = Q.length + (partialL c u hd x).length := by rw [hfull, List.length_append]
  have hr1 := rB_len (fullL c u hd x)
  have hr2 := rB_len (partialL c u hd x)
  refine ⟨by kernel_rfl, ?_⟩
  conv => whnf
  refine ⟨_, _, (partial_c c u hd x hf).frozen, ?_⟩
  conv => whnf
  refine ⟨_, _, (full_c c u hd x hf).frozen, ?_⟩
  conv => whnf
  refine ⟨_, _, awake17_c, ?_⟩
  conv => whnf
  refine ⟨fun h => (by cases h), fun _ => ?_⟩
  conv => whnf
  refine gv (by first | omega | (simp only []; omega) | (simp; omega)) (by first | omega | (simp only []; omega) | (simp; omega)) ?_
  conv => whnf
  refine spNe (fun h => absurd (by omega) h) (fun _ => ?_)
  conv => whnf
  refine loopN tab mixed (fun i => i ≤ Q.length) Q.length (fun i => [(15, I i)]) (fun _ => []) 71 [] (by omega) ?_
  conv => whnf
  refine ⟨?_, fun i hi => ?_⟩
  · repeat' (first | exact trivial | rfl | refine And.intro ?_ ?_)
    all_goals (conv => whnf)
    repeat' (first | exact trivial | rfl | refine And.intro ?_ ?_)
  conv => whnf
  refine spD (fun h => ?_) (fun h => ?_) <;> conv => whnf
  · have hi' : i < Q.length := by omega
    obtain ⟨b, hb⟩ := get_of hi'
    have hb' : (fullL c u hd x)[i]? = some b := by rw [hfull, List.getElem?_append_left hi']; exact hb
    have hrl := hQr b (List.mem_of_getElem? hb)
    refine ⟨by omega, _, rB_get hb', ?_⟩
    conv => whnf
    refine spNe (fun h3 => ?_) (fun h3 => ?_) <;> conv => whnf
    · refine ⟨by omega, _, rB_get hb', ?_⟩
      conv => whnf
      refine spNe (fun h4 => by omega) (fun h4 => ?_)
      conv => whnf
      refine gv (by first | omega | (simp only []; omega) | (simp; omega)) (by first | omega | (simp only []; omega) | (simp; omega)) ?_
      conv => whnf
      refine ⟨⟨hi', hi'⟩, [], ?_⟩
      repeat' (first | exact trivial | rfl | refine And.intro ?_ ?_)
      all_goals (conv => whnf)
      repeat' (first | exact trivial | rfl | refine And.intro ?_ ?_)
    · refine gv (by first | omega | (simp only []; omega) | (simp; omega)) (by first | omega | (simp only []; omega) | (simp; omega)) ?_
      conv => whnf
      refine ⟨⟨hi', hi'⟩, [], ?_⟩
      repeat' (first | exact trivial | rfl | refine And.intro ?_ ?_)
      all_goals (conv => whnf)
      repeat' (first | exact trivial | rfl | refine And.intro ?_ ?_)
  · refine ⟨rB_rows _, ?_⟩
    conv => whnf
    refine ⟨by omega, by simp only [Int.toNat_natCast]; omega, ?_⟩
    conv => whnf
    rw [rB_cut]
    have e : (fullL c u hd x).drop (Q.length : Int).toNat = partialL c u hd x := by rw [hfull, Int.toNat_natCast, List.drop_left]
    rw [e]
    refine ⟨_, _, same_c _ _ (by omega), ?_⟩
    conv => whnf
    exact ⟨[], rfl, by simp [mtV, valOf, mtC, eqD], trivial⟩

/-! fewer tenants -/

theorem le_open {l : List (Int × Int)} (j : Nat) : Le (l.set j (-1, -1)) l := by
  refine ⟨by simp, fun t p p' hp hp' => ?_⟩
  by_cases h : j = t
  · subst h
    have hlt : j < l.length := (List.getElem?_eq_some_iff.1 hp').1
    simp [hlt] at hp
    rw [← hp]; simp
  · rw [List.getElem?_set_ne h, hp'] at hp
    simp at hp; rw [hp]; simp

theorem partial_head {c : Cfg} {u : Int} {l : List (Int × Int)} : partialL c u true l = partialL c u false l ++ headL c true l := by
  simp [partialL, headL]

theorem r2_set (l : List (Int × Int)) (i : Nat) (x y : Int) : (r2 l).set i [i64 x, i64 y] = r2 (l.set i (x, y)) := by simp [r2, List.map_set]

set_option maxRecDepth 100000 in
set_option maxHeartbeats 2000000 in
theorem rulesLess_c (l more : List Int) (cells tenant : Int) : CallsH Try.prog 12 [.c (.d (.sl (r1 l))), .c (.d (.sl (r1 more))), I cells, I tenant] [] (B true) [] := by
  obtain ⟨c, u, hm, hprob⟩ := problem_c l cells true
  have hf := hm.fit more
  have hpl := hm.places more
  generalize pl more c c.tenants.length = x at hf hpl
  have hg := hm.good
  have hT := hg.tenants
  have hlen := hf.len
  have hp := r2_len x
  have p1 := partial_len (u := u) (hd := true) hf
  have p2 := partial_len (u := u) (hd := false) hf
  have hsp := partial_head (c := c) (u := u) (l := x)
  have hal : (partialL c u true x).length = (partialL c u false x).length + (headL c true x).length := by rw [hsp, List.length_append]
  have hr1 := rB_len (partialL c u true x)
  have hr2 := rB_len (partialL c u false x)
  refine callsR_of tab mixed Try.func12 rfl (by decide) rfl rfl ?_
  conv => whnf
  refine ⟨_, _, light_c l, ?_⟩
  conv => whnf
  refine spN (fun h => ?_) (fun h => ?_) <;> conv => whnf
  · refine ⟨_, _, awake17_c, ?_⟩
    conv => whnf
    exact ⟨[], rfl, rfl, trivial⟩
  refine ⟨_, _, light_c more, ?_⟩
  conv => whnf
  refine spN (fun h => ?_) (fun h => ?_) <;> conv => whnf
  · refine ⟨_, _, awake17_c, ?_⟩
    conv => whnf
    exact ⟨[], rfl, rfl, trivial⟩
  refine ⟨_, _, hprob, ?_⟩
  conv => whnf
  refine ⟨_, _, hpl, ?_⟩
  conv => whnf
  refine ⟨by kernel_rfl, ?_⟩
  conv => whnf
  refine ⟨_, _, (partial_c c u true x hf).frozen, ?_⟩
  conv => whnf
  refine ⟨_, _, (partial_c c u false x hf).frozen, ?_⟩
  conv => whnf
  refine ⟨_, _, awake17_c, ?_⟩
  conv => whnf
  refine ⟨fun h => (by cases h), fun _ => ?_⟩
  conv => whnf
  refine spD (fun h => by omega) (fun _ => ?_)
  conv => whnf
  refine ⟨rB_rows _, ?_⟩
  conv => whnf
  refine ⟨by omega, by omega, ?_⟩
  conv => whnf
  rw [rB_cut']
  have e : (partialL c u true x).take ((rB (partialL c u false x)).length : Int).toNat = partialL c u false x := by
    rw [hsp, Int.toNat_natCast, hr2, List.take_left]
  rw [e]
  refine ⟨_, _, same_c _ _ (by omega), ?_⟩
  conv => whnf
  refine spN (fun h => absurd rfl h) (fun _ => ?_)
  conv => whnf
  refine loopN tab mixed (fun i => (partialL c u false x).length + i ≤ (partialL c u true x).length) (partialL c u true x).length (fun i => [(14, I ((partialL c u false x).length + i : Nat))]) (fun _ => []) 71 [] (by omega) ?_
  conv => whnf
  refine ⟨?_, fun i hi => ?_⟩
  · repeat' (first | exact trivial | rfl | refine And.intro ?_ ?_)
    all_goals (conv => whnf)
    repeat' (first | exact trivial | rfl | refine And.intro ?_ ?_)
    omega
  conv => whnf
  refine spD (fun h => ?_) (fun h => ?_) <;> conv => whnf
  · have hi' : (partialL c u false x).length + i < (partialL c u true x).length := by omega
    obtain ⟨b, hb⟩ := get_of hi'
    have hb9 : b.rule = 9 := by
      rw [hsp, List.getElem?_append_right (by omega)] at hb
      exact head_rule (List.mem_of_getElem? hb)
    refine ⟨by omega, _, rB_get hb, ?_⟩
    conv => whnf
    refine spNe (fun h3 => absurd hb9 h3) (fun _ => ?_)
    conv => whnf
    refine gv (by first | omega | (simp only []; omega) | (simp; omega)) (by first | omega | (simp only []; omega) | (simp; omega)) ?_
    conv => whnf
    refine ⟨⟨by omega, by omega⟩, [], ?_⟩
    repeat' (first | exact trivial | rfl | refine And.intro ?_ ?_)
    all_goals (conv => whnf)
    repeat' (first | exact trivial | rfl | refine And.intro ?_ ?_)
  refine spE (fun h3 => ?_) (fun h3 => ?_) <;> conv => whnf
  · exact ⟨[], rfl, rfl, trivial⟩
  refine spD (fun h4 => ?_) (fun h4 => ?_) <;> conv => whnf
  · exact ⟨[], rfl, rfl, trivial⟩
  have hnil : partialL c u true x = [] := List.length_eq_zero_iff.1 (by omega)
  have m1 := Int.emod_nonneg tenant (b := x.length) (by omega)
  have m2 := Int.emod_lt_of_pos tenant (b := x.length) (by omega)
  obtain ⟨q, hq⟩ := get_int (l := x) m1 (by omega)
  refine ⟨r2_ok _, ⟨by simp; omega⟩, ?_⟩
  conv => whnf
  simp only [List.nil_append]
  rw [hp]
  refine ⟨_, _, mod_c tenant x.length (by omega) (by omega), ?_⟩
  conv => whnf
  refine ⟨m1, by omega, _, r2_get hq, ?_⟩
  conv => whnf
  rw [r2_set]
  have hf' : Fit c (x.set (tenant % (x.length : Int)).toNat (-1, -1)) := by
    refine ⟨hf.val, by simp [hlen], fun p hp => ?_⟩
    rcases List.mem_or_eq_of_mem_set hp with h | h
    · exact hf.rng p h
    · rw [h]; simp only; omega
  have hn' : partialL c u true (x.set (tenant % (x.length : Int)).toNat (-1, -1)) = [] := by
    rw [List.eq_nil_iff_forall_not_mem]
    intro b hb
    have := partial_mono hg (le_open _) hb
    rw [hnil] at this; cases this
  refine ⟨_, _, partial_c c u true _ hf', ?_⟩
  conv => whnf
  rw [hn']
  exact ⟨[], rfl, rfl, trivial⟩

/-! more tenants -/

def extP (p q : Int × Int) : Int × Int := (if p.1 < 0 then q.1 else p.1, if p.2 < 0 then q.2 else p.2)

def extS (x y : List (Int × Int)) : Nat → List (Int × Int)
  | 0 => x
  | k + 1 => match x[k]?, y[k]? with
    | some p, some q => (extS x y k).set k (extP p q)
    | _, _ => extS x y k

theorem extS_len (x y : List (Int × Int)) : ∀ k, (extS x y k).length = x.length
  | 0 => rfl
  | k + 1 => by
    simp only [extS]
    split
    · rw [List.length_set, extS_len x y k]
    · exact extS_len x y k

theorem extS_get (x y : List (Int × Int)) (t : Nat) : ∀ k, (extS x y k)[t]? = if t < k then (match x[t]?, y[t]? with
    | some p, some q => some (extP p q)
    | a, _ => a) else x[t]?
  | 0 => by simp [extS]
  | k + 1 => by
    have ih := extS_get x y t k
    have hl := extS_len x y k
    by_cases h : t = k
    · subst h
      rw [if_neg (by omega)] at ih
      rw [if_pos (by omega)]
      simp only [extS]
      rcases hx : x[t]? with _ | p
      · simp only; rw [ih, hx]
      · rcases hy : y[t]? with _ | q
        · simp only; rw [ih, hx]
        · simp only
          have : t < x.length := (List.getElem?_eq_some_iff.1 hx).1
          rw [List.getElem?_set_self (by omega)]
    · have e : (extS x y (k + 1))[t]? = (extS x y k)[t]? := by
        simp only [extS]
        split
        · rw [List.getElem?_set_ne (by omega)]
        · rfl
      rw [e, ih]
      by_cases h2 : t < k
      · rw [if_pos h2, if_pos (by omega)]
      · rw [if_neg h2, if_neg (by omega)]

theorem set_same {α : Type} {p : α} : ∀ {l : List α} {i : Nat}, l[i]? = some p → l.set i p = l
  | [], _, h => by simp at h
  | a :: l, 0, h => by simp at h; simp [h]
  | a :: l, i + 1, h => by simp only [List.getElem?_cons_succ] at h; simp [set_same h]

theorem extended_c (x y : List (Int × Int)) (hl : x.length = y.length) (h32 : x.length ≤ 1000) : CallsH Try.prog 45 [plV x, plV y] [] (.c (.gs 0)) [.arr 49 (r2 (extS x y x.length))] := by
  have hx1 := r2_len x
  have hy1 := r2_len y
  refine callsR_of tab mixed Try.func45 rfl (by decide) rfl rfl ?_
  conv => whnf
  refine ⟨r2_ok _, ⟨by simp; omega⟩, ?_⟩
  conv => whnf
  simp only [List.nil_append]
  refine loopN tab mixed (fun i => i ≤ x.length) x.length (fun i => [(6, I i)]) (fun i => [(1, .arr 49 (r2 (extS x y i)))]) 51 [(1, some 1)] (by omega) ?_
  conv => whnf
  refine ⟨?_, fun i hi => ?_⟩
  · repeat' (first | exact trivial | rfl | refine And.intro ?_ ?_)
    all_goals (conv => whnf)
    repeat' (first | exact trivial | rfl | refine And.intro ?_ ?_)
  conv => whnf
  have hel := extS_len x y i
  have he1 := r2_len (extS x y i)
  refine spD (fun h => ?_) (fun h => ?_) <;> conv => whnf
  · have hi' : i < x.length := by omega
    obtain ⟨p, hp⟩ := get_of hi'
    obtain ⟨q, hq⟩ := get_of (l := y) (i := i) (by omega)
    have hep : (extS x y i)[i]? = some p := by rw [extS_get, if_neg (by omega)]; exact hp
    have hstep : extS x y (i + 1) = (extS x y i).set i (extP p q) := by simp [extS, hp, hq]
    refine spD (fun _ => ?_) (fun h => by omega)
    conv => whnf
    refine ⟨by omega, by omega, _, r2_get hep, ?_⟩
    conv => whnf
    refine spD (fun h1 => ?_) (fun h1 => ?_) <;> conv => whnf
    · refine ⟨by omega, _, r2_get hq, ?_⟩
      conv => whnf
      refine ⟨by omega, by omega, _, r2_get hep, ?_⟩
      conv => whnf
      have hg2 : ((extS x y i).set i (q.1, p.2))[i]? = some (q.1, p.2) := List.getElem?_set_self (by omega)
      have hl2 : (r2 ((extS x y i).set i (q.1, p.2))).length = x.length := by rw [r2_len]; simp; omega
      rw [show (r2 (extS x y i)).set (i : Int).toNat [i64 q.1, i64 p.2] = r2 ((extS x y i).set i (q.1, p.2)) from r2_set _ _ _ _]
      refine ⟨by omega, by omega, _, r2_get hg2, ?_⟩
      conv => whnf
      refine spD (fun h2 => ?_) (fun h2 => ?_) <;> conv => whnf
      · refine ⟨by omega, _, r2_get hq, ?_⟩
        conv => whnf
        refine ⟨by omega, by omega, _, r2_get hg2, ?_⟩
        conv => whnf
        refine gv (by first | omega | (simp only []; omega) | (simp; omega)) (by first | omega | (simp only []; omega) | (simp; omega)) ?_
        conv => whnf
        refine ⟨⟨hi', hi'⟩, [(1, some 1)], ?_⟩
        repeat' (first | exact trivial | rfl | refine And.intro ?_ ?_)
        all_goals (conv => whnf)
        repeat' (first | exact trivial | rfl | refine And.intro ?_ ?_)
        rw [hstep, show (r2 ((extS x y i).set i (q.1, p.2))).set (i : Int).toNat [i64 q.1, i64 q.2] = r2 (((extS x y i).set i (q.1, p.2)).set i (q.1, q.2)) from r2_set _ _ _ _, List.set_set]
        simp [extP, h1, h2]
      · refine gv (by first | omega | (simp only []; omega) | (simp; omega)) (by first | omega | (simp only []; omega) | (simp; omega)) ?_
        conv => whnf
        refine ⟨⟨hi', hi'⟩, [(1, some 1)], ?_⟩
        repeat' (first | exact trivial | rfl | refine And.intro ?_ ?_)
        all_goals (conv => whnf)
        repeat' (first | exact trivial | rfl | refine And.intro ?_ ?_)
        rw [hstep]; simp [extP, h1, h2]
    · refine ⟨by omega, by omega, _, r2_get hep, ?_⟩
      conv => whnf
      refine spD (fun h2 => ?_) (fun h2 => ?_) <;> conv => whnf
      · refine ⟨by omega, _, r2_get hq, ?_⟩
        conv => whnf
        refine ⟨by omega, by omega, _, r2_get hep, ?_⟩
        conv => whnf
        refine gv (by first | omega | (simp only []; omega) | (simp; omega)) (by first | omega | (simp only []; omega) | (simp; omega)) ?_
        conv => whnf
        refine ⟨⟨hi', hi'⟩, [(1, some 1)], ?_⟩
        repeat' (first | exact trivial | rfl | refine And.intro ?_ ?_)
        all_goals (conv => whnf)
        repeat' (first | exact trivial | rfl | refine And.intro ?_ ?_)
        rw [hstep, show (r2 (extS x y i)).set (i : Int).toNat [i64 p.1, i64 q.2] = r2 ((extS x y i).set i (p.1, q.2)) from r2_set _ _ _ _]
        simp [extP, h1, h2]
      · refine gv (by first | omega | (simp only []; omega) | (simp; omega)) (by first | omega | (simp only []; omega) | (simp; omega)) ?_
        conv => whnf
        refine ⟨⟨hi', hi'⟩, [(1, some 1)], ?_⟩
        repeat' (first | exact trivial | rfl | refine And.intro ?_ ?_)
        all_goals (conv => whnf)
        repeat' (first | exact trivial | rfl | refine And.intro ?_ ?_)
        rw [hstep]
        have : extP p q = p := by simp [extP, h1, h2]
        rw [this, set_same hep]
  · refine ⟨[(0, some 1)], rfl, rfl, ⟨rfl, ?_⟩, trivial⟩
    have hi' : i = x.length := by omega
    rw [hi']

theorem ext_le {c : Cfg} {x y : List (Int × Int)} (hf : Fit c x) : Le x (extS x y x.length) := by
  refine ⟨(extS_len x y _).symm, fun t p p' hp hp' => ?_⟩
  have hlt : t < x.length := (List.getElem?_eq_some_iff.1 hp).1
  have hrg := hf.rng p (List.mem_of_getElem? hp)
  rw [extS_get, if_pos hlt, hp] at hp'
  rcases hy : y[t]? with _ | q
  · rw [hy] at hp'
    simp only [Option.some.injEq] at hp'
    rw [hp']; simp
  · rw [hy] at hp'
    simp only [Option.some.injEq] at hp'
    rw [← hp']
    simp only [extP]
    constructor
    · by_cases h : p.1 < 0
      · left; omega
      · right; simp [h]
    · by_cases h : p.2 < 0
      · left; omega
      · right; simp [h]

theorem ext_fit {c : Cfg} {x y : List (Int × Int)} (hf : Fit c x) (hy : Fit c y) : Fit c (extS x y x.length) := by
  refine ⟨hf.val, by rw [extS_len]; exact hf.len, fun p hp => ?_⟩
  obtain ⟨t, ht⟩ := List.getElem?_of_mem hp
  rw [extS_get] at ht
  split at ht
  · rcases hx : x[t]? with _ | a
    · rw [hx] at ht; cases ht
    · have h1 := hf.rng a (List.mem_of_getElem? hx)
      rcases hq : y[t]? with _ | q
      · rw [hx, hq] at ht; simp only [Option.some.injEq] at ht; rw [← ht]; exact h1
      · have h2 := hy.rng q (List.mem_of_getElem? hq)
        rw [hx, hq] at ht
        simp only [Option.some.injEq] at ht
        rw [← ht]
        simp only [extP]
        constructor <;> split <;> omega
  · exact hf.rng p (List.mem_of_getElem? ht)

set_option maxRecDepth 100000 in
set_option maxHeartbeats 2000000 in
theorem rulesStay_c (l more rest : List Int) (cells : Int) (hd : Bool) : CallsH Try.prog 10 [.c (.d (.sl (r1 l))), .c (.d (.sl (r1 more))), .c (.d (.sl (r1 rest))), I cells, B hd] [] (B true) [] := by
  obtain ⟨c, u, hm, hprob⟩ := problem_c l cells hd
  have hf := hm.fit more
  have hpl := hm.places more
  have hf2 := hm.fit rest
  have hpl2 := hm.places rest
  generalize pl more c c.tenants.length = x at hf hpl
  generalize pl rest c c.tenants.length = y at hf2 hpl2
  have hg := hm.good
  have hT := hg.tenants
  have hlen := hf.len
  have hlen2 := hf2.len
  have hfe := ext_fit hf hf2
  have hle := ext_le (y := y) hf
  have hec := extended_c x y (by omega) (by omega)
  generalize extS x y x.length = z at hfe hle hec
  have p1 := partial_len (u := u) (hd := hd) hf
  have p2 := partial_len (u := u) (hd := hd) hfe
  have hr1 := rB_len (partialL c u hd x)
  have hr2 := rB_len (partialL c u hd z)
  have hall : ∀ b ∈ partialL c u hd x, b ∈ partialL c u hd z := fun b hb => partial_mono hg hle hb
  refine callsR_of tab mixed Try.func10 rfl (by decide) rfl rfl ?_
  conv => whnf
  refine ⟨_, _, light_c l, ?_⟩
  conv => whnf
  refine spN (fun h => ?_) (fun h => ?_) <;> conv => whnf
  · refine ⟨_, _, awake17_c, ?_⟩
    conv => whnf
    exact ⟨[], rfl, rfl, trivial⟩
  refine ⟨_, _, light_c more, ?_⟩
  conv => whnf
  refine spN (fun h => ?_) (fun h => ?_) <;> conv => whnf
  · refine ⟨_, _, awake17_c, ?_⟩
    conv => whnf
    exact ⟨[], rfl, rfl, trivial⟩
  refine ⟨_, _, light_c rest, ?_⟩
  conv => whnf
  refine spN (fun h => ?_) (fun h => ?_) <;> conv => whnf
  · refine ⟨_, _, awake17_c, ?_⟩
    conv => whnf
    exact ⟨[], rfl, rfl, trivial⟩
  refine ⟨_, _, hprob, ?_⟩
  conv => whnf
  refine ⟨_, _, hpl, ?_⟩
  conv => whnf
  refine ⟨_, _, hpl2, ?_⟩
  conv => whnf
  refine ⟨_, _, hec.frozen, ?_⟩
  conv => whnf
  refine ⟨by kernel_rfl, ?_⟩
  conv => whnf
  refine ⟨_, _, (partial_c c u hd x hf).frozen, ?_⟩
  conv => whnf
  refine ⟨_, _, (partial_c c u hd z hfe).frozen, ?_⟩
  conv => whnf
  refine loopN tab mixed (fun i => i ≤ (partialL c u hd x).length) (partialL c u hd x).length (fun i => [(16, I i)]) (fun _ => []) 51 [] (by omega) ?_
  conv => whnf
  refine ⟨?_, fun i hi => ?_⟩
  · repeat' (first | exact trivial | rfl | refine And.intro ?_ ?_)
    all_goals (conv => whnf)
    repeat' (first | exact trivial | rfl | refine And.intro ?_ ?_)
  conv => whnf
  refine spD (fun h => ?_) (fun h => ?_) <;> conv => whnf
  · have hi' : i < (partialL c u hd x).length := by omega
    obtain ⟨b, hb⟩ := get_of hi'
    refine loopN tab mixed (fun k => k ≤ (partialL c u hd z).length) (partialL c u hd z).length (fun k => [(18, I k), (17, B (decide (b ∈ (partialL c u hd z).take k)))]) (fun _ => []) 61 [] (by omega) ?_
    conv => whnf
    refine ⟨?_, fun k hk => ?_⟩
    · repeat' (first | exact trivial | rfl | refine And.intro ?_ ?_)
      all_goals (conv => whnf)
      repeat' (first | exact trivial | rfl | refine And.intro ?_ ?_)
    conv => whnf
    refine spD (fun h1 => ?_) (fun h1 => ?_) <;> conv => whnf
    · have hk' : k < (partialL c u hd z).length := by omega
      obtain ⟨d, hd'⟩ := get_of hk'
      have hts := take_succ_of hd'
      refine ⟨by kernel_rfl, ?_⟩
      conv => whnf
      refine ⟨fun h2 => ?_, fun h2 => ?_⟩ <;> conv => whnf
      · refine gv (by first | omega | (simp only []; omega) | (simp; omega)) (by first | omega | (simp only []; omega) | (simp; omega)) ?_
        conv => whnf
        refine ⟨⟨hk', hk'⟩, [], ?_⟩
        repeat' (first | exact trivial | rfl | refine And.intro ?_ ?_)
        all_goals (conv => whnf)
        repeat' (first | exact trivial | rfl | refine And.intro ?_ ?_)
        rw [hts]
        simp only [decide_eq_true_eq] at h2
        simp [h2]
      · refine ⟨by omega, _, rB_get hb, ?_⟩
        conv => whnf
        refine ⟨by omega, _, rB_get hd', ?_⟩
        conv => whnf
        refine ⟨by kernel_rfl, ?_⟩
        conv => whnf
        refine gv (by first | omega | (simp only []; omega) | (simp; omega)) (by first | omega | (simp only []; omega) | (simp; omega)) ?_
        conv => whnf
        refine ⟨⟨hk', hk'⟩, [], ?_⟩
        repeat' (first | exact trivial | rfl | refine And.intro ?_ ?_)
        all_goals (conv => whnf)
        repeat' (first | exact trivial | rfl | refine And.intro ?_ ?_)
        rw [hts, show eqB _ _ = _ from eqB5 b d]
        simp only [decide_eq_false_iff_not] at h2
        simp [h2]
    · have hk' : k = (partialL c u hd z).length := by omega
      subst hk'
      rw [List.take_length]
      refine spN (fun h2 => absurd (hall b (List.mem_of_getElem? hb)) h2) (fun _ => ?_)
      conv => whnf
      refine gv (by first | omega | (simp only []; omega) | (simp; omega)) (by first | omega | (simp only []; omega) | (simp; omega)) ?_
      conv => whnf
      refine ⟨⟨hi', hi'⟩, [], ?_⟩
      repeat' (first | exact trivial | rfl | refine And.intro ?_ ?_)
      all_goals (conv => whnf)
      repeat' (first | exact trivial | rfl | refine And.intro ?_ ?_)
  · refine ⟨_, _, awake17_c, ?_⟩
    conv => whnf
    exact ⟨[], rfl, rfl, trivial⟩

/-! counts -/

def isR (r : Int) (b : Brk) : Bool := decide (b.rule = r)

theorem cnt_apps {α : Type} (p : α → Bool) (b : List α) : ∀ a : List α, cnt p (a ++ b) = cnt p a + cnt p b
  | [] => by simp [cnt]
  | x :: r => by simp only [List.cons_append, cnt, cnt_apps p b r]; omega

theorem cnt_all {r : Int} : ∀ {l : List Brk}, (∀ b ∈ l, b.rule = r) → cnt (isR r) l = l.length
  | [], _ => rfl
  | x :: l, h => by
    have := cnt_all (r := r) (l := l) fun b hb => h b (by simp [hb])
    simp only [cnt, this, isR, h x (by simp), decide_true, if_true, List.length_cons]; omega

theorem cnt_none {r s : Int} (hne : s ≠ r) : ∀ {l : List Brk}, (∀ b ∈ l, b.rule = s) → cnt (isR r) l = 0
  | [], _ => rfl
  | x :: l, h => by
    have := cnt_none hne (l := l) fun b hb => h b (by simp [hb])
    simp [cnt, this, isR, h x (by simp), hne]

theorem cnt8 {c : Cfg} {u : Int} {l : List (Int × Int)} : cnt (isR 8) (partialL c u false l) = (cpL c (booked c l) c.cells.length).length := by
  simp only [partialL, List.flatten_cons, List.flatten_nil, List.append_nil, cnt_apps]
  simp only [usableL, allowedL]
  rw [cnt_none (s := 3) (by decide) (fun b hb => each_rule hb), cnt_none (s := 4) (by decide) (fun b hb => each_rule hb), cnt_none (s := 5) (by decide) (fun b hb => ap_rule hb), cnt_none (s := 6) (by decide) (fun b hb => pr_rule hb),
    cnt_none (s := 7) (by decide) (fun b hb => pr_rule hb), cnt_all (fun b hb => cp_rule hb), cnt_none (s := 9) (by decide) (fun b hb => head_rule hb)]
  omega

theorem cnt3 {c : Cfg} {u : Int} {l : List (Int × Int)} : cnt (isR 3) (partialL c u false l) = (usableL u l).length := by
  simp only [partialL, List.flatten_cons, List.flatten_nil, List.append_nil, cnt_apps]
  simp only [usableL, allowedL]
  rw [cnt_all (fun b hb => each_rule hb), cnt_none (s := 4) (by decide) (fun b hb => each_rule hb), cnt_none (s := 5) (by decide) (fun b hb => ap_rule hb), cnt_none (s := 6) (by decide) (fun b hb => pr_rule hb),
    cnt_none (s := 7) (by decide) (fun b hb => pr_rule hb), cnt_none (s := 8) (by decide) (fun b hb => cp_rule hb), cnt_none (s := 9) (by decide) (fun b hb => head_rule hb)]
  omega

theorem over8 {c : Cfg} {u : Int} {hd : Bool} {l : List (Int × Int)} {b : Brk} (h : b ∈ partialL c u hd l) (h8 : b.rule = 8) : ∃ i : Nat, i < c.cells.length ∧ b.cell = i ∧ capOf c i < ((booked c l)[i]?).getD 0 := by
  simp only [partialL, List.flatten_cons, List.flatten_nil, List.append_nil, List.mem_append] at h
  rcases h with h | h | h | h | h | h | h
  · have := each_rule h; omega
  · have := each_rule h; omega
  · have := ap_rule h; omega
  · have := pr_rule h; omega
  · have := pr_rule h; omega
  · rw [mem_cp] at h
    obtain ⟨i, h1, h2⟩ := h
    unfold cpT at h2
    split at h2
    · rename_i hc
      simp at h2
      exact ⟨i, h1, by rw [h2], hc⟩
    · simp at h2
  · have := head_rule h; omega

set_option maxRecDepth 100000 in
set_option maxHeartbeats 4000000 in
theorem rulesCapacity_c (l more : List Int) (cells : Int) : CallsH Try.prog 13 [.c (.d (.sl (r1 l))), .c (.d (.sl (r1 more))), I cells] [] (B true) [] := by
  obtain ⟨c, u, hm, hprob⟩ := problem_c l cells false
  have hf := hm.fit more
  have hpl := hm.places more
  generalize pl more c c.tenants.length = x at hf hpl
  have hg := hm.good
  have hT := hg.tenants
  have hC := hg.cells
  have hlen := hf.len
  have hp := r2_len x
  have hcl := r2_len c.cells
  have p1 := partial_len (u := u) (hd := false) hf
  have hr1 := rB_len (partialL c u false x)
  have hbl : (booked c x).length = c.cells.length := bk_len c x x.length
  have hb1 := r1_len (booked c x)
  have h8 := cnt8 (c := c) (u := u) (l := x)
  have h3 := cnt3 (c := c) (u := u) (l := x)
  have hov : ∀ b ∈ partialL c u false x, b.rule = 8 → ∃ i : Nat, i < c.cells.length ∧ b.cell = i ∧ capOf c i < ((booked c x)[i]?).getD 0 := fun b hb => over8 hb
  have q1 := cpL_len c (booked c x) c.cells.length
  have q2 := eachL_len 3 (eachU u) x x.length
  have q3 : (usableL u x).length = (eachL 3 (eachU u) x x.length).length := rfl
  refine callsR_of tab mixed Try.func13 rfl (by decide) rfl rfl ?_
  conv => whnf
  refine ⟨_, _, light_c l, ?_⟩
  conv => whnf
  refine spN (fun h => ?_) (fun h => ?_) <;> conv => whnf
  · refine ⟨_, _, awake17_c, ?_⟩
    conv => whnf
    exact ⟨[], rfl, rfl, trivial⟩
  refine ⟨_, _, light_c more, ?_⟩
  conv => whnf
  refine spN (fun h => ?_) (fun h => ?_) <;> conv => whnf
  · refine ⟨_, _, awake17_c, ?_⟩
    conv => whnf
    exact ⟨[], rfl, rfl, trivial⟩
  refine ⟨_, _, hprob, ?_⟩
  conv => whnf
  refine ⟨_, _, hpl, ?_⟩
  conv => whnf
  refine ⟨by kernel_rfl, ?_⟩
  conv => whnf
  refine ⟨_, _, (booked_c c u false x hf).frozen, ?_⟩
  conv => whnf
  refine ⟨_, _, (partial_c c u false x hf).frozen, ?_⟩
  conv => whnf
  refine ⟨_, _, awake17_c, ?_⟩
  conv => whnf
  refine ⟨fun h => (by cases h), fun _ => ?_⟩
  conv => whnf
  refine spNe (fun h => absurd (by omega) h) (fun _ => ?_)
  conv => whnf
  generalize partialL c u false x = Q at *
  refine loopN tab mixed (fun i => i ≤ Q.length) Q.length (fun i => [(13, I i), (11, I (cnt (isR 8) (Q.take i) : Nat)), (12, I (cnt (isR 3) (Q.take i) : Nat))]) (fun _ => []) 51 [] (by omega) ?_
  conv => whnf
  refine ⟨?_, fun i hi => ?_⟩
  · repeat' (first | exact trivial | rfl | refine And.intro ?_ ?_)
    all_goals (conv => whnf)
    repeat' (first | exact trivial | rfl | refine And.intro ?_ ?_)
  conv => whnf
  refine spD (fun h => ?_) (fun h => ?_) <;> conv => whnf
  · have hi' : i < Q.length := by omega
    obtain ⟨b, hb⟩ := get_of hi'
    have hts := take_succ_of hb
    have c8 := cnt_le (isR 8) (Q.take i)
    have c3 := cnt_le (isR 3) (Q.take i)
    have htl : (Q.take i).length ≤ i := by simp; omega
    refine ⟨by omega, _, rB_get hb, ?_⟩
    conv => whnf
    refine spE (fun h5 => ?_) (fun h5 => ?_) <;> conv => whnf
    · obtain ⟨j, j1, j2, j3⟩ := hov b (List.mem_of_getElem? hb) h5
      obtain ⟨y, hy⟩ := get_of j1
      obtain ⟨z, hz⟩ := get_of (l := booked c x) (i := j) (by omega)
      have hcap : capOf c j = y.2 := by simp [capOf, hy]
      rw [hz, hcap] at j3
      simp only [Option.getD_some] at j3
      have hz' : (booked c x)[b.cell.toNat]? = some z := by rw [j2]; exact hz
      have hy' : c.cells[b.cell.toNat]? = some y := by rw [j2]; exact hy
      refine ⟨by omega, _, rB_get hb, ?_⟩
      conv => whnf
      refine ⟨by kernel_rfl, ?_⟩
      conv => whnf
      refine spD (fun h => by omega) (fun _ => ?_)
      conv => whnf
      refine spD (fun h => by omega) (fun _ => ?_)
      conv => whnf
      refine ⟨by omega, _, r1_get hz', ?_⟩
      conv => whnf
      refine ⟨by omega, _, r2_get hy', ?_⟩
      conv => whnf
      refine spD (fun h => by omega) (fun _ => ?_)
      conv => whnf
      refine gv (by first | omega | (simp only []; omega) | (simp; omega)) (by first | omega | (simp only []; omega) | (simp; omega)) ?_
      conv => whnf
      refine gv (by first | omega | (simp only []; omega) | (simp; omega)) (by first | omega | (simp only []; omega) | (simp; omega)) ?_
      conv => whnf
      refine ⟨⟨hi', hi'⟩, [], ?_⟩
      repeat' (first | exact trivial | rfl | refine And.intro ?_ ?_)
      all_goals (conv => whnf)
      repeat' (first | exact trivial | rfl | refine And.intro ?_ ?_)
      · rw [hts, cnt_app]; simp [isR, h5]
      · rw [hts, cnt_app]; simp [isR, h5]
    · refine spE (fun h6 => ?_) (fun h6 => ?_) <;> conv => whnf
      · refine gv (by first | omega | (simp only []; omega) | (simp; omega)) (by first | omega | (simp only []; omega) | (simp; omega)) ?_
        conv => whnf
        refine gv (by first | omega | (simp only []; omega) | (simp; omega)) (by first | omega | (simp only []; omega) | (simp; omega)) ?_
        conv => whnf
        refine ⟨⟨hi', hi'⟩, [], ?_⟩
        repeat' (first | exact trivial | rfl | refine And.intro ?_ ?_)
        all_goals (conv => whnf)
        repeat' (first | exact trivial | rfl | refine And.intro ?_ ?_)
        · rw [hts, cnt_app]; simp [isR, h6]
        · rw [hts, cnt_app]; simp [isR, h6]
      · refine gv (by first | omega | (simp only []; omega) | (simp; omega)) (by first | omega | (simp only []; omega) | (simp; omega)) ?_
        conv => whnf
        refine ⟨⟨hi', hi'⟩, [], ?_⟩
        repeat' (first | exact trivial | rfl | refine And.intro ?_ ?_)
        all_goals (conv => whnf)
        repeat' (first | exact trivial | rfl | refine And.intro ?_ ?_)
        · rw [hts, cnt_app]; simp [isR, h5]
        · rw [hts, cnt_app]; simp [isR, h6]
  have hi' : i = Q.length := by omega
  subst hi'
  rw [List.take_length, h8, h3]
  refine loopN tab mixed (fun i => i ≤ c.cells.length) c.cells.length (fun i => [(15, I i), (11, I (((cpL c (booked c x) c.cells.length).length : Int) - ((cpL c (booked c x) i).length : Int)))]) (fun _ => []) 71 [] (by omega) ?_
  conv => whnf
  refine ⟨?_, fun i hi => ?_⟩
  · repeat' (first | exact trivial | rfl | refine And.intro ?_ ?_)
    all_goals (conv => whnf)
    repeat' (first | exact trivial | rfl | refine And.intro ?_ ?_)
  conv => whnf
  refine spD (fun h => ?_) (fun h => ?_) <;> conv => whnf
  · have hi' : i < c.cells.length := by omega
    obtain ⟨y, hy⟩ := get_of hi'
    obtain ⟨z, hz⟩ := get_of (l := booked c x) (i := i) (by omega)
    have hcap : capOf c i = y.2 := by simp [capOf, hy]
    have q4 := cpL_len c (booked c x) i
    refine ⟨by kernel_rfl, ?_⟩
    conv => whnf
    refine ⟨by omega, _, r1_get hz, ?_⟩
    conv => whnf
    refine ⟨by omega, _, r2_get hy, ?_⟩
    conv => whnf
    refine spD (fun h1 => ?_) (fun h1 => ?_) <;> conv => whnf
    · refine gv (by first | omega | (simp only []; omega) | (simp; omega)) (by first | omega | (simp only []; omega) | (simp; omega)) ?_
      conv => whnf
      refine gv (by first | omega | (simp only []; omega) | (simp; omega)) (by first | omega | (simp only []; omega) | (simp; omega)) ?_
      conv => whnf
      refine ⟨⟨hi', hi'⟩, [], ?_⟩
      repeat' (first | exact trivial | rfl | refine And.intro ?_ ?_)
      all_goals (conv => whnf)
      repeat' (first | exact trivial | rfl | refine And.intro ?_ ?_)
      simp only [cpL, cpT, hcap, hz, Option.getD_some, h1, if_true, List.length_append, List.length_singleton]; omega
    · refine gv (by first | omega | (simp only []; omega) | (simp; omega)) (by first | omega | (simp only []; omega) | (simp; omega)) ?_
      conv => whnf
      refine ⟨⟨hi', hi'⟩, [], ?_⟩
      repeat' (first | exact trivial | rfl | refine And.intro ?_ ?_)
      all_goals (conv => whnf)
      repeat' (first | exact trivial | rfl | refine And.intro ?_ ?_)
      simp [cpL, cpT, hcap, hz, h1]
  have hi' : i = c.cells.length := by omega
  subst hi'
  rw [Int.sub_self]
  refine loopN tab mixed (fun i => i ≤ x.length) x.length (fun i => [(16, I i), (12, I (((usableL u x).length : Int) - ((eachL 3 (eachU u) x i).length : Int)))]) (fun _ => []) 91 [] (by omega) ?_
  conv => whnf
  refine ⟨?_, fun i hi => ?_⟩
  · repeat' (first | exact trivial | rfl | refine And.intro ?_ ?_)
    all_goals (conv => whnf)
    repeat' (first | exact trivial | rfl | refine And.intro ?_ ?_)
  conv => whnf
  refine spD (fun h => ?_) (fun h => ?_) <;> conv => whnf
  · have hi' : i < x.length := by omega
    obtain ⟨p, hx⟩ := get_of hi'
    have hrg := hf.rng p (List.mem_of_getElem? hx)
    have q4 := eachL_len 3 (eachU u) x i
    have hstep : (eachL 3 (eachU u) x (i + 1)).length = (eachL 3 (eachU u) x i).length + (eachT 3 (eachU u) i p.1).length + (eachT 3 (eachU u) i p.2).length := by simp [eachL, hx, Nat.add_assoc]
    have t1 := eachT_len 3 (eachU u) i p.1
    have t2 := eachT_len 3 (eachU u) i p.2
    have no1 : p.1 < 0 → (eachT 3 (eachU u) i p.1).length = 0 := fun h => by
      have : p.1 = -1 := by omega
      rw [this]; simp [eachT]
    have no2 : p.2 < 0 → (eachT 3 (eachU u) i p.2).length = 0 := fun h => by
      have : p.2 = -1 := by omega
      rw [this]; simp [eachT]
    have on1 : 0 ≤ p.1 → (eachT 3 (eachU u) i p.1).length = if bit u p.1 then 0 else 1 := fun h => by
      have : p.1 ≠ -1 := by omega
      cases hb : bit u p.1 <;> simp [eachT, eachU, this, hb]
    have on2 : 0 ≤ p.2 → (eachT 3 (eachU u) i p.2).length = if bit u p.2 then 0 else 1 := fun h => by
      have : p.2 ≠ -1 := by omega
      cases hb : bit u p.2 <;> simp [eachT, eachU, this, hb]
    refine ⟨by kernel_rfl, ?_⟩
    conv => whnf
    refine ⟨by omega, _, r2_get hx, ?_⟩
    conv => whnf
    refine spD (fun g1 => ?_) (fun g1 => ?_) <;> conv => whnf
    · refine ⟨by omega, _, r2_get hx, ?_⟩
      conv => whnf
      refine ⟨_, _, has_c u p.1, ?_⟩
      conv => whnf
      have on1' := on1 g1
      refine ⟨fun g2 => ?_, fun g2 => ?_⟩ <;> conv => whnf
      · simp only [Bool.not_eq_true'] at g2
        rw [g2] at on1'
        simp only [Bool.false_eq_true, if_false] at on1'
        refine gv (by first | omega | (simp only []; omega) | (simp; omega)) (by first | omega | (simp only []; omega) | (simp; omega)) ?_
        conv => whnf
        refine ⟨by kernel_rfl, ?_⟩
        conv => whnf
        refine ⟨by omega, _, r2_get hx, ?_⟩
        conv => whnf
        refine spD (fun g3 => ?_) (fun g3 => ?_) <;> conv => whnf
        · refine ⟨by omega, _, r2_get hx, ?_⟩
          conv => whnf
          refine ⟨_, _, has_c u p.2, ?_⟩
          conv => whnf
          have on2' := on2 g3
          refine ⟨fun g4 => ?_, fun g4 => ?_⟩ <;> conv => whnf
          · simp only [Bool.not_eq_true'] at g4
            rw [g4] at on2'
            simp only [Bool.false_eq_true, if_false] at on2'
            refine gv (by first | omega | (simp only []; omega) | (simp; omega)) (by first | omega | (simp only []; omega) | (simp; omega)) ?_
            conv => whnf
            refine gv (by first | omega | (simp only []; omega) | (simp; omega)) (by first | omega | (simp only []; omega) | (simp; omega)) ?_
            conv => whnf
            refine ⟨⟨hi', hi'⟩, [], ?_⟩
            repeat' (first | exact trivial | rfl | refine And.intro ?_ ?_)
            all_goals (conv => whnf)
            repeat' (first | exact trivial | rfl | refine And.intro ?_ ?_)
            omega
          · simp only [Bool.not_eq_false'] at g4
            rw [g4] at on2'
            simp only [if_true] at on2'
            refine gv (by first | omega | (simp only []; omega) | (simp; omega)) (by first | omega | (simp only []; omega) | (simp; omega)) ?_
            conv => whnf
            refine ⟨⟨hi', hi'⟩, [], ?_⟩
            repeat' (first | exact trivial | rfl | refine And.intro ?_ ?_)
            all_goals (conv => whnf)
            repeat' (first | exact trivial | rfl | refine And.intro ?_ ?_)
            omega
        · have no2' := no2 (by omega)
          refine gv (by first | omega | (simp only []; omega) | (simp; omega)) (by first | omega | (simp only []; omega) | (simp; omega)) ?_
          conv => whnf
          refine ⟨⟨hi', hi'⟩, [], ?_⟩
          repeat' (first | exact trivial | rfl | refine And.intro ?_ ?_)
          all_goals (conv => whnf)
          repeat' (first | exact trivial | rfl | refine And.intro ?_ ?_)
          omega
      · simp only [Bool.not_eq_false'] at g2
        rw [g2] at on1'
        simp only [if_true] at on1'
        refine ⟨by kernel_rfl, ?_⟩
        conv => whnf
        refine ⟨by omega, _, r2_get hx, ?_⟩
        conv => whnf
        refine spD (fun g3 => ?_) (fun g3 => ?_) <;> conv => whnf
        · refine ⟨by omega, _, r2_get hx, ?_⟩
          conv => whnf
          refine ⟨_, _, has_c u p.2, ?_⟩
          conv => whnf
          have on2' := on2 g3
          refine ⟨fun g4 => ?_, fun g4 => ?_⟩ <;> conv => whnf
          · simp only [Bool.not_eq_true'] at g4
            rw [g4] at on2'
            simp only [Bool.false_eq_true, if_false] at on2'
            refine gv (by first | omega | (simp only []; omega) | (simp; omega)) (by first | omega | (simp only []; omega) | (simp; omega)) ?_
            conv => whnf
            refine gv (by first | omega | (simp only []; omega) | (simp; omega)) (by first | omega | (simp only []; omega) | (simp; omega)) ?_
            conv => whnf
            refine ⟨⟨hi', hi'⟩, [], ?_⟩
            repeat' (first | exact trivial | rfl | refine And.intro ?_ ?_)
            all_goals (conv => whnf)
            repeat' (first | exact trivial | rfl | refine And.intro ?_ ?_)
            omega
          · simp only [Bool.not_eq_false'] at g4
            rw [g4] at on2'
            simp only [if_true] at on2'
            refine gv (by first | omega | (simp only []; omega) | (simp; omega)) (by first | omega | (simp only []; omega) | (simp; omega)) ?_
            conv => whnf
            refine ⟨⟨hi', hi'⟩, [], ?_⟩
            repeat' (first | exact trivial | rfl | refine And.intro ?_ ?_)
            all_goals (conv => whnf)
            repeat' (first | exact trivial | rfl | refine And.intro ?_ ?_)
            omega
        · have no2' := no2 (by omega)
          refine gv (by first | omega | (simp only []; omega) | (simp; omega)) (by first | omega | (simp only []; omega) | (simp; omega)) ?_
          conv => whnf
          refine ⟨⟨hi', hi'⟩, [], ?_⟩
          repeat' (first | exact trivial | rfl | refine And.intro ?_ ?_)
          all_goals (conv => whnf)
          repeat' (first | exact trivial | rfl | refine And.intro ?_ ?_)
          omega
    · have no1' := no1 (by omega)
      refine ⟨by kernel_rfl, ?_⟩
      conv => whnf
      refine ⟨by omega, _, r2_get hx, ?_⟩
      conv => whnf
      refine spD (fun g3 => ?_) (fun g3 => ?_) <;> conv => whnf
      · refine ⟨by omega, _, r2_get hx, ?_⟩
        conv => whnf
        refine ⟨_, _, has_c u p.2, ?_⟩
        conv => whnf
        have on2' := on2 g3
        refine ⟨fun g4 => ?_, fun g4 => ?_⟩ <;> conv => whnf
        · simp only [Bool.not_eq_true'] at g4
          rw [g4] at on2'
          simp only [Bool.false_eq_true, if_false] at on2'
          refine gv (by first | omega | (simp only []; omega) | (simp; omega)) (by first | omega | (simp only []; omega) | (simp; omega)) ?_
          conv => whnf
          refine gv (by first | omega | (simp only []; omega) | (simp; omega)) (by first | omega | (simp only []; omega) | (simp; omega)) ?_
          conv => whnf
          refine ⟨⟨hi', hi'⟩, [], ?_⟩
          repeat' (first | exact trivial | rfl | refine And.intro ?_ ?_)
          all_goals (conv => whnf)
          repeat' (first | exact trivial | rfl | refine And.intro ?_ ?_)
          omega
        · simp only [Bool.not_eq_false'] at g4
          rw [g4] at on2'
          simp only [if_true] at on2'
          refine gv (by first | omega | (simp only []; omega) | (simp; omega)) (by first | omega | (simp only []; omega) | (simp; omega)) ?_
          conv => whnf
          refine ⟨⟨hi', hi'⟩, [], ?_⟩
          repeat' (first | exact trivial | rfl | refine And.intro ?_ ?_)
          all_goals (conv => whnf)
          repeat' (first | exact trivial | rfl | refine And.intro ?_ ?_)
          omega
      · have no2' := no2 (by omega)
        refine gv (by first | omega | (simp only []; omega) | (simp; omega)) (by first | omega | (simp only []; omega) | (simp; omega)) ?_
        conv => whnf
        refine ⟨⟨hi', hi'⟩, [], ?_⟩
        repeat' (first | exact trivial | rfl | refine And.intro ?_ ?_)
        all_goals (conv => whnf)
        repeat' (first | exact trivial | rfl | refine And.intro ?_ ?_)
        omega
  · have hi' : i = x.length := by omega
    subst hi'
    refine spE (fun _ => ?_) (fun h => absurd rfl h)
    conv => whnf
    refine ⟨[], rfl, ?_, trivial⟩
    have : ((usableL u x).length : Int) - ((eachL 3 (eachU u) x x.length).length : Int) = 0 := by omega
    simp [mtV, valOf, mtC, eqD, this]

end Go.Proofs.Ytlcgeeacgjdnkaa
