/- Contract: the last law of chapter 18 returns true at every input. No conditions. -/
import Derived.Test.YthpngoplkekkaaaGreatLaw18
import Derived.Test.YthpngoplkekkaaaGreatMono
namespace Go.Proofs.YthpngoplkekkaaaGreat
open Go Go.Cpl

/-! the places of the second, where the first has none -/

def flP (p q : Int × Int) : Int × Int := (if 0 ≤ p.1 then p.1 else q.1, if 0 ≤ p.2 then p.2 else q.2)

def flS (x y : List (Int × Int)) : Nat → List (Int × Int)
  | 0 => y
  | k + 1 => match x[k]?, y[k]? with
    | some p, some q => (flS x y k).set k (flP p q)
    | _, _ => flS x y k

theorem flS_len (x y : List (Int × Int)) : ∀ k, (flS x y k).length = y.length
  | 0 => rfl
  | k + 1 => by
    simp only [flS]
    split
    · rw [List.length_set, flS_len x y k]
    · exact flS_len x y k

theorem flS_get (x y : List (Int × Int)) (t : Nat) : ∀ k, (flS x y k)[t]? = if t < k then (match x[t]?, y[t]? with
    | some p, some q => some (flP p q)
    | _, b => b) else y[t]?
  | 0 => by simp [flS]
  | k + 1 => by
    have ih := flS_get x y t k
    have hl := flS_len x y k
    by_cases h : t = k
    · subst h
      rw [if_neg (by omega)] at ih
      rw [if_pos (by omega)]
      simp only [flS]
      rcases hx : x[t]? with _ | p
      · simp only; rw [ih]
      · rcases hy : y[t]? with _ | q
        · simp only; rw [ih, hy]
        · simp only
          have : t < y.length := (List.getElem?_eq_some_iff.1 hy).1
          rw [List.getElem?_set_self (by omega)]
    · have e : (flS x y (k + 1))[t]? = (flS x y k)[t]? := by
        simp only [flS]
        split
        · rw [List.getElem?_set_ne (by omega)]
        · rfl
      rw [e, ih]
      by_cases h2 : t < k
      · rw [if_pos h2, if_pos (by omega)]
      · rw [if_neg h2, if_neg (by omega)]

theorem fl_fit {c : Cfg} {x y : List (Int × Int)} (hf : Fit c x) (hy : Fit c y) (k : Nat) : Fit c (flS x y k) := by
  refine ⟨hf.val, by rw [flS_len]; exact hy.len, fun p hp => ?_⟩
  obtain ⟨t, ht⟩ := List.getElem?_of_mem hp
  rw [flS_get] at ht
  split at ht
  · rcases hx : x[t]? with _ | a
    · rw [hx] at ht; exact hy.rng p (List.mem_of_getElem? ht)
    · have h1 := hf.rng a (List.mem_of_getElem? hx)
      rcases hq : y[t]? with _ | q
      · rw [hx, hq] at ht; cases ht
      · have h2 := hy.rng q (List.mem_of_getElem? hq)
        rw [hx, hq] at ht
        simp only [Option.some.injEq] at ht
        rw [← ht]
        simp only [flP]
        constructor <;> split <;> omega
  · exact hy.rng p (List.mem_of_getElem? ht)

theorem fl_le {c : Cfg} {x y : List (Int × Int)} (hf : Fit c x) (hl : x.length = y.length) : Le x (flS x y x.length) := by
  refine ⟨by rw [flS_len]; exact hl, fun t p p' hp hp' => ?_⟩
  have hlt : t < x.length := (List.getElem?_eq_some_iff.1 hp).1
  have hrg := hf.rng p (List.mem_of_getElem? hp)
  obtain ⟨q, hq⟩ := get_of (l := y) (i := t) (by omega)
  rw [flS_get, if_pos hlt, hp, hq] at hp'
  simp only [Option.some.injEq] at hp'
  rw [← hp']
  simp only [flP]
  constructor
  · by_cases h : 0 ≤ p.1
    · right; simp [h]
    · left; omega
  · by_cases h : 0 ≤ p.2
    · right; simp [h]
    · left; omega

/-! what is booked takes room -/

def wt (c : Cfg) (u set i d : Int) : Int := if 0 ≤ i ∧ i < c.cells.length ∧ (bit u i && bit set (regionOf c i)) = true then d else 0

theorem rr_addAt {c : Cfg} {u set : Int} {bl : List Int} (hl : bl.length = c.cells.length) (i d : Int) : ∀ k, k ≤ c.cells.length → rr c u (addAt bl i d) set k = rr c u bl set k - if i < k then wt c u set i d else 0
  | 0, _ => by
    simp only [rr, wt]
    split
    · rw [if_neg (by omega)]; rfl
    · rfl
  | k + 1, hk => by
    have ih := rr_addAt (u := u) (set := set) hl i d k (by omega)
    simp only [rr]
    rw [ih, addAt_getD]
    by_cases h1 : (k : Int) = i
    · subst h1
      rw [if_neg (show ¬ ((k : Int) < (k : Int)) by omega), if_pos (show (k : Int) < ((k + 1 : Nat) : Int) by omega), if_pos (show (k : Int) = (k : Int) ∧ k < bl.length from ⟨rfl, by omega⟩)]
      simp only [wt]
      by_cases h2 : (bit u k && bit set (regionOf c k)) = true
      · rw [if_pos h2, if_pos h2, if_pos (show 0 ≤ (k : Int) ∧ (k : Int) < c.cells.length ∧ _ from ⟨by omega, by omega, h2⟩)]; omega
      · rw [if_neg h2, if_neg h2, if_neg (show ¬ (0 ≤ (k : Int) ∧ (k : Int) < c.cells.length ∧ _) from fun h => h2 h.2.2)]; omega
    · rw [if_neg (show ¬ ((k : Int) = i ∧ k < bl.length) from fun h => h1 h.1), Int.add_zero]
      by_cases h2 : i < (k : Int)
      · rw [if_pos h2, if_pos (show i < ((k + 1 : Nat) : Int) by omega)]; split <;> omega
      · rw [if_neg h2, if_neg (show ¬ (i < ((k + 1 : Nat) : Int)) by omega)]; split <;> omega

theorem rr_addAt' {c : Cfg} {u set : Int} {bl : List Int} (hl : bl.length = c.cells.length) (i d : Int) : rr c u (addAt bl i d) set c.cells.length = rr c u bl set c.cells.length - wt c u set i d := by
  rw [rr_addAt hl i d _ (Nat.le_refl _)]
  by_cases h : i < (c.cells.length : Int)
  · rw [if_pos h]
  · rw [if_neg h]
    simp only [wt]
    rw [if_neg (by omega)]

theorem wt_neg (c : Cfg) (u set d : Int) : wt c u set (-1) d = 0 := by
  unfold wt; rw [if_neg (by omega)]

theorem wt_nn {c : Cfg} {u set i d : Int} (h : 0 ≤ d) : 0 ≤ wt c u set i d := by
  unfold wt; split <;> omega

theorem reach_bit {c : Cfg} (hg : Good c) {u t : Int} {i : Nat} (h1 : bit u i = true) (h2 : may c t i = true) : ∀ k, i < k → bit (reachN c u t k : Int) (regionOf c i) = true := by
  have hR := hg.regions
  have hr := hg.laid.may_region h2
  have e : regionOf c i = (((regionOf c i).toNat : Nat) : Int) := by omega
  intro k hk
  induction k with
  | zero => omega
  | succ k ih =>
    simp only [reachN]
    by_cases h : i = k
    · subst h
      rw [h1, h2, if_pos (show (true && true) = true from rfl)]
      generalize (regionOf c i).toNat = r at e
      rw [e, bit_nat _ _ (by omega), Nat.testBit_or, Nat.testBit_two_pow_self, Bool.or_true]
    · have ih' := ih (by omega)
      split
      · rw [e, bit_nat _ _ (by omega)] at ih' ⊢
        rw [Nat.testBit_or, ih']; rfl
      · exact ih'

/-- no rule of usable cells, of residency and of capacity is broken -/
structure Kept (c : Cfg) (u : Int) (y : List (Int × Int)) : Prop where
  use : ∀ (t : Nat) (q : Int × Int), y[t]? = some q → q.1 ≠ -1 → bit u q.1 = true
  may : ∀ (t : Nat) (q : Int × Int), y[t]? = some q → q.1 ≠ -1 → may c t q.1 = true
  cap : ∀ i : Nat, i < c.cells.length → ((booked c y)[i]?).getD 0 ≤ capOf c i

theorem kept_of {c : Cfg} {u : Int} {hd : Bool} {y : List (Int × Int)} (h : ∀ b ∈ partialL c u hd y, b.rule ≠ 3 ∧ b.rule ≠ 4 ∧ b.rule ≠ 8) : Kept c u y := by
  simp only [partialL, List.flatten_cons, List.flatten_nil, List.append_nil, List.mem_append] at h
  refine ⟨fun t q hq hn => ?_, fun t q hq hn => ?_, fun i hi => ?_⟩
  · rcases hb : bit u q.1 with _ | _
    · have hm : (⟨3, t, -1, q.1, -1⟩ : Brk) ∈ usableL u y := by
        unfold usableL
        rw [mem_each]
        refine ⟨t, q, (List.getElem?_eq_some_iff.1 hq).1, hq, .inl ?_⟩
        simp [eachT, eachU, hn, hb]
      exact absurd rfl (h _ (.inl hm)).1
    · rfl
  · rcases hb : may c t q.1 with _ | _
    · have hm : (⟨4, t, -1, q.1, -1⟩ : Brk) ∈ allowedL c y := by
        unfold allowedL
        rw [mem_each]
        refine ⟨t, q, (List.getElem?_eq_some_iff.1 hq).1, hq, .inl ?_⟩
        simp [eachT, eachA, hn, hb]
      exact absurd rfl (h _ (.inr (.inl hm))).2.1
    · rfl
  · rcases (show capOf c i < ((booked c y)[i]?).getD 0 ∨ ((booked c y)[i]?).getD 0 ≤ capOf c i by omega) with hb | hb
    · have hm : ∃ b, b ∈ cpL c (booked c y) c.cells.length := by
        have : ∃ b, b ∈ cpT c (booked c y) i := by
          unfold cpT; rw [if_pos hb]; exact ⟨_, List.mem_singleton.2 rfl⟩
        obtain ⟨b, hb'⟩ := this
        exact ⟨b, mem_cp.2 ⟨i, hi, hb'⟩⟩
      obtain ⟨b, hb'⟩ := hm
      exact absurd (cp_rule hb') (h b (.inr (.inr (.inr (.inr (.inr (.inl hb'))))))).2.2
    · exact hb

theorem rr_nn {c : Cfg} {u set : Int} {bl : List Int} : ∀ k, k ≤ c.cells.length → (∀ i : Nat, i < k → (bl[i]?).getD 0 ≤ capOf c i) → 0 ≤ rr c u bl set k
  | 0, _, _ => by simp [rr]
  | k + 1, hk, hc => by
    have ih := rr_nn (u := u) (set := set) (bl := bl) k (by omega) (fun i hi => hc i (by omega))
    have h1 := hc k (by omega)
    simp only [rr]
    split <;> omega

theorem rn_le {c : Cfg} (hg : Good c) {u : Int} {x y : List (Int × Int)} (hx : Fit c x) (hy : Fit c y) (hle : Le x y) (hk : Kept c u y) (hh : ∀ q ∈ y, 0 ≤ q.1) (set : Int) :
    ∀ k, rn c u x set k ≤ rr c u (bk c x k) set c.cells.length - rr c u (bk c y k) set c.cells.length
  | 0 => by simp [rn, bk]
  | k + 1 => by
    have ih := rn_le hg hx hy hle hk hh set k
    have hL := hg.load k
    have hS := hg.shadow k
    have hR := hg.regions
    rcases hp : x[k]? with _ | p
    · have hq : y[k]? = none := by
        rw [List.getElem?_eq_none_iff] at hp ⊢
        have := hle.len; omega
      have e1 : rn c u x set (k + 1) = rn c u x set k := by simp [rn, openAt, hp]
      have e2 : bk c x (k + 1) = bk c x k := by simp [bk, hp]
      have e3 : bk c y (k + 1) = bk c y k := by simp [bk, hq]
      rw [e1, e2, e3]; exact ih
    · obtain ⟨q, hq, h1, h2⟩ := hle.get hp
      have e2 : bk c x (k + 1) = addAt (addAt (bk c x k) p.1 (loadOf c k)) p.2 (shadowOf c k) := by simp [bk, hp]
      have e3 : bk c y (k + 1) = addAt (addAt (bk c y k) q.1 (loadOf c k)) q.2 (shadowOf c k) := by simp [bk, hq]
      rw [e2, e3, rr_addAt' (by rw [addAt_len, bk_len]), rr_addAt' (bk_len ..), rr_addAt' (by rw [addAt_len, bk_len]), rr_addAt' (bk_len ..)]
      have hs : wt c u set p.2 (shadowOf c k) ≤ wt c u set q.2 (shadowOf c k) := by
        rcases h2 with h | h
        · rw [h, wt_neg]; exact wt_nn hS.1
        · rw [h]; exact Int.le_refl _
      have hq0 := hh q (List.mem_of_getElem? hq)
      have hqr := hy.rng q (List.mem_of_getElem? hq)
      have hl : (if openAt x k && insideB (reach c u k) set c.regions.toNat then loadOf c k else 0) ≤ wt c u set q.1 (loadOf c k) - wt c u set p.1 (loadOf c k) := by
        rcases h1 with h | h
        · rw [h, wt_neg, Int.sub_zero]
          split
          · rename_i hi
            simp only [Bool.and_eq_true] at hi
            have hu := hk.use k q hq (by omega)
            have hm := hk.may k q hq (by omega)
            have e : q.1 = ((q.1.toNat : Nat) : Int) := by omega
            have hr := hg.laid.may_region hm
            have e' : regionOf c q.1 = (((regionOf c q.1).toNat : Nat) : Int) := by omega
            have hb : bit (reach c u k : Int) (regionOf c q.1) = true := by
              rw [e] at hu hm ⊢
              exact reach_bit hg hu hm _ (by omega)
            rw [e'] at hb
            have hs := (insideB_iff _ _ _).1 hi.2 _ (by omega) hb
            rw [← e'] at hs
            unfold wt
            rw [if_pos ⟨hq0, by omega, by rw [hu, hs]; rfl⟩]
            exact Int.le_refl _
          · exact wt_nn hL.1
        · have : openAt x k = false := by simp [openAt, hp]; omega
          rw [this, h]; simp
      simp only [rn]
      omega

theorem exc_kept {c : Cfg} (hg : Good c) {u : Int} {x y : List (Int × Int)} (hx : Fit c x) (hy : Fit c y) (hle : Le x y) (hk : Kept c u y) (hh : ∀ q ∈ y, 0 ≤ q.1) : exc c u x = none := by
  refine exc_none fun k _ _ => ?_
  have h := rn_le hg hx hy hle hk hh (k : Int) x.length
  have h0 := rr_nn (u := u) (set := (k : Int)) (bl := booked c y) c.cells.length (Nat.le_refl _) hk.cap
  rw [show bk c y x.length = booked c y by unfold booked; rw [hle.len]] at h
  rw [rn_need hg u (fun p hp => (hx.rng p hp).1.1), rr_room hg u _ _ _ (Nat.le_refl _)] at h
  have e1 : need c u x (k : Int) = needS (k : Int) (dm c u x x.length) := rfl
  have e2 : room c u x (k : Int) = rmS (k : Int) (rms c u (bk c x x.length) c.cells.length) c.regions.toNat := rfl
  omega

theorem r2_set' (l : List (Int × Int)) (i : Nat) (x y : Int) : (r2 l).set i [i64 x, i64 y] = r2 (l.set i (x, y)) := by simp [r2, List.map_set]

theorem set_same' {α : Type} {p : α} : ∀ {l : List α} {i : Nat}, l[i]? = some p → l.set i p = l
  | [], _, h => by simp at h
  | a :: l, 0, h => by simp at h; simp [h]
  | a :: l, i + 1, h => by simp only [List.getElem?_cons_succ] at h; simp [set_same' h]

end Go.Proofs.YthpngoplkekkaaaGreat
