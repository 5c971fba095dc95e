/- Plain lemmas about placements: a rule that is broken stays broken when open places are filled in. No conditions. -/
import Derived.Test.YthpngoplkekkaaaGreatRules3
namespace Go.Proofs.YthpngoplkekkaaaGreat
open Go Go.Cpl

/-- open places of the first are filled in, in the second -/
structure Le (l l' : List (Int × Int)) : Prop where
  len : l.length = l'.length
  val : ∀ (t : Nat) (p p' : Int × Int), l[t]? = some p → l'[t]? = some p' → (p.1 = -1 ∨ p.1 = p'.1) ∧ (p.2 = -1 ∨ p.2 = p'.2)

theorem Le.get {l l' : List (Int × Int)} (h : Le l l') {t : Nat} {p : Int × Int} (hp : l[t]? = some p) : ∃ p', l'[t]? = some p' ∧ (p.1 = -1 ∨ p.1 = p'.1) ∧ (p.2 = -1 ∨ p.2 = p'.2) := by
  obtain ⟨p', hp'⟩ := get_of (l := l') (i := t) (by rw [← h.len]; exact (List.getElem?_eq_some_iff.1 hp).1)
  exact ⟨p', hp', h.val t p p' hp hp'⟩

theorem mem_each {rule : Int} {bad : Nat → Int → Bool} {l : List (Int × Int)} {b : Brk} : ∀ {k : Nat}, b ∈ eachL rule bad l k ↔ ∃ t p, t < k ∧ l[t]? = some p ∧ (b ∈ eachT rule bad t p.1 ∨ b ∈ eachT rule bad t p.2)
  | 0 => by simp [eachL]
  | k + 1 => by
    have ih := mem_each (rule := rule) (bad := bad) (l := l) (b := b) (k := k)
    have hs : ∀ t, t < k + 1 ↔ (t < k ∨ t = k) := fun t => by omega
    rcases hx : l[k]? with _ | p
    · have e : eachL rule bad l (k + 1) = eachL rule bad l k := by simp [eachL, hx]
      rw [e, ih]
      constructor
      · rintro ⟨t, p, h1, h2⟩; exact ⟨t, p, by omega, h2⟩
      · rintro ⟨t, p, h1, h2, h3⟩
        rcases (hs t).1 h1 with h | h
        · exact ⟨t, p, h, h2, h3⟩
        · rw [h, hx] at h2; cases h2
    · have e : eachL rule bad l (k + 1) = eachL rule bad l k ++ eachT rule bad k p.1 ++ eachT rule bad k p.2 := by simp [eachL, hx]
      rw [e]
      simp only [List.mem_append, ih]
      constructor
      · rintro ((⟨t, q, h1, h2⟩ | h) | h)
        · exact ⟨t, q, by omega, h2⟩
        · exact ⟨k, p, by omega, hx, .inl h⟩
        · exact ⟨k, p, by omega, hx, .inr h⟩
      · rintro ⟨t, q, h1, h2, h3⟩
        rcases (hs t).1 h1 with h | h
        · exact .inl (.inl ⟨t, q, h, h2, h3⟩)
        · subst h
          rw [hx] at h2; simp at h2; subst h2
          rcases h3 with h3 | h3
          · exact .inl (.inr h3)
          · exact .inr h3

theorem mem_ap {c : Cfg} {l : List (Int × Int)} {b : Brk} : ∀ {k : Nat}, b ∈ apL c l k ↔ ∃ t p, t < k ∧ l[t]? = some p ∧ b ∈ apT c t p
  | 0 => by simp [apL]
  | k + 1 => by
    have ih := mem_ap (c := c) (l := l) (b := b) (k := k)
    rcases hx : l[k]? with _ | p
    · have e : apL c l (k + 1) = apL c l k := by simp [apL, hx]
      rw [e, ih]
      constructor
      · rintro ⟨t, p, h1, h2⟩; exact ⟨t, p, by omega, h2⟩
      · rintro ⟨t, p, h1, h2, h3⟩
        by_cases h : t = k
        · rw [h, hx] at h2; cases h2
        · exact ⟨t, p, by omega, h2, h3⟩
    · have e : apL c l (k + 1) = apL c l k ++ apT c k p := by simp [apL, hx]
      rw [e]
      simp only [List.mem_append, ih]
      constructor
      · rintro (⟨t, q, h1, h2⟩ | h)
        · exact ⟨t, q, by omega, h2⟩
        · exact ⟨k, p, by omega, hx, h⟩
      · rintro ⟨t, q, h1, h2, h3⟩
        by_cases h : t = k
        · subst h
          rw [hx] at h2; simp at h2; subst h2
          exact .inr h3
        · exact .inl ⟨t, q, by omega, h2, h3⟩

theorem mem_prB {rule : Int} {bad : Nat → Nat → Bool} {l : List (Int × Int)} {a : Nat} {b : Brk} : ∀ {k : Nat}, b ∈ prB rule bad l a k ↔ ∃ q, q < k ∧ b ∈ prT rule bad l a q
  | 0 => by simp [prB]
  | k + 1 => by
    simp only [prB, List.mem_append, mem_prB (k := k)]
    constructor
    · rintro (⟨q, h1, h2⟩ | h)
      · exact ⟨q, by omega, h2⟩
      · exact ⟨k, by omega, h⟩
    · rintro ⟨q, h1, h2⟩
      by_cases h : q = k
      · subst h; exact .inr h2
      · exact .inl ⟨q, by omega, h2⟩

theorem mem_pr {rule : Int} {bad : Nat → Nat → Bool} {l : List (Int × Int)} {b : Brk} : ∀ {k : Nat}, b ∈ prL rule bad l k ↔ ∃ a q, a < k ∧ q < a ∧ b ∈ prT rule bad l a q
  | 0 => by simp [prL]
  | k + 1 => by
    simp only [prL, List.mem_append, mem_pr (k := k), mem_prB]
    constructor
    · rintro (⟨a, q, h1, h2⟩ | ⟨q, h1, h2⟩)
      · exact ⟨a, q, by omega, h2⟩
      · exact ⟨k, q, by omega, h1, h2⟩
    · rintro ⟨a, q, h1, h2, h3⟩
      by_cases h : a = k
      · subst h; exact .inr ⟨q, h2, h3⟩
      · exact .inl ⟨a, q, by omega, h2, h3⟩

theorem mem_cp {c : Cfg} {bl : List Int} {b : Brk} : ∀ {k : Nat}, b ∈ cpL c bl k ↔ ∃ i, i < k ∧ b ∈ cpT c bl i
  | 0 => by simp [cpL]
  | k + 1 => by
    simp only [cpL, List.mem_append, mem_cp (k := k)]
    constructor
    · rintro (⟨q, h1, h2⟩ | h)
      · exact ⟨q, by omega, h2⟩
      · exact ⟨k, by omega, h⟩
    · rintro ⟨q, h1, h2⟩
      by_cases h : q = k
      · subst h; exact .inr h2
      · exact .inl ⟨q, by omega, h2⟩

theorem mem_hrB {c : Cfg} {bl xl : List Int} {r : Nat} {b : Brk} : ∀ {k : Nat}, b ∈ hrB c bl xl r k ↔ ∃ i, i < k ∧ b ∈ hrT c bl xl r i
  | 0 => by simp [hrB]
  | k + 1 => by
    simp only [hrB, List.mem_append, mem_hrB (k := k)]
    constructor
    · rintro (⟨q, h1, h2⟩ | h)
      · exact ⟨q, by omega, h2⟩
      · exact ⟨k, by omega, h⟩
    · rintro ⟨q, h1, h2⟩
      by_cases h : q = k
      · subst h; exact .inr h2
      · exact .inl ⟨q, by omega, h2⟩

theorem mem_hr {c : Cfg} {bl : List Int} {l : List (Int × Int)} {b : Brk} : ∀ {R : Nat}, b ∈ hrL c bl l R ↔ ∃ r i, r < R ∧ i < c.cells.length ∧ b ∈ hrT c bl (extra c l r) r i
  | 0 => by simp [hrL]
  | R + 1 => by
    simp only [hrL, List.mem_append, mem_hr (R := R), mem_hrB]
    constructor
    · rintro (⟨a, q, h1, h2⟩ | ⟨q, h1, h2⟩)
      · exact ⟨a, q, by omega, h2⟩
      · exact ⟨R, q, by omega, h1, h2⟩
    · rintro ⟨a, q, h1, h2, h3⟩
      by_cases h : a = R
      · subst h; exact .inr ⟨q, h2, h3⟩
      · exact .inl ⟨a, q, by omega, h2, h3⟩

theorem addAt_getD (l : List Int) (i n : Int) (k : Nat) : ((addAt l i n)[k]?).getD 0 = (l[k]?).getD 0 + if (k : Int) = i ∧ k < l.length then n else 0 := by
  by_cases h : 0 ≤ i ∧ i < l.length
  · rw [addAt_get l n k h]
    by_cases h1 : (k : Int) = i
    · have : k < l.length := by omega
      simp [h1, this]
    · simp [h1]
  · rw [addAt_out h]
    have : ¬ ((k : Int) = i ∧ k < l.length) := by omega
    simp [this]

theorem bk_mono {c : Cfg} (hg : Good c) {l l' : List (Int × Int)} (h : Le l l') (i : Nat) : ∀ k, ((bk c l k)[i]?).getD 0 ≤ ((bk c l' k)[i]?).getD 0
  | 0 => by simp [bk]
  | k + 1 => by
    have ih := bk_mono hg h i k
    have hL := hg.load k
    have hS := hg.shadow k
    rcases hx : l[k]? with _ | p
    · have hx' : l'[k]? = none := by
        rw [List.getElem?_eq_none_iff] at hx ⊢
        rw [← h.len]; exact hx
      have e1 : bk c l (k + 1) = bk c l k := by simp [bk, hx]
      have e2 : bk c l' (k + 1) = bk c l' k := by simp [bk, hx']
      rw [e1, e2]; exact ih
    · obtain ⟨p', hx', h1, h2⟩ := h.get hx
      have e1 : bk c l (k + 1) = addAt (addAt (bk c l k) p.1 (loadOf c k)) p.2 (shadowOf c k) := by simp [bk, hx]
      have e2 : bk c l' (k + 1) = addAt (addAt (bk c l' k) p'.1 (loadOf c k)) p'.2 (shadowOf c k) := by simp [bk, hx']
      rw [e1, e2, addAt_getD, addAt_getD, addAt_getD, addAt_getD]
      simp only [addAt_len, bk_len]
      have a1 : (if (i : Int) = p.1 ∧ i < c.cells.length then loadOf c k else 0) ≤ if (i : Int) = p'.1 ∧ i < c.cells.length then loadOf c k else 0 := by
        rcases h1 with h1 | h1
        · have : ¬ ((i : Int) = p.1 ∧ i < c.cells.length) := by omega
          rw [if_neg this]; split <;> omega
        · rw [h1]; omega
      have a2 : (if (i : Int) = p.2 ∧ i < c.cells.length then shadowOf c k else 0) ≤ if (i : Int) = p'.2 ∧ i < c.cells.length then shadowOf c k else 0 := by
        rcases h2 with h2 | h2
        · have : ¬ ((i : Int) = p.2 ∧ i < c.cells.length) := by omega
          rw [if_neg this]; split <;> omega
        · rw [h2]; omega
      omega

theorem ex_mono {c : Cfg} (hg : Good c) {l l' : List (Int × Int)} (h : Le l l') (r : Int) (i : Nat) : ∀ k, ((ex c l r k)[i]?).getD 0 ≤ ((ex c l' r k)[i]?).getD 0
  | 0 => by simp [ex]
  | k + 1 => by
    have ih := ex_mono hg h r i k
    have hL := hg.load k
    have hS := hg.shadow k
    rcases hx : l[k]? with _ | p
    · have hx' : l'[k]? = none := by
        rw [List.getElem?_eq_none_iff] at hx ⊢
        rw [← h.len]; exact hx
      have e1 : ex c l r (k + 1) = ex c l r k := by simp [ex, hx]
      have e2 : ex c l' r (k + 1) = ex c l' r k := by simp [ex, hx']
      rw [e1, e2]; exact ih
    · obtain ⟨p', hx', h1, h2⟩ := h.get hx
      have e2 : ((ex c l' r (k + 1))[i]?).getD 0 = ((ex c l' r k)[i]?).getD 0 + if exC c r p' = true then (if (i : Int) = p'.2 ∧ i < c.cells.length then loadOf c k - shadowOf c k else 0) else 0 := by
        simp only [ex, hx']
        split
        · rw [addAt_getD, ex_len]
        · simp
      have e1 : ((ex c l r (k + 1))[i]?).getD 0 = ((ex c l r k)[i]?).getD 0 + if exC c r p = true then (if (i : Int) = p.2 ∧ i < c.cells.length then loadOf c k - shadowOf c k else 0) else 0 := by
        simp only [ex, hx]
        split
        · rw [addAt_getD, ex_len]
        · simp
      rw [e1, e2]
      by_cases hc : exC c r p = true
      · have hc' := hc
        simp only [exC, Bool.and_eq_true, decide_eq_true_eq] at hc'
        have g1 : p.1 = p'.1 := by rcases h1 with h1 | h1; exact absurd h1 hc'.1; exact h1
        have g2 : p.2 = p'.2 := by rcases h2 with h2 | h2; exact absurd h2 hc'.2.1; exact h2
        have : exC c r p' = true := by
          have e : p = p' := Prod.ext g1 g2
          rw [← e]; exact hc
        rw [if_pos hc, if_pos this, g2]; omega
      · rw [if_neg hc]
        split
        · split <;> omega
        · omega

theorem homeAt_mono {l l' : List (Int × Int)} (h : Le l l') {t : Nat} (hn : homeAt l t ≠ -1) : homeAt l' t = homeAt l t := by
  unfold homeAt at *
  rcases hx : l[t]? with _ | p
  · rw [hx] at hn; simp at hn
  · obtain ⟨p', hx', h1, _⟩ := h.get hx
    rw [hx] at hn
    simp only [Option.map_some, Option.getD_some] at hn
    rcases h1 with h1 | h1
    · exact absurd h1 hn
    · simp [hx', h1]

theorem pr_mono {l l' : List (Int × Int)} (h : Le l l') {rule : Int} {bad : List (Int × Int) → Nat → Nat → Bool} (hb : ∀ a q, homeAt l' a = homeAt l a → homeAt l' q = homeAt l q → bad l a q = bad l' a q) {b : Brk} (hm : b ∈ prL rule (bad l) l l.length) : b ∈ prL rule (bad l') l' l'.length := by
  rw [mem_pr] at hm ⊢
  obtain ⟨a, q, h1, h2, h3⟩ := hm
  refine ⟨a, q, by rw [← h.len]; exact h1, h2, ?_⟩
  unfold prT at h3 ⊢
  split at h3
  · rename_i hc
    simp only [Bool.and_eq_true, decide_eq_true_eq] at hc
    have ea := homeAt_mono h hc.1
    have eq := homeAt_mono h hc.2.1
    rw [ea, eq, ← hb a q ea eq]
    rw [if_pos (by simp [hc])]
    exact h3
  · simp at h3

theorem each_mono {l l' : List (Int × Int)} (h : Le l l') {rule : Int} {bad : Nat → Int → Bool} {b : Brk} (hm : b ∈ eachL rule bad l l.length) : b ∈ eachL rule bad l' l'.length := by
  rw [mem_each] at hm ⊢
  obtain ⟨t, p, h1, h2, h3⟩ := hm
  obtain ⟨p', h2', g1, g2⟩ := h.get h2
  refine ⟨t, p', by rw [← h.len]; exact h1, h2', ?_⟩
  rcases h3 with h3 | h3
  · left
    rcases g1 with g | g
    · rw [g] at h3; simp [eachT] at h3
    · rw [← g]; exact h3
  · right
    rcases g2 with g | g
    · rw [g] at h3; simp [eachT] at h3
    · rw [← g]; exact h3

theorem partial_mono {c : Cfg} (hg : Good c) {u : Int} {hd : Bool} {l l' : List (Int × Int)} (h : Le l l') {b : Brk} (hm : b ∈ partialL c u hd l) : b ∈ partialL c u hd l' := by
  simp only [partialL, List.flatten_cons, List.flatten_nil, List.append_nil, List.mem_append] at hm ⊢
  rcases hm with hm | hm | hm | hm | hm | hm | hm
  · exact .inl (each_mono h hm)
  · exact .inr (.inl (each_mono h hm))
  · refine .inr (.inr (.inl ?_))
    rw [mem_ap] at hm ⊢
    obtain ⟨t, p, h1, h2, h3⟩ := hm
    obtain ⟨p', h2', g1, g2⟩ := h.get h2
    refine ⟨t, p', by rw [← h.len]; exact h1, h2', ?_⟩
    have h3' := h3
    unfold apT at h3'
    split at h3'
    · rename_i hc
      simp only [Bool.and_eq_true, decide_eq_true_eq] at hc
      have e1 : p.1 = p'.1 := by rcases g1 with g | g; exact absurd g hc.1; exact g
      have e2 : p.2 = p'.2 := by rcases g2 with g | g; exact absurd g hc.2.1; exact g
      have e : p = p' := Prod.ext e1 e2
      rw [← e]; exact h3
    · simp at h3'
  · exact .inr (.inr (.inr (.inl (pr_mono (bad := badG c) h (fun a q ea eq => by simp only [badG, ea, eq]) hm))))
  · exact .inr (.inr (.inr (.inr (.inl (pr_mono (bad := badN c) h (fun a q ea eq => by simp only [badN, ea, eq]) hm)))))
  · refine .inr (.inr (.inr (.inr (.inr (.inl ?_)))))
    rw [mem_cp] at hm ⊢
    obtain ⟨i, h1, h2⟩ := hm
    refine ⟨i, h1, ?_⟩
    have hmn := bk_mono hg h i l.length
    unfold cpT at h2 ⊢
    split at h2
    · rename_i hc
      have : capOf c i < ((booked c l')[i]?).getD 0 := by
        have e : booked c l' = bk c l' l.length := by rw [h.len]; rfl
        rw [e]
        have : booked c l = bk c l l.length := rfl
        rw [this] at hc
        omega
      rw [if_pos this]; exact h2
    · simp at h2
  · refine .inr (.inr (.inr (.inr (.inr (.inr ?_)))))
    unfold headL at hm ⊢
    cases hd with
    | false => simp at hm
    | true =>
      simp only [if_true] at hm ⊢
      rw [mem_hr] at hm ⊢
      obtain ⟨r, i, h1, h2, h3⟩ := hm
      refine ⟨r, i, h1, h2, ?_⟩
      have hmn := bk_mono hg h i l.length
      have hme := ex_mono hg h r i l.length
      unfold hrT at h3 ⊢
      split at h3
      · rename_i hc
        simp only [Bool.and_eq_true, decide_eq_true_eq] at hc
        have : capOf c i < ((booked c l')[i]?).getD 0 + ((extra c l' r)[i]?).getD 0 := by
          have e : booked c l' = bk c l' l.length := by rw [h.len]; rfl
          have e' : extra c l' r = ex c l' r l.length := by rw [h.len]; rfl
          rw [e, e']
          have g : booked c l = bk c l l.length := rfl
          have g' : extra c l r = ex c l r l.length := rfl
          rw [g, g'] at hc
          omega
        rw [if_pos (by simp only [Bool.and_eq_true, decide_eq_true_eq]; exact ⟨hc.1, this⟩)]; exact h3
      · simp at h3

/-! which rule a broken rule is -/

theorem each_rule {rule : Int} {bad : Nat → Int → Bool} {l : List (Int × Int)} {k : Nat} {b : Brk} (h : b ∈ eachL rule bad l k) : b.rule = rule := by
  rw [mem_each] at h
  obtain ⟨t, p, _, _, h⟩ := h
  rcases h with h | h <;> (unfold eachT at h; split at h <;> simp at h; rw [h])

theorem ap_rule {c : Cfg} {l : List (Int × Int)} {k : Nat} {b : Brk} (h : b ∈ apL c l k) : b.rule = 5 := by
  rw [mem_ap] at h
  obtain ⟨t, p, _, _, h⟩ := h
  unfold apT at h; split at h <;> simp at h; rw [h]

theorem pr_rule {rule : Int} {bad : Nat → Nat → Bool} {l : List (Int × Int)} {k : Nat} {b : Brk} (h : b ∈ prL rule bad l k) : b.rule = rule := by
  rw [mem_pr] at h
  obtain ⟨a, q, _, _, h⟩ := h
  unfold prT at h; split at h <;> simp at h; rw [h]

theorem cp_rule {c : Cfg} {bl : List Int} {k : Nat} {b : Brk} (h : b ∈ cpL c bl k) : b.rule = 8 := by
  rw [mem_cp] at h
  obtain ⟨i, _, h⟩ := h
  unfold cpT at h; split at h <;> simp at h; rw [h]

theorem hr_rule {c : Cfg} {bl : List Int} {l : List (Int × Int)} {R : Nat} {b : Brk} (h : b ∈ hrL c bl l R) : b.rule = 9 := by
  rw [mem_hr] at h
  obtain ⟨r, i, _, _, h⟩ := h
  unfold hrT at h; split at h <;> simp at h; rw [h]

theorem head_rule {c : Cfg} {hd : Bool} {l : List (Int × Int)} {b : Brk} (h : b ∈ headL c hd l) : b.rule = 9 := by
  unfold headL at h
  split at h
  · exact hr_rule h
  · simp at h

theorem ho_rule {l : List (Int × Int)} {b : Brk} : ∀ {k : Nat}, b ∈ hoL l k → b.rule = 1
  | 0, h => by simp [hoL] at h
  | k + 1, h => by
    simp only [hoL] at h
    split at h
    · rcases List.mem_append.1 h with h | h
      · exact ho_rule h
      · unfold hoT at h; split at h <;> simp at h; rw [h]
    · exact ho_rule h

theorem sb_rule {c : Cfg} {l : List (Int × Int)} {b : Brk} : ∀ {k : Nat}, b ∈ sbL c l k → b.rule = 2
  | 0, h => by simp [sbL] at h
  | k + 1, h => by
    simp only [sbL] at h
    split at h
    · rcases List.mem_append.1 h with h | h
      · exact sb_rule h
      · unfold sbT at h; split at h <;> simp at h; rw [h]
    · exact sb_rule h

end Go.Proofs.YthpngoplkekkaaaGreat
