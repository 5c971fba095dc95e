/- Plain lemmas: sorting by insertion. No conditions. -/
import Derived.Test.YtelnligfebjjiaaGreatBase
namespace Go.Proofs.YtelnligfebjjiaaGreat
open Go Go.Cpl

/-- the element at a place sinks as long as it comes before the one ahead of it -/
def sink (lt : Int → Int → Bool) (l : List Int) : Nat → List Int
  | 0 => l
  | j + 1 => match l[j + 1]?, l[j]? with
    | some x, some y => if lt x y then sink lt ((l.set (j + 1) y).set j x) j else l
    | _, _ => l

def isort (lt : Int → Int → Bool) (l : List Int) : Nat → List Int
  | 0 => l
  | k + 1 => sink lt (isort lt l k) (k + 1)

theorem sink_len (lt : Int → Int → Bool) : ∀ (j : Nat) (l : List Int), (sink lt l j).length = l.length
  | 0, _ => rfl
  | j + 1, l => by
    simp only [sink]
    split
    · split
      · rw [sink_len lt j]; simp
      · rfl
    · rfl

theorem isort_len (lt : Int → Int → Bool) (l : List Int) : ∀ k, (isort lt l k).length = l.length
  | 0 => rfl
  | k + 1 => by rw [isort, sink_len, isort_len lt l k]

def insR (lt : Int → Int → Bool) (x : Int) : List Int → List Int
  | [] => [x]
  | y :: r => if lt x y then y :: insR lt x r else x :: y :: r

theorem sink_eq (lt : Int → Int → Bool) (x : Int) : ∀ (r rest : List Int), sink lt (r.reverse ++ x :: rest) r.length = (insR lt x r).reverse ++ rest
  | [], rest => by simp [sink, insR]
  | y :: r, rest => by
    have h1 : ((y :: r).reverse ++ x :: rest)[r.length + 1]? = some x := by
      rw [List.getElem?_append_right (by simp)]; simp
    have h2 : ((y :: r).reverse ++ x :: rest)[r.length]? = some y := by
      rw [List.getElem?_append_left (by simp)]; simp
    simp only [List.length_cons, sink, h1, h2, insR]
    split
    · have e : ((((y :: r).reverse ++ x :: rest).set (r.length + 1) y).set r.length x) = r.reverse ++ x :: (y :: rest) := by
        simp only [List.reverse_cons, List.append_assoc, List.singleton_append]
        rw [List.set_append_right _ _ (by simp), List.set_append_right _ _ (by simp)]
        simp
      rw [e, sink_eq lt x r (y :: rest)]
      simp
    · simp

theorem insR_mem (lt : Int → Int → Bool) (x z : Int) : ∀ r, z ∈ insR lt x r ↔ z = x ∨ z ∈ r
  | [] => by simp [insR]
  | y :: r => by
    simp only [insR]
    split
    · simp only [List.mem_cons, insR_mem lt x z r]
      constructor
      · rintro (h | h | h)
        · exact .inr (.inl h)
        · exact .inl h
        · exact .inr (.inr h)
      · rintro (h | h | h)
        · exact .inr (.inl h)
        · exact .inl h
        · exact .inr (.inr h)
    · simp

theorem insR_len (lt : Int → Int → Bool) (x : Int) : ∀ r, (insR lt x r).length = r.length + 1
  | [] => rfl
  | y :: r => by
    simp only [insR]
    split
    · simp [insR_len lt x r]
    · simp

theorem insR_sorted {lt : Int → Int → Bool} {x : Int} (tr : ∀ a b c, lt a b = true → lt b c = true → lt a c = true) : ∀ {r : List Int}, (∀ y ∈ r, lt x y = true ∨ lt y x = true) → r.Pairwise (fun a b => lt b a = true) → (insR lt x r).Pairwise (fun a b => lt b a = true)
  | [], _, _ => by simp [insR]
  | y :: r, ht, hp => by
    rw [List.pairwise_cons] at hp
    simp only [insR]
    split
    · rename_i h
      rw [List.pairwise_cons]
      refine ⟨fun z hz => ?_, insR_sorted tr (fun z hz => ht z (by simp [hz])) hp.2⟩
      rcases (insR_mem lt x z r).1 hz with e | e
      · rw [e]; exact h
      · exact hp.1 z e
    · rename_i h
      have hyx : lt y x = true := by
        rcases ht y (by simp) with e | e
        · exact absurd e h
        · exact e
      rw [List.pairwise_cons, List.pairwise_cons]
      refine ⟨fun z hz => ?_, hp⟩
      rcases List.mem_cons.1 hz with e | e
      · rw [e]; exact hyx
      · exact tr _ _ _ (hp.1 z e) hyx

theorem isort_spec {lt : Int → Int → Bool} (tr : ∀ a b c, lt a b = true → lt b c = true → lt a c = true) {l : List Int} (ht : l.Pairwise fun a b => lt a b = true ∨ lt b a = true) :
    ∀ k, k < l.length → ∃ r : List Int, isort lt l k = r.reverse ++ l.drop (k + 1) ∧ r.length = k + 1 ∧ (∀ z, z ∈ r ↔ z ∈ l.take (k + 1)) ∧ r.Pairwise (fun a b => lt b a = true)
  | 0, hk => by
    obtain ⟨x, hx⟩ := get_of hk
    refine ⟨[x], ?_, rfl, fun z => ?_, by simp⟩
    · rcases l with _ | ⟨a, l⟩
      · simp at hk
      · simp at hx; simp [isort, hx]
    · rcases l with _ | ⟨a, l⟩
      · simp at hk
      · simp at hx; simp [hx]
  | k + 1, hk => by
    obtain ⟨r, h1, h2, h3, h4⟩ := isort_spec tr ht k (by omega)
    obtain ⟨x, hx⟩ := get_of hk
    have hd : l.drop (k + 1) = x :: l.drop (k + 2) := by
      have hl := (List.getElem?_eq_some_iff.1 hx)
      obtain ⟨hlt, he⟩ := hl
      rw [List.drop_eq_getElem_cons hlt, he]
    have htk : l.take (k + 2) = l.take (k + 1) ++ [x] := by rw [List.take_add_one, hx]; rfl
    have hpw : ∀ y ∈ r, lt x y = true ∨ lt y x = true := by
      intro y hy
      have hy' := (h3 y).1 hy
      have := ht
      rw [← List.take_append_drop (k + 1) l, List.pairwise_append] at this
      have := this.2.2 y hy' x (by rw [hd]; simp)
      exact this.symm
    refine ⟨insR lt x r, ?_, by rw [insR_len, h2], fun z => ?_, insR_sorted tr hpw h4⟩
    · rw [isort, h1, hd, ← h2]
      rw [sink_eq]
      simp [h2]
    · rw [insR_mem, h3, htk]
      simp only [List.mem_append, List.mem_singleton]
      exact Or.comm

/-- all is sorted at the end, and nothing is lost -/
theorem isort_all {lt : Int → Int → Bool} (tr : ∀ a b c, lt a b = true → lt b c = true → lt a c = true) {l : List Int} (ht : l.Pairwise fun a b => lt a b = true ∨ lt b a = true) {k : Nat} (hk : l.length ≤ k + 1) (hk' : k = 0 ∨ k < l.length) :
    (isort lt l k).Pairwise (fun a b => lt a b = true) ∧ ∀ z, z ∈ isort lt l k ↔ z ∈ l := by
  rcases Nat.eq_zero_or_pos l.length with h0 | h0
  · have : l = [] := List.length_eq_zero_iff.1 h0
    have e : isort lt l k = [] := List.length_eq_zero_iff.1 (by rw [isort_len, h0])
    rw [e, this]; simp
  · obtain ⟨r, h1, h2, h3, h4⟩ := isort_spec tr ht k (by omega)
    have hd : l.drop (k + 1) = [] := List.drop_eq_nil_of_le hk
    rw [hd, List.append_nil] at h1
    rw [List.take_of_length_le hk] at h3
    rw [h1, List.pairwise_reverse]
    exact ⟨h4, fun z => by rw [List.mem_reverse]; exact h3 z⟩

end Go.Proofs.YtelnligfebjjiaaGreat
