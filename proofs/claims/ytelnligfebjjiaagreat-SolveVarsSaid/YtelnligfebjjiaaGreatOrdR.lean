/- Contract: cellplaneref05.Order, and that it returns what tenant.Order returns. Conditions: those ahead of each theorem. -/
import Derived.Test.YtelnligfebjjiaaGreatOrd
namespace Go.Proofs.YtelnligfebjjiaaGreat
open Go Go.Cpl

def insAt (lt : Int → Int → Bool) (x : Int) : List Int → List Int
  | [] => [x]
  | e :: r => if lt e x = true then e :: insAt lt x r else x :: e :: r

def refOrd (c : Cfg) : Nat → List Int
  | 0 => []
  | n + 1 => insAt (bef c) n (refOrd c n)

theorem insAt_len (lt : Int → Int → Bool) (x : Int) : ∀ l, (insAt lt x l).length = l.length + 1
  | [] => rfl
  | e :: r => by
    unfold insAt
    split
    · simp [insAt_len lt x r]
    · simp

theorem refOrd_len (c : Cfg) : ∀ n, (refOrd c n).length = n
  | 0 => rfl
  | n + 1 => by rw [refOrd, insAt_len, refOrd_len c n]

theorem insAt_mem (lt : Int → Int → Bool) (x z : Int) : ∀ l, z ∈ insAt lt x l ↔ z = x ∨ z ∈ l
  | [] => by simp [insAt]
  | e :: r => by
    unfold insAt
    split
    · simp only [List.mem_cons, insAt_mem lt x z r]
      constructor
      · rintro (h | h | h)
        · exact .inr (.inl h)
        · exact .inl h
        · exact .inr (.inr h)
      · rintro (h | h | h)
        · exact .inr (.inl h)
        · exact .inl h
        · exact .inr (.inr h)
    · simp

theorem refOrd_mem (c : Cfg) : ∀ n z, z ∈ refOrd c n ↔ 0 ≤ z ∧ z < n
  | 0, z => by simp only [refOrd, List.not_mem_nil, false_iff]; omega
  | n + 1, z => by
    rw [refOrd, insAt_mem, refOrd_mem c n z]
    omega

theorem insAt_sorted {lt : Int → Int → Bool} {x : Int} (tr : ∀ a b c, lt a b = true → lt b c = true → lt a c = true) : ∀ {l : List Int}, (∀ y ∈ l, lt x y = true ∨ lt y x = true) → l.Pairwise (fun a b => lt a b = true) → (insAt lt x l).Pairwise (fun a b => lt a b = true)
  | [], _, _ => by simp [insAt]
  | e :: r, ht, hp => by
    obtain ⟨h1, h2⟩ := List.pairwise_cons.1 hp
    unfold insAt
    split
    · rename_i he
      refine List.pairwise_cons.2 ⟨fun z hz => ?_, insAt_sorted tr (fun y hy => ht y (by simp [hy])) h2⟩
      rcases (insAt_mem lt x z r).1 hz with rfl | hz
      · exact he
      · exact h1 z hz
    · rename_i he
      have hxe : lt x e = true := (ht e (by simp)).resolve_right he
      refine List.pairwise_cons.2 ⟨fun z hz => ?_, hp⟩
      rcases List.mem_cons.1 hz with rfl | hz
      · exact hxe
      · exact tr _ _ _ hxe (h1 z hz)

theorem refOrd_sorted (c : Cfg) : ∀ n, (refOrd c n).Pairwise (fun a b => bef c a b = true)
  | 0 => by simp [refOrd]
  | n + 1 => by
    rw [refOrd]
    refine insAt_sorted (bef_trans c) (fun y hy => ?_) (refOrd_sorted c n)
    have := (refOrd_mem c n y).1 hy
    exact bef_total c (by omega)

theorem sorted_unique {lt : Int → Int → Bool} (ir : ∀ a, lt a a = false) (tr : ∀ a b c, lt a b = true → lt b c = true → lt a c = true) : ∀ {l m : List Int}, l.Pairwise (fun a b => lt a b = true) → m.Pairwise (fun a b => lt a b = true) → (∀ z, z ∈ l ↔ z ∈ m) → l = m
  | [], [], _, _, _ => rfl
  | [], b :: m, _, _, h => by have := (h b).2 (by simp); cases this
  | a :: l, [], _, _, h => by have := (h a).1 (by simp); cases this
  | a :: l, b :: m, hl, hm, h => by
    obtain ⟨hl1, hl2⟩ := List.pairwise_cons.1 hl
    obtain ⟨hm1, hm2⟩ := List.pairwise_cons.1 hm
    have hab : a = b := by
      have h1 := (h a).1 (by simp)
      have h2 := (h b).2 (by simp)
      rcases List.mem_cons.1 h1 with h1 | h1
      · exact h1
      rcases List.mem_cons.1 h2 with h2 | h2
      · exact h2.symm
      have := tr _ _ _ (hl1 b h2) (hm1 a h1)
      rw [ir] at this; cases this
    subst hab
    have hn : ∀ (x : List Int), (∀ z ∈ x, lt a z = true) → a ∉ x := fun x hx ha => by have := hx a ha; rw [ir] at this; cases this
    rw [sorted_unique ir tr hl2 hm2 fun z => ?_]
    constructor
    · intro hz
      rcases List.mem_cons.1 ((h z).1 (List.mem_cons_of_mem _ hz)) with rfl | h'
      · exact absurd hz (hn l hl1)
      · exact h'
    · intro hz
      rcases List.mem_cons.1 ((h z).2 (List.mem_cons_of_mem _ hz)) with rfl | h'
      · exact absurd hz (hn m hm1)
      · exact h'

theorem bef_irr (c : Cfg) (a : Int) : bef c a a = false := by
  rcases hb : bef c a a with _ | _
  · rfl
  · have := (bef_iff c a a).1 hb; omega

theorem refOrd_eq (c : Cfg) : refOrd c c.tenants.length = order c := by
  obtain ⟨h1, h2, h3⟩ := order_ok c
  exact sorted_unique (bef_irr c) (bef_trans c) (refOrd_sorted c _) h2 fun z => by rw [refOrd_mem, h3]

theorem insAt_eq {lt : Int → Int → Bool} {x : Int} : ∀ {l : List Int} {k : Nat}, k ≤ l.length → (∀ (j : Nat) (y : Int), j < k → l[j]? = some y → lt y x = true) → (∀ y, l[k]? = some y → lt y x = false) → insAt lt x l = l.take k ++ x :: l.drop k
  | [], 0, _, _, _ => rfl
  | e :: r, 0, _, _, h2 => by
    have := h2 e (by simp)
    simp [insAt, this]
  | e :: r, k + 1, hk, h1, h2 => by
    have he := h1 0 e (by omega) (by simp)
    have := insAt_eq (lt := lt) (x := x) (l := r) (k := k) (by simpa using hk) (fun j y hj hy => h1 (j + 1) y (by omega) (by simpa using hy)) (fun y hy => h2 y (by simpa using hy))
    simp [insAt, he, this]
  | [], k + 1, hk, _, _ => by simp at hk

theorem ins_copy {α : Type} (l : List α) (z x : α) {k : Nat} (hk : k ≤ l.length) :
    ((l ++ [z]).take (k + 1) ++ (((l ++ [z]).drop k).take (l.length - k) ++ (l ++ [z]).drop (k + 1 + (l.length - k)))).set k x = l.take k ++ x :: l.drop k := by
  have e0 : l = l.take k ++ l.drop k := (List.take_append_drop k l).symm
  have hA : (l.take k).length = k := by simp; omega
  have hB : (l.drop k).length = l.length - k := by simp
  generalize l.take k = A at *
  generalize l.drop k = B at *
  have e1 : (l ++ [z]).take (k + 1) = A ++ (B ++ [z]).take 1 := by
    rw [e0, List.append_assoc, ← hA, List.take_length_add_append]
  have e2 : ((l ++ [z]).drop k).take (l.length - k) = B := by
    rw [← hB, e0, List.append_assoc, ← hA, List.drop_left]
    simp
  have e3 : (l ++ [z]).drop (k + 1 + (l.length - k)) = [] := by
    apply List.drop_eq_nil_of_le
    simp; omega
  rw [e1, e2, e3]
  have e4 : ∃ h, (B ++ [z]).take 1 = [h] := by
    cases B with
    | nil => exact ⟨z, rfl⟩
    | cons b r => exact ⟨b, rfl⟩
  obtain ⟨h, e4⟩ := e4
  rw [e4, List.append_nil, List.append_assoc, ← hA]
  simp

theorem before_c (c : Cfg) (a b : Int) (ha : inT c a) (hb : inT c b) : CallsH Tryz.prog 89 [cfgV c, I a, I b] [] (B (bef c a b)) [] := by
  have hl := rT_len c.tenants
  obtain ⟨x, hx⟩ := get_of (l := c.tenants) (i := a.toNat) (by unfold inT at ha; omega)
  obtain ⟨y, hy⟩ := get_of (l := c.tenants) (i := b.toNat) (by unfold inT at hb; omega)
  have ex : prioOf c a = x.priority ∧ loadAt c a = x.load := by simp [prioOf, loadAt, hx]
  have ey : prioOf c b = y.priority ∧ loadAt c b = y.load := by simp [prioOf, loadAt, hy]
  have hi := bef_iff c a b
  rw [ex.1, ex.2, ey.1, ey.2] at hi
  unfold inT at ha hb
  refine callsR_of tab mixed Tryz.func89 rfl (by decide) rfl rfl ?_
  conv => whnf
  refine ⟨by kernel_rfl, ?_⟩
  conv => whnf
  refine ⟨by omega, _, rT_get hx, ?_⟩
  conv => whnf
  refine ⟨by omega, _, rT_get hy, ?_⟩
  conv => whnf
  refine spNe (fun h => ?_) (fun h => ?_) <;> conv => whnf
  · refine ⟨[], rfl, ?_, trivial⟩
    have : bef c a b = decide (y.priority < x.priority) := by rw [Bool.eq_iff_iff, hi, decide_eq_true_iff]; omega
    rw [this]
    simp [mtV, Cpl.valOf, mtC, eqD]
  refine spNe (fun h2 => ?_) (fun h2 => ?_) <;> conv => whnf
  · refine ⟨[], rfl, ?_, trivial⟩
    have : bef c a b = decide (y.load < x.load) := by rw [Bool.eq_iff_iff, hi, decide_eq_true_iff]; omega
    rw [this]
    simp [mtV, Cpl.valOf, mtC, eqD]
  · refine ⟨[], rfl, ?_, trivial⟩
    have : bef c a b = decide (a < b) := by rw [Bool.eq_iff_iff, hi, decide_eq_true_iff]; omega
    rw [this]
    simp [mtV, Cpl.valOf, mtC, eqD]

theorem r1_part (l : List Int) (n k : Nat) : ∀ r ∈ ((r1 l).drop k).take n, r.length = 1 ∧ ∀ d ∈ r, d.scalar = true := fun r hr => by
  obtain ⟨x, _, rfl⟩ := List.mem_map.1 (List.mem_of_mem_drop (List.mem_of_mem_take hr)); simp [D.scalar]

set_option maxRecDepth 100000 in
set_option maxHeartbeats 4000000 in
theorem refOrder_c (c : Cfg) (hT : c.tenants.length ≤ 1000) : CallsH Tryz.prog 59 [cfgV c] [] (.c (.gs 0)) [.arr 3 (r1 (order c))] := by
  have hl := rT_len c.tenants
  rw [← refOrd_eq]
  refine callsR_of tab mixed Tryz.func59 rfl (by decide) rfl rfl ?_
  conv => whnf
  refine loopN tab mixed (fun i => i ≤ c.tenants.length) c.tenants.length (fun i => [(4, I i), (3, .c (.gs 50))]) (fun i => [(50, .arr 3 (r1 (refOrd c i)))]) 51 [(50, none)] (by omega) ?_
  conv => whnf
  refine ⟨?_, fun i hi => ?_⟩
  · repeat' (first | exact trivial | rfl | refine And.intro ?_ ?_)
    all_goals (conv => whnf)
    repeat' (first | exact trivial | rfl | refine And.intro ?_ ?_)
  conv => whnf
  have hol := refOrd_len c i
  have hor := r1_len (refOrd c i)
  refine spD (fun h => ?_) (fun h => ?_) <;> conv => whnf
  · have hi' : i < c.tenants.length := by omega
    refine loopRX tab mixed (ι := { k : Nat // k ≤ i ∧ ∀ (j : Nat) (y : Int), j < k → (refOrd c i)[j]? = some y → bef c y i = true }) (κ := { k : Nat // k ≤ i ∧ insAt (bef c) i (refOrd c i) = (refOrd c i).take k ++ (i : Int) :: (refOrd c i).drop k }) (fun k => [(5, I k.1)]) (fun _ => []) 61 (fun k => i - k.1) 2 (fun k => [(5, I k.1)]) (fun _ => []) 61 ⟨0, by omega, fun j y hj => absurd hj (Nat.not_lt_zero j)⟩ [] ?_
    conv => whnf
    refine ⟨?_, ?_, ?_⟩
    · repeat' (first | exact trivial | rfl | refine And.intro ?_ ?_)
      all_goals (conv => whnf)
      repeat' (first | exact trivial | rfl | refine And.intro ?_ ?_)
    · rintro ⟨k, hk, hj⟩
      dsimp only
      conv => whnf
      refine ⟨by kernel_rfl, ?_⟩
      conv => whnf
      refine spD (fun h1 => ?_) (fun h1 => ?_) <;> conv => whnf
      · have hk' : k < i := by omega
        obtain ⟨y, hy⟩ := get_of (l := refOrd c i) (i := k) (by omega)
        have hyr := (refOrd_mem c i y).1 (List.mem_of_getElem? hy)
        refine ⟨by omega, by omega, ?_⟩
        conv => whnf
        refine ⟨_, r1_get hy, ?_⟩
        conv => whnf
        refine ⟨_, _, before_c c y i ⟨by omega, by omega⟩ ⟨by omega, by omega⟩, ?_⟩
        conv => whnf
        rcases hb : bef c y i with _ | _
        · refine ⟨fun h => (by cases h), fun _ => ?_⟩
          conv => whnf
          refine ⟨⟨k, hk, insAt_eq (by omega) hj fun z hz => by rw [hy] at hz; simp at hz; rw [← hz]; exact hb⟩, [], ?_⟩
          repeat' (first | exact trivial | rfl | refine And.intro ?_ ?_)
          all_goals (conv => whnf)
          repeat' (first | exact trivial | rfl | refine And.intro ?_ ?_)
        · refine ⟨fun _ => ?_, fun h => by cases h⟩
          conv => whnf
          refine gv (by first | omega | (simp only []; omega) | (simp; omega)) (by first | omega | (simp only []; omega) | (simp; omega)) ?_
          conv => whnf
          refine ⟨⟨k + 1, hk', fun j z hj' hz => ?_⟩, [], ?_, by show i - (k + 1) < i - k; omega⟩
          · rcases Nat.lt_or_ge j k with g | g
            · exact hj j z g hz
            · have : j = k := by omega
              subst this; rw [hy] at hz; simp at hz; rw [← hz]; exact hb
          · repeat' (first | exact trivial | rfl | refine And.intro ?_ ?_)
            all_goals (conv => whnf)
            repeat' (first | exact trivial | rfl | refine And.intro ?_ ?_)
      · refine ⟨⟨k, hk, insAt_eq (by omega) hj fun z hz => by
          have := (List.getElem?_eq_some_iff.1 hz).1; have e : k < i := by omega
          exact absurd e (by omega)⟩, [], ?_⟩
        repeat' (first | exact trivial | rfl | refine And.intro ?_ ?_)
        all_goals (conv => whnf)
        repeat' (first | exact trivial | rfl | refine And.intro ?_ ?_)
    · rintro ⟨k, hk, hins⟩
      dsimp only
      conv => whnf
      refine ⟨row1 _ rfl, ⟨by simp; omega⟩, ?_⟩
      conv => whnf
      have hz : r1 (refOrd c i) ++ [[i64 0]] = r1 (refOrd c i ++ [0]) := by simp [r1]
      have hz1 : (refOrd c i ++ [0]).length = i + 1 := by simp; omega
      have hz2 := r1_len (refOrd c i ++ [0])
      rw [hz]
      refine ⟨by kernel_rfl, ?_⟩
      conv => whnf
      refine gv (by first | omega | (simp only []; omega) | (simp; omega)) (by first | omega | (simp only []; omega) | (simp; omega)) ?_
      conv => whnf
      refine ⟨by omega, by omega, ?_⟩
      conv => whnf
      refine ⟨by omega, by omega, ?_⟩
      conv => whnf
      refine ⟨r1_part _ _ _, ?_⟩
      conv => whnf
      have hcp : copyRows (r1 (refOrd c i ++ [0])) ((k : Int) + 1).toNat (Nat.sub (r1 (refOrd c i ++ [0])).length ((k : Int) + 1).toNat) (((r1 (refOrd c i ++ [0])).drop (k : Int).toNat).take (Nat.sub (r1 (refOrd c i ++ [0])).length (k : Int).toNat)) = r1 ((refOrd c i ++ [0]).take (k + 1) ++ (((refOrd c i ++ [0]).drop k).take ((refOrd c i).length - k) ++ (refOrd c i ++ [0]).drop (k + 1 + ((refOrd c i).length - k)))) := by
        have a1 : ((k : Int) + 1).toNat = k + 1 := by omega
        have a2 : Nat.sub (r1 (refOrd c i ++ [0])).length (k + 1) = (refOrd c i).length - k := by show (r1 (refOrd c i ++ [0])).length - (k + 1) = _; omega
        have a3 : Nat.sub (r1 (refOrd c i ++ [0])).length (k : Int).toNat = i + 1 - k := by show (r1 (refOrd c i ++ [0])).length - (k : Int).toNat = _; omega
        have a4 : (((r1 (refOrd c i ++ [0])).drop (k : Int).toNat).take (i + 1 - k)) = (r1 (refOrd c i ++ [0])).drop k := by
          rw [show (k : Int).toNat = k from rfl]
          apply List.take_of_length_le
          rw [List.length_drop]; omega
        rw [a1, a2, a3, a4]
        unfold copyRows
        have a5 : min ((refOrd c i).length - k) ((r1 (refOrd c i ++ [0])).drop k).length = (refOrd c i).length - k := by rw [List.length_drop]; omega
        rw [a5]
        simp only [r1, List.map_append, List.map_take, List.map_drop]
      rw [hcp]
      have hql : ((refOrd c i ++ [0]).take (k + 1) ++ (((refOrd c i ++ [0]).drop k).take ((refOrd c i).length - k) ++ (refOrd c i ++ [0]).drop (k + 1 + ((refOrd c i).length - k)))).length = i + 1 := by
        simp only [List.length_append, List.length_take, List.length_drop, List.length_cons, List.length_nil]; omega
      have hic := ins_copy (refOrd c i) 0 (i : Int) (k := k) (by omega)
      rw [← hins] at hic
      generalize (refOrd c i ++ [0]).take (k + 1) ++ (((refOrd c i ++ [0]).drop k).take ((refOrd c i).length - k) ++ (refOrd c i ++ [0]).drop (k + 1 + ((refOrd c i).length - k))) = q at hql hic
      have hqr := r1_len q
      obtain ⟨y, hy⟩ := get_of (l := q) (i := k) (by omega)
      refine ⟨by omega, by omega, ?_⟩
      conv => whnf
      refine ⟨_, r1_get hy, ?_⟩
      conv => whnf
      refine gv (by first | omega | (simp only []; omega) | (simp; omega)) (by first | omega | (simp only []; omega) | (simp; omega)) ?_
      conv => whnf
      refine ⟨⟨hi', hi'⟩, [(50, some 62)], ?_⟩
      repeat' (first | exact trivial | rfl | refine And.intro ?_ ?_)
      all_goals (conv => whnf)
      repeat' (first | exact trivial | rfl | refine And.intro ?_ ?_)
      rw [refOrd, ← hic, r1_set']; rfl
  · refine ⟨[(0, some 50)], rfl, ?_⟩
    have hi' : i = c.tenants.length := by omega
    rw [hi']
    repeat' (first | exact trivial | rfl | refine And.intro ?_ ?_)
    all_goals (conv => whnf)
    repeat' (first | exact trivial | rfl | refine And.intro ?_ ?_)

end Go.Proofs.YtelnligfebjjiaaGreat
