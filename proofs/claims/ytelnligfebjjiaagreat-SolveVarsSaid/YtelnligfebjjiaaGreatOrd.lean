/- Contracts: what tenant's Homes, Standbys, Total and Order return, and what they call in Go's library. Conditions: those ahead of each theorem. -/
import Derived.Test.YtelnligfebjjiaaGreatPlace
import Derived.Test.YtelnligfebjjiaaGreatSort
import Derived.WalkKit
import Derived.Lib.Tables
namespace Go.Proofs.YtelnligfebjjiaaGreat
open Go Go.Cpl

/-! a function that touches nothing -/

theorem callsH_pure {P : Program} {f : FuncId} {args : List AV} {vs : List Value} {res : AV} {v : Value} (hc : Callable P f) (hrep : ∀ M τ H us, All2 (AVRep M τ H) args us → us = vs)
    (hr : ∀ w, Calls P f vs.toArray w fun e w' => e = .returned v ∧ w' = w) (hv : ∀ M τ H, AVRep M τ H res v) : CallsH P f args [] res [] := by
  refine ⟨hc, fun M τ w us hinv hall => ?_⟩
  rw [hrep _ _ _ _ hall]
  refine (hr w).mono ?_
  rintro e w' ⟨rfl, rfl⟩
  exact ⟨v, M, τ, rfl, hinv, hv _ _ _, fun b o h => .inl h, fun i hi => absurd hi (Nat.not_lt_zero i), fun i b h => .inr ⟨i, h⟩, fun _ _ _ => rfl, Nat.le_refl _, rfl, rfl, .refl _⟩

/-- what math/bits.Len returns for a small number -/
def lenB (x : Int) : Int := RowKit.wrap64 (RowKit.wrap64 (Lib.len8 x))

open Go.RowKit in
set_option maxRecDepth 1000000 in
theorem len64_run (x : Int) (h0 : 0 ≤ x) (h1 : x ≤ 12) (w : World) : Calls Tryz.prog 152 #[.int .u64 x] w fun e w' => e = .returned (.int .i64 (lenB x)) ∧ w' = w := by
  go_enter Tryz.func152, Tryz.ntmps152
  go_wp2
  go_ret
  refine ⟨congrArg Ending.returned (congrArg (Value.int IntKind.i64) ?_), rfl⟩
  have hs := Lib.len8tab_size
  have hlt : x.toNat < Lib.len8tab.size := by omega
  unfold lenB Lib.len8
  rw [getElem?_pos Lib.len8tab x.toNat hlt]
  rfl

theorem len64_c (x : Int) (h0 : 0 ≤ x) (h1 : x ≤ 12) : CallsH Tryz.prog 152 [.c (.d (.int .u64 x))] [] (I (lenB x)) [] := by
  refine callsH_pure (vs := [.int .u64 x]) ⟨_, Tryz.func152, rfl, rfl⟩ (fun M τ H us h => ?_) (len64_run x h0 h1) (fun M τ H => ?_)
  · match us, h with
    | [u], h => obtain ⟨h, _⟩ := h; rw [rep_int h]
  · exact int_rep M τ H .i64 _

theorem len_c (x : Int) (h0 : 0 ≤ x) (h1 : x ≤ 12) : CallsH Tryz.prog 122 [.c (.d (.int .u64 x))] [] (I (lenB x)) [] := by
  refine callsR_of tab mixed Tryz.func122 rfl (by decide) rfl rfl ?_
  conv => whnf
  refine ⟨_, _, len64_c x h0 h1, ?_⟩
  conv => whnf
  exact ⟨[], rfl, ⟨rfl, rfl⟩, trivial⟩

theorem r1_set' (l : List Int) (i : Nat) (x : Int) : r1 (l.set i x) = (r1 l).set i [i64 x] := by simp [r1, List.map_set]

/-! comparing -/

theorem isNaN_c (a : Int) : CallsH Tryz.prog 123 [I a] [] (B false) [] := by
  refine callsR_of tab mixed Tryz.func123 rfl (by decide) rfl rfl ?_
  conv => whnf
  exact ⟨[], rfl, by simp [mtV, Cpl.valOf, mtC, eqD], trivial⟩

def cmpV (a b : Int) : Int := if a < b then -1 else if b < a then 1 else 0

theorem compare_c (a b : Int) : CallsH Tryz.prog 87 [I a, I b] [] (I (cmpV a b)) [] := by
  refine callsR_of tab mixed Tryz.func87 rfl (by decide) rfl rfl ?_
  conv => whnf
  refine ⟨_, _, isNaN_c a, ?_⟩
  conv => whnf
  refine ⟨_, _, isNaN_c b, ?_⟩
  conv => whnf
  refine ⟨fun h => (by cases h), fun _ => ?_⟩
  conv => whnf
  refine ⟨fun h => (by cases h), fun _ => ?_⟩
  conv => whnf
  refine spD (fun h => ?_) (fun h => ?_) <;> conv => whnf
  · exact ⟨[], rfl, by simp [mtV, Cpl.valOf, mtC, eqD, cmpV, h], trivial⟩
  refine spD (fun h' => ?_) (fun h' => ?_) <;> conv => whnf
  · exact ⟨[], rfl, by simp [mtV, Cpl.valOf, mtC, eqD, cmpV, h, h'], trivial⟩
  · exact ⟨[], rfl, by simp [mtV, Cpl.valOf, mtC, eqD, cmpV, h, h'], trivial⟩

def orV : List Int → Int
  | [] => 0
  | x :: r => if x ≠ 0 then x else orV r

theorem drop_of {α : Type} {l : List α} {i : Nat} {x : α} (h : l[i]? = some x) : l.drop i = x :: l.drop (i + 1) := by
  obtain ⟨hlt, he⟩ := List.getElem?_eq_some_iff.1 h
  rw [List.drop_eq_getElem_cons hlt, he]

theorem or_c (l : List Int) (hl : l.length ≤ 1000) : CallsH Tryz.prog 86 [.c (.d (.sl (r1 l)))] [] (I (orV l)) [] := by
  have h1 := r1_len l
  refine callsR_of tab mixed Tryz.func86 rfl (by decide) rfl rfl ?_
  conv => whnf
  refine loopN tab mixed (fun i => i ≤ l.length ∧ orV l = orV (l.drop i)) l.length (fun i => [(8, I i)]) (fun _ => []) 51 [] ⟨by omega, by simp⟩ ?_
  conv => whnf
  refine ⟨?_, fun i ⟨hi, hJ⟩ => ?_⟩
  · repeat' (first | exact trivial | rfl | refine And.intro ?_ ?_)
    all_goals (conv => whnf)
    repeat' (first | exact trivial | rfl | refine And.intro ?_ ?_)
  conv => whnf
  refine spD (fun h => ?_) (fun h => ?_) <;> conv => whnf
  · have hi' : i < l.length := by omega
    obtain ⟨x, hx⟩ := get_of hi'
    rw [drop_of hx] at hJ
    refine ⟨by omega, _, r1_get hx, ?_⟩
    conv => whnf
    refine spNe (fun h2 => ?_) (fun h2 => ?_) <;> conv => whnf
    · exact ⟨[], rfl, by simp [mtV, Cpl.valOf, mtC, eqD, hJ, orV, h2], trivial⟩
    · refine gv (by first | omega | (simp only []; omega) | (simp; omega)) (by first | omega | (simp only []; omega) | (simp; omega)) ?_
      conv => whnf
      refine ⟨⟨hi', hi', by rw [hJ]; simp [orV, h2]⟩, [], ?_⟩
      repeat' (first | exact trivial | rfl | refine And.intro ?_ ?_)
      all_goals (conv => whnf)
      repeat' (first | exact trivial | rfl | refine And.intro ?_ ?_)
  · have hi' : i = l.length := by omega
    rw [hi', List.drop_length] at hJ
    exact ⟨[], rfl, by simp [mtV, Cpl.valOf, mtC, eqD, hJ, orV], trivial⟩

/-! the order of tenants -/

def prioOf (c : Cfg) (t : Int) : Int := ((c.tenants[t.toNat]?).map (·.priority)).getD 0

def loadAt (c : Cfg) (t : Int) : Int := ((c.tenants[t.toNat]?).map (·.load)).getD 0

def cmpT (c : Cfg) (a b : Int) : Int := orV [cmpV (prioOf c b) (prioOf c a), cmpV (loadAt c b) (loadAt c a), cmpV a b]

/-- tenant a comes before tenant b -/
def bef (c : Cfg) (a b : Int) : Bool := decide (cmpT c a b < 0)

theorem bef_iff (c : Cfg) (a b : Int) : bef c a b = true ↔ prioOf c b < prioOf c a ∨ (prioOf c b = prioOf c a ∧ (loadAt c b < loadAt c a ∨ (loadAt c b = loadAt c a ∧ a < b))) := by
  unfold bef
  rw [decide_eq_true_iff]
  simp only [cmpT, orV, cmpV]
  repeat' split
  all_goals omega

theorem bef_trans (c : Cfg) (x y z : Int) (h1 : bef c x y = true) (h2 : bef c y z = true) : bef c x z = true := by
  rw [bef_iff] at *; omega

theorem bef_total (c : Cfg) {x y : Int} (h : x ≠ y) : bef c x y = true ∨ bef c y x = true := by
  rw [bef_iff, bef_iff]; omega

def inT (c : Cfg) (x : Int) : Prop := 0 ≤ x ∧ x < c.tenants.length

set_option maxRecDepth 100000 in
theorem order1_c (c : Cfg) (a b : Int) (ha : inT c a) (hb : inT c b) : CallsH Tryz.prog 85 [I a, I b, .c (.ptr 0 0 0)] [.box (cfgC c)] (I (cmpT c a b)) [.box (cfgC c)] := by
  have hl := rT_len c.tenants
  obtain ⟨a1, a2⟩ := ha
  obtain ⟨b1, b2⟩ := hb
  obtain ⟨x, hx⟩ := get_int (l := c.tenants) a1 (by omega)
  obtain ⟨y, hy⟩ := get_int (l := c.tenants) b1 (by omega)
  have e : cmpT c a b = orV [cmpV y.priority x.priority, cmpV y.load x.load, cmpV a b] := by simp [cmpT, prioOf, loadAt, hx, hy]
  refine callsR_of tab mixed Tryz.func85 rfl (by decide) rfl rfl ?_
  conv => whnf
  refine ⟨by kernel_rfl, ?_⟩
  conv => whnf
  refine ⟨by omega, _, rT_get hx, ?_⟩
  conv => whnf
  refine ⟨by omega, _, rT_get hy, ?_⟩
  conv => whnf
  refine ⟨by kernel_rfl, ?_⟩
  conv => whnf
  refine ⟨_, _, compare_c y.priority x.priority, ?_⟩
  conv => whnf
  refine ⟨_, _, compare_c y.load x.load, ?_⟩
  conv => whnf
  refine ⟨_, _, compare_c a b, ?_⟩
  conv => whnf
  refine ⟨_, _, or_c [cmpV y.priority x.priority, cmpV y.load x.load, cmpV a b] (by simp), ?_⟩
  conv => whnf
  rw [e]
  exact ⟨[(0, some 0)], rfl, ⟨rfl, rfl⟩, ⟨⟨⟨rfl, rfl⟩, rfl, rfl, rfl, rfl, rfl, rfl, ⟨rfl, rfl⟩, ⟨rfl, rfl⟩, ⟨rfl, rfl⟩, trivial⟩, trivial⟩⟩

theorem mem_swap {l : List Int} {i j : Nat} {x y : Int} (hx : l[i]? = some x) (hy : l[j]? = some y) : ∀ z ∈ (l.set i y).set j x, z ∈ l := by
  intro z hz
  rcases List.mem_or_eq_of_mem_set hz with h | h
  · rcases List.mem_or_eq_of_mem_set h with h | h
    · exact h
    · rw [h]; exact List.mem_of_getElem? hy
  · rw [h]; exact List.mem_of_getElem? hx

structure InsJ (c : Cfg) (l : List Int) (k : Nat) (s : Nat × List Int) : Prop where
  le : s.1 ≤ k + 1
  len : s.2.length = l.length
  rng : ∀ x ∈ s.2, inT c x
  fin : sink (bef c) s.2 s.1 = isort (bef c) l (k + 1)

theorem sink_mem (lt : Int → Int → Bool) : ∀ (j : Nat) (l : List Int), ∀ z ∈ sink lt l j, z ∈ l
  | 0, _, _, h => h
  | j + 1, l, z, h => by
    simp only [sink] at h
    split at h
    · split at h
      · rename_i hx hy _
        exact mem_swap hx hy z (sink_mem lt j _ z h)
      · exact h
    · exact h

theorem isort_mem (lt : Int → Int → Bool) (l : List Int) : ∀ k, ∀ z ∈ isort lt l k, z ∈ l
  | 0, _, h => h
  | k + 1, z, h => isort_mem lt l k z (sink_mem lt (k + 1) _ z h)

set_option maxRecDepth 100000 in
set_option maxHeartbeats 2000000 in
theorem insertion_c (c : Cfg) (l : List Int) (hl : l.length ≤ 1000) (hr : ∀ x ∈ l, inT c x) : CallsH Tryz.prog 143 [.c (.gs 0), I 0, I l.length, .fn 85 [.ptr 1 0 0]] [.arr 3 (r1 l), .box (cfgC c)] (.tup []) [.arr 3 (r1 (isort (bef c) l (l.length - 1))), .box (cfgC c)] := by
  refine callsR_of tab mixed Tryz.func143 rfl (by decide) rfl rfl ?_
  conv => whnf
  refine gv (by first | omega | (simp only []; omega) | (simp; omega)) (by first | omega | (simp only []; omega) | (simp; omega)) ?_
  conv => whnf
  refine loopN tab mixed (fun k => k = 0 ∨ k < l.length) l.length (fun k => [(8, I ((k + 1 : Nat) : Int))]) (fun k => [(0, .arr 3 (r1 (isort (bef c) l k)))]) 51 [(0, some 0)] (.inl rfl) ?_
  conv => whnf
  refine ⟨?_, fun k hk => ?_⟩
  · repeat' (first | exact trivial | rfl | refine And.intro ?_ ?_)
    all_goals (conv => whnf)
    repeat' (first | exact trivial | rfl | refine And.intro ?_ ?_)
  conv => whnf
  refine spD (fun h => ?_) (fun h => ?_) <;> conv => whnf
  · have hk' : k + 1 < l.length := by omega
    refine loopR tab mixed (ι := { s : Nat × List Int // InsJ c l k s }) (fun s => [(9, I (s.1.1 : Nat))]) (fun s => [(0, .arr 3 (r1 s.1.2))]) 61 (fun s => s.1.1) ⟨(k + 1, isort (bef c) l k), ⟨Nat.le_refl _, isort_len _ _ _, fun x hx => hr x (isort_mem _ _ _ x hx), rfl⟩⟩ [(0, some 0)] ?_
    conv => whnf
    refine ⟨?_, fun s => ?_⟩
    · repeat' (first | exact trivial | rfl | refine And.intro ?_ ?_)
      all_goals (conv => whnf)
      repeat' (first | exact trivial | rfl | refine And.intro ?_ ?_)
    conv => whnf
    obtain ⟨j1, j2, j3, j4⟩ := s.2
    generalize s.1.1 = j at *
    generalize s.1.2 = m at *
    have hm1 := r1_len m
    refine ⟨by kernel_rfl, ?_⟩
    conv => whnf
    refine spD (fun h1 => ?_) (fun h1 => ?_) <;> conv => whnf
    · obtain ⟨i, rfl⟩ : ∃ i, j = i + 1 := ⟨j - 1, by omega⟩
      obtain ⟨x, hx⟩ := get_of (l := m) (i := i + 1) (by omega)
      obtain ⟨y, hy⟩ := get_of (l := m) (i := i) (by omega)
      have e1 : ((i + 1 : Nat) : Int) - 1 = (i : Int) := by omega
      refine ⟨by omega, by omega, _, r1_get hx, ?_⟩
      conv => whnf
      refine gv (by first | omega | (simp only []; omega) | (simp; omega)) (by first | omega | (simp only []; omega) | (simp; omega)) ?_
      conv => whnf
      rw [e1]
      refine ⟨by omega, by omega, _, r1_get hy, ?_⟩
      conv => whnf
      refine ⟨_, _, order1_c c x y (j3 x (List.mem_of_getElem? hx)) (j3 y (List.mem_of_getElem? hy)), ?_⟩
      conv => whnf
      refine spD (fun h2 => ?_) (fun h2 => ?_) <;> conv => whnf
      · refine ⟨by kernel_rfl, ?_⟩
        conv => whnf
        refine gv (by first | omega | (simp only []; omega) | (simp; omega)) (by first | omega | (simp only []; omega) | (simp; omega)) ?_
        conv => whnf
        refine gv (by first | omega | (simp only []; omega) | (simp; omega)) (by first | omega | (simp only []; omega) | (simp; omega)) ?_
        conv => whnf
        rw [e1]
        refine ⟨by omega, by omega, _, r1_get hy, ?_⟩
        conv => whnf
        refine ⟨by omega, by omega, _, r1_get hx, ?_⟩
        conv => whnf
        refine ⟨by omega, by omega, _, r1_get hx, ?_⟩
        conv => whnf
        have hy2 : (m.set (i + 1) y)[i]? = some y := by rw [List.getElem?_set_ne (by omega)]; exact hy
        have hl2 : (r1 (m.set (i + 1) y)).length = l.length := by rw [r1_len, List.length_set, j2]
        rw [show (r1 m).set ((i + 1 : Nat) : Int).toNat [i64 y] = r1 (m.set (i + 1) y) from (r1_set' _ _ _).symm]
        refine ⟨by omega, by omega, _, r1_get hy2, ?_⟩
        conv => whnf
        refine gv (by first | omega | (simp only []; omega) | (simp; omega)) (by first | omega | (simp only []; omega) | (simp; omega)) ?_
        conv => whnf
        have hb : bef c x y = true := by unfold bef; exact decide_eq_true h2
        have hJ' : InsJ c l k (i, (m.set (i + 1) y).set i x) := by
          refine ⟨by simp only; omega, by simp [j2], fun z hz => j3 z (mem_swap hx hy z hz), ?_⟩
          rw [← j4]
          simp only [sink, hx, hy, hb, if_true]
        refine ⟨⟨_, hJ'⟩, [(0, some 0)], ?_, Nat.lt_succ_self i⟩
        repeat' (first | exact trivial | rfl | refine And.intro ?_ ?_)
        all_goals (conv => whnf)
        repeat' (first | exact trivial | rfl | refine And.intro ?_ ?_)
        all_goals first | exact e1.symm | exact r1_set' _ _ _
      · have hb : bef c x y = false := by unfold bef; exact decide_eq_false h2
        have e4 : m = isort (bef c) l (k + 1) := by
          rw [← j4]
          simp only [sink, hx, hy, hb, Bool.false_eq_true, if_false]
        refine gv (by first | omega | (simp only []; omega) | (simp; omega)) (by first | omega | (simp only []; omega) | (simp; omega)) ?_
        conv => whnf
        refine ⟨⟨by omega, .inr hk'⟩, [(0, some 0)], ?_⟩
        repeat' (first | exact trivial | rfl | refine And.intro ?_ ?_)
        all_goals (conv => whnf)
        repeat' (first | exact trivial | rfl | refine And.intro ?_ ?_)
        rw [e4]
    · have hj0 : j = 0 := by omega
      subst hj0
      have e4 : m = isort (bef c) l (k + 1) := by rw [← j4]; rfl
      refine gv (by first | omega | (simp only []; omega) | (simp; omega)) (by first | omega | (simp only []; omega) | (simp; omega)) ?_
      conv => whnf
      refine ⟨⟨by omega, .inr hk'⟩, [(0, some 0)], ?_⟩
      repeat' (first | exact trivial | rfl | refine And.intro ?_ ?_)
      all_goals (conv => whnf)
      repeat' (first | exact trivial | rfl | refine And.intro ?_ ?_)
      rw [e4]
  · have : k = l.length - 1 := by omega
    rw [this]
    exact ⟨[(0, some 0), (1, some 1)], rfl, trivial, ⟨⟨rfl, rfl⟩, ⟨⟨rfl, rfl⟩, rfl, rfl, rfl, rfl, rfl, rfl, ⟨rfl, rfl⟩, ⟨rfl, rfl⟩, ⟨rfl, rfl⟩, trivial⟩, trivial⟩⟩

def iota (n : Nat) : List Int := upto (fun _ => true) n

theorem iota_len : ∀ n, (iota n).length = n
  | 0 => rfl
  | n + 1 => by
    have := iota_len n
    unfold iota at *
    rw [upto_yes rfl, List.length_append, this]; rfl

theorem iota_mem {n : Nat} {x : Int} : x ∈ iota n ↔ 0 ≤ x ∧ x < n := by
  induction n with
  | zero => simp [iota, upto]
  | succ n ih =>
    unfold iota at *
    rw [upto_yes rfl, List.mem_append, ih, List.mem_singleton]; omega

theorem iota_pair (c : Cfg) : ∀ n, (iota n).Pairwise fun a b => bef c a b = true ∨ bef c b a = true
  | 0 => by simp [iota, upto]
  | n + 1 => by
    have ih := iota_pair c n
    have e : iota (n + 1) = iota n ++ [(n : Int)] := by unfold iota; rw [upto_yes rfl]
    rw [e, List.pairwise_append]
    refine ⟨ih, by simp, fun a ha b hb => ?_⟩
    rw [iota_mem] at ha
    rw [List.mem_singleton] at hb
    exact bef_total c (by omega)

def order (c : Cfg) : List Int := isort (bef c) (iota c.tenants.length) (c.tenants.length - 1)

set_option maxRecDepth 100000 in
theorem pdq_c (c : Cfg) (l : List Int) (lim : Int) (hl : l.length ≤ 12) (hr : ∀ x ∈ l, inT c x) : CallsH Tryz.prog 121 [.c (.gs 0), I 0, I l.length, I lim, .fn 85 [.ptr 1 0 0]] [.arr 3 (r1 l), .box (cfgC c)] (.tup []) [.arr 3 (r1 (isort (bef c) l (l.length - 1))), .box (cfgC c)] := by
  refine callsR_of tab mixed Tryz.func121 rfl (by decide) rfl rfl ?_
  conv => whnf
  refine loopN tab mixed (fun k => k = 0) 1 (fun _ => [(1, I 0), (2, I l.length), (3, I lim)]) (fun _ => []) 51 [] rfl ?_
  conv => whnf
  refine ⟨?_, fun k hk => ?_⟩
  · repeat' (first | exact trivial | rfl | refine And.intro ?_ ?_)
    all_goals (conv => whnf)
    repeat' (first | exact trivial | rfl | refine And.intro ?_ ?_)
  conv => whnf
  refine gv (by first | omega | (simp only []; omega) | (simp; omega)) (by first | omega | (simp only []; omega) | (simp; omega)) ?_
  conv => whnf
  refine spD (fun h => ?_) (fun h => absurd (by omega) h)
  conv => whnf
  refine ⟨_, _, insertion_c c l (by omega) hr, ?_⟩
  conv => whnf
  exact ⟨[(0, some 0), (1, some 1)], rfl, trivial, ⟨⟨rfl, rfl⟩, ⟨⟨rfl, rfl⟩, rfl, rfl, rfl, rfl, rfl, rfl, ⟨rfl, rfl⟩, ⟨rfl, rfl⟩, ⟨rfl, rfl⟩, trivial⟩, trivial⟩⟩

set_option maxRecDepth 100000 in
theorem sortFunc_c (c : Cfg) (l : List Int) (hl : l.length ≤ 12) (hr : ∀ x ∈ l, inT c x) : CallsH Tryz.prog 84 [.c (.gs 0), .fn 85 [.ptr 1 0 0]] [.arr 3 (r1 l), .box (cfgC c)] (.tup []) [.arr 3 (r1 (isort (bef c) l (l.length - 1))), .box (cfgC c)] := by
  have h1 := r1_len l
  refine callsR_of tab mixed Tryz.func84 rfl (by decide) rfl rfl ?_
  conv => whnf
  rw [h1]
  refine gvu (by first | omega | (simp only []; omega) | (simp; omega)) (by first | omega | (simp only []; omega) | (simp; omega)) ?_
  conv => whnf
  refine ⟨_, _, len_c l.length (by omega) (by omega), ?_⟩
  conv => whnf
  refine ⟨_, _, pdq_c c l _ hl hr, ?_⟩
  conv => whnf
  exact ⟨[(0, some 0), (1, some 1)], rfl, trivial, ⟨⟨rfl, rfl⟩, ⟨⟨rfl, rfl⟩, rfl, rfl, rfl, rfl, rfl, rfl, ⟨rfl, rfl⟩, ⟨rfl, rfl⟩, ⟨rfl, rfl⟩, trivial⟩, trivial⟩⟩

set_option maxRecDepth 100000 in
theorem order_c (c : Cfg) (hT : c.tenants.length ≤ 12) : CallsH Tryz.prog 57 [cfgV c] [] (.c (.gs 0)) [.arr 3 (r1 (order c))] := by
  have hl := rT_len c.tenants
  refine callsR_of tab mixed Tryz.func57 rfl (by decide) rfl rfl ?_
  conv => whnf
  refine ⟨by omega, by omega, ⟨by omega⟩, ?_⟩
  conv => whnf
  refine loopN tab mixed (fun i => i ≤ c.tenants.length) c.tenants.length (fun i => [(12, I i), (3, .c (.gs 1)), (8, .top)]) (fun i => [(1, .arr 3 (r1 (iota i)))]) 51 [(1, some 1)] (by omega) ?_
  conv => whnf
  refine ⟨?_, fun i hi => ?_⟩
  · repeat' (first | exact trivial | rfl | refine And.intro ?_ ?_)
    all_goals (conv => whnf)
    repeat' (first | exact trivial | rfl | refine And.intro ?_ ?_)
  conv => whnf
  have hil := iota_len i
  have hi1 := r1_len (iota i)
  refine spD (fun h => ?_) (fun h => ?_) <;> conv => whnf
  · have hi' : i < c.tenants.length := by omega
    refine ⟨row1 _ rfl, ⟨by simp; omega⟩, ?_⟩
    conv => whnf
    refine gv (by first | omega | (simp only []; omega) | (simp; omega)) (by first | omega | (simp only []; omega) | (simp; omega)) ?_
    conv => whnf
    refine ⟨⟨hi', hi'⟩, [(1, some 52)], ?_⟩
    repeat' (first | exact trivial | rfl | refine And.intro ?_ ?_)
    all_goals (conv => whnf)
    repeat' (first | exact trivial | rfl | refine And.intro ?_ ?_)
    unfold iota
    rw [upto_yes rfl]; exact (r1_app _ _).symm
  · have hi' : i = c.tenants.length := by omega
    subst hi'
    refine ⟨_, _, sortFunc_c c (iota c.tenants.length) (by omega) (fun x hx => iota_mem.1 hx), ?_⟩
    conv => whnf
    rw [hil]
    exact ⟨[(0, some 1)], rfl, rfl, ⟨⟨rfl, rfl⟩, trivial⟩⟩

theorem order_ok (c : Cfg) : (order c).length = c.tenants.length ∧ (order c).Pairwise (fun a b => bef c a b = true) ∧ ∀ z, z ∈ order c ↔ 0 ≤ z ∧ z < c.tenants.length := by
  have hl := iota_len c.tenants.length
  have h := isort_all (bef_trans c) (iota_pair c c.tenants.length) (k := c.tenants.length - 1) (by omega) (by omega)
  exact ⟨by unfold order; rw [isort_len, hl], h.1, fun z => by unfold order; rw [h.2, iota_mem]⟩

/-! all loads -/

def totS : List Tenant → Int
  | [] => 0
  | x :: r => x.load + totS r

end Go.Proofs.YtelnligfebjjiaaGreat
