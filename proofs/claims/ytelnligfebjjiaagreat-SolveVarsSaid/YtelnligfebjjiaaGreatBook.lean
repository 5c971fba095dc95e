/- Contracts: which placements fit, and what they book (rules and its reference). Conditions: those ahead of each theorem. -/
import Derived.Test.YtelnligfebjjiaaGreatPlace
namespace Go.Proofs.YtelnligfebjjiaaGreat
open Go Go.Cpl

structure Fit (c : Cfg) (l : List (Int × Int)) : Prop where
  val : valid5 c = 0
  len : l.length = c.tenants.length
  rng : ∀ p ∈ l, (-1 ≤ p.1 ∧ p.1 < c.cells.length) ∧ (-1 ≤ p.2 ∧ p.2 < c.cells.length)

theorem fit_iff (c : Cfg) (l : List (Int × Int)) : Fit c l ↔ (valid5 c = 0 ∧ l.length = c.tenants.length ∧ ∀ p ∈ l, (-1 ≤ p.1 ∧ p.1 < c.cells.length) ∧ (-1 ≤ p.2 ∧ p.2 < c.cells.length)) :=
  ⟨fun h => ⟨h.val, h.len, h.rng⟩, fun h => ⟨h.1, h.2.1, h.2.2⟩⟩

instance (c : Cfg) (l : List (Int × Int)) : Decidable (Fit c l) := decidable_of_iff _ (fit_iff c l).symm

theorem valid5_valid {c : Cfg} (h : valid5 c = 0) : valid c = 0 ∧ ∀ t ∈ c.tenants, okT c.regions t := by
  unfold valid5 at h
  split at h
  · rename_i h1
    split at h
    · rename_i h2; exact ⟨h1, h2⟩
    · omega
  · rename_i h1; exact absurd h h1

theorem valid_laid {c : Cfg} (h : valid c = 0) : Laid c := by
  have hn := valid_num h
  unfold valid at h
  rw [if_pos hn] at h
  split at h
  · rename_i h1
    obtain ⟨_, hp, hv⟩ := h1
    obtain ⟨n1, n2, n3, _⟩ := hn
    refine ⟨by omega, by omega, fun x hx => ?_, fun x hx => ?_, fun x hx => ?_, n1.2⟩
    · have := hp.2.1 x hx; omega
    · have := hp.1 x hx; omega
    · have := hv.1 x hx; omega
  · omega

/-- what is known of a valid configuration -/
structure Good (c : Cfg) : Prop where
  laid : Laid c
  regions : 1 ≤ c.regions ∧ c.regions ≤ 4
  cells : 1 ≤ c.cells.length ∧ c.cells.length ≤ 16
  zones : 1 ≤ c.zones.length ∧ c.zones.length ≤ 8
  tenants : c.tenants.length ≤ 32
  ten : ∀ t ∈ c.tenants, okT c.regions t

theorem good_of {c : Cfg} (h : valid5 c = 0) : Good c := by
  have hv := valid5_valid h
  have hn := valid_num hv.1
  obtain ⟨n1, n2, n3, n4, n5, n6, n7⟩ := hn
  exact ⟨valid_laid hv.1, n1, by omega, by omega, by omega, hv.2⟩

theorem fit_c (c : Cfg) (u : Int) (hd : Bool) (l : List (Int × Int)) : CallsH Tryz.prog 25 [probV c u hd, plV l] [] (B (decide (Fit c l))) [] := by
  have hl := rT_len c.tenants
  have hp := r2_len l
  have hcl := r2_len c.cells
  refine callsR_of tab mixed Tryz.func25 rfl (by decide) rfl rfl ?_
  conv => whnf
  refine ⟨_, _, tenValid_c c, ?_⟩
  conv => whnf
  refine spNe (fun h => ?_) (fun h => ?_) <;> conv => whnf
  · have : ¬ Fit c l := fun hf => h hf.val
    exact ⟨[], rfl, by simp [mtV, valOf, mtC, eqD, this], trivial⟩
  refine spNe (fun h1 => ?_) (fun h1 => ?_) <;> conv => whnf
  · have : ¬ Fit c l := fun hf => h1 (by have := hf.len; omega)
    exact ⟨[], rfl, by simp [mtV, valOf, mtC, eqD, this], trivial⟩
  have hg := good_of h
  have hT := hg.tenants
  refine loopN tab mixed (fun i => i ≤ l.length ∧ ∀ p ∈ l.take i, (-1 ≤ p.1 ∧ p.1 < c.cells.length) ∧ (-1 ≤ p.2 ∧ p.2 < c.cells.length)) l.length (fun i => [(27, I i)]) (fun _ => []) 51 [] ⟨by omega, by simp⟩ ?_
  conv => whnf
  refine ⟨?_, fun i ⟨hi, hall⟩ => ?_⟩
  · repeat' (first | exact trivial | rfl | refine And.intro ?_ ?_)
    all_goals (conv => whnf)
    repeat' (first | exact trivial | rfl | refine And.intro ?_ ?_)
  conv => whnf
  refine spD (fun h2 => ?_) (fun h2 => ?_) <;> conv => whnf
  · have hi' : i < l.length := by omega
    obtain ⟨x, hx⟩ := get_of hi'
    have hbad : ¬ ((-1 ≤ x.1 ∧ x.1 < c.cells.length) ∧ (-1 ≤ x.2 ∧ x.2 < c.cells.length)) → ¬ Fit c l := fun hb hf => hb (hf.rng x (List.mem_of_getElem? hx))
    refine ⟨by omega, _, r2_get hx, ?_⟩
    conv => whnf
    refine spD (fun h3 => ?_) (fun h3 => ?_) <;> conv => whnf
    · exact ⟨[], rfl, by simp [mtV, valOf, mtC, eqD, hbad (by omega)], trivial⟩
    refine spD (fun h4 => ?_) (fun h4 => ?_) <;> conv => whnf
    · exact ⟨[], rfl, by simp [mtV, valOf, mtC, eqD, hbad (by omega)], trivial⟩
    refine spD (fun h5 => ?_) (fun h5 => ?_) <;> conv => whnf
    · exact ⟨[], rfl, by simp [mtV, valOf, mtC, eqD, hbad (by omega)], trivial⟩
    refine spD (fun h6 => ?_) (fun h6 => ?_) <;> conv => whnf
    · exact ⟨[], rfl, by simp [mtV, valOf, mtC, eqD, hbad (by omega)], trivial⟩
    refine gv (by first | omega | (simp only []; omega) | (simp; omega)) (by first | omega | (simp only []; omega) | (simp; omega)) ?_
    conv => whnf
    refine ⟨⟨hi', hi', take_all hx hall (by omega)⟩, [], ?_⟩
    repeat' (first | exact trivial | rfl | refine And.intro ?_ ?_)
    all_goals (conv => whnf)
    repeat' (first | exact trivial | rfl | refine And.intro ?_ ?_)
  · refine ⟨[], rfl, ?_, trivial⟩
    have hi' : i = l.length := by omega
    rw [hi', List.take_length] at hall
    have : Fit c l := ⟨h, by omega, hall⟩
    simp [mtV, valOf, mtC, eqD, this]

/-! what is booked -/

def addAt (l : List Int) (i n : Int) : List Int := if 0 ≤ i ∧ i < l.length then l.set i.toNat ((l[i.toNat]?).getD 0 + n) else l

theorem addAt_len (l : List Int) (i n : Int) : (addAt l i n).length = l.length := by
  unfold addAt; split <;> simp

theorem r1_set (l : List Int) (i : Nat) (x : Int) : r1 (l.set i x) = (r1 l).set i [i64 x] := by simp [r1, List.map_set]

theorem addAt_rng {l : List Int} {i n a b a' b' : Int} (h : ∀ x ∈ l, a ≤ x ∧ x ≤ b) (hn : a' ≤ n ∧ n ≤ b') (ha : a' ≤ 0) (hb : 0 ≤ b') : ∀ x ∈ addAt l i n, a + a' ≤ x ∧ x ≤ b + b' := by
  intro x hx
  unfold addAt at hx
  split at hx
  · rename_i hi
    rcases List.mem_or_eq_of_mem_set hx with h1 | h1
    · have := h x h1; omega
    · obtain ⟨y, hy⟩ := get_int (l := l) hi.1 (by omega)
      have := h y (List.mem_of_getElem? hy)
      rw [h1, hy]; simp only [Option.getD_some]; omega
  · have := h x hx; omega

def loadOf (c : Cfg) (t : Nat) : Int := ((c.tenants[t]?).map (·.load)).getD 0

def shadowOf (c : Cfg) (t : Nat) : Int := ((c.tenants[t]?).map (·.shadow)).getD 0

def bk (c : Cfg) (l : List (Int × Int)) : Nat → List Int
  | 0 => List.replicate c.cells.length 0
  | k + 1 => match l[k]? with
    | some p => addAt (addAt (bk c l k) p.1 (loadOf c k)) p.2 (shadowOf c k)
    | none => bk c l k

def booked (c : Cfg) (l : List (Int × Int)) : List Int := bk c l l.length

theorem bk_len (c : Cfg) (l : List (Int × Int)) : ∀ k, (bk c l k).length = c.cells.length
  | 0 => by simp [bk]
  | k + 1 => by
    simp only [bk]
    split
    · rw [addAt_len, addAt_len, bk_len c l k]
    · exact bk_len c l k

theorem Good.load {c : Cfg} (h : Good c) (t : Nat) : 0 ≤ loadOf c t ∧ loadOf c t ≤ 65536 := by
  unfold loadOf
  cases hx : c.tenants[t]? with
  | none => simp
  | some x => have := (h.ten x (List.mem_of_getElem? hx)).1; simp; omega

theorem Good.shadow {c : Cfg} (h : Good c) (t : Nat) : 0 ≤ shadowOf c t ∧ shadowOf c t ≤ 65536 ∧ shadowOf c t ≤ loadOf c t := by
  unfold shadowOf loadOf
  cases hx : c.tenants[t]? with
  | none => simp
  | some x => have := h.ten x (List.mem_of_getElem? hx); obtain ⟨h1, h2, _⟩ := this; simp; omega

theorem bk_rng {c : Cfg} (hg : Good c) (l : List (Int × Int)) : ∀ k : Nat, ∀ x ∈ bk c l k, 0 ≤ x ∧ x ≤ 131072 * (k : Int)
  | 0, x, hx => by simp [bk] at hx; omega
  | k + 1, x, hx => by
    have ih := bk_rng hg l k
    simp only [bk] at hx
    split at hx
    · rename_i p _
      have h2 := addAt_rng (i := p.2) (addAt_rng (i := p.1) ih (n := loadOf c k) (a' := 0) (b' := 65536) (hg.load k) (by omega) (by omega)) (n := shadowOf c k) (a' := 0) (b' := 65536) ⟨(hg.shadow k).1, (hg.shadow k).2.1⟩ (by omega) (by omega) x hx
      omega
    · have := ih x hx; omega

theorem addAt_in {l : List Int} {i n x : Int} (h0 : 0 ≤ i) (h1 : i < l.length) (hx : l[i.toNat]? = some x) : addAt l i n = l.set i.toNat (x + n) := by
  unfold addAt
  rw [if_pos ⟨h0, h1⟩, hx]
  rfl

theorem addAt_out {l : List Int} {i n : Int} (h : ¬ (0 ≤ i ∧ i < l.length)) : addAt l i n = l := by
  simp only [addAt, if_neg h]

theorem addAt_neg {l : List Int} {n : Int} : addAt l (-1) n = l := addAt_out (by omega)

theorem booked_c (c : Cfg) (u : Int) (hd : Bool) (l : List (Int × Int)) (hf : Fit c l) : CallsH Tryz.prog 91 [probV c u hd, plV l] [] (.c (.gs 0)) [.arr 3 (r1 (booked c l))] := by
  have hg := good_of hf.val
  have hlt := rT_len c.tenants
  have hp := r2_len l
  have hcl := r2_len c.cells
  have hC := hg.cells
  have hT := hg.tenants
  have hlen := hf.len
  refine callsR_of tab mixed Tryz.func91 rfl (by decide) rfl rfl ?_
  conv => whnf
  refine ⟨_, _, fit_c c u hd l, ?_⟩
  conv => whnf
  refine spN (fun h => (h hf).elim) (fun _ => ?_) <;> conv => whnf
  refine ⟨by omega, by omega, ⟨by omega⟩, ?_⟩
  conv => whnf
  refine loopN tab mixed (fun i => i ≤ l.length) l.length (fun i => [(19, I i)]) (fun i => [(1, .arr 3 (r1 (bk c l i)))]) 51 [(1, some 1)] (by omega) ?_
  conv => whnf
  refine ⟨?_, fun i hi => ?_⟩
  · repeat' (first | exact trivial | rfl | refine And.intro ?_ ?_)
    all_goals (conv => whnf)
    repeat' (first | exact trivial | rfl | refine And.intro ?_ ?_)
    rw [bk, hcl]; simp [r1]
  conv => whnf
  refine spD (fun h2 => ?_) (fun h2 => ?_) <;> conv => whnf
  · have hi' : i < l.length := by omega
    obtain ⟨p, hx⟩ := get_of hi'
    obtain ⟨t, ht⟩ := get_of (l := c.tenants) (i := i) (by omega)
    have hrng := hf.rng p (List.mem_of_getElem? hx)
    have hbl := bk_len c l i
    have hb1 := r1_len (bk c l i)
    have hbr := bk_rng hg l i
    have hL := hg.load i
    have hS := hg.shadow i
    have hload : loadOf c i = t.load := by simp [loadOf, ht]
    have hshad : shadowOf c i = t.shadow := by simp [shadowOf, ht]
    have hstep : bk c l (i + 1) = addAt (addAt (bk c l i) p.1 t.load) p.2 t.shadow := by simp [bk, hx, hload, hshad]
    refine ⟨by omega, _, r2_get hx, ?_⟩
    conv => whnf
    refine spNe (fun h3 => ?_) (fun h3 => ?_) <;> conv => whnf
    · obtain ⟨x, hbx⟩ := get_int (l := bk c l i) (i := p.1) (by omega) (by omega)
      have hxr := hbr x (List.mem_of_getElem? hbx)
      have e1 : addAt (bk c l i) p.1 t.load = (bk c l i).set p.1.toNat (x + t.load) := addAt_in (by omega) (by omega) hbx
      refine ⟨by kernel_rfl, ?_⟩
      conv => whnf
      refine ⟨by omega, by omega, _, r1_get hbx, ?_⟩
      conv => whnf
      refine ⟨by omega, _, rT_get ht, ?_⟩
      conv => whnf
      refine gv (by first | omega | (simp only []; omega) | (simp; omega)) (by first | omega | (simp only []; omega) | (simp; omega)) ?_
      conv => whnf
      refine ⟨by omega, by omega, _, r1_get hbx, ?_⟩
      conv => whnf
      rw [← r1_set, ← e1]
      have ebl := addAt_len (bk c l i) p.1 t.load
      have ebr := addAt_rng (i := p.1) hbr (n := t.load) (a' := 0) (b' := 65536) (by omega) (by omega) (by omega)
      have eb1 := r1_len (addAt (bk c l i) p.1 t.load)
      refine spNe (fun h4 => ?_) (fun h4 => ?_) <;> conv => whnf
      · obtain ⟨y, hby⟩ := get_int (l := addAt (bk c l i) p.1 t.load) (i := p.2) (by omega) (by omega)
        have hyr := ebr y (List.mem_of_getElem? hby)
        have e2 : addAt (addAt (bk c l i) p.1 t.load) p.2 t.shadow = (addAt (bk c l i) p.1 t.load).set p.2.toNat (y + t.shadow) := addAt_in (by omega) (by omega) hby
        refine ⟨by kernel_rfl, ?_⟩
        conv => whnf
        refine ⟨by omega, by omega, _, r1_get hby, ?_⟩
        conv => whnf
        refine ⟨by omega, _, rT_get ht, ?_⟩
        conv => whnf
        refine gv (by first | omega | (simp only []; omega) | (simp; omega)) (by first | omega | (simp only []; omega) | (simp; omega)) ?_
        conv => whnf
        refine ⟨by omega, by omega, _, r1_get hby, ?_⟩
        conv => whnf
        rw [← r1_set, ← e2, ← hstep]
        refine gv (by first | omega | (simp only []; omega) | (simp; omega)) (by first | omega | (simp only []; omega) | (simp; omega)) ?_
        conv => whnf
        refine ⟨⟨hi', hi'⟩, [(1, some 1)], ?_⟩
        repeat' (first | exact trivial | rfl | refine And.intro ?_ ?_)
        all_goals (conv => whnf)
        repeat' (first | exact trivial | rfl | refine And.intro ?_ ?_)
      · have e2 : bk c l (i + 1) = addAt (bk c l i) p.1 t.load := by rw [hstep, h4, addAt_neg]
        rw [← e2]
        refine gv (by first | omega | (simp only []; omega) | (simp; omega)) (by first | omega | (simp only []; omega) | (simp; omega)) ?_
        conv => whnf
        refine ⟨⟨hi', hi'⟩, [(1, some 1)], ?_⟩
        repeat' (first | exact trivial | rfl | refine And.intro ?_ ?_)
        all_goals (conv => whnf)
        repeat' (first | exact trivial | rfl | refine And.intro ?_ ?_)
    · have e1 : addAt (bk c l i) p.1 t.load = bk c l i := by rw [h3, addAt_neg]
      rw [e1] at hstep
      refine spNe (fun h4 => ?_) (fun h4 => ?_) <;> conv => whnf
      · obtain ⟨y, hby⟩ := get_int (l := bk c l i) (i := p.2) (by omega) (by omega)
        have hyr := hbr y (List.mem_of_getElem? hby)
        have e2 : addAt (bk c l i) p.2 t.shadow = (bk c l i).set p.2.toNat (y + t.shadow) := addAt_in (by omega) (by omega) hby
        refine ⟨by kernel_rfl, ?_⟩
        conv => whnf
        refine ⟨by omega, by omega, _, r1_get hby, ?_⟩
        conv => whnf
        refine ⟨by omega, _, rT_get ht, ?_⟩
        conv => whnf
        refine gv (by first | omega | (simp only []; omega) | (simp; omega)) (by first | omega | (simp only []; omega) | (simp; omega)) ?_
        conv => whnf
        refine ⟨by omega, by omega, _, r1_get hby, ?_⟩
        conv => whnf
        rw [← r1_set, ← e2, ← hstep]
        refine gv (by first | omega | (simp only []; omega) | (simp; omega)) (by first | omega | (simp only []; omega) | (simp; omega)) ?_
        conv => whnf
        refine ⟨⟨hi', hi'⟩, [(1, some 1)], ?_⟩
        repeat' (first | exact trivial | rfl | refine And.intro ?_ ?_)
        all_goals (conv => whnf)
        repeat' (first | exact trivial | rfl | refine And.intro ?_ ?_)
      · have e2 : bk c l (i + 1) = bk c l i := by rw [hstep, h4, addAt_neg]
        refine gv (by first | omega | (simp only []; omega) | (simp; omega)) (by first | omega | (simp only []; omega) | (simp; omega)) ?_
        conv => whnf
        refine ⟨⟨hi', hi'⟩, [(1, some 1)], ?_⟩
        repeat' (first | exact trivial | rfl | refine And.intro ?_ ?_)
        all_goals (conv => whnf)
        repeat' (first | exact trivial | rfl | refine And.intro ?_ ?_)
        rw [e2]
  · refine ⟨[(0, some 1)], rfl, rfl, ⟨rfl, ?_⟩, trivial⟩
    have hi' : i = l.length := by omega
    simp [booked, hi']

theorem add_c (l : List Int) (i n : Int) (hr : ∀ x ∈ l, -1000000000 ≤ x ∧ x ≤ 1000000000) (hn : -1000000000 ≤ n ∧ n ≤ 1000000000) :
    CallsH Tryz.prog 138 [.c (.gs 0), I i, I n] [.arr 3 (r1 l)] (.tup []) [.arr 3 (r1 (addAt l i n))] := by
  have h1 := r1_len l
  refine callsR_of tab mixed Tryz.func138 rfl (by decide) rfl rfl ?_
  conv => whnf
  refine spD (fun h => ?_) (fun h => ?_) <;> conv => whnf
  · refine spD (fun h' => ?_) (fun h' => ?_) <;> conv => whnf
    · obtain ⟨x, hx⟩ := get_int (l := l) (i := i) h (by omega)
      have := hr x (List.mem_of_getElem? hx)
      refine ⟨h, by omega, _, r1_get hx, ?_⟩
      conv => whnf
      refine gv (by first | omega | (simp only []; omega) | (simp; omega)) (by first | omega | (simp only []; omega) | (simp; omega)) ?_
      conv => whnf
      refine ⟨h, by omega, _, r1_get hx, ?_⟩
      conv => whnf
      rw [← r1_set, ← addAt_in h (by omega) hx]
      exact ⟨[(0, some 0)], rfl, trivial, ⟨⟨rfl, rfl⟩, trivial⟩⟩
    · rw [addAt_out (by omega)]
      exact ⟨[(0, some 0)], rfl, trivial, ⟨⟨rfl, rfl⟩, trivial⟩⟩
  · rw [addAt_out (by omega)]
    exact ⟨[(0, some 0)], rfl, trivial, ⟨⟨rfl, rfl⟩, trivial⟩⟩

theorem refBooked_c (c : Cfg) (u : Int) (hd : Bool) (l : List (Int × Int)) (hf : Fit c l) : CallsH Tryz.prog 105 [probV c u hd, plV l] [] (.c (.gs 0)) [.arr 3 (r1 (booked c l))] := by
  have hg := good_of hf.val
  have hlt := rT_len c.tenants
  have hp := r2_len l
  have hcl := r2_len c.cells
  have hC := hg.cells
  have hT := hg.tenants
  have hlen := hf.len
  refine callsR_of tab mixed Tryz.func105 rfl (by decide) rfl rfl ?_
  conv => whnf
  refine ⟨by omega, by omega, ⟨by omega⟩, ?_⟩
  conv => whnf
  refine loopN tab mixed (fun i => i ≤ l.length) l.length (fun i => [(6, I i)]) (fun i => [(1, .arr 3 (r1 (bk c l i)))]) 51 [(1, some 1)] (by omega) ?_
  conv => whnf
  refine ⟨?_, fun i hi => ?_⟩
  · repeat' (first | exact trivial | rfl | refine And.intro ?_ ?_)
    all_goals (conv => whnf)
    repeat' (first | exact trivial | rfl | refine And.intro ?_ ?_)
    rw [bk, hcl]; simp [r1]
  conv => whnf
  refine spD (fun h2 => ?_) (fun h2 => ?_) <;> conv => whnf
  · have hi' : i < l.length := by omega
    obtain ⟨p, hx⟩ := get_of hi'
    obtain ⟨t, ht⟩ := get_of (l := c.tenants) (i := i) (by omega)
    have hbl := bk_len c l i
    have hbr := bk_rng hg l i
    have hL := hg.load i
    have hS := hg.shadow i
    have hload : loadOf c i = t.load := by simp [loadOf, ht]
    have hshad : shadowOf c i = t.shadow := by simp [shadowOf, ht]
    have hstep : bk c l (i + 1) = addAt (addAt (bk c l i) p.1 t.load) p.2 t.shadow := by simp [bk, hx, hload, hshad]
    have ebl := addAt_len (bk c l i) p.1 t.load
    have ebr := addAt_rng (i := p.1) hbr (n := t.load) (a' := 0) (b' := 65536) (by omega) (by omega) (by omega)
    refine ⟨by kernel_rfl, ?_⟩
    conv => whnf
    refine ⟨by omega, _, r2_get hx, ?_⟩
    conv => whnf
    refine ⟨by omega, _, rT_get ht, ?_⟩
    conv => whnf
    refine ⟨_, _, add_c _ _ _ (fun x hx => by have := hbr x hx; omega) (by omega), ?_⟩
    conv => whnf
    refine ⟨by kernel_rfl, ?_⟩
    conv => whnf
    refine ⟨by omega, _, r2_get hx, ?_⟩
    conv => whnf
    refine ⟨by omega, _, rT_get ht, ?_⟩
    conv => whnf
    refine ⟨_, _, add_c _ _ _ (fun x hx => by have := ebr x hx; omega) (by omega), ?_⟩
    conv => whnf
    rw [← hstep]
    refine gv (by first | omega | (simp only []; omega) | (simp; omega)) (by first | omega | (simp only []; omega) | (simp; omega)) ?_
    conv => whnf
    refine ⟨⟨hi', hi'⟩, [(1, some 1)], ?_⟩
    repeat' (first | exact trivial | rfl | refine And.intro ?_ ?_)
    all_goals (conv => whnf)
    repeat' (first | exact trivial | rfl | refine And.intro ?_ ?_)
  · refine ⟨[(0, some 1)], rfl, rfl, ⟨rfl, ?_⟩, trivial⟩
    have hi' : i = l.length := by omega
    simp [booked, hi']

end Go.Proofs.YtelnligfebjjiaaGreat
