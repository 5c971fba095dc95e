/- Contracts: what the reference of entries says of an entry. Conditions: those ahead of each theorem. -/
import Derived.Test.YtncckpieemmmfaaGreatSt
import Derived.Test.YtncckpieemmmfaaGreatCplZ
namespace Go.Proofs.YtncckpieemmmfaaGreat
open Go Go.Cpl

structure Ent where
  kind : Int
  tick : Int
  tenant : Int
  cell : Int
  other : Int
  epoch : Int
  from_ : Int
  until_ : Int
  n : Int

abbrev entC (e : Ent) : List AC := [.d (i64 e.kind), .d (i64 e.tick), .d (i64 e.tenant), .d (i64 e.cell), .d (i64 e.other), .d (i64 e.epoch), .d (i64 e.from_), .d (i64 e.until_), .d (i64 e.n)]

abbrev entV (e : Ent) : AV := .agg (entC e)

/-- what a kind uses -/
def useL : List ByteArray := ["".toUTF8, "tco".toUTF8, "tcewv".toUTF8, "te".toUTF8, "tC".toUTF8, "tc".toUTF8, "tc".toUTF8, "t".toUTF8, "tb".toUTF8, "cm".toUTF8, "cv".toUTF8, "cv".toUTF8, "v".toUTF8, "rb".toUTF8, "".toUTF8, "".toUTF8, "n".toUTF8]

def useS (k : Int) : ByteArray := if 1 ≤ k ∧ k < 17 then (useL[k.toNat]?).getD "?".toUTF8 else "?".toUTF8

theorem uses_c (k : Int) : CallsH Tryz.prog 169 [I k] [] (.c (.d (.str (useS k)))) [] := by
  refine callsR_of tab mixed Tryz.func169 rfl (by decide) rfl rfl ?_
  conv => whnf
  refine spD (fun h1 => ?_) (fun h1 => ?_) <;> conv => whnf
  · refine ⟨[], rfl, ?_, trivial⟩
    show useS k = _
    rw [useS, if_neg (by omega)]
    rfl
  refine spD (fun h2 => ?_) (fun h2 => ?_) <;> conv => whnf
  · refine ⟨[], rfl, ?_, trivial⟩
    have h2 : 17 ≤ k := h2
    show useS k = _
    rw [useS, if_neg (by omega)]
    rfl
  have h2 : ¬ 17 ≤ k := h2
  obtain ⟨x, hx⟩ := get_of (l := useL) (i := k.toNat) (by simp [useL]; omega)
  have hr : (useL.map fun s => [D.str s])[k.toNat]? = some [.str x] := by simp [hx]
  refine ⟨by omega, by show k.toNat < 17; omega, _, hr, ?_⟩
  conv => whnf
  refine ⟨[], rfl, ?_, trivial⟩
  show useS k = x
  rw [useS, if_pos (by omega), hx]
  rfl

/-- does a text contain a byte -/
def byteTo (s : ByteArray) (w : Int) : Nat → Bool
  | 0 => false
  | i + 1 => byteTo s w i || (match s[i]? with
    | some b => decide ((b.toNat : Int) = w)
    | none => false)

def hasF (k w : Int) : Bool := byteTo (useS k) w (useS k).size

theorem byteTo_mono {s : ByteArray} {w : Int} {i : Nat} (h : byteTo s w i = true) : ∀ {j : Nat}, i ≤ j → byteTo s w j = true
  | 0, hj => by have : i = 0 := by omega
                subst this; exact h
  | j + 1, hj => by
    by_cases he : i = j + 1
    · rw [← he]; exact h
    · rw [byteTo, byteTo_mono h (j := j) (by omega)]; rfl

theorem has06_c (k w : Int) : CallsH Tryz.prog 163 [I k, .c (.d (.int .u8 w))] [] (B (hasF k w)) [] := by
  have hsz : (useS k).size ≤ 5 := by
    unfold useS
    split
    · rename_i h
      have : ∀ i : Fin 17, ((useL[i.val]?).getD "?".toUTF8).size ≤ 5 := by decide
      exact this ⟨k.toNat, by omega⟩
    · decide
  refine callsR_of tab mixed Tryz.func163 rfl (by decide) rfl rfl ?_
  conv => whnf
  refine ⟨_, _, uses_c k, ?_⟩
  conv => whnf
  refine loopN tab mixed (fun i => i ≤ (useS k).size ∧ byteTo (useS k) w i = false) (useS k).size (fun i => [(6, I i)]) (fun _ => []) 51 [] ⟨by omega, rfl⟩ ?_
  conv => whnf
  refine ⟨?_, fun i ⟨hi, hJ⟩ => ?_⟩
  · repeat' (first | exact trivial | rfl | refine And.intro ?_ ?_)
    all_goals (conv => whnf)
    repeat' (first | exact trivial | rfl | refine And.intro ?_ ?_)
  conv => whnf
  refine spD (fun h1 => ?_) (fun h1 => ?_) <;> conv => whnf
  · have hi' : i < (useS k).size := by omega
    have hb : (useS k)[((i : Nat) : Int).toNat]? = some ((useS k)[i]) := by simp [hi']
    refine ⟨by omega, _, hb, ?_⟩
    conv => whnf
    have hb2 : (useS k)[i]? = some ((useS k)[i]) := by simp [hi']
    refine spE (fun h2 => ?_) (fun h2 => ?_) <;> conv => whnf
    · refine ⟨[], rfl, ?_, trivial⟩
      show hasF k w = true
      refine byteTo_mono (i := i + 1) ?_ hi'
      rw [byteTo, hb2]
      simp [h2]
    · refine gv (by first | omega | (simp only []; omega) | (simp; omega)) (by first | omega | (simp only []; omega) | (simp; omega)) ?_
      conv => whnf
      refine ⟨⟨hi', hi', ?_⟩, [], ?_⟩
      · rw [byteTo, hb2, hJ]; simp [h2]
      · repeat' (first | exact trivial | rfl | refine And.intro ?_ ?_)
        all_goals (conv => whnf)
        repeat' (first | exact trivial | rfl | refine And.intro ?_ ?_)
  · refine ⟨[], rfl, ?_, trivial⟩
    show hasF k w = false
    have : i = (useS k).size := by omega
    rw [hasF, ← this]; exact hJ

theorem in06_c (n lo hi : Int) : CallsH Tryz.prog 148 [I n, I lo, I hi] [] (B (decide (lo ≤ n ∧ n ≤ hi))) [] := by
  refine callsR_of tab mixed Tryz.func148 rfl (by decide) rfl rfl ?_
  conv => whnf
  refine spD (fun h1 => ?_) (fun h1 => ?_) <;> conv => whnf
  · exact ⟨[], rfl, by simp [mtV, Cpl.valOf, mtC, eqD, h1], trivial⟩
  · exact ⟨[], rfl, by simp [mtV, Cpl.valOf, mtC, eqD, h1], trivial⟩

/-- a result that is a bool with this consequence -/
def RB (p : Prop) (res : AV) (hout : List HObj) : Prop := ∃ b, res = B b ∧ hout = [] ∧ (b = true → p)

theorem rb_no {p : Prop} : RB p (B false) [] := ⟨false, rfl, rfl, fun h => by cases h⟩

structure PlacesOk (e : Ent) (nt nc nr : Int) : Prop where
  t : hasF e.kind 116 = true → 0 ≤ e.tenant ∧ e.tenant ≤ nt - 1
  c : hasF e.kind 99 = true → 0 ≤ e.cell ∧ e.cell ≤ nc - 1
  cc : hasF e.kind 67 = true → -1 ≤ e.cell ∧ e.cell ≤ nc - 1
  o : hasF e.kind 111 = true → (-1 ≤ e.other ∧ e.other ≤ nc - 1) ∧ e.other ≠ e.cell
  r : hasF e.kind 114 = true → 0 ≤ e.other ∧ e.other ≤ nr - 1

structure NumbersOk (e : Ent) (nv : Int) : Prop where
  ep : hasF e.kind 101 = true → 1 ≤ e.epoch ∧ e.epoch ≤ 1048576
  w : hasF e.kind 119 = true → (0 ≤ e.from_ ∧ e.from_ ≤ 1073741824) ∧ 0 ≤ e.until_ ∧ e.until_ ≤ 1073741824
  v : hasF e.kind 118 = true → 0 ≤ e.n ∧ e.n ≤ nv - 1
  b : hasF e.kind 118 = false → hasF e.kind 98 = true → 0 ≤ e.n ∧ e.n ≤ 1
  m : hasF e.kind 118 = false → hasF e.kind 98 = false → hasF e.kind 109 = true → 1 ≤ e.n ∧ e.n ≤ 3

theorem spG {b : Bool} {A C : Prop} (h1 : b = true → A) (h2 : b = false → C) : (b = true → A) ∧ (b = false → C) := ⟨h1, h2⟩

theorem callsH_tt {P : Program} {f : FuncId} {args : List AV} {hin hout : List HObj} {b : Bool} (h : CallsH P f args hin (B b) hout) (hb : b = true) : CallsH P f args hin (.c .tt) hout := by
  subst hb
  refine ⟨h.can, fun M τ w vs h1 h2 => (h.run M τ w vs h1 h2).mono ?_⟩
  rintro e w' ⟨v, M', τ', h3, h4, h5, h6⟩
  exact ⟨v, M', τ', h3, h4, rep_bool h5, h6⟩

theorem callsH_ff {P : Program} {f : FuncId} {args : List AV} {hin hout : List HObj} {b : Bool} (h : CallsH P f args hin (B b) hout) (hb : b = false) : CallsH P f args hin (.c .ff) hout := by
  subst hb
  refine ⟨h.can, fun M τ w vs h1 h2 => (h.run M τ w vs h1 h2).mono ?_⟩
  rintro e w' ⟨v, M', τ', h3, h4, h5, h6⟩
  exact ⟨v, M', τ', h3, h4, rep_bool h5, h6⟩

def P5 (k : Int) (t c cc o r : Bool) : Prop := hasF k 116 = t ∧ hasF k 99 = c ∧ hasF k 67 = cc ∧ hasF k 111 = o ∧ hasF k 114 = r

def N6 (k : Int) (e w v b m n : Bool) : Prop := hasF k 101 = e ∧ hasF k 119 = w ∧ hasF k 118 = v ∧ hasF k 98 = b ∧ hasF k 109 = m ∧ hasF k 110 = n

instance (k : Int) (t c cc o r : Bool) : Decidable (P5 k t c cc o r) := by unfold P5; infer_instance

instance (k : Int) (e w v b m n : Bool) : Decidable (N6 k e w v b m n) := by unfold N6; infer_instance

theorem useS_out {k : Int} (h : ¬ (1 ≤ k ∧ k < 17)) (w : Int) : hasF k w = hasF 0 w := by
  have : useS k = useS 0 := by rw [useS, if_neg h, useS, if_neg (by omega)]
  unfold hasF
  rw [this]

theorem p5_all : ∀ i : Fin 17, P5 i.val true true false true false ∨ P5 i.val true true false false false ∨ P5 i.val true false false false false ∨ P5 i.val true false true false false ∨ P5 i.val false true false false false ∨ P5 i.val false false false false true ∨ P5 i.val false false false false false := by decide

theorem n6_all : ∀ i : Fin 17, N6 i.val true true true false false false ∨ N6 i.val true false false false false false ∨ N6 i.val false false true false false false ∨ N6 i.val false false false true false false ∨ N6 i.val false false false false true false ∨ N6 i.val false false false false false true ∨ N6 i.val false false false false false false := by decide

theorem p5 (k : Int) : P5 k true true false true false ∨ P5 k true true false false false ∨ P5 k true false false false false ∨ P5 k true false true false false ∨ P5 k false true false false false ∨ P5 k false false false false true ∨ P5 k false false false false false := by
  by_cases h : 1 ≤ k ∧ k < 17
  · have := p5_all ⟨k.toNat, by omega⟩
    rw [show (((⟨k.toNat, by omega⟩ : Fin 17).val : Nat) : Int) = k by simp; omega] at this
    exact this
  · have := p5_all 0
    unfold P5 at this ⊢
    simp only [useS_out h]
    exact this

theorem n6 (k : Int) : N6 k true true true false false false ∨ N6 k true false false false false false ∨ N6 k false false true false false false ∨ N6 k false false false true false false ∨ N6 k false false false false true false ∨ N6 k false false false false false true ∨ N6 k false false false false false false := by
  by_cases h : 1 ≤ k ∧ k < 17
  · have := n6_all ⟨k.toNat, by omega⟩
    rw [show (((⟨k.toNat, by omega⟩ : Fin 17).val : Nat) : Int) = k by simp; omega] at this
    exact this
  · have := n6_all 0
    unfold N6 at this ⊢
    simp only [useS_out h]
    exact this

set_option maxHeartbeats 4000000 in
set_option maxRecDepth 100000 in
theorem places_q (e : Ent) (nt nc nr : Int) (h1 : 0 ≤ nt ∧ nt ≤ 1000) (h2 : 0 ≤ nc ∧ nc ≤ 1000) (h3 : -1000 ≤ nr ∧ nr ≤ 1000) : ExH Tryz.prog 149 [entV e, I nt, I nc, I nr] [] (RB (PlacesOk e nt nc nr)) := by
  rcases p5 e.kind with ⟨k1, k2, k3, k4, k5⟩ | ⟨k1, k2, k3, k4, k5⟩ | ⟨k1, k2, k3, k4, k5⟩ | ⟨k1, k2, k3, k4, k5⟩ | ⟨k1, k2, k3, k4, k5⟩ | ⟨k1, k2, k3, k4, k5⟩ | ⟨k1, k2, k3, k4, k5⟩
  all_goals refine callsE_of tab mixed noRel Tryz.func149 rfl (by decide) rfl rfl ?_
  all_goals conv => whnf
  all_goals
    repeat' (first | contradiction | (refine gv (by omega) (by omega) ?_; conv => whnf) | (refine ⟨by kernel_rfl, ?_⟩; conv => whnf) | (refine ⟨_, _, callsH_tt (has06_c _ _) (by assumption), ?_⟩; conv => whnf) | (refine ⟨_, _, callsH_ff (has06_c _ _) (by assumption), ?_⟩; conv => whnf) | (refine ⟨_, _, in06_c _ _ _, ?_⟩; conv => whnf) | (refine spD (fun _ => ?_) (fun _ => ?_) <;> conv => whnf) | (refine spN (fun _ => ?_) (fun _ => ?_) <;> conv => whnf) | (refine spE (fun _ => ?_) (fun _ => ?_) <;> conv => whnf) | (refine spNe (fun _ => ?_) (fun _ => ?_) <;> conv => whnf) | (refine gvu (by omega) (by omega) ?_; conv => whnf) | (refine spBn (fun _ => ?_) (fun _ => ?_) <;> conv => whnf) | (refine spG (fun _ => ?_) (fun _ => ?_) <;> conv => whnf))
  all_goals first
    | exact ⟨_, _, rb_no, [], rfl, rfl, trivial⟩
    | (refine ⟨_, _, ⟨true, rfl, rfl, fun _ => ⟨fun h => ?_, fun h => ?_, fun h => ?_, fun h => ?_, fun h => ?_⟩⟩, [], rfl, rfl, trivial⟩ <;> first | omega | (rw [h] at *; contradiction) | (simp_all; done))

set_option maxHeartbeats 4000000 in
set_option maxRecDepth 100000 in
theorem numbers_q (e : Ent) (nv : Int) (h1 : 0 ≤ nv ∧ nv ≤ 1000) : ExH Tryz.prog 150 [entV e, I nv] [] (RB (NumbersOk e nv)) := by
  rcases n6 e.kind with ⟨k1, k2, k3, k4, k5, k6⟩ | ⟨k1, k2, k3, k4, k5, k6⟩ | ⟨k1, k2, k3, k4, k5, k6⟩ | ⟨k1, k2, k3, k4, k5, k6⟩ | ⟨k1, k2, k3, k4, k5, k6⟩ | ⟨k1, k2, k3, k4, k5, k6⟩ | ⟨k1, k2, k3, k4, k5, k6⟩
  all_goals refine callsE_of tab mixed noRel Tryz.func150 rfl (by decide) rfl rfl ?_
  all_goals conv => whnf
  all_goals
    repeat' (first | contradiction | (refine gv (by omega) (by omega) ?_; conv => whnf) | (refine ⟨by kernel_rfl, ?_⟩; conv => whnf) | (refine ⟨_, _, callsH_tt (has06_c _ _) (by assumption), ?_⟩; conv => whnf) | (refine ⟨_, _, callsH_ff (has06_c _ _) (by assumption), ?_⟩; conv => whnf) | (refine ⟨_, _, in06_c _ _ _, ?_⟩; conv => whnf) | (refine spD (fun _ => ?_) (fun _ => ?_) <;> conv => whnf) | (refine spN (fun _ => ?_) (fun _ => ?_) <;> conv => whnf) | (refine spE (fun _ => ?_) (fun _ => ?_) <;> conv => whnf) | (refine spNe (fun _ => ?_) (fun _ => ?_) <;> conv => whnf) | (refine gvu (by omega) (by omega) ?_; conv => whnf) | (refine spBn (fun _ => ?_) (fun _ => ?_) <;> conv => whnf) | (refine spG (fun _ => ?_) (fun _ => ?_) <;> conv => whnf))
  all_goals first
    | exact ⟨_, _, rb_no, [], rfl, rfl, trivial⟩
    | (refine ⟨_, _, ⟨_, rfl, rfl, fun hb => ⟨fun h => ?_, fun h => ?_, fun h => ?_, fun h h' => ?_, fun h h' h'' => ?_⟩⟩, [], rfl, rfl, trivial⟩ <;> first | omega | (simp only [decide_eq_true_eq] at hb; omega) | (rw [h] at *; contradiction) | (simp_all; done) | (simp_all; omega))

theorem right_q (e : Ent) (nt nc nr nv : Int) (h1 : 0 ≤ nt ∧ nt ≤ 1000) (h2 : 0 ≤ nc ∧ nc ≤ 1000) (h3 : -1000 ≤ nr ∧ nr ≤ 1000) (h4 : 0 ≤ nv ∧ nv ≤ 1000) : ExH Tryz.prog 128 [entV e, I nt, I nc, I nr, I nv] [] (RB ((0 ≤ e.tick ∧ e.tick ≤ 1073741824) ∧ PlacesOk e nt nc nr ∧ NumbersOk e nv)) := by
  refine callsE_of tab mixed noRel Tryz.func128 rfl (by decide) rfl rfl ?_
  conv => whnf
  refine ⟨_, _, in06_c _ _ _, ?_⟩
  conv => whnf
  refine spD (fun q1 => ?_) (fun q1 => ?_) <;> conv => whnf
  · refine ⟨_, _, in06_c _ _ _, ?_⟩
    conv => whnf
    refine spD (fun q2 => ?_) (fun q2 => ?_) <;> conv => whnf
    · refine exK (places_q e nt nc nr h1 h2 h3) ?_
      rintro _ _ ⟨b, rfl, rfl, hb⟩
      conv => whnf
      cases b with
      | false =>
        refine ⟨fun h => (by cases h), fun _ => ?_⟩
        conv => whnf
        exact ⟨_, _, rb_no, [], rfl, rfl, trivial⟩
      | true =>
        refine ⟨fun _ => ?_, fun h => by cases h⟩
        conv => whnf
        refine exK (numbers_q e nv h4) ?_
        rintro _ _ ⟨b, rfl, rfl, hb'⟩
        conv => whnf
        exact ⟨_, _, ⟨b, rfl, rfl, fun h => ⟨q2, hb rfl, hb' h⟩⟩, [], rfl, rfl, trivial⟩
    · exact ⟨_, _, rb_no, [], rfl, rfl, trivial⟩
  · exact ⟨_, _, rb_no, [], rfl, rfl, trivial⟩

/-- what is known of an entry that is valid -/
structure EntOk (c : Cfg) (e : Ent) : Prop where
  tick : 0 ≤ e.tick ∧ e.tick ≤ 1073741824
  p : PlacesOk e c.tenants.length c.cells.length c.regions
  n : NumbersOk e c.versions.length

theorem minI {a b : Int} (h : a ≤ b) : (if b < a then b else a) = a := by rw [if_neg (by omega)]

theorem valid06_q (c : Cfg) (e : Ent) (h1 : c.tenants.length ≤ 32) (h2 : c.cells.length ≤ 16) (h3 : 1 ≤ c.regions ∧ c.regions ≤ 4) (h4 : c.versions.length ≤ 30) : ExH Tryz.prog 100 [cfgV c, entV e] [] (RB (EntOk c e)) := by
  have l1 := rT_len c.tenants
  have l2 := r2_len c.cells
  have l3 := r2_len c.versions
  refine callsE_of tab mixed noRel Tryz.func100 rfl (by decide) rfl rfl ?_
  conv => whnf
  rw [minI (by omega), minI (by omega), minI (by omega), minI (by omega), l1, l2, l3]
  refine exK (right_q e _ _ _ _ (by omega) (by omega) (by omega) (by omega)) ?_
  rintro _ _ ⟨b, rfl, rfl, hb⟩
  conv => whnf
  exact ⟨_, _, ⟨b, rfl, rfl, fun h => ⟨(hb h).1, (hb h).2.1, (hb h).2.2⟩⟩, [], rfl, rfl, trivial⟩

end Go.Proofs.YtncckpieemmmfaaGreat
