/- More of the layer: arguments of any plain type; later parts. -/
import Derived.Test.YtngcjkoocoangaaCplB

namespace Go.Cpl
open Go Go.ChangeShapes Go.WideShapes Go.ChangeAt Go.RowKit

/-! ### arguments of any plain type, read from the heap -/

/-- values of this type are read as data of this form -/
def Rd (P : Program) {α : Type} (t : TypeId) (f : α → List D) : Prop :=
  ∀ (H : Type) (enc : TypeId × Value → H) (w : World) (base : Nat) (spare : Nat → Bool) (held : Bool) (n : Nat) (cs : List Value) (x : DataW H × List MemPlace),
    DataW.trod enc P w base spare held n t cs = some x → ∃ a, All2 (DRep (memOf w)) (f a) cs

theorem rd_int {P : Program} {t : TypeId} (ht : P.underlying t = some (.int .i64)) : Rd P t (fun a : Int => [.int .i64 a]) := fun _ _ _ _ _ _ _ _ _ h => trod_int1 ht h

theorem rd_bool {P : Program} {t : TypeId} (ht : P.underlying t = some .bool) : Rd P t (fun a : Bool => [.bool a]) := fun _ _ _ _ _ _ _ _ _ h => by
  obtain ⟨b, rfl, _⟩ := DataW.trod_bool ht h
  exact ⟨b, .scal (.bool b) rfl, trivial⟩

theorem rd_slice {P : Program} {α : Type} {f : α → List D} {t e : TypeId} (ht : P.underlying t = some (.slice e)) {s : Nat} (hs : P.cellsOf e = s) (hs0 : 0 < s) (hf : ∀ a, (f a).length = s) (he : Rd P e f) : Rd P t (fun l : List α => [.sl (l.map f)]) :=
  fun _ _ _ _ _ _ _ _ _ h => by
    obtain ⟨l, v, rfl, hv⟩ := trod_rows f ht hs hs0 hf (fun n cs x h => he _ _ _ _ _ _ n cs x h) h
    exact ⟨l, hv, trivial⟩

def totS : List (TypeId × Nat × Nat) → Nat
  | [] => 0
  | p :: r => p.2.2 + totS r

/-- the fields from a place on -/
def RdF (P : Program) {α : Type} (L : List (TypeId × Nat × Nat)) (off : Nat) (f : α → List D) : Prop :=
  ∀ (H : Type) (enc : TypeId × Value → H) (w : World) (base : Nat) (spare : Nat → Bool) (held : Bool) (n : Nat) (cs : List Value), cs.length = off + totS L →
    (∀ p ∈ L, ∃ y, DataW.trod enc P w base spare held n p.1 ((cs.drop p.2.1).take p.2.2) = some y) → ∃ a, All2 (DRep (memOf w)) (f a) (cs.drop off)

theorem rdF_nil {P : Program} {off : Nat} : RdF P [] off (fun _ : Unit => []) := fun _ _ _ _ _ _ _ cs hl _ => by
  have : cs.drop off = [] := List.drop_eq_nil_of_le (by simp [totS] at hl; omega)
  rw [this]
  exact ⟨(), trivial⟩

theorem rdF_cons {P : Program} {α β : Type} {g : α → List D} {h : β → List D} {t : TypeId} {off s : Nat} {L : List (TypeId × Nat × Nat)} (ht : Rd P t g) (hL : RdF P L (off + s) h) : RdF P ((t, off, s) :: L) off (fun x : α × β => g x.1 ++ h x.2) :=
  fun H enc w base spare held n cs hl hp => by
    obtain ⟨y, hy⟩ := hp _ (List.mem_cons_self ..)
    obtain ⟨a, ha⟩ := ht _ _ _ _ _ _ _ _ _ hy
    obtain ⟨b, hb⟩ := hL H enc w base spare held n cs (by simp only [totS] at hl; omega) fun p hp' => hp p (List.mem_cons_of_mem _ hp')
    refine ⟨(a, b), ?_⟩
    have e : cs.drop off = (cs.drop off).take s ++ cs.drop (off + s) := by
      rw [← List.drop_drop]; exact (List.take_append_drop s _).symm
    rw [e]
    exact All2.append ha hb

theorem Rd.map {P : Program} {α β : Type} {t : TypeId} {f : α → List D} {f' : β → List D} (h : Rd P t f) (g : α → β) (hg : ∀ a, f a = f' (g a)) : Rd P t f' := fun H enc w base spare held n cs x hx => by
  obtain ⟨a, ha⟩ := h H enc w base spare held n cs x hx
  exact ⟨g a, by rw [← hg]; exact ha⟩

def stFact (P : Program) (t : TypeId) : Option (List (TypeId × Nat × Nat) × Nat) := match P.underlying t with
  | some (.struct fs) => some (fs.toList.map (fun f => (f.type, f.offset, P.cellsOf f.type)), P.cellsOf t)
  | _ => none

theorem rd_struct {P : Program} {α : Type} {f : α → List D} {t : TypeId} {L : List (TypeId × Nat × Nat)} {s : Nat} (ht : stFact P t = some (L, s)) (hs : totS L = s) (hL : RdF P L 0 f) : Rd P t f := fun H enc w base spare held n cs x h => by
  unfold stFact at ht
  split at ht
  · rename_i fs hu
    simp only [Option.some.injEq, Prod.mk.injEq] at ht
    obtain ⟨rfl, rfl⟩ := ht
    obtain ⟨xs, m, _, _, hl, hlen, hf⟩ := DataW.trod_struct hu h
    have := hL H enc w base spare held m cs (by rw [hl, hs]; omega) fun p hp => by
      obtain ⟨fl, hfl, rfl⟩ := List.mem_map.1 hp
      obtain ⟨i, hi⟩ := List.getElem?_of_mem hfl
      have hi' : fs[i]? = some fl := by simpa using hi
      have h1 := hf i fl hi'
      have h2 : i < xs.length := by rw [hlen]; exact (Array.getElem?_eq_some_iff.1 hi').1
      rw [List.getElem?_eq_getElem h2] at h1
      exact ⟨_, h1⟩
    simpa using this
  · cases ht

section
variable {H : Type} {enc : TypeId × Value → H} {P : Program} {w : World} {base : Nat} {spare : Nat → Bool} {held : Bool}

/-- a struct by value -/
theorem arg_agg {α : Type} {f : α → List D} {t : TypeId} {x : List (TypeId × Nat × Nat) × Nat} (ht : stFact P t = some x) (hr : Rd P t f) {b0 : Nat} {r : Reach} {v : Value} {d : DataW H} {ps : List MemPlace} (hval : Value.okWide P w r b0 t v) (hd : DataW.Trod enc P w base spare held t v d ps) (τ : Tau) (Hf : HF) :
    ∃ a, AVRep (memOf w) τ Hf (.agg ((f a).map .d)) v := by
  unfold stFact at ht
  split at ht
  · rename_i fs hu
    obtain ⟨cs, rfl, _⟩ := okWide_struct hu hval
    obtain ⟨fuel, h⟩ := hd
    obtain ⟨a, ha⟩ := hr _ _ _ _ _ _ _ _ _ h
    exact ⟨a, cs.toList, by simp, mapD_rep (by simpa [Value.cells] using ha)⟩
  · cases ht

/-- a slice -/
theorem arg_rows {α : Type} {f : α → List D} {t e : TypeId} (ht : P.underlying t = some (.slice e)) {s : Nat} (hs : P.cellsOf e = s) (hs0 : 0 < s) (hf : ∀ a, (f a).length = s) (he : Rd P e f) {b0 : Nat} {r : Reach} {v : Value} {d : DataW H} {ps : List MemPlace} (hval : Value.okWide P w r b0 t v) (hd : DataW.Trod enc P w base spare held t v d ps) :
    ∃ l : List α, DRep (memOf w) (.sl (l.map f)) v := by
  obtain ⟨a, len, cap, rfl⟩ := okWide_slice ht hval
  obtain ⟨fuel, h⟩ := hd
  obtain ⟨l, h1⟩ := rd_slice ht hs hs0 hf he _ _ _ _ _ _ _ _ _ h
  exact ⟨l, h1.1⟩
end
end Go.Cpl
