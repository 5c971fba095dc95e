/- A layer over the model: abstract values, a generator of verification conditions for the code, and its soundness. -/
import Derived.Orders
import Derived.Laws.Sem
import Derived.Laws.World
import Derived.Laws.AppendOwn
import Derived.Laws.CopyRow
import Derived.Laws.Entries
import Derived.Laws.MakeOwn
import Derived.Laws.StructEq
import Derived.Lib.SliceRun
import Derived.ChangeKeysEq
import Derived.MapKept
import Derived.Laws.Pointers
import Derived.ProofKit

namespace Go.Cpl
open Go

/-- Immutable pure data, one cell each. -/
inductive D where
  | int (k : IntKind) (n : Int)
  | bool (b : Bool)
  | nilp
  | nilm
  | str (s : ByteArray)
  | sl (rows : List (List D))

/-- What a cell (of a frame's value, or of an owned block) holds. -/
inductive AC where
  | d (x : D)
  | tt
  | ff
  | ns
  | ptr (id row col : Nat)
  | gs (id : Nat)
  | gv (id lo n : Nat)
  | mp (id : Nat)
  | rp (cells : List D)

inductive AV where
  | c (x : AC)
  | agg (xs : List AC)
  | tup (xs : List (AC ⊕ List AC))
  | fn (f : Nat) (caps : List AC)
  | undef
  | top

inductive HObj where
  | gone
  | box (cells : List AC)
  | arr (e : TypeId) (rows : List (List D))
  | mp (ka ea : Bool) (ents : List (List D × List D))
  | brr (e : TypeId) (rows : List (List D))

/-- objects that pointers lead to -/
def HObj.pt : HObj → Bool
  | .box _ => true
  | .arr _ _ => true
  | _ => false

abbrev Fr := List (Nat × AV)
abbrev Hp := List (Nat × HObj)

def D.scalar : D → Bool
  | .sl _ => false
  | _ => true

def D.val : D → Value
  | .int k n => .int k n
  | .bool b => .bool b
  | .nilp => .pointer none
  | .nilm => .map none
  | .str s => .string s
  | .sl _ => .tuple #[]

abbrev Mem := Nat → Option Obj

inductive DRep (M : Mem) : D → Value → Prop
  | scal (x : D) (h : x.scalar = true) : DRep M x x.val
  | sl0 (a : Option Addr) (cap : Nat) : DRep M (.sl []) (.slice a 0 cap)
  | sl (rows : List (List D)) (b off cap : Nat) (cs : Array Value) (e : TypeId) (fz : Nat × Nat) (s : Nat) (vs : Nat → Nat → Value)
      (hM : M b = some (.cells cs e fz)) (hcap : rows.length ≤ cap) (hs : ∀ r ∈ rows, r.length = s)
      (hc : ∀ (i j : Nat) (r : List D) (x : D), rows[i]? = some r → r[j]? = some x → cs[off + i * s + j]? = some (vs i j))
      (hd : ∀ (i j : Nat) (r : List D) (x : D), rows[i]? = some r → r[j]? = some x → DRep M x (vs i j)) :
      DRep M (.sl rows) (.slice (some ⟨b, off, none⟩) rows.length cap)

theorem DRep.mono {M M' : Mem} (h : ∀ b o, M b = some o → M' b = some o) {x : D} {v : Value} (hx : DRep M x v) : DRep M' x v := by
  induction hx with
  | scal x h => exact .scal x h
  | sl0 a cap => exact .sl0 a cap
  | sl rows b off cap cs e fz s vs hM hcap hs hc _ ih => exact .sl rows b off cap cs e fz s vs (h _ _ hM) hcap hs hc ih

def All2 {α β : Type} (R : α → β → Prop) : List α → List β → Prop
  | [], [] => True
  | x :: xs, y :: ys => R x y ∧ All2 R xs ys
  | _, _ => False

theorem All2.mono {α β : Type} {R R' : α → β → Prop} : ∀ {xs : List α} {ys : List β}, (∀ x ∈ xs, ∀ y, R x y → R' x y) → All2 R xs ys → All2 R' xs ys
  | [], [], _, _ => trivial
  | x :: _, y :: _, h, ⟨h1, h2⟩ => ⟨h x (by simp) y h1, All2.mono (fun x hx => h x (by simp [hx])) h2⟩
  | [], _ :: _, _, h => h.elim
  | _ :: _, [], _, h => h.elim

theorem All2.length {α β : Type} {R : α → β → Prop} : ∀ {xs : List α} {ys : List β}, All2 R xs ys → xs.length = ys.length
  | [], [], _ => rfl
  | _ :: _, _ :: _, ⟨_, h⟩ => by simp [All2.length h]
  | [], _ :: _, h => h.elim
  | _ :: _, [], h => h.elim

theorem All2.get {α β : Type} {R : α → β → Prop} : ∀ {xs : List α} {ys : List β} {i : Nat} {x : α}, All2 R xs ys → xs[i]? = some x → ∃ y, ys[i]? = some y ∧ R x y
  | [], _, _, _, _, h => by simp at h
  | x :: _, y :: _, 0, _, ⟨h1, _⟩, h => ⟨y, by simp, by simp at h; exact h ▸ h1⟩
  | _ :: xs, _ :: ys, i + 1, x', ⟨_, h2⟩, h => by
    obtain ⟨y, hy, hr⟩ := All2.get (i := i) h2 (by simpa using h)
    exact ⟨y, by simpa using hy, hr⟩
  | _ :: _, [], _, _, h, _ => h.elim

theorem All2.set {α β : Type} {R : α → β → Prop} : ∀ {xs : List α} {ys : List β} {i : Nat} {x : α} {y : β}, All2 R xs ys → R x y → All2 R (xs.set i x) (ys.set i y)
  | [], [], _, _, _, _, _ => by simp [All2]
  | _ :: _, _ :: _, 0, _, _, ⟨_, h2⟩, h => ⟨h, h2⟩
  | _ :: _, _ :: _, _ + 1, _, _, ⟨h1, h2⟩, h => ⟨h1, All2.set h2 h⟩
  | [], _ :: _, _, _, _, h, _ => h.elim
  | _ :: _, [], _, _, _, h, _ => h.elim

theorem All2.append {α β : Type} {R : α → β → Prop} : ∀ {xs : List α} {ys : List β} {xs' : List α} {ys' : List β}, All2 R xs ys → All2 R xs' ys' → All2 R (xs ++ xs') (ys ++ ys')
  | [], [], _, _, _, h => h
  | _ :: _, _ :: _, _, _, ⟨h1, h2⟩, h => ⟨h1, All2.append h2 h⟩
  | [], _ :: _, _, _, h, _ => h.elim
  | _ :: _, [], _, _, h, _ => h.elim

theorem All2.drop {α β : Type} {R : α → β → Prop} : ∀ {xs : List α} {ys : List β} (n : Nat), All2 R xs ys → All2 R (xs.drop n) (ys.drop n)
  | _, _, 0, h => by simpa using h
  | [], [], _ + 1, _ => by simp [All2]
  | _ :: _, _ :: _, n + 1, ⟨_, h2⟩ => by simpa using All2.drop n h2
  | [], _ :: _, _, h => h.elim
  | _ :: _, [], _, h => h.elim

theorem All2.take {α β : Type} {R : α → β → Prop} : ∀ {xs : List α} {ys : List β} (n : Nat), All2 R xs ys → All2 R (xs.take n) (ys.take n)
  | _, _, 0, _ => by simp [All2]
  | [], [], _ + 1, _ => by simp [All2]
  | _ :: _, _ :: _, n + 1, ⟨h1, h2⟩ => by simpa using ⟨h1, All2.take n h2⟩
  | [], _ :: _, _, h => h.elim
  | _ :: _, [], _, h => h.elim

/-- Where an owned object lies. -/
structure Loc where
  b : Nat
  cap : Nat
  s : Nat
  nil : Bool

abbrev Tau := Nat → Loc
abbrev HF := Nat → HObj

/-- a view of an owned slice, from row lo on -/
def Loc.view (l : Loc) (lo n : Nat) (v : Value) : Prop :=
  (l.nil = true ∧ n = 0 ∧ v = .slice none 0 0) ∨ (l.nil = false ∧ ∃ ad : Addr, v = .slice (some ad) n (l.cap - lo) ∧ (lo < l.cap ∨ lo = 0 → ad = ⟨l.b, lo * l.s, none⟩))

def Loc.slice (l : Loc) (n : Nat) : Value := if l.nil then .slice none 0 0 else .slice (some ⟨l.b, 0, none⟩) n l.cap

def ACRep (M : Mem) (τ : Tau) (H : HF) : AC → Value → Prop
  | .d x, v => DRep M x v
  | .tt, v => v = .bool true
  | .ff, v => v = .bool false
  | .ns, v => v = .slice none 0 0
  | .ptr id row col, v => match H id with
    | .box _ => row = 0 ∧ v = .pointer (some ⟨(τ id).b, col, none⟩)
    | .arr _ _ => v = .pointer (some ⟨(τ id).b, row * (τ id).s + col, none⟩)
    | _ => v.oneCell' = true
  | .gs id, v => match H id with
    | .arr _ rows => v = (τ id).slice rows.length
    | .brr _ rows => v = (τ id).slice rows.length
    | _ => v.oneCell' = true
  | .gv id lo n, v => match H id with
    | .arr _ rows => lo + n ≤ rows.length ∧ (τ id).view lo n v
    | _ => v.oneCell' = true
  | .mp id, v => match H id with
    | .mp _ _ _ => v = .map (some (τ id).b)
    | _ => v.oneCell' = true
  | .rp cells, v => ∃ (b off : Nat) (cs : Array Value) (e : TypeId) (fz : Nat × Nat) (vs : Nat → Value), v = .pointer (some ⟨b, off, none⟩) ∧
      M b = some (.cells cs e fz) ∧ ∀ (j : Nat) (x : D), cells[j]? = some x → cs[off + j]? = some (vs j) ∧ DRep M x (vs j)

def TupRep (M : Mem) (τ : Tau) (H : HF) : AC ⊕ List AC → Value → Prop
  | .inl x, v => ACRep M τ H x v
  | .inr xs, v => ∃ us : List Value, v = .agg us.toArray ∧ All2 (ACRep M τ H) xs us

def AVRep (M : Mem) (τ : Tau) (H : HF) : AV → Value → Prop
  | .c x, v => ACRep M τ H x v
  | .agg xs, v => ∃ us : List Value, v = .agg us.toArray ∧ All2 (ACRep M τ H) xs us
  | .tup xs, v => ∃ us : List Value, v = .tuple us.toArray ∧ All2 (TupRep M τ H) xs us
  | .fn f caps, v => ∃ us : List Value, v = .func (.func f) #[] us.toArray ∧ All2 (ACRep M τ H) caps us
  | .undef, v => v = Go.undef
  | .top, _ => True

def AC.ids : AC → List Nat
  | .ptr id _ _ => [id]
  | .gs id => [id]
  | .gv id _ _ => [id]
  | .mp id => [id]
  | _ => []

def idsOf : List AC → List Nat
  | [] => []
  | x :: r => x.ids ++ idsOf r

def tupIds : List (AC ⊕ List AC) → List Nat
  | [] => []
  | .inl x :: r => x.ids ++ tupIds r
  | .inr xs :: r => idsOf xs ++ tupIds r

def AV.ids : AV → List Nat
  | .c x => x.ids
  | .agg xs => idsOf xs
  | .tup xs => tupIds xs
  | .fn _ caps => idsOf caps
  | _ => []

def HObj.ids : HObj → List Nat
  | .box cells => idsOf cells
  | _ => []

theorem mem_idsOf {x : AC} {xs : List AC} (h : x ∈ xs) {i : Nat} (hi : i ∈ x.ids) : i ∈ idsOf xs := by
  induction xs with
  | nil => cases h
  | cons y r ih =>
    simp only [idsOf, List.mem_append]
    cases h with
    | head => exact .inl hi
    | tail _ h => exact .inr (ih h)

/-- what was known of a pointer to, a slice of, this object stays known -/
def KeepId (M : Mem) (τ : Tau) (H : HF) (M' : Mem) (τ' : Tau) (H' : HF) (id : Nat) : Prop :=
  ∀ (x : AC) (v : Value), x.ids = [id] → ACRep M τ H x v → ACRep M' τ' H' x v

theorem DRep.one {M : Mem} {x : D} {v : Value} (h : DRep M x v) : v.oneCell' = true := by
  cases h with
  | scal _ hs => cases x <;> first | rfl | simp [D.scalar] at hs
  | sl0 a cap => rfl
  | sl => rfl

theorem ACRep.one {M : Mem} {τ : Tau} {H : HF} {x : AC} {v : Value} (h : ACRep M τ H x v) : v.oneCell' = true := by
  cases x with
  | d x => exact DRep.one h
  | tt => simp only [ACRep] at h; rw [h]; rfl
  | ff => simp only [ACRep] at h; rw [h]; rfl
  | ns => simp only [ACRep] at h; rw [h]; rfl
  | ptr id row col =>
    simp only [ACRep] at h
    split at h
    · rw [h.2]; rfl
    · rw [h]; rfl
    · exact h
  | gs id =>
    simp only [ACRep] at h
    split at h
    · rw [h]; unfold Loc.slice; split <;> rfl
    · rw [h]; unfold Loc.slice; split <;> rfl
    · exact h
  | gv id lo n =>
    simp only [ACRep] at h
    split at h
    · obtain ⟨_, ⟨_, _, rfl⟩ | ⟨_, _, rfl, _⟩⟩ := h <;> rfl
    · exact h
  | mp id =>
    simp only [ACRep] at h
    split at h
    · rw [h]; rfl
    · exact h
  | rp cells => obtain ⟨_, _, _, _, _, _, rfl, _⟩ := h; rfl

section keep
variable {M : Mem} {τ : Tau} {H : HF} {M' : Mem} {τ' : Tau} {H' : HF}

theorem ACRep.keep (hM : ∀ b o, M b = some o → M' b = some o) {x : AC} {v : Value} (hk : ∀ id ∈ x.ids, KeepId M τ H M' τ' H' id) (h : ACRep M τ H x v) : ACRep M' τ' H' x v := by
  cases x with
  | d x => exact DRep.mono hM h
  | tt => exact h
  | ff => exact h
  | ns => exact h
  | ptr id row col => exact hk id (by simp [AC.ids]) _ _ rfl h
  | gs id => exact hk id (by simp [AC.ids]) _ _ rfl h
  | gv id lo n => exact hk id (by simp [AC.ids]) _ _ rfl h
  | mp id => exact hk id (by simp [AC.ids]) _ _ rfl h
  | rp cells =>
    obtain ⟨b, off, cs, e, fz, vs, rfl, h1, h2⟩ := h
    exact ⟨b, off, cs, e, fz, vs, rfl, hM _ _ h1, fun j x hj => ⟨(h2 j x hj).1, DRep.mono hM (h2 j x hj).2⟩⟩

theorem cells_keep (hM : ∀ b o, M b = some o → M' b = some o) {xs : List AC} {us : List Value} (hk : ∀ id ∈ idsOf xs, KeepId M τ H M' τ' H' id)
    (h : All2 (ACRep M τ H) xs us) : All2 (ACRep M' τ' H') xs us :=
  All2.mono (fun _ hx _ hr => ACRep.keep hM (fun id hi => hk id (mem_idsOf hx hi)) hr) h

theorem tups_keep (hM : ∀ b o, M b = some o → M' b = some o) : ∀ {xs : List (AC ⊕ List AC)} {us : List Value}, (∀ id ∈ tupIds xs, KeepId M τ H M' τ' H' id) →
    All2 (TupRep M τ H) xs us → All2 (TupRep M' τ' H') xs us
  | [], [], _, _ => trivial
  | .inl x :: _, _ :: _, hk, ⟨h1, h2⟩ => ⟨ACRep.keep hM (fun id hi => hk id (by simp [tupIds, hi])) h1, tups_keep hM (fun id hi => hk id (by simp [tupIds, hi])) h2⟩
  | .inr xs :: _, _ :: _, hk, ⟨⟨us, h0, h1⟩, h2⟩ => ⟨⟨us, h0, cells_keep hM (fun id hi => hk id (by simp [tupIds, hi])) h1⟩, tups_keep hM (fun id hi => hk id (by simp [tupIds, hi])) h2⟩
  | [], _ :: _, _, h => h.elim
  | _ :: _, [], _, h => by cases h

theorem AVRep.keep (hM : ∀ b o, M b = some o → M' b = some o) {x : AV} {v : Value} (hk : ∀ id ∈ x.ids, KeepId M τ H M' τ' H' id) (h : AVRep M τ H x v) : AVRep M' τ' H' x v := by
  cases x with
  | c x => exact ACRep.keep hM hk h
  | agg xs => obtain ⟨us, rfl, h⟩ := h; exact ⟨us, rfl, cells_keep hM hk h⟩
  | tup xs => obtain ⟨us, rfl, h⟩ := h; exact ⟨us, rfl, tups_keep hM hk h⟩
  | fn f caps => obtain ⟨us, rfl, h⟩ := h; exact ⟨us, rfl, cells_keep hM hk h⟩
  | undef => exact h
  | top => trivial
end keep

def flat (rows : List (List D)) : List Value := rows.flatten.map D.val

/-- the cells of the rows -/
structure RowsRep (M : Mem) (s : Nat) (rows : List (List D)) (vs : List Value) : Prop where
  len : ∀ r ∈ rows, r.length = s
  rep : All2 (DRep M) rows.flatten vs

/-- plain data as one value -/
def packV (ag : Bool) (ds : List D) : Value := if ag then .agg (ds.map D.val).toArray else (ds.map D.val).headD Go.undef

def ObjRep (P : Program) (M : Mem) (τ : Tau) (H : HF) (w : World) (id : Nat) : HObj → Prop
  | .gone => True
  | .box cells => ∃ (us : List Value) (e : TypeId), w.heap[(τ id).b]? = some (.cells us.toArray e (0, 0)) ∧ All2 (ACRep M τ H) cells us
  | .arr e rows => (τ id).s = P.cellsOf e ∧ (∀ r ∈ rows, r.length = (τ id).s ∧ ∀ x ∈ r, x.scalar = true) ∧
      w.ownsRow 0 e (τ id).s ((τ id).slice rows.length) rows.length (flat rows)
  | .brr e rows => (τ id).s = P.cellsOf e ∧ ∃ vs : List Value, RowsRep M (τ id).s rows vs ∧
      w.ownsRow 0 e (τ id).s ((τ id).slice rows.length) rows.length vs
  | .mp ka ea ents => ∃ (es : Array MapEntry) (clock : Nat), w.heap[(τ id).b]? = some (.map es clock) ∧
      All2 (fun (p : List D × List D) (x : MapEntry) => x.key = packV ka p.1 ∧ x.val = packV ea p.2 ∧ (∀ d ∈ p.1, d.scalar = true) ∧ ∀ d ∈ p.2, d.scalar = true) ents es.toList

def blkOf (τ : Tau) (H : HF) (id : Nat) : Option Nat :=
  match H id with
  | .box _ => some (τ id).b
  | .arr _ _ => if (τ id).nil then none else some (τ id).b
  | .brr _ _ => if (τ id).nil then none else some (τ id).b
  | .mp _ _ _ => some (τ id).b
  | _ => none

structure Inv (P : Program) (M : Mem) (τ : Tau) (H : HF) (w : World) : Prop where
  mem : ∀ b o, M b = some o → w.heap[b]? = some o
  obj : ∀ id, ObjRep P M τ H w id (H id)
  dis : ∀ id b, blkOf τ H id = some b → M b = none
  inj : ∀ i j b, blkOf τ H i = some b → blkOf τ H j = some b → i = j

/-- what is written out stays as it is, and no draw is taken back -/
def OutD (w w' : World) : Prop := w'.output = w.output ∧ w.drawn ≤ w'.drawn
theorem OutD.refl (w : World) : OutD w w := ⟨rfl, Nat.le_refl _⟩
theorem OutD.trans {a b c : World} (k : OutD b c) (h : OutD a b) : OutD a c := ⟨k.1.trans h.1, Nat.le_trans h.2 k.2⟩

/-- One step of the world, seen from what is tracked: 'new' are the objects that it makes. -/
structure Nx (P : Program) (M : Mem) (τ : Tau) (H : HF) (w : World) (H' : HF) (M' : Mem) (τ' : Tau) (w' : World) (new : List Nat) : Prop where
  inv : Inv P M' τ' H' w'
  mm : ∀ b o, M b = some o → M' b = some o
  mb : ∀ b o, M' b = some o → M b = some o ∨ w.heap.size ≤ b ∨ ∃ id, blkOf τ H id = some b
  keep : ∀ id, id ∉ new → KeepId M τ H M' τ' H' id
  own : ∀ id b, blkOf τ' H' id = some b → w.heap.size ≤ b ∨ ∃ id', blkOf τ H id' = some b
  frame : ∀ b, b < w.heap.size → (∀ id, blkOf τ H id ≠ some b) → w'.heap[b]? = w.heap[b]?
  size : w.heap.size ≤ w'.heap.size
  os : w'.os = w.os
  tape : w'.tape = w.tape
  output : OutD w w'

theorem KeepId.refl {M : Mem} {τ : Tau} {H : HF} {M' : Mem} {τ' : Tau} {H' : HF} {id : Nat} (hH : H' id = H id) (hτ : τ' id = τ id) : KeepId M τ H M' τ' H' id := by
  intro x v hx h
  cases x <;> simp only [AC.ids, List.cons.injEq, and_true, reduceCtorEq] at hx
  all_goals subst hx
  all_goals simp only [ACRep, hH, hτ] at *; exact h

/-- of an object that is gone nothing is known -/
theorem KeepId.gone {M : Mem} {τ : Tau} {H : HF} {M' : Mem} {τ' : Tau} {H' : HF} {id : Nat} (hH : H' id = .gone) : KeepId M τ H M' τ' H' id := by
  intro x v hx h
  have h1 := ACRep.one h
  cases x <;> simp only [AC.ids, List.cons.injEq, and_true, reduceCtorEq] at hx
  all_goals subst hx
  all_goals simpa only [ACRep, hH] using h1

/-- a box stays a box -/
theorem KeepId.box {M : Mem} {τ : Tau} {H : HF} {M' : Mem} {H' : HF} {id : Nat} {a b : List AC} (hH : H id = .box a) (hH' : H' id = .box b) : KeepId M τ H M' τ H' id := by
  intro x v hx h
  cases x <;> simp only [AC.ids, List.cons.injEq, and_true, reduceCtorEq] at hx
  all_goals subst hx
  all_goals simpa only [ACRep, hH, hH'] using h

/-- rows stay as many -/
theorem KeepId.arr {M : Mem} {τ : Tau} {H : HF} {M' : Mem} {H' : HF} {id : Nat} {e e' : TypeId} {a b : List (List D)} (hH : H id = .arr e a) (hH' : H' id = .arr e' b) (hl : b.length = a.length) : KeepId M τ H M' τ H' id := by
  intro x v hx h
  cases x <;> simp only [AC.ids, List.cons.injEq, and_true, reduceCtorEq] at hx
  all_goals subst hx
  all_goals simpa only [ACRep, hH, hH', hl] using h

/-- a map stays a map -/
theorem KeepId.mp {M : Mem} {τ : Tau} {H : HF} {M' : Mem} {H' : HF} {id : Nat} {ka ea ka' ea' : Bool} {a b : List (List D × List D)} (hH : H id = .mp ka ea a) (hH' : H' id = .mp ka' ea' b) : KeepId M τ H M' τ H' id := by
  intro x v hx h
  cases x <;> simp only [AC.ids, List.cons.injEq, and_true, reduceCtorEq] at hx
  all_goals subst hx
  all_goals simpa only [ACRep, hH, hH'] using h

theorem blkOf_congr {τ τ' : Tau} {H H' : HF} {id : Nat} (hH : H' id = H id) (hτ : τ' id = τ id) : blkOf τ' H' id = blkOf τ H id := by
  simp [blkOf, hH, hτ]

theorem owns_block {w : World} {e : TypeId} {l : Loc} {n : Nat} {xs : List Value} {sz : Nat} (h : w.ownsRow 0 e sz (l.slice n) n xs) (hn : l.nil = false) :
    ∃ cur, w.heap[l.b]? = some (.cells cur e (0, 0)) ∧ n ≤ l.cap ∧ l.cap ≤ maxLen ∧ cur.size = l.cap * sz ∧ cur.toList.take (n * sz) = xs := by
  obtain ⟨_, h | ⟨g, cap, cur, h1, _, h2, h3, h4, h5, h6⟩⟩ := h
  · simp [Loc.slice, hn] at h
  · simp [Loc.slice, hn] at h1
    obtain ⟨rfl, rfl⟩ := h1
    exact ⟨cur, h2, h3, h4, h5, h6⟩

theorem owns_of_block {w : World} {e : TypeId} {l : Loc} {n : Nat} {xs : List Value} {sz : Nat} (hn : l.nil = false) (hl : xs.length = n * sz) {cur : Array Value} (h2 : w.heap[l.b]? = some (.cells cur e (0, 0)))
    (h3 : n ≤ l.cap) (h4 : l.cap ≤ maxLen) (h5 : cur.size = l.cap * sz) (h6 : cur.toList.take (n * sz) = xs) : w.ownsRow 0 e sz (l.slice n) n xs :=
  ⟨hl, .inr ⟨l.b, l.cap, cur, by simp [Loc.slice, hn], Nat.zero_le _, h2, h3, h4, h5, h6⟩⟩

theorem owns_nil {w : World} {e : TypeId} {l : Loc} {n : Nat} {xs : List Value} {sz : Nat} (h : w.ownsRow 0 e sz (l.slice n) n xs) (hn : l.nil = true) : n = 0 ∧ xs = [] := by
  obtain ⟨h0, h | ⟨g, cap, cur, h1, _⟩⟩ := h
  · refine ⟨h.2, ?_⟩
    rw [h.2] at h0
    exact List.length_eq_zero_iff.1 (by simpa using h0)
  · simp [Loc.slice, hn] at h1

theorem blk_lt {P : Program} {M : Mem} {τ : Tau} {H : HF} {w : World} (h : Inv P M τ H w) {id b : Nat} (hb : blkOf τ H id = some b) : b < w.heap.size := by
  have ho := h.obj id
  unfold blkOf at hb
  generalize H id = o at *
  cases o with
  | gone => simp at hb
  | box cells =>
    obtain ⟨us, e, hc, _⟩ := ho
    simp at hb; subst hb
    exact (Array.getElem?_eq_some_iff.1 hc).1
  | arr s rows =>
    by_cases hn : (τ id).nil = true
    · simp [hn] at hb
    · simp [hn] at hb; subst hb
      obtain ⟨_, _, h4⟩ := ho
      obtain ⟨cur, hc, _⟩ := owns_block h4 (by simpa using hn)
      exact (Array.getElem?_eq_some_iff.1 hc).1
  | brr s rows =>
    by_cases hn : (τ id).nil = true
    · simp [hn] at hb
    · simp [hn] at hb; subst hb
      obtain ⟨_, _, _, h4⟩ := ho
      obtain ⟨cur, hc, _⟩ := owns_block h4 (by simpa using hn)
      exact (Array.getElem?_eq_some_iff.1 hc).1
  | mp ka ea ents =>
    obtain ⟨es, clock, hc, _⟩ := ho
    simp at hb; subst hb
    exact (Array.getElem?_eq_some_iff.1 hc).1

theorem mem_lt {P : Program} {M : Mem} {τ : Tau} {H : HF} {w : World} (h : Inv P M τ H w) {b : Nat} {o : Obj} (hb : M b = some o) : b < w.heap.size :=
  (Array.getElem?_eq_some_iff.1 (h.mem b o hb)).1

end Go.Cpl

namespace Go.Cpl
open Go

abbrev Fp := List (Nat × HObj)

def updH (H : HF) : Fp → HF
  | [], j => H j
  | (i, o) :: r, j => if i = j then o else updH H r j

def updF {α : Type} (f : Nat → α) (i : Nat) (x : α) : Nat → α := fun j => if i = j then x else f j

def FreshH (H : HF) (id : Nat) : Prop := H id = .gone ∧ ∀ j, id ∉ (H j).ids

theorem RowsRep.mono {M M' : Mem} (hM : ∀ b o, M b = some o → M' b = some o) {s : Nat} {rows : List (List D)} {vs : List Value} (h : RowsRep M s rows vs) : RowsRep M' s rows vs :=
  ⟨h.len, All2.mono (fun _ _ _ hr => DRep.mono hM hr) h.rep⟩

theorem ObjRep.keep {P : Program} {M : Mem} {τ : Tau} {H : HF} {w : World} {M' : Mem} {τ' : Tau} {H' : HF} {w' : World} {id : Nat} {o : HObj}
    (h : ObjRep P M τ H w id o) (hM : ∀ b o, M b = some o → M' b = some o) (hτ : τ' id = τ id) (hw0 : ∀ b, blkOf τ H id = some b → w'.heap[b]? = w.heap[b]?) (hH : H id = o)
    (hk : ∀ i ∈ o.ids, KeepId M τ H M' τ' H' i) : ObjRep P M' τ' H' w' id o := by
  cases o with
  | gone => trivial
  | box cells =>
    obtain ⟨us, e, h1, h2⟩ := h
    refine ⟨us, e, ?_, cells_keep hM hk h2⟩
    rw [hτ, hw0 _ (by simp [blkOf, hH])]
    exact h1
  | arr s rows =>
    obtain ⟨h1, h2, h4⟩ := h
    refine ⟨by rw [hτ]; exact h1, by rw [hτ]; exact h2, ?_⟩
    rw [hτ]
    cases hn : (τ id).nil with
    | true =>
      obtain ⟨e1, e2⟩ := owns_nil h4 hn
      exact ⟨h4.1, .inl ⟨by simp [Loc.slice, hn], e1⟩⟩
    | false =>
      obtain ⟨cur, a1, a2, a3, a4, a5⟩ := owns_block h4 hn
      exact owns_of_block hn h4.1 (by rw [hw0 _ (by simp [blkOf, hH, hn])]; exact a1) a2 a3 a4 a5
  | brr s rows =>
    obtain ⟨h1, vs, h2, h4⟩ := h
    refine ⟨by rw [hτ]; exact h1, vs, by rw [hτ]; exact h2.mono hM, ?_⟩
    rw [hτ]
    cases hn : (τ id).nil with
    | true =>
      obtain ⟨e1, e2⟩ := owns_nil h4 hn
      exact ⟨h4.1, .inl ⟨by simp [Loc.slice, hn], e1⟩⟩
    | false =>
      obtain ⟨cur, a1, a2, a3, a4, a5⟩ := owns_block h4 hn
      exact owns_of_block hn h4.1 (by rw [hw0 _ (by simp [blkOf, hH, hn])]; exact a1) a2 a3 a4 a5
  | mp ka ea ents =>
    obtain ⟨es, clock, h1, h2⟩ := h
    refine ⟨es, clock, ?_, h2⟩
    rw [hτ, hw0 _ (by simp [blkOf, hH])]
    exact h1

/-- the world but for some blocks -/
structure WSame (w w' : World) (bs : Nat → Prop) : Prop where
  os : w'.os = w.os
  tape : w'.tape = w.tape
  output : OutD w w'
  size : w.heap.size ≤ w'.heap.size
  block : ∀ b, b < w.heap.size → ¬ bs b → w'.heap[b]? = w.heap[b]?

theorem WSame.refl (w : World) (bs : Nat → Prop) : WSame w w bs := ⟨rfl, rfl, .refl _, Nat.le_refl _, fun _ _ _ => rfl⟩
theorem WSame.trans {a b c : World} {bs : Nat → Prop} (h : WSame a b bs) (k : WSame b c bs) : WSame a c bs :=
  ⟨k.os.trans h.os, k.tape.trans h.tape, k.output.trans h.output, Nat.le_trans h.size k.size, fun i hi hn => (k.block i (Nat.lt_of_lt_of_le hi h.size) hn).trans (h.block i hi hn)⟩
theorem WSame.drew (w : World) (bs : Nat → Prop) : WSame w w.drew bs := ⟨rfl, rfl, ⟨rfl, Nat.le_succ _⟩, Nat.le_refl _, fun _ _ _ => rfl⟩
theorem WSame.alloc (w : World) (o : Obj) (bs : Nat → Prop) : WSame w (w.alloc o) bs :=
  ⟨rfl, rfl, ⟨rfl, Nat.le_refl _⟩, by show _ ≤ (w.heap.push o).size; simp, fun b hb _ => by show (w.heap.push o)[b]? = _; rw [Array.getElem?_push, if_neg (by omega)]⟩

theorem alloc_new (w : World) (o : Obj) : (w.alloc o).heap[w.heap.size]? = some o := by
  show (w.heap.push o)[_]? = _
  simp

section
variable {P : Program} {M : Mem} {τ : Tau} {H : HF} {w : World}

/-- nothing tracked has turned -/
theorem Nx.still {w' : World} (h : Inv P M τ H w) (hs : WSame w w' fun _ => False) : Nx P M τ H w H M τ w' [] where
  inv := ⟨fun b o hb => by rw [hs.block b (mem_lt h hb) (fun h => h)]; exact h.mem b o hb,
    fun id => ObjRep.keep (h.obj id) (fun _ _ h => h) rfl (fun b hb => hs.block b (blk_lt h hb) (fun h => h)) rfl (fun i _ => KeepId.refl rfl rfl), h.dis, h.inj⟩
  mm := fun _ _ h => h
  mb := fun _ _ h => .inl h
  keep := fun _ _ => KeepId.refl rfl rfl
  own := fun id b hb => .inr ⟨id, hb⟩
  frame := fun b hb _ => hs.block b hb (fun h => h)
  size := hs.size
  os := hs.os
  tape := hs.tape
  output := hs.output

theorem Nx.trans {M1 : Mem} {τ1 : Tau} {H1 : HF} {w1 : World} {M2 : Mem} {τ2 : Tau} {H2 : HF} {w2 : World} {n1 n2 : List Nat}
    (h1 : Nx P M τ H w H1 M1 τ1 w1 n1) (h2 : Nx P M1 τ1 H1 w1 H2 M2 τ2 w2 n2) : Nx P M τ H w H2 M2 τ2 w2 (n1 ++ n2) where
  inv := h2.inv
  mm := fun b o h => h2.mm _ _ (h1.mm _ _ h)
  mb := fun b o h => by
    rcases h2.mb b o h with h | h | ⟨id, h⟩
    · exact h1.mb b o h
    · exact .inr (.inl (Nat.le_trans h1.size h))
    · exact .inr (h1.own id b h)
  keep := fun id hid => by
    simp only [List.mem_append, not_or] at hid
    have a := h1.keep id hid.1
    have b := h2.keep id hid.2
    exact fun x v hx h => b x v hx (a x v hx h)
  own := fun id b h => by
    rcases h2.own id b h with h | ⟨id', h⟩
    · exact .inl (Nat.le_trans h1.size h)
    · exact h1.own id' b h
  frame := fun b hb hn => by
    rw [h2.frame b (Nat.lt_of_lt_of_le hb h1.size) (fun id he => ?_), h1.frame b hb hn]
    rcases h1.own id b he with h | ⟨id', h⟩
    · omega
    · exact hn id' h
  size := Nat.le_trans h1.size h2.size
  os := h2.os.trans h1.os
  tape := h2.tape.trans h1.tape
  output := h2.output.trans h1.output

/-- a new object: its block is new (or it has none) -/
theorem Nx.push {w' : World} (h : Inv P M τ H w) {id : Nat} (hf : FreshH H id) (ob : HObj) (l : Loc) (hs : WSame w w' fun _ => False)
    (hl : blkOf (updF τ id l) (updF H id ob) id = none ∨ w.heap.size ≤ l.b)
    (hobj : ObjRep P M (updF τ id l) (updF H id ob) w' id ob) :
    Nx P M τ H w (updF H id ob) M (updF τ id l) w' [id] := by
  have hkeep : ∀ j, j ≠ id → KeepId M τ H M (updF τ id l) (updF H id ob) j := fun j hj =>
    KeepId.refl (by simp [updF, Ne.symm hj]) (by simp [updF, Ne.symm hj])
  have hblk : ∀ j, j ≠ id → blkOf (updF τ id l) (updF H id ob) j = blkOf τ H j := fun j hj =>
    blkOf_congr (by simp [updF, Ne.symm hj]) (by simp [updF, Ne.symm hj])
  have hown : ∀ b, blkOf (updF τ id l) (updF H id ob) id = some b → w.heap.size ≤ b := by
    intro b hb
    rcases hl with hl | hl
    · rw [hl] at hb; cases hb
    · simp only [blkOf, updF, if_true] at hb
      cases ob <;> simp at hb <;> omega
  refine ⟨⟨fun b o' hb => by rw [hs.block b (mem_lt h hb) (fun h => h)]; exact h.mem b o' hb, fun j => ?_, fun j b hb => ?_, fun i j b hi hj => ?_⟩, fun _ _ h => h, fun _ _ h => .inl h,
    fun j hj => hkeep j (by simpa using hj), fun j b hb => ?_, fun b hb _ => hs.block b hb (fun h => h), hs.size, hs.os, hs.tape, hs.output⟩
  · by_cases hj : j = id
    · subst hj; simp only [updF, if_true]; exact hobj
    · have hHj : updF H id ob j = H j := by simp [updF, Ne.symm hj]
      rw [hHj]
      refine ObjRep.keep (h.obj j) (fun _ _ h => h) (by simp [updF, Ne.symm hj]) (fun b hb => hs.block b (blk_lt h hb) (fun h => h)) rfl (fun i hi => hkeep i (fun he => ?_))
      subst he; exact hf.2 j hi
  · by_cases hj : j = id
    · subst hj
      have := hown b hb
      cases hm : M b with
      | none => rfl
      | some o' => exact absurd (mem_lt h hm) (by omega)
    · rw [hblk j hj] at hb; exact h.dis j b hb
  · by_cases hi' : i = id <;> by_cases hj' : j = id
    · rw [hi', hj']
    · subst hi'
      have := hown b hi
      rw [hblk j hj'] at hj
      have := blk_lt h hj
      omega
    · subst hj'
      have := hown b hj
      rw [hblk i hi'] at hi
      have := blk_lt h hi
      omega
    · rw [hblk i hi'] at hi; rw [hblk j hj'] at hj; exact h.inj i j b hi hj
  · by_cases hj : j = id
    · subst hj; exact .inl (hown b hb)
    · rw [hblk j hj] at hb; exact .inr ⟨j, hb⟩

/-- a new box -/
theorem Nx.newBox {w' : World} (h : Inv P M τ H w) {id : Nat} (hf : FreshH H id) (cells : List AC) (us : List Value) (e : TypeId) (hs : WSame w w' fun _ => False)
    (hids : id ∉ idsOf cells) {n : Nat} (hn : w.heap.size ≤ n) (hb : w'.heap[n]? = some (.cells us.toArray e (0, 0))) (hc : All2 (ACRep M τ H) cells us) :
    Nx P M τ H w (updF H id (.box cells)) M (updF τ id ⟨n, 0, 0, false⟩) w' [id] := by
  refine Nx.push h hf (.box cells) ⟨n, 0, 0, false⟩ hs (.inr hn) ⟨us, e, by simpa [updF] using hb, ?_⟩
  refine cells_keep (fun _ _ h => h) (fun i hi => ?_) hc
  have hj : i ≠ id := fun he => by subst he; exact hids hi
  exact KeepId.refl (by simp [updF, Ne.symm hj]) (by simp [updF, Ne.symm hj])

/-- an owned object's block turned: the object stays where it is (a store), its new content told -/
theorem Nx.store {w' : World} (h : Inv P M τ H w) {id : Nat} {b : Nat} (hb : blkOf τ H id = some b) (ob : HObj) (hs : WSame w w' (· = b))
    (hsame : blkOf τ (updF H id ob) id = some b)
    (hkid : KeepId M τ H M τ (updF H id ob) id)
    (hobj : ObjRep P M τ (updF H id ob) w' id ob) :
    Nx P M τ H w (updF H id ob) M τ w' [] := by
  have hkeep : ∀ j, KeepId M τ H M τ (updF H id ob) j := fun j => by
    by_cases hj : j = id
    · subst hj; exact hkid
    · exact KeepId.refl (by simp [updF, Ne.symm hj]) rfl
  have hblk : ∀ j, blkOf τ (updF H id ob) j = blkOf τ H j := fun j => by
    by_cases hj : j = id
    · subst hj; rw [hsame, hb]
    · exact blkOf_congr (by simp [updF, Ne.symm hj]) rfl
  refine ⟨⟨fun b' o' hb' => ?_, fun j => ?_, fun j b' hb' => by rw [hblk] at hb'; exact h.dis j b' hb', fun i j b' hi hj => by rw [hblk] at hi hj; exact h.inj i j b' hi hj⟩,
    fun _ _ h => h, fun _ _ h => .inl h, fun j _ => hkeep j, fun j b' hb' => by rw [hblk] at hb'; exact .inr ⟨j, hb'⟩, fun b' hb' hn => ?_, hs.size, hs.os, hs.tape, hs.output⟩
  · have hne : b' ≠ b := fun he => by subst he; rw [h.dis id _ hb] at hb'; cases hb'
    rw [hs.block b' (mem_lt h hb') hne]; exact h.mem b' o' hb'
  · by_cases hj : j = id
    · subst hj; simp only [updF, if_true]; exact hobj
    · have hHj : updF H id ob j = H j := by simp [updF, Ne.symm hj]
      rw [hHj]
      refine ObjRep.keep (h.obj j) (fun _ _ h => h) rfl (fun b' hb' => hs.block b' (blk_lt h hb') (fun he => ?_)) rfl (fun i _ => hkeep i)
      subst he; exact hj (h.inj j id _ hb' hb)
  · exact hs.block b' hb' (fun he => hn id (he ▸ hb))

/-- an object is let go -/
theorem Nx.drop (h : Inv P M τ H w) (id : Nat) : Nx P M τ H w (updF H id .gone) M τ w [] := by
  have hkeep : ∀ j, KeepId M τ H M τ (updF H id .gone) j := fun j => by
    by_cases hj : j = id
    · subst hj; exact KeepId.gone (by simp [updF])
    · exact KeepId.refl (by simp [updF, Ne.symm hj]) rfl
  have hblk : ∀ j b, blkOf τ (updF H id .gone) j = some b → blkOf τ H j = some b := fun j b hb => by
    by_cases hj : j = id
    · subst hj; simp [blkOf, updF] at hb
    · rwa [blkOf_congr (H := H) (τ := τ) (by simp [updF, Ne.symm hj]) rfl] at hb
  refine ⟨⟨h.mem, fun j => ?_, fun j b hb => h.dis j b (hblk j b hb), fun i j b hi hj => h.inj i j b (hblk _ _ hi) (hblk _ _ hj)⟩,
    fun _ _ h => h, fun _ _ h => .inl h, fun j _ => hkeep j, fun j b hb => .inr ⟨j, hblk _ _ hb⟩, fun _ _ _ => rfl, Nat.le_refl _, rfl, rfl, .refl _⟩
  by_cases hj : j = id
  · subst hj; simp [updF, ObjRep]
  · have hHj : updF H id .gone j = H j := by simp [updF, Ne.symm hj]
    rw [hHj]
    exact ObjRep.keep (h.obj j) (fun _ _ h => h) rfl (fun _ _ => rfl) rfl (fun i _ => hkeep i)

end
end Go.Cpl

namespace Go.Cpl
open Go

structure TyI where
  kind : Nat := 0       -- 0: not known, 1: an integer, 2: a slice, 3: a struct, 4: another type of one cell, 5: bool
  ik : IntKind := .i64
  size : Nat := 1
  zero : List AC := []
  offs : List (Nat × Nat × Bool) := []   -- per field: offset, size, aggregate?
  el : TypeId := 0

def lk {α : Type} : List (Nat × α) → Nat → Option α
  | [], _ => none
  | (i, x) :: r, n => match Nat.beq i n with
    | true => some x
    | false => lk r n

def hpAt (h : Hp) (n : Nat) : HObj := match lk h n with
  | some o => o
  | none => .gone

/-! small functions, what follows handed over: their results come written out -/

def nthK {α : Type} : List α → Nat → (α → Prop) → Prop
  | [], _, _ => False
  | x :: _, 0, K => K x
  | _ :: r, n + 1, K => nthK r n K

def takeK {α : Type} : Nat → List α → (List α → Prop) → Prop
  | 0, _, K => K []
  | n + 1, x :: r, K => takeK n r fun l => K (x :: l)
  | _ + 1, [], _ => False

def dropK {α : Type} : Nat → List α → (List α → Prop) → Prop
  | 0, l, K => K l
  | n + 1, _ :: r, K => dropK n r K
  | _ + 1, [], _ => False

/-- put the list ys into xs from place n on -/
def putK {α : Type} : List α → Nat → List α → (List α → Prop) → Prop
  | xs, _, [], K => K xs
  | [], _, _ :: _, _ => False
  | _ :: xs, 0, y :: ys, K => putK xs 0 ys fun l => K (y :: l)
  | x :: xs, n + 1, ys, K => putK xs n ys fun l => K (x :: l)

def appK {α : Type} : List α → List α → (List α → Prop) → Prop
  | [], ys, K => K ys
  | x :: xs, ys, K => appK xs ys fun l => K (x :: l)

def mapDK : List D → (List AC → Prop) → Prop
  | [], K => K []
  | x :: r, K => mapDK r fun l => K (.d x :: l)

def succK (n : Nat) (K : Nat → Prop) : Prop := match n with
  | 0 => K 1 | 1 => K 2 | 2 => K 3 | 3 => K 4 | 4 => K 5 | 5 => K 6 | 6 => K 7 | 7 => K 8 | 8 => K 9 | 9 => K 10 | 10 => K 11
  | 11 => K 12 | 12 => K 13 | 13 => K 14 | 14 => K 15 | 15 => K 16 | 16 => K 17 | 17 => K 18 | 18 => K 19 | 19 => K 20
  | 20 => K 21 | 21 => K 22 | 22 => K 23 | 23 => K 24 | 24 => K 25 | 25 => K 26 | 26 => K 27 | 27 => K 28 | 28 => K 29 | 29 => K 30
  | n => K (n + 1)

def addK (a b : Nat) (K : Nat → Prop) : Prop := match a, b with
  | 0, b => K b
  | a, 0 => K a
  | a, b => K (a + b)

def cellsOf : AV → Option (List AC)
  | .c x => some [x]
  | .agg xs => some xs
  | _ => none

/-- a cell as pure data of one cell that needs no memory -/
def scalK : AC → (D → Prop) → Prop
  | .d (.int k n), K => K (.int k n)
  | .d (.bool b), K => K (.bool b)
  | .d .nilp, K => K .nilp
  | .d .nilm, K => K .nilm
  | .d (.str s), K => K (.str s)
  | .tt, K => K (.bool true)
  | .ff, K => K (.bool false)
  | _, _ => False

def scalsK : List AC → (List D → Prop) → Prop
  | [], K => K []
  | x :: r, K => scalK x fun y => scalsK r fun ys => K (y :: ys)

/-- the rows of a slice; the owned object that they lie in -/
def rowsK (hp : Hp) : AC → (List (List D) → Fp → Prop) → Prop
  | .d (.sl rows), K => K rows []
  | .ns, K => K [] []
  | .gs id, K => match hpAt hp id with
    | .arr e rows => K rows [(id, .arr e rows)]
    | _ => False
  | .gv id lo n, K => match hpAt hp id with
    | .arr e rows => K ((rows.drop lo).take n) [(id, .arr e rows)]
    | _ => False
  | _, _ => False

def constK (v : Value) (K : AV → Prop) : Prop :=
  match v with
  | .int k n => K (.c (.d (.int k n)))
  | .bool true => K (.c .tt)
  | .bool false => K (.c .ff)
  | .slice none 0 0 => K (.c .ns)
  | .pointer none => K (.c (.d .nilp))
  | .string s => K (.c (.d (.str s)))
  | _ => False

def evK (fr : Fr) (x : Operand) (K : AV → Prop) : Prop :=
  match x with
  | .tmp t => match lk fr t with
    | some v => K v
    | none => False
  | .const v => constK v K
  | .func f => K (.fn f [])
  | .global _ => False

def evsK (fr : Fr) : List Operand → (List AV → Prop) → Prop
  | [], K => K []
  | x :: r, K => evK fr x fun v => evsK fr r fun vs => K (v :: vs)

def ikEq (a b : IntKind) : Bool := match a, b with
  | .i64, .i64 => true | .u64, .u64 => true | .i32, .i32 => true | .u8, .u8 => true | .u32, .u32 => true
  | _, _ => false

/-- what an int operation yields, under a name of the prover's own -/
inductive Gives (x : Int) (K : Int → Prop) : Prop
  | intro (c : Int) (h : x = c) (k : K c) : Gives x K

def abinInt (op : BinOp) (k : IntKind) (a b : Int) (K : AV → Prop) : Prop :=
  match op with
  | .add => Gives (k.wrap (a + b)) fun c => K (.c (.d (.int k c)))
  | .sub => Gives (k.wrap (a - b)) fun c => K (.c (.d (.int k c)))
  | .mul => Gives (k.wrap (a * b)) fun c => K (.c (.d (.int k c)))
  | .quo => b ≠ 0 ∧ Gives (k.wrap (a.tdiv b)) fun c => K (.c (.d (.int k c)))
  | .rem => b ≠ 0 ∧ Gives (a.tmod b) fun c => K (.c (.d (.int k c)))
  | .and => Gives (k.wrap (BitVec.ofInt k.bits a &&& BitVec.ofInt k.bits b).toNat) fun c => K (.c (.d (.int k c)))
  | .or => Gives (k.wrap (BitVec.ofInt k.bits a ||| BitVec.ofInt k.bits b).toNat) fun c => K (.c (.d (.int k c)))
  | .xor => Gives (k.wrap (BitVec.ofInt k.bits a ^^^ BitVec.ofInt k.bits b).toNat) fun c => K (.c (.d (.int k c)))
  | .andNot => Gives (k.wrap (BitVec.ofInt k.bits a &&& ~~~BitVec.ofInt k.bits b).toNat) fun c => K (.c (.d (.int k c)))
  | .eql => K (.c (.d (.bool (a == b))))
  | .neq => K (.c (.d (.bool (a != b))))
  | .lss => K (.c (.d (.bool (a < b))))
  | .leq => K (.c (.d (.bool (a ≤ b))))
  | .gtr => K (.c (.d (.bool (b < a))))
  | .geq => K (.c (.d (.bool (b ≤ a))))
  | _ => False

def asB : AV → Option Bool
  | .c .tt => some true
  | .c .ff => some false
  | .c (.d (.bool b)) => some b
  | _ => none

def abin (kind : Nat) (op : BinOp) (x y : AV) (K : AV → Prop) : Prop :=
  match x, y with
  | .c (.d (.int k a)), .c (.d (.int k' b)) =>
    match op with
    | .shl => 0 ≤ b ∧ Gives (k.wrap (a * 2 ^ (min b.toNat k.bits))) fun c => K (.c (.d (.int k c)))
    | .shr => 0 ≤ b ∧ Gives (a.fdiv (2 ^ (min b.toNat k.bits))) fun c => K (.c (.d (.int k c)))
    | op => match ikEq k k' with
      | true => abinInt op k a b K
      | false => False
  | x, y => match kind with
    | 5 => match asB x, asB y with
      | some a, some b => match op with
        | .eql => K (.c (.d (.bool (a == b))))
        | .neq => K (.c (.d (.bool (!(a == b)))))
        | _ => False
      | _, _ => False
    | _ => False

/-- what an operation comes to: value · objects read · objects changed or new · the new ones -/
abbrev OpK := AV → Fp → Fp → List Nat → Nat → Prop

/-! ### contracts -/

def hpOf (l : List HObj) : HF := fun i => (l[i]?).getD .gone

def Callable (P : Program) (f : FuncId) : Prop := ∃ fn, P.funcs[f]? = some fn ∧ (fn.name == "runtime.NumGoroutine") = false ∧ fn.body.isSome = true

/-- THE CONTRACT OF A CALL: at arguments of this form, and owned objects of this form (number i of the list), it returns this result and leaves the owned objects so (those behind the list's old length are new). -/
structure CallsH (P : Program) (f : FuncId) (args : List AV) (hin : List HObj) (res : AV) (hout : List HObj) : Prop where
  can : Callable P f
  run : ∀ (M : Mem) (τ : Tau) (w : World) (vs : List Value), Inv P M τ (hpOf hin) w → All2 (AVRep M τ (hpOf hin)) args vs →
    Calls P f vs.toArray w fun e w' => ∃ v M' τ', e = .returned v ∧ Inv P M' τ' (hpOf hout) w' ∧ AVRep M' τ' (hpOf hout) res v ∧
      (∀ b o, M' b = some o → M b = some o ∨ w.heap.size ≤ b ∨ ∃ j, blkOf τ (hpOf hin) j = some b) ∧
      (∀ i, i < hin.length → KeepId M τ (hpOf hin) M' τ' (hpOf hout) i) ∧
      (∀ i b, blkOf τ' (hpOf hout) i = some b → w.heap.size ≤ b ∨ ∃ j, blkOf τ (hpOf hin) j = some b) ∧
      (∀ b, b < w.heap.size → (∀ i, blkOf τ (hpOf hin) i ≠ some b) → w'.heap[b]? = w.heap[b]?) ∧
      w.heap.size ≤ w'.heap.size ∧ w'.os = w.os ∧ w'.tape = w.tape ∧ OutD w w'

/-- what a call leaves, of this result and these objects -/
def PostH (P : Program) (M : Mem) (τ : Tau) (hin : List HObj) (w : World) (res : AV) (hout : List HObj) (e : Ending) (w' : World) : Prop :=
  ∃ v M' τ', e = .returned v ∧ Inv P M' τ' (hpOf hout) w' ∧ AVRep M' τ' (hpOf hout) res v ∧
      (∀ b o, M' b = some o → M b = some o ∨ w.heap.size ≤ b ∨ ∃ j, blkOf τ (hpOf hin) j = some b) ∧
      (∀ i, i < hin.length → KeepId M τ (hpOf hin) M' τ' (hpOf hout) i) ∧
      (∀ i b, blkOf τ' (hpOf hout) i = some b → w.heap.size ≤ b ∨ ∃ j, blkOf τ (hpOf hin) j = some b) ∧
      (∀ b, b < w.heap.size → (∀ i, blkOf τ (hpOf hin) i ≠ some b) → w'.heap[b]? = w.heap[b]?) ∧
      w.heap.size ≤ w'.heap.size ∧ w'.os = w.os ∧ w'.tape = w.tape ∧ OutD w w'

/-- THE SAME, where the result is told by a property alone -/
structure CallsQ (P : Program) (f : FuncId) (args : List AV) (hin : List HObj) (Q : AV → List HObj → Prop) : Prop where
  can : Callable P f
  run : ∀ (M : Mem) (τ : Tau) (w : World) (vs : List Value), Inv P M τ (hpOf hin) w → All2 (AVRep M τ (hpOf hin)) args vs →
    Calls P f vs.toArray w fun e w' => ∃ res hout, Q res hout ∧ PostH P M τ hin w res hout e w'

theorem CallsH.q {P : Program} {f : FuncId} {args : List AV} {hin : List HObj} {res : AV} {hout : List HObj} (h : CallsH P f args hin res hout) {Q : AV → List HObj → Prop} (hq : Q res hout) : CallsQ P f args hin Q :=
  ⟨h.can, fun M τ w vs h1 h2 => (h.run M τ w vs h1 h2).mono fun _ _ hp => ⟨res, hout, hq, hp⟩⟩

def memN : Nat → List Nat → Bool
  | _, [] => false
  | n, m :: r => match Nat.beq m n with
    | true => true
    | false => memN n r

def addIdK (id : Nat) (l : List Nat) (K : List Nat → Prop) : Prop := match memN id l with
  | true => K l
  | false => appK l [id] K

/-- the objects that the arguments point to -/
def rootsK (own : Bool) : List AC → List Nat → (List Nat → Prop) → Prop
  | [], l, K => K l
  | .ptr id _ _ :: r, l, K => addIdK id l fun l => rootsK own r l K
  | .gs id :: r, l, K => match own with
    | true => addIdK id l fun l => rootsK own r l K
    | false => rootsK own r l K
  | .mp id :: r, l, K => addIdK id l fun l => rootsK own r l K
  | _ :: r, l, K => rootsK own r l K

def innerK : List AC → List Nat → (List Nat → Prop) → Prop
  | [], l, K => K l
  | .ptr id _ _ :: r, l, K => addIdK id l fun l => innerK r l K
  | .gs id :: r, l, K => addIdK id l fun l => innerK r l K
  | .mp id :: r, l, K => addIdK id l fun l => innerK r l K
  | _ :: r, l, K => innerK r l K

def innersK (hp : Hp) : List Nat → List Nat → (List Nat → Prop) → Prop
  | [], l, K => K l
  | id :: r, l, K => match hpAt hp id with
    | .box cells => innerK cells l fun l => innersK hp r l K
    | _ => innersK hp r l K

def cellsAllK : List AV → (List AC → Prop) → Prop
  | [], K => K []
  | .c x :: r, K => cellsAllK r fun l => K (x :: l)
  | .agg xs :: r, K => cellsAllK r fun l => appK xs l K
  | .fn _ caps :: r, K => cellsAllK r fun l => appK caps l K
  | _ :: r, K => cellsAllK r K

def idxOf : List Nat → Nat → Nat → Option Nat
  | [], _, _ => none
  | i :: r, id, k => match Nat.beq i id with
    | true => some k
    | false => idxOf r id (k + 1)

def optK (o : Option Nat) (K : Nat → Prop) (no : Prop) : Prop := match o with
  | some k => addK k 0 K
  | none => no

/-- a cell as the callee sees it -/
def argC (kp : Bool) (ρ : List Nat) (hp : Hp) (x : AC) (K : AC → Fp → Prop) : Prop := match x with
  | .d y => K (.d y) []
  | .tt => K (.d (.bool true)) []
  | .ff => K (.d (.bool false)) []
  | .ns => (match kp with
    | true => K .ns []
    | false => K (.d (.sl [])) [])
  | .rp cells => K (.rp cells) []
  | .ptr id row col => optK (idxOf ρ id 0) (fun k => K (.ptr k row col) []) False
  | .gs id => optK (idxOf ρ id 0) (fun k => K (.gs k) []) (match hpAt hp id with
    | .arr e rows => K (.d (.sl rows)) [(id, .arr e rows)]
    | .brr e rows => K (.d (.sl rows)) [(id, .brr e rows)]
    | _ => False)
  | .gv id lo n => optK (idxOf ρ id 0) (fun k => K (.gv k lo n) []) (match hpAt hp id with
    | .arr e rows => K (.d (.sl ((rows.drop lo).take n))) [(id, .arr e rows)]
    | _ => False)
  | .mp id => optK (idxOf ρ id 0) (fun k => K (.mp k) []) False

def argCs (kp : Bool) (ρ : List Nat) (hp : Hp) : List AC → (List AC → Fp → Prop) → Prop
  | [], K => K [] []
  | x :: r, K => argC kp ρ hp x fun y b => argCs kp ρ hp r fun ys bs => appK b bs fun bs => K (y :: ys) bs

def argV (kp : Bool) (ρ : List Nat) (hp : Hp) (x : AV) (K : AV → Fp → Prop) : Prop := match x with
  | .c x => argC kp ρ hp x fun y b => K (.c y) b
  | .agg xs => argCs kp ρ hp xs fun ys b => K (.agg ys) b
  | .fn f caps => argCs kp ρ hp caps fun ys b => K (.fn f ys) b
  | _ => False

def argVs (kp : Bool) (ρ : List Nat) (hp : Hp) : List AV → (List AV → Fp → Prop) → Prop
  | [], K => K [] []
  | x :: r, K => argV kp ρ hp x fun y b => argVs kp ρ hp r fun ys bs => appK b bs fun bs => K (y :: ys) bs

/-- an owned object as the callee sees it (what is borrowed may not lie in it) -/
def objK (kp : Bool) (ρ : List Nat) (hp : Hp) (o : HObj) (K : HObj → Prop) : Prop := match o with
  | .gone => False
  | .arr e rows => K (.arr e rows)
  | .mp ka ea ents => K (.mp ka ea ents)
  | .brr e rows => K (.brr e rows)
  | .box cells => argCs kp ρ hp cells fun ys b => match b with
    | [] => K (.box ys)
    | _ => False

def hinK (kp : Bool) (ρ : List Nat) (hp : Hp) : List Nat → (List HObj → Fp → Prop) → Prop
  | [], K => K [] []
  | id :: r, K => objK kp ρ hp (hpAt hp id) fun o => hinK kp ρ hp r fun os fp => K (o :: os) ((id, hpAt hp id) :: fp)

def slFreeC : AC → Bool
  | .d (.sl _) => false
  | .rp _ => false
  | _ => true

def slFreeCs : List AC → Bool
  | [] => true
  | x :: r => match slFreeC x with
    | true => slFreeCs r
    | false => false

def slFreeT : List (AC ⊕ List AC) → Bool
  | [] => true
  | .inl x :: r => match slFreeC x with
    | true => slFreeT r
    | false => false
  | .inr xs :: r => match slFreeCs xs with
    | true => slFreeT r
    | false => false

def slFreeV : AV → Bool
  | .c x => slFreeC x
  | .agg xs => slFreeCs xs
  | .tup xs => slFreeT xs
  | .fn _ caps => slFreeCs caps
  | _ => true

def slFreeH : List HObj → Bool
  | [] => true
  | .box cells :: r => match slFreeCs cells with
    | true => slFreeH r
    | false => false
  | .brr _ _ :: _ => false
  | _ :: r => slFreeH r

def renC (ρ : List Nat) (x : AC) (K : AC → Prop) : Prop := match x with
  | .ptr i row col => nthK ρ i fun id => K (.ptr id row col)
  | .gs i => nthK ρ i fun id => K (.gs id)
  | .gv i lo n => nthK ρ i fun id => K (.gv id lo n)
  | .mp i => nthK ρ i fun id => K (.mp id)
  | x => K x

def renCs (ρ : List Nat) : List AC → (List AC → Prop) → Prop
  | [], K => K []
  | x :: r, K => renC ρ x fun y => renCs ρ r fun ys => K (y :: ys)

def renT (ρ : List Nat) : List (AC ⊕ List AC) → (List (AC ⊕ List AC) → Prop) → Prop
  | [], K => K []
  | .inl x :: r, K => renC ρ x fun y => renT ρ r fun ys => K (.inl y :: ys)
  | .inr xs :: r, K => renCs ρ xs fun y => renT ρ r fun ys => K (.inr y :: ys)

def renV (ρ : List Nat) (x : AV) (K : AV → Prop) : Prop := match x with
  | .c x => renC ρ x fun y => K (.c y)
  | .agg xs => renCs ρ xs fun ys => K (.agg ys)
  | .tup xs => renT ρ xs fun ys => K (.tup ys)
  | .fn f caps => renCs ρ caps fun ys => K (.fn f ys)
  | x => K x

def renO (ρ : List Nat) (o : HObj) (K : HObj → Prop) : Prop := match o with
  | .box cells => renCs ρ cells fun ys => K (.box ys)
  | o => K o

def renHs (ρ : List Nat) : List Nat → List HObj → (Fp → Prop) → Prop
  | id :: r, o :: os, K => renO ρ o fun o' => renHs ρ r os fun us => K ((id, o') :: us)
  | [], [], K => K []
  | _, _, _ => False

def newK : Nat → List HObj → (List Nat → Nat → Prop) → Prop
  | nx, [], K => K [] nx
  | nx, _ :: r, K => succK nx fun nx' => newK nx' r fun l n => K (nx :: l) n

def isNil {α : Type} : List α → Bool
  | [] => true
  | _ => false

def nodupB : List Nat → Bool
  | [] => true
  | i :: r => match memN i r with
    | true => false
    | false => nodupB r

/-- how a function is called: 1 slices are handed over as owned objects, 2 nil slices as such, 3 both -/
def modeOwn : Nat → Bool
  | 1 => true
  | 3 => true
  | 5 => true
  | 7 => true
  | _ => false

def modeKeep : Nat → Bool
  | 2 => true
  | 3 => true
  | 6 => true
  | 7 => true
  | _ => false

/-- modes 4 to 7: the result is told by a property -/
def modeRel : Nat → Bool
  | 4 => true
  | 5 => true
  | 6 => true
  | 7 => true
  | _ => false

/-- mode 8: what came in is left as it was -/
def modeSame : Nat → Bool
  | 8 => true
  | _ => false

/-- the first n objects are as before -/
def sameK (hp : Hp) : Nat → Fp → (Fp → Prop) → Prop
  | 0, us, K => K us
  | n + 1, (id, o) :: us, K => o = hpAt hp id ∧ sameK hp n us K
  | _ + 1, [], _ => False

def callK (P : Program) (mode : Nat) (f : FuncId) (vs : List AV) (hp : Hp) (nx : Nat) (K : OpK) : Prop :=
  cellsAllK vs fun cells => rootsK (modeOwn mode) cells [] fun roots => innersK hp roots roots fun roots => innersK hp roots roots fun ρ =>
  argVs (modeKeep mode) ρ hp vs fun args bor => hinK (modeKeep mode) ρ hp ρ fun hin rd =>
  ∃ res hout, CallsH P f args hin res hout ∧ (match (isNil bor || (slFreeV res && slFreeH hout)) with
    | true => dropK ρ.length hout fun hnew => newK nx hnew fun nw nx' => appK ρ nw fun ρ' => match nodupB ρ' with
      | true => renV ρ' res fun res' => renHs ρ' ρ' hout fun us => appK rd bor fun rd => match modeSame mode with
        | false => K res' rd us nw nx'
        | true => sameK hp ρ.length us fun us => K res' rd us nw nx'
      | false => False
    | false => False)

def callQ (P : Program) (mode : Nat) (f : FuncId) (vs : List AV) (hp : Hp) (nx : Nat) (K : OpK) : Prop :=
  cellsAllK vs fun cells => rootsK (modeOwn mode) cells [] fun roots => innersK hp roots roots fun roots => innersK hp roots roots fun ρ =>
  argVs (modeKeep mode) ρ hp vs fun args bor => hinK (modeKeep mode) ρ hp ρ fun hin rd => match nodupB ρ with
  | false => False
  | true => ∃ Q : AV → List HObj → Prop, CallsQ P f args hin Q ∧ ∀ res hout, Q res hout → (match (isNil bor || (slFreeV res && slFreeH hout)) with
    | true => dropK ρ.length hout fun hnew => newK nx hnew fun nw nx' => appK ρ nw fun ρ' => match nodupB ρ' with
      | true => renV ρ' res fun res' => renHs ρ' ρ' hout fun us => appK rd bor fun rd => K res' rd us nw nx'
      | false => False
    | false => False)

/-! ### operations -/

def fillK (fr : Fr) (offs : List (Nat × Nat × Bool)) (cells : List AC) : List (Nat × Operand) → (List AC → Prop) → Prop
  | [], K => K cells
  | (i, x) :: r, K => nthK offs i fun (off, sz, _) => evK fr x fun v => match cellsOf v with
    | some cs => match Nat.beq cs.length sz with
      | true => putK cells off cs fun l => fillK fr offs l r K
      | false => False
    | none => False

/-- the elements of a slice literal, in order -/
def elemsK (fr : Fr) (size : Nat) : Nat → List (Nat × Operand) → (List (List D) → Prop) → Prop
  | _, [], K => K []
  | k, (i, x) :: r, K => match Nat.beq i k with
    | true => evK fr x fun v => match cellsOf v with
      | some cs => match Nat.beq cs.length size with
        | true => scalsK cs fun ds => elemsK fr size (k + 1) r fun l => K (ds :: l)
        | false => False
      | none => False
    | false => False

/-- a length for which there is room -/
structure Fits (n : Nat) : Prop where
  le : n ≤ 1073741824

def lenK (hp : Hp) (x : AC) (K : Int → Fp → Prop) : Prop := rowsK hp x fun rows fp => K rows.length fp

def aop (P : Program) (T : Nat → TyI) (fr : Fr) (hp : Hp) (nx : Nat) (o : Op) (K : OpK) : Prop :=
  match o with
  | .move x => evK fr x fun v => K v [] [] [] nx
  | .assign x => evK fr x fun v => K v [] [] [] nx
  | .pick c a b => evK fr c fun v => match v with
    | .c .tt => evK fr a fun v => K v [] [] [] nx
    | .c .ff => evK fr b fun v => K v [] [] [] nx
    | _ => False
  | .alloc t => match T t with
    | .mk kind _ _ zero _ _ => match kind with
      | 0 => False
      | _ => succK nx fun nx' => K (.c (.ptr nx 0 0)) [] [(nx, .box zero)] [nx] nx'
  | .box _ x => evK fr x fun v => match cellsOf v with
    | some cs => succK nx fun nx' => K (.c (.ptr nx 0 0)) [] [(nx, .box cs)] [nx] nx'
    | none => False
  | .load t x => match T t with
    | .mk kind _ size _ _ _ => evK fr x fun v => match v with
      | .c (.rp cells) => match kind with
        | 0 => False
        | 3 => takeK size cells fun l => mapDK l fun l => K (.agg l) [] [] [] nx
        | _ => nthK cells 0 fun x => K (.c (.d x)) [] [] [] nx
      | .c (.ptr id row col) => match hpAt hp id with
        | .box cells => match kind with
          | 0 => False
          | 3 => dropK col cells fun l => takeK size l fun l => K (.agg l) [(id, .box cells)] [] [] nx
          | _ => nthK cells col fun x => K (.c x) [(id, .box cells)] [] [] nx
        | .arr e rows => ∃ r, rows[row]? = some r ∧ (match kind with
            | 0 => False
            | 3 => dropK col r fun l => takeK size l fun l => mapDK l fun l => K (.agg l) [(id, .arr e rows)] [] [] nx
            | _ => nthK r col fun x => K (.c (.d x)) [(id, .arr e rows)] [] [] nx)
        | _ => False
      | _ => False
  | .store t x y => match T t with
    | .mk kind _ size _ _ _ => match kind with
      | 0 => False
      | _ => evK fr x fun v => evK fr y fun u => match v, cellsOf u with
        | .c (.ptr id row col), some ys => match Nat.beq ys.length size with
          | true => match hpAt hp id with
            | .box cells => putK cells col ys fun l => K .undef [(id, .box cells)] [(id, .box l)] [] nx
            | .arr e rows => ∃ r, rows[row]? = some r ∧ scalsK ys fun ds => putK r col ds fun r' => K .undef [(id, .arr e rows)] [(id, .arr e (rows.set row r'))] [] nx
            | _ => False
          | false => False
        | _, _ => False
  | .nilCheck x => evK fr x fun v => match v with
    | .c (.ptr id row col) => match hpAt hp id with
      | .gone => False
      | .mp _ _ _ => False
      | .brr _ _ => False
      | o => K (.c (.ptr id row col)) [(id, o)] [] [] nx
    | .c (.rp cells) => K (.c (.rp cells)) [] [] [] nx
    | _ => False
  | .binOp op t x y _ => match T t with
    | .mk kind _ _ _ _ _ => evK fr x fun v => evK fr y fun u => abin kind op v u fun v => K v [] [] [] nx
  | .unOp .not _ x => evK fr x fun v => match v with
    | .c .tt => K (.c .ff) [] [] [] nx
    | .c .ff => K (.c .tt) [] [] [] nx
    | .c (.d (.bool b)) => K (.c (.d (.bool !b))) [] [] [] nx
    | _ => False
  | .unOp .neg _ x => evK fr x fun v => match v with
    | .c (.d (.int k n)) => Gives (k.wrap (0 - n)) fun c => K (.c (.d (.int k c))) [] [] [] nx
    | _ => False
  | .convert src dst x => match T src, T dst with
    | .mk kind' _ _ _ _ _, .mk kind ik _ _ _ _ => evK fr x fun v => match v with
      | .c (.d (.int _ n)) => match kind', kind with
        | 1, 1 => Gives (ik.wrap n) fun c => K (.c (.d (.int ik c))) [] [] [] nx
        | _, _ => False
      | _ => False
  | .fieldAddr s x f => match T s with
    | .mk kind _ _ _ offs _ => match kind with
     | 3 => evK fr x fun v => nthK offs f fun (off, _, _) => match v with
      | .c (.ptr id row col) => match hpAt hp id with
        | .gone => False
        | .mp _ _ _ => False
        | .brr _ _ => False
        | o => addK col off fun col' => K (.c (.ptr id row col')) [(id, o)] [] [] nx
      | .c (.rp cells) => dropK off cells fun l => K (.c (.rp l)) [] [] [] nx
      | _ => False
     | _ => False
  | .field s x f => match T s with
    | .mk kind _ _ _ offs _ => match kind with
     | 3 => evK fr x fun v => nthK offs f fun (off, sz, ag) => match v with
      | .agg cells => dropK off cells fun l => match ag with
        | true => takeK sz l fun l => K (.agg l) [] [] [] nx
        | false => nthK l 0 fun x => K (.c x) [] [] [] nx
      | _ => False
     | _ => False
  | .indexAddr t x i => match T t with
    | .mk kind _ _ _ _ el => match kind with
      | 2 => match T el with
        | .mk ekind _ size _ _ _ => match ekind with
          | 0 => False
          | _ => evK fr x fun v => evK fr i fun j => match j with
            | .c (.d (.int _ n)) => match v with
              | .c (.d (.sl rows)) => 0 ≤ n ∧ ∃ r, rows[n.toNat]? = some r ∧ (match Nat.beq r.length size with
                | true => K (.c (.rp r)) [] [] [] nx
                | false => False)
              | .c (.gs id) => match hpAt hp id with
                | .arr e rows => match Nat.beq e el with
                  | true => 0 ≤ n ∧ n.toNat < rows.length ∧ K (.c (.ptr id n.toNat 0)) [(id, .arr e rows)] [] [] nx
                  | false => False
                | _ => False
              | _ => False
            | _ => False
      | _ => False
  | .build t parts => match T t with
    | .mk kind _ _ zero offs _ => match kind with
      | 3 => fillK fr offs zero parts.toList fun l => K (.agg l) [] [] [] nx
      | _ => False
  | .buildSlice t len parts => match T t with
    | .mk kind _ _ _ _ el => match kind with
      | 2 => match T el with
        | .mk ekind _ size _ _ _ => match ekind with
          | 0 => False
          | _ => match Nat.beq parts.toList.length len, Nat.ble (Nat.mul len size) 16777216 with
            | true, true => elemsK fr size 0 parts.toList fun rows => succK nx fun nx' => K (.c (.gs nx)) [] [(nx, .arr el rows)] [nx] nx'
            | _, _ => False
      | _ => False
  | .makeSlice t l c => match T t with
    | .mk kind _ _ _ _ el => match kind with
      | 2 => match T el with
        | .mk ekind _ _ zero _ _ => match ekind with
          | 0 => False
          | _ => evK fr l fun l => evK fr c fun c => match l, c with
            | .c (.d (.int .i64 n)), .c (.d (.int .i64 m)) => 0 ≤ n ∧ n ≤ m ∧ Fits m.toNat ∧ scalsK zero fun z => succK nx fun nx' => K (.c (.gs nx)) [] [(nx, .arr el (List.replicate n.toNat z))] [nx] nx'
            | _, _ => False
      | _ => False
  | .slice t x lo hi mx => match T t with
    | .mk kind _ _ _ _ el => match kind, mx with
      | 2, none => match T el with
        | .mk ekind _ size _ _ _ => match ekind with
          | 0 => False
          | _ => evK fr x fun v => match v with
            | .c (.d (.sl rows)) => (∀ r ∈ rows, r.length = size) ∧
              (match hi with
                | none => fun (K : Nat → Prop) => K rows.length
                | some h => fun K => evK fr h fun h => match h with
                  | .c (.d (.int _ n)) => 0 ≤ n ∧ n.toNat ≤ rows.length ∧ K n.toNat
                  | _ => False) fun h =>
              (match lo with
                | none => fun (K : Nat → Prop) => K 0
                | some l => fun K => evK fr l fun l => match l with
                  | .c (.d (.int _ n)) => 0 ≤ n ∧ n.toNat ≤ h ∧ K n.toNat
                  | _ => False) fun l =>
              K (.c (.d (.sl ((rows.take h).drop l)))) [] [] [] nx
            | _ => False
      | _, _ => False
  | .extract x n => evK fr x fun v => match v with
    | .tup vs => nthK vs n fun v => match v with
      | .inl x => K (.c x) [] [] [] nx
      | .inr xs => K (.agg xs) [] [] [] nx
    | _ => False
  | .call c => match c with
    | .mk callee args types => evsK fr args.toList fun vs => match callee with
      | .builtin .len => match types.toList, vs with
        | [t], [.c x] => match T t with
          | .mk kind _ _ _ _ _ => match kind with
            | 2 => lenK hp x fun n fp => K (.c (.d (.int .i64 n))) fp [] [] nx
            | _ => False
        | _, _ => False
      | .builtin .append => match types.toList, vs with
        | [t, t'], [.c x, .c y] => match Nat.beq t t', T t with
          | true, .mk kind _ _ _ _ el => match kind with
            | 2 => match T el with
              | .mk ekind _ size _ _ _ => match ekind with
                | 0 => False
                | _ => rowsK hp y fun rows fp => (∀ r ∈ rows, r.length = size ∧ ∀ d ∈ r, d.scalar = true) ∧ (match x with
                  | .ns => Fits rows.length ∧ succK nx fun nx' => K (.c (.gs nx)) fp [(nx, .arr el rows)] [nx] nx'
                  | .gs id => match hpAt hp id with
                    | .arr e old => match Nat.beq e el with
                      | true => Fits (old.length + rows.length) ∧ succK nx fun nx' => K (.c (.gs nx)) ((id, .arr e old) :: fp) [(nx, .arr e (old ++ rows)), (id, .gone)] [nx] nx'
                      | false => False
                    | _ => False
                  | _ => False)
            | _ => False
          | _, _ => False
        | _, _ => False
      | .builtin .max => match vs with
        | [.c (.d (.int k a)), .c (.d (.int k' b))] => match ikEq k k' with
          | true => K (.c (.d (.int k (if b > a then b else a)))) [] [] [] nx
          | false => False
        | _ => False
      | .builtin .min => match vs with
        | [.c (.d (.int k a)), .c (.d (.int k' b))] => match ikEq k k' with
          | true => K (.c (.d (.int k (if b < a then b else a)))) [] [] [] nx
          | false => False
        | _ => False
      | .value f => evK fr f fun v => match v with
        | .fn f caps => match caps with
          | [] => callK P 0 f vs hp nx K
          | caps => cellsVK caps fun cs => appK vs cs fun vs => callK P 0 f vs hp nx K
        | _ => False
      | _ => False
  | _ => False
where
  cellsVK : List AC → (List AV → Prop) → Prop
    | [], K => K []
    | x :: r, K => cellsVK r fun l => K (.c x :: l)

/-! ### more operations -/

def capsK : List AV → (List AC → Prop) → Prop
  | [], K => K []
  | .c x :: r, K => capsK r fun l => K (x :: l)
  | _ :: _, _ => False

/-- structs of ints and bools, field by field -/
def eqB : List D → List D → Bool
  | [], [] => true
  | .int _ a :: r, .int _ b :: s => (a == b) && eqB r s
  | .bool a :: r, .bool b :: s => (a == b) && eqB r s
  | _, _ => false

def eqKinds : List D → List D → Bool
  | [], [] => true
  | .int k _ :: r, .int k' _ :: s => match ikEq k k' with
    | true => eqKinds r s
    | false => false
  | .bool _ :: r, .bool _ :: s => eqKinds r s
  | _, _ => false

def eqFs (P : Program) : Nat → List Field → List D → Bool
  | _, [], [] => true
  | i, f :: fs, x :: ks => (f.name != "_") && Nat.beq f.offset i && (match P.underlying f.type, x with
    | some (.int _), .int _ _ => true
    | some .bool, .bool _ => true
    | _, _ => false) && eqFs P (i + 1) fs ks
  | _, _, _ => false

def scalF (P : Program) (f : Field) (x : D) : Bool := match P.underlying f.type, x with
  | some (.int _), .int _ _ => true
  | some .bool, .bool _ => true
  | _, _ => false

/-- a struct whose last field is a struct -/
def eqFsN (P : Program) : Nat → List Field → List D → Bool
  | _, [], _ => false
  | i, f :: fs, ks => match fs with
    | [] => (f.name != "_") && Nat.beq f.offset i && (match P.underlying f.type, P.info? f.type with
      | some (.struct gs), some inf => !P.stoodInHeld f.type && eqFs P 0 gs.toList ks && Nat.beq inf.size ks.length
      | _, _ => false)
    | fs => match ks with
      | [] => false
      | x :: ks => (f.name != "_") && Nat.beq f.offset i && scalF P f x && eqFsN P (i + 1) fs ks

def eqFactN (P : Program) (t : TypeId) (ks : List D) : Bool := match P.underlying t with
  | some (.struct fs) => !P.stoodInHeld t && !P.eqGuardType P.depth t && (eqFs P 0 fs.toList ks || eqFsN P 0 fs.toList ks)
  | _ => false

/-- the elements of a slice of slices: they are immutable from here on -/
def elemsDK (fr : Fr) (hp : Hp) : Nat → List (Nat × Operand) → (List (List D) → Fp → List Nat → Prop) → Prop
  | _, [], K => K [] [] []
  | k, (i, x) :: r, K => match Nat.beq i k with
    | true => evK fr x fun v => match v with
      | .c (.d (.sl rows)) => elemsDK fr hp (k + 1) r fun l fp zs => K ([.sl rows] :: l) fp zs
      | .c .ns => elemsDK fr hp (k + 1) r fun l fp zs => K ([.sl []] :: l) fp zs
      | .c (.gs id) => match hpAt hp id with
        | .arr e rows => elemsDK fr hp (k + 1) r fun l fp zs => K ([.sl rows] :: l) ((id, .arr e rows) :: fp) (id :: zs)
        | _ => False
      | _ => False
    | false => False

def goneK : List Nat → (Fp → Prop) → Prop
  | [], K => K []
  | id :: r, K => goneK r fun us => K ((id, .gone) :: us)

/-- an array type, as the table has it: of kind 0, with the number and the size of its elements -/
def arrOKB (P : Program) (t : TypeId) (size : Nat) (zero : List AC) (n s : Nat) (el : TypeId) : Bool :=
  (match P.underlying t with
    | some (.array n' e) => Nat.beq n n' && Nat.beq e el
    | _ => false) && Nat.beq (P.cellsOf el) s && Nat.beq size (n * s) && Nat.blt 0 s && Nat.blt 1 n && zero.all acOne && Nat.beq zero.length size &&
  (match P.info? t with
    | some i => Nat.beq i.size size && Nat.ble i.bytes 65536 && (match i.zero with
      | some z => zeroIs z.cells.toList zero
      | none => false)
    | none => false)
where
  acOne : AC → Bool
    | .d (.int _ _) => true
    | .ff => true
    | _ => false
  zeroIs : List Value → List AC → Bool
    | [], [] => true
    | .int k n :: r, .d (.int k' n') :: s => match ikEq k k' with
      | true => Nat.beq 0 0 && decide (n = n') && zeroIs r s
      | false => false
    | .bool b :: r, .ff :: s => !b && zeroIs r s
    | _, _ => false

def offsOf (s : Nat) : Nat → Nat → List (Nat × Nat × Bool)
  | 0, _ => []
  | n + 1, k => (k, s, false) :: offsOf s n (k + s)

def modeOf (T : Nat → TyI) (f : Nat) : Nat := match T (Nat.add 1000000 f) with
  | .mk _ _ _ _ _ m => m

def aop2 (P : Program) (T : Nat → TyI) (fr : Fr) (hp : Hp) (nx : Nat) (o : Op) (K : OpK) : Prop :=
  match o with
  | .makeFunc fn first captured => match fn, first.toList with
    | .func g, [] => evsK fr captured.toList fun vs => capsK vs fun cs => K (.fn g cs) [] [] [] nx
    | _, _ => False
  | .binOp op t x y t' => evK fr x fun v => evK fr y fun u => match v, u with
    | .agg xs, .agg ys => scalsK xs fun a => scalsK ys fun b => match eqKinds a b with
      | true => match op with
        | .eql => eqFactN P t a = true ∧ K (.c (.d (.bool (eqB a b)))) [] [] [] nx
        | .neq => eqFactN P t a = true ∧ K (.c (.d (.bool (!eqB a b)))) [] [] [] nx
        | _ => False
      | false => False
    | .c (.d (.sl rows)), .c .ns => match T t with
      | .mk 2 _ _ _ _ _ => match op with
        | .eql => rows ≠ [] ∧ K (.c (.d (.bool false))) [] [] [] nx
        | _ => False
      | _ => False
    | .c .ns, .c .ns => match T t with
      | .mk 2 _ _ _ _ _ => match op with
        | .eql => K (.c (.d (.bool true))) [] [] [] nx
        | _ => False
      | _ => False
    | _, _ => aop P T fr hp nx (.binOp op t x y t') K
  | .alloc t => match T t with
    | .mk 0 _ size zero [(n, s, _)] el => arrOKB P t size zero n s el = true ∧ succK nx fun nx' => K (.c (.ptr nx 0 0)) [] [(nx, .box zero)] [nx] nx'
    | _ => aop P T fr hp nx (.alloc t) K
  | .store t x y => match T t with
    | .mk 0 _ size zero [(n, s, _)] el => arrOKB P t size zero n s el = true ∧ (evK fr x fun v => evK fr y fun u => match v, cellsOf u with
      | .c (.ptr id _ col), some ys => match Nat.beq ys.length size with
        | true => match hpAt hp id with
          | .box cells => putK cells col ys fun l => K .undef [(id, .box cells)] [(id, .box l)] [] nx
          | _ => False
        | false => False
      | _, _ => False)
    | _ => aop P T fr hp nx (.store t x y) K
  | .build t parts => match T t with
    | .mk 0 _ size zero [(n, s, _)] el => arrOKB P t size zero n s el = true ∧ fillK fr (offsOf s n 0) zero parts.toList fun l => K (.agg l) [] [] [] nx
    | _ => aop P T fr hp nx (.build t parts) K
  | .indexAddr t x i => match T t with
    | .mk 0 _ size zero [(n, s, _)] el => arrOKB P t size zero n s el = true ∧ (evK fr x fun v => evK fr i fun j => match v, j with
      | .c (.ptr id row col), .c (.d (.int _ k)) => match hpAt hp id with
        | .box cells => 0 ≤ k ∧ k.toNat < n ∧ addK col (Nat.mul k.toNat s) fun col' => K (.c (.ptr id row col')) [(id, .box cells)] [] [] nx
        | _ => False
      | _, _ => False)
    | _ => aop P T fr hp nx (.indexAddr t x i) K
  | .buildSlice t len parts => match T t with
    | .mk 2 _ _ _ _ el => match T el with
      | .mk 2 _ _ _ _ _ => match Nat.beq parts.toList.length len, Nat.ble len 16777216 with
        | true, true => elemsDK fr hp 0 parts.toList fun rows fp zs => goneK zs fun us => K (.c (.d (.sl rows))) fp us [] nx
        | _, _ => False
      | _ => aop P T fr hp nx (.buildSlice t len parts) K
    | _ => aop P T fr hp nx (.buildSlice t len parts) K
  | .slice t x lo hi mx => evK fr x fun v => match v with
    | .c .ns => match T t with
      | .mk 2 _ _ _ _ el => match T el with
        | .mk ekind _ _ _ _ _ => match ekind with
          | 0 => False
          | _ => match lo, hi, mx with
            | none, some h, none => evK fr h fun h => match h with
              | .c (.d (.int _ n)) => n = 0 ∧ K (.c .ns) [] [] [] nx
              | _ => False
            | _, _, _ => False
      | _ => False
    | .c (.gs id) => match T t with
      | .mk 2 _ _ _ _ el => match T el with
        | .mk ekind _ _ _ _ _ => match ekind with
          | 0 => False
          | _ => match hpAt hp id with
            | .arr e rows => match Nat.beq e el with
              | true => match lo, hi, mx with
                | none, some h, none => evK fr h fun h => match h with
                  | .c (.d (.int _ n)) => 0 ≤ n ∧ n.toNat ≤ rows.length ∧ succK nx fun nx' => K (.c (.gs nx)) [(id, .arr e rows)] [(nx, .arr e (rows.take n.toNat)), (id, .gone)] [nx] nx'
                  | _ => False
                | _, _, _ => False
              | false => False
            | _ => False
      | _ => False
    | _ => aop P T fr hp nx (.slice t x lo hi mx) K
  | .call c => match c with
    | .mk callee args types => match callee with
      | .builtin .cap => evsK fr args.toList fun vs => match types.toList, vs with
        | [t], [.c .ns] => match T t with
          | .mk 2 _ _ _ _ _ => K (.c (.d (.int .i64 0))) [] [] [] nx
          | _ => False
        | _, _ => False
      | .builtin .append => match types.toList with
        | [t, t'] => match Nat.beq t t' with
          | true => aop P T fr hp nx (.call (.mk (.builtin .append) args types)) K
          | false => evsK fr args.toList fun vs => match vs with
            | [.c .ns, .c (.d (.int .i64 n))] => match T t, T t' with
              | .mk 2 _ _ _ _ el, .mk 1 .i64 _ _ _ _ => match T el with
                | .mk ekind _ _ zero _ _ => match ekind with
                  | 0 => False
                  | _ => 0 < n ∧ Fits n.toNat ∧ scalsK zero fun z => succK nx fun nx' => K (.c (.gs nx)) [] [(nx, .arr el (List.replicate n.toNat z))] [nx] nx'
              | _, _ => False
            | _ => False
        | _ => False
      | .value f => evK fr f fun v => match v with
        | .fn g caps => match modeOf T g with
          | 0 => aop P T fr hp nx (.call (.mk (.value f) args types)) K
          | m => evsK fr args.toList fun vs => match caps with
            | [] => callK P m g vs hp nx K
            | caps => aop.cellsVK caps fun cs => appK vs cs fun vs => callK P m g vs hp nx K
        | _ => False
      | callee => aop P T fr hp nx (.call (.mk callee args types)) K
  | o => aop P T fr hp nx o K

/-! ### views of owned slices, copies -/

/-- slices of this type are cut without being given up -/
def viewMode (T : Nat → TyI) (t : Nat) : Bool := match T t with
  | .mk 2 .u8 _ _ _ _ => true
  | _ => false

def hiK (fr : Fr) (len : Nat) (hi : Option Operand) (K : Nat → Prop) : Prop := match hi with
  | none => K len
  | some h => evK fr h fun h => match h with
    | .c (.d (.int _ n)) => 0 ≤ n ∧ n.toNat ≤ len ∧ K n.toNat
    | _ => False

def loK (fr : Fr) (h : Nat) (lo : Option Operand) (K : Nat → Prop) : Prop := match lo with
  | none => K 0
  | some l => evK fr l fun l => match l with
    | .c (.d (.int _ n)) => 0 ≤ n ∧ n.toNat ≤ h ∧ K n.toNat
    | _ => False

def viewK (T : Nat → TyI) (fr : Fr) (hp : Hp) (nx : Nat) (t id base : Nat) (len : Option Nat) (lo hi : Option Operand) (K : OpK) : Prop := match T t with
  | .mk kind _ _ _ _ el => match kind with
    | 2 => match T el with
      | .mk ekind _ _ _ _ _ => match ekind with
        | 0 => False
        | _ => match hpAt hp id with
          | .arr e rows => match Nat.beq e el with
            | true => match len with
              | none => hiK fr rows.length hi fun h => loK fr h lo fun l => addK base l fun b => K (.c (.gv id b (Nat.sub h l))) [(id, .arr e rows)] [] [] nx
              | some n => hiK fr n hi fun h => loK fr h lo fun l => addK base l fun b => K (.c (.gv id b (Nat.sub h l))) [(id, .arr e rows)] [] [] nx
            | false => False
          | _ => False
    | _ => False

/-- rows over which others are copied -/
def copyRows (rows : List (List D)) (lo n : Nat) (src : List (List D)) : List (List D) := rows.take lo ++ (src.take n ++ rows.drop (lo + min n src.length))

def aop3 (P : Program) (T : Nat → TyI) (fr : Fr) (hp : Hp) (nx : Nat) (o : Op) (K : OpK) : Prop :=
  match o with
  | .slice t x lo hi mx => evK fr x fun v => match v with
    | .c (.gs id) => match mx with
      | none => match lo with
        | none => match viewMode T t with
          | true => viewK T fr hp nx t id 0 none lo hi K
          | false => aop2 P T fr hp nx (.slice t x lo hi mx) K
        | some _ => viewK T fr hp nx t id 0 none lo hi K
      | some _ => False
    | .c (.gv id base n) => match mx with
      | none => viewK T fr hp nx t id base (some n) lo hi K
      | some _ => False
    | _ => aop2 P T fr hp nx (.slice t x lo hi mx) K
  | .indexAddr t x i => evK fr x fun v => match v with
    | .c (.gv id lo n) => match T t with
      | .mk kind _ _ _ _ el => match kind with
        | 2 => match T el with
          | .mk ekind _ _ _ _ _ => match ekind with
            | 0 => False
            | _ => evK fr i fun j => match j with
              | .c (.d (.int _ k)) => match hpAt hp id with
                | .arr e rows => match Nat.beq e el with
                  | true => 0 ≤ k ∧ k.toNat < n ∧ addK lo k.toNat fun row => K (.c (.ptr id row 0)) [(id, .arr e rows)] [] [] nx
                  | false => False
                | _ => False
              | _ => False
        | _ => False
    | _ => aop2 P T fr hp nx (.indexAddr t x i) K
  | .call c => match c with
    | .mk callee args types => match callee with
      | .builtin .len => evsK fr args.toList fun vs => match vs with
        | [.c (.gv id _ n)] => match types.toList with
          | [t] => match T t with
            | .mk kind _ _ _ _ _ => match kind with
              | 2 => match hpAt hp id with
                | .arr e rows => K (.c (.d (.int .i64 n))) [(id, .arr e rows)] [] [] nx
                | _ => False
              | _ => False
          | _ => False
        | _ => aop2 P T fr hp nx (.call (.mk (.builtin .len) args types)) K
      | .builtin .append => evsK fr args.toList fun vs => match vs with
        | [.c (.gv id lo n), .c y] => match types.toList with
          | [t, t'] => match Nat.beq t t', Nat.beq lo 0, T t with
            | true, true, .mk kind _ _ _ _ el => match kind with
              | 2 => match T el with
                | .mk ekind _ size _ _ _ => match ekind with
                  | 0 => False
                  | _ => rowsK hp y fun rows fp => (∀ r ∈ rows, r.length = size ∧ ∀ d ∈ r, d.scalar = true) ∧ (match hpAt hp id with
                    | .arr e old => match Nat.beq e el with
                      | true => Fits (n + rows.length) ∧ succK nx fun nx' => K (.c (.gs nx)) ((id, .arr e old) :: fp) [(nx, .arr e (old.take n ++ rows)), (id, .gone)] [nx] nx'
                      | false => False
                    | _ => False)
              | _ => False
            | _, _, _ => False
          | _ => False
        | _ => aop2 P T fr hp nx (.call (.mk (.builtin .append) args types)) K
      | .builtin .clear => evsK fr args.toList fun vs => match vs with
        | [.c (.gv id lo n)] => match types.toList with
          | [t] => match T t with
            | .mk kind _ _ _ _ el => match kind with
              | 2 => match T el with
                | .mk ekind _ size zero _ _ => match ekind, Nat.beq size 1 with
                  | 0, _ => False
                  | _, true => scalsK zero fun z => match hpAt hp id with
                    | .arr e rows => match Nat.beq e el with
                      | true => K (.tup []) [(id, .arr e rows)] [(id, .arr e (copyRows rows lo n (List.replicate n z)))] [] nx
                      | false => False
                    | _ => False
                  | _, false => False
              | _ => False
          | _ => False
        | _ => False
      | .builtin .copy => evsK fr args.toList fun vs => match vs with
        | [.c x, .c y] => match types.toList with
          | [t, _] => match T t with
            | .mk kind _ _ _ _ el => match kind with
              | 2 => match T el with
                | .mk ekind _ size _ _ _ => match ekind, Nat.beq size 1 with
                  | 0, _ => False
                  | _, true => rowsK hp y fun src fp => (∀ r ∈ src, r.length = 1 ∧ ∀ d ∈ r, d.scalar = true) ∧ (match x with
                    | .gs id => match hpAt hp id with
                      | .arr e rows => match Nat.beq e el with
                        | true => K (.c (.d (.int .i64 (min rows.length src.length : Nat)))) ((id, .arr e rows) :: fp) [(id, .arr e (copyRows rows 0 rows.length src))] [] nx
                        | false => False
                      | _ => False
                    | .gv id lo n => match hpAt hp id with
                      | .arr e rows => match Nat.beq e el with
                        | true => K (.c (.d (.int .i64 (min n src.length : Nat)))) ((id, .arr e rows) :: fp) [(id, .arr e (copyRows rows lo n src))] [] nx
                        | false => False
                      | _ => False
                    | _ => False)
                  | _, false => False
              | _ => False
          | _ => False
        | _ => False
      | callee => aop2 P T fr hp nx (.call (.mk callee args types)) K
  | o => aop2 P T fr hp nx o K

/-! ### maps, slices of slices, pointers and nil -/

/-- the entry of a key -/
def findE (key : List D) : List (List D × List D) → Option (List D)
  | [] => none
  | (k, v) :: r => match eqB key k with
    | true => some v
    | false => findE key r

/-- an entry set in its place, or behind the others -/
def setE (key val : List D) : List (List D × List D) → List (List D × List D)
  | [] => [(key, val)]
  | (k, v) :: r => match eqB key k with
    | true => (key, val) :: r
    | false => (k, v) :: setE key val r

def intsB : Nat → List D → Bool
  | 0, [] => true
  | n + 1, .int _ _ :: r => intsB n r
  | _, _ => false

def boolEq : Bool → Bool → Bool
  | true, true => true
  | false, false => true
  | _, _ => false

def keyK (ka : Bool) (n : Nat) (v : AV) (K : List D → Prop) : Prop := match ka, v with
  | true, .agg cs => scalsK cs fun key => match intsB n key with
    | true => K key
    | false => False
  | false, .c c => scalK c fun d => match intsB n [d] with
    | true => K [d]
    | false => False
  | _, _ => False

def valK (ea : Bool) (v : AV) (K : List D → Prop) : Prop := match ea, v with
  | true, .agg cs => scalsK cs K
  | false, .c c => scalK c fun d => K [d]
  | _, _ => False

def lookRes (ok : Bool) (x : AC ⊕ List AC) (f : AC) (K : AV → Prop) : Prop := match ok with
  | true => K (.tup [x, .inl f])
  | false => match x with
    | .inl c => K (.c c)
    | .inr cs => K (.agg cs)

def lookK (T : Nat → TyI) (fr : Fr) (hp : Hp) (nx : Nat) (t : TypeId) (x i : Operand) (ok : Bool) (K : OpK) : Prop := match T t with
  | .mk kind _ _ _ offs el => match kind with
    | 6 => match offs with
      | [(_, n, ka)] => match T el with
        | .mk ekind _ _ zero _ _ => match ekind with
          | 0 => False
          | _ => evK fr x fun v => evK fr i fun u => keyK ka n u fun key => match v with
            | .c (.mp id) => match hpAt hp id with
              | .mp ka' ea ents => match boolEq ka ka', boolEq ea (Nat.beq ekind 3) with
                | true, true => (∀ p ∈ ents, eqKinds key p.1 = true) ∧
                  ((∃ ds, findE key ents = some ds ∧ (match ea with
                    | true => mapDK ds fun l => lookRes ok (.inr l) .tt fun r => K r [(id, .mp ka' ea ents)] [] [] nx
                    | false => nthK ds 0 fun d => lookRes ok (.inl (.d d)) .tt fun r => K r [(id, .mp ka' ea ents)] [] [] nx)) ∨
                  (findE key ents = none ∧ (match ea with
                    | true => lookRes ok (.inr zero) .ff fun r => K r [(id, .mp ka' ea ents)] [] [] nx
                    | false => nthK zero 0 fun z => lookRes ok (.inl z) .ff fun r => K r [(id, .mp ka' ea ents)] [] [] nx)))
                | _, _ => False
              | _ => False
            | _ => False
      | _ => False
    | _ => False

def mapUpdK (T : Nat → TyI) (fr : Fr) (hp : Hp) (nx : Nat) (t : TypeId) (m k x : Operand) (K : OpK) : Prop := match T t with
  | .mk kind _ _ _ offs el => match kind with
    | 6 => match offs with
      | [(_, n, ka)] => match T el with
        | .mk ekind _ _ _ _ _ => match ekind with
          | 0 => False
          | _ => evK fr m fun v => evK fr k fun u => evK fr x fun y => keyK ka n u fun key => match v with
            | .c (.mp id) => match hpAt hp id with
              | .mp ka' ea ents => match boolEq ka ka', boolEq ea (Nat.beq ekind 3) with
                | true, true => valK ea y fun val => (∀ p ∈ ents, eqKinds key p.1 = true) ∧ K .undef [(id, .mp ka' ea ents)] [(id, .mp ka' ea (setE key val ents))] [] nx
                | _, _ => False
              | _ => False
            | _ => False
      | _ => False
    | _ => False

def hasNs : List AC → Bool
  | [] => false
  | .ns :: _ => true
  | _ :: r => hasNs r

def dataK : AC → (D → Prop) → Prop
  | .d x, K => K x
  | .tt, K => K (.bool true)
  | .ff, K => K (.bool false)
  | .ns, K => K (.sl [])
  | _, _ => False

def datasK : List AC → (List D → Prop) → Prop
  | [], K => K []
  | x :: r, K => dataK x fun y => datasK r fun ys => K (y :: ys)

/-- the elements of a literal whose elements are structs with slices -/
def elemsAK (fr : Fr) (size : Nat) : Nat → List (Nat × Operand) → (List (List D) → Prop) → Prop
  | _, [], K => K []
  | k, (i, x) :: r, K => match Nat.beq i k with
    | true => evK fr x fun v => match v with
      | .agg cs => match Nat.beq cs.length size with
        | true => datasK cs fun ds => elemsAK fr size (k + 1) r fun l => K (ds :: l)
        | false => False
      | _ => False
    | false => False

def appBK (hp : Hp) (nx : Nat) (el : TypeId) (x : AC) (rows : List (List D)) (K : OpK) : Prop := (∀ r ∈ rows, r.length = 1) ∧ (match x with
  | .ns => Fits rows.length ∧ succK nx fun nx' => K (.c (.gs nx)) [] [(nx, .brr el rows)] [nx] nx'
  | .gs id => match hpAt hp id with
    | .brr e old => match Nat.beq e el with
      | true => Fits (old.length + rows.length) ∧ succK nx fun nx' => K (.c (.gs nx)) [(id, .brr e old)] [(nx, .brr e (old ++ rows)), (id, .gone)] [nx] nx'
      | false => False
    | _ => False
  | _ => False)

def aop4 (P : Program) (T : Nat → TyI) (fr : Fr) (hp : Hp) (nx : Nat) (o : Op) (K : OpK) : Prop :=
  match o with
  | .index t x i => match T t with
    | .mk 8 _ _ _ _ _ => evK fr x fun v => evK fr i fun u => match v, u with
      | .c (.d (.str s)), .c (.d (.int _ n)) => 0 ≤ n ∧ ∃ b : UInt8, s[n.toNat]? = some b ∧ K (.c (.d (.int .u8 b.toNat))) [] [] [] nx
      | _, _ => False
    | _ => False
  | .makeMap t r => match r with
    | none => match T t with
      | .mk kind _ _ _ offs el => match kind with
        | 6 => match offs with
          | [(_, _, ka)] => match T el with
            | .mk ekind _ _ _ _ _ => match ekind with
              | 0 => False
              | _ => succK nx fun nx' => K (.c (.mp nx)) [] [(nx, .mp ka (Nat.beq ekind 3) [])] [nx] nx'
          | _ => False
        | _ => False
    | some _ => False
  | .lookup t x i ok => lookK T fr hp nx t x i ok K
  | .mapUpdate t m k x => mapUpdK T fr hp nx t m k x K
  | .insert t m k x => mapUpdK T fr hp nx t m k x K
  | .load t x => match T t with
    | .mk 0 _ size zero [(n, s, _)] el => arrOKB P t size zero n s el = true ∧ (evK fr x fun v => match v with
      | .c (.ptr id _ col) => match hpAt hp id with
        | .box cells => dropK col cells fun l => takeK size l fun l => K (.agg l) [(id, .box cells)] [] [] nx
        | _ => False
      | _ => False)
    | _ => aop3 P T fr hp nx (.load t x) K
  | .binOp op t x y t' => match T t with
    | .mk 7 _ _ _ _ _ => evK fr x fun v => evK fr y fun u => match u with
      | .c (.d .nilp) => match v with
        | .c (.ptr id _ _) => match hpAt hp id with
          | .box cells => (match op with
            | .eql => K (.c (.d (.bool false))) [(id, .box cells)] [] [] nx
            | .neq => K (.c (.d (.bool true))) [(id, .box cells)] [] [] nx
            | _ => False)
          | _ => False
        | .c (.d .nilp) => (match op with
          | .eql => K (.c (.d (.bool true))) [] [] [] nx
          | .neq => K (.c (.d (.bool false))) [] [] [] nx
          | _ => False)
        | _ => False
      | _ => False
    | _ => aop3 P T fr hp nx (.binOp op t x y t') K
  | .buildSlice t len parts => match T t with
    | .mk 2 _ _ _ _ el => match T el with
      | .mk 3 _ size zero _ _ => match hasNs zero with
        | true => match Nat.beq parts.toList.length len, Nat.ble (Nat.mul len size) 16777216 with
          | true, true => elemsAK fr size 0 parts.toList fun rows => K (.c (.d (.sl rows))) [] [] [] nx
          | _, _ => False
        | false => aop3 P T fr hp nx (.buildSlice t len parts) K
      | _ => aop3 P T fr hp nx (.buildSlice t len parts) K
    | _ => aop3 P T fr hp nx (.buildSlice t len parts) K
  | .call c => match c with
    | .mk callee args types => match callee with
      | .builtin .append => match types.toList with
        | [t, t'] => match T t with
          | .mk 2 _ _ _ _ el => match T el with
            | .mk 2 _ _ _ _ _ => match Nat.beq t t' with
              | true => evsK fr args.toList fun vs => match vs with
                | [.c x, .c (.d (.sl rows))] => appBK hp nx el x rows K
                | _ => False
              | false => False
            | _ => aop3 P T fr hp nx (.call (.mk (.builtin .append) args types)) K
          | _ => aop3 P T fr hp nx (.call (.mk (.builtin .append) args types)) K
        | _ => aop3 P T fr hp nx (.call (.mk (.builtin .append) args types)) K
      | .builtin .len => match types.toList with
        | [t] => match T t with
          | .mk 8 _ _ _ _ _ => evsK fr args.toList fun vs => match vs with
            | [.c (.d (.str s))] => K (.c (.d (.int .i64 s.size))) [] [] [] nx
            | _ => False
          | _ => aop3 P T fr hp nx (.call (.mk (.builtin .len) args types)) K
        | _ => False
      | callee => aop3 P T fr hp nx (.call (.mk callee args types)) K
  | o => aop3 P T fr hp nx o K

/-- an append to the last rows of an owned slice: in place, or in a new block (this is open: what follows is shown for both) -/
def appTK (T : Nat → TyI) (hp : Hp) (nx : Nat) (types : List TypeId) (id lo n : Nat) (y : AC) (K : OpK) : Prop := match types with
  | [t, t'] => match Nat.beq t t', T t with
    | true, .mk kind _ _ _ _ el => match kind with
      | 2 => match T el with
        | .mk ekind _ size _ _ _ => match ekind with
          | 0 => False
          | _ => rowsK hp y fun rows fp => (∀ r ∈ rows, r.length = size ∧ ∀ d ∈ r, d.scalar = true) ∧ rows ≠ [] ∧ (match hpAt hp id with
            | .arr e old => match Nat.beq e el with
              | true => lo + n = old.length ∧ Fits (n + rows.length) ∧ succK nx fun nx' => addK n rows.length fun m =>
                  K (.c (.gv nx lo m)) ((id, .arr e old) :: fp) [(nx, .arr e (old ++ rows)), (id, .gone)] [nx] nx' ∧ K (.c (.gv nx 0 m)) ((id, .arr e old) :: fp) [(nx, .arr e (old.drop lo ++ rows)), (id, .gone)] [nx] nx'
              | false => False
            | _ => False)
      | _ => False
    | _, _ => False
  | _ => False

/-- the operations of a region that does not draw: calls may be told by a property -/
def aopQ (P : Program) (T : Nat → TyI) (fr : Fr) (hp : Hp) (nx : Nat) (o : Op) (K : OpK) : Prop :=
  match o with
  | .call c => match c with
    | .mk callee args types => match callee with
      | .value f => evK fr f fun v => match v with
        | .fn g caps => match modeRel (modeOf T g) with
          | true => evsK fr args.toList fun vs => match caps with
            | [] => callQ P (modeOf T g) g vs hp nx K
            | caps => aop.cellsVK caps fun cs => appK vs cs fun vs => callQ P (modeOf T g) g vs hp nx K
          | false => aop4 P T fr hp nx (.call (.mk (.value f) args types)) K
        | _ => False
      | .builtin .append => match modeRel (modeOf T 999999) with
        | true => evsK fr args.toList fun vs => match vs with
          | [.c (.gv id lo n), .c y] => appTK T hp nx types.toList id lo n y K
          | _ => aop4 P T fr hp nx (.call (.mk (.builtin .append) args types)) K
        | false => aop4 P T fr hp nx (.call (.mk (.builtin .append) args types)) K
      | callee => aop4 P T fr hp nx (.call (.mk callee args types)) K
  | o => aop4 P T fr hp nx o K

def aopX (draw : Bool) (P : Program) (T : Nat → TyI) (fr : Fr) (hp : Hp) (nx : Nat) (o : Op) (K : OpK) : Prop := match draw with
  | false => aopQ P T fr hp nx o K
  | true => aop4 P T fr hp nx o K

/-! ### regions and code -/

def bndL (nx : Nat) : List Nat → Bool
  | [] => true
  | i :: r => match Nat.blt i nx with
    | true => bndL nx r
    | false => false

def bndU (nx : Nat) : Fp → Bool
  | [] => true
  | (i, o) :: r => match Nat.blt i nx with
    | true => match bndL nx o.ids with
      | true => bndU nx r
      | false => false
    | false => false

def updsK : Fp → Hp → (Hp → Prop) → Prop
  | [], h, K => K h
  | p :: r, h, K => updsK r h fun h' => K (p :: h')

def putDst (nt : Nat) (dst : Option Nat) (v : AV) (fr : Fr) (K : Fr → Prop) : Prop :=
  match dst with
  | some d => match Nat.blt d nt with
    | true => K ((d, v) :: fr)
    | false => False
  | none => K fr

def dstOf : List Oper → Nat → Option Nat
  | [], _ => none
  | o :: _, 0 => o.dst
  | _ :: r, n + 1 => dstOf r n

/-- the guard of an operation: taken, or passed over -/
def guardK (ops : List Oper) (fr : Fr) (g : Option (Nat × Bool)) (yes : Fr → Prop) (no : Fr → Prop) : Prop :=
  match g with
  | none => yes fr
  | some (j, want) => match dstOf ops j with
    | none => False
    | some s => match lk fr s with
      | some (.c .tt) => match want with | true => yes fr | false => no fr
      | some (.c .ff) => match want with | true => no fr | false => yes fr
      | some (.c (.d (.bool b))) =>
        (b = true → match want with
          | true => yes ((s, .c .tt) :: fr)
          | false => no ((s, .c .tt) :: fr)) ∧
        (b = false → match want with
          | true => no ((s, .c .ff) :: fr)
          | false => yes ((s, .c .ff) :: fr))
      | some .undef => no fr
      | _ => False

/-- what an operation has touched: number, read, changed, new, named -/
structure Mk where
  rd : List Nat
  ws : List Nat
  nw : List Nat
  ms : List Nat

def fpIds : Fp → List Nat
  | [] => []
  | (i, _) :: r => i :: fpIds r

def usIds : Fp → List Nat
  | [] => []
  | (_, o) :: r => o.ids ++ usIds r

def meets : List Nat → List Nat → Bool
  | [], _ => false
  | i :: r, l => match memN i l with
    | true => true
    | false => meets r l

/-- two operations that may be carried out in either order -/
def clash (a b : Mk) : Bool :=
  meets a.ws b.rd || meets a.ws b.ws || meets b.ws a.rd || meets a.nw b.ms || meets b.nw a.ms

def afters (ops : List Oper) (j : Nat) : List Nat := match ops, j with
  | [], _ => []
  | o :: _, 0 => go o.after.toList
  | _ :: r, n + 1 => afters r n
where
  go : List Edge → List Nat
    | [] => []
    | e :: r => match Region.binds .any e with
      | true => e.on :: go r
      | false => go r

/-- j comes behind i, whatever the order -/
def behind (ops : List Oper) : Nat → Nat → Nat → Bool
  | 0, _, _ => false
  | n + 1, i, j => match memN i (afters ops j) with
    | true => true
    | false => anyB (afters ops j) fun k => match Nat.blt i k with
      | true => behind ops n i k
      | false => false
where
  anyB : List Nat → (Nat → Bool) → Bool
    | [], _ => false
    | k :: r, p => match p k with
      | true => true
      | false => anyB r p

/-- the slots that an operation looks at -/
def looks (ops : List Oper) (o : Oper) : List Nat :=
  tmpsOf o.op.operands.toList ++ (match o.guard with
    | some (g, _) => (dstOf ops g).toList
    | none => [])
where
  tmpsOf : List Operand → List Nat
    | [] => []
    | .tmp t :: r => t :: tmpsOf r
    | _ :: r => tmpsOf r

/-- two operations whose slots are apart -/
def apartB (ops : List Oper) (a b : Oper) : Bool :=
  (match a.dst with
    | some d => !memN d (looks ops b) && (match b.dst with
      | some d' => !Nat.beq d d'
      | none => true)
    | none => true) &&
  (match b.dst with
    | some d => !memN d (looks ops a)
    | none => true)

def backB (ops : List Oper) (j : Nat) : Bool := (afters ops j).all fun i => Nat.blt i j

/-- the operations of a region that draws: edges lead back; what is not ordered is apart; no select -/
def drawOk (ops : List Oper) : Bool :=
  (List.range ops.length).all fun j => backB ops j && (match ops[j]? with
    | some b => (List.range j).all fun i => match ops[i]? with
      | some a => apartB ops a b || behind ops 60 i j
      | none => false
    | none => false)

/-- the k-th operation against those before it -/
def clashOk (ops : List Oper) (k : Nat) (m : Mk) : Nat → List Mk → Bool
  | _, [] => true
  | i, a :: r => match clash a m with
    | true => match behind ops 60 i k with
      | true => clashOk ops k m (i + 1) r
      | false => false
    | false => clashOk ops k m (i + 1) r

def aops (P : Program) (T : Nat → TyI) (nt : Nat) (ops : List Oper) (draw : Bool) : Nat → List Mk → List Oper → Fr → Hp → Nat → (Fr → Hp → Nat → Prop) → Prop
  | _, _, [], fr, hp, nx, K => K fr hp nx
  | k, ms, o :: r, fr, hp, nx, K => match o with
    | .mk dst op _ _ _ guard => guardK ops fr guard
      (fun fr => aopX draw P T fr hp nx op fun v rd us nw nx' => match bndL nx' v.ids, bndU nx' us with
        | true, true => putDst nt dst v fr fun fr => updsK us hp fun hp => match draw with
          | false => aops P T nt ops draw 0 [] r fr hp nx' K
          | true => match clashOk ops k ⟨fpIds rd, fpIds us, nw, v.ids ++ (usIds us ++ fpIds us)⟩ 0 ms with
            | true => appK ms [⟨fpIds rd, fpIds us, nw, v.ids ++ (usIds us ++ fpIds us)⟩] fun ms => aops P T nt ops draw (k + 1) ms r fr hp nx' K
            | false => False
        | _, _ => False)
      (fun fr => putDst nt dst .undef fr fun fr => match draw with
        | false => aops P T nt ops draw 0 [] r fr hp nx K
        | true => appK ms [⟨[], [], [], []⟩] fun ms => aops P T nt ops draw (k + 1) ms r fr hp nx K)

inductive Ex where
  | normal
  | exit (id : Nat)
  | ret

end Go.Cpl

namespace Go.Cpl
open Go

def EvOK (fr : Fr) (x : Operand) (v : AV) : Prop := match x with
  | .tmp t => lk fr t = some v
  | .const c => (∀ M τ H, AVRep M τ H v c) ∧ v.ids = []
  | .func f => v = .fn f []
  | .global _ => False

theorem const_ok {c : Value} {K : AV → Prop} (h : constK c K) : ∃ v, (∀ M τ H, AVRep M τ H v c) ∧ v.ids = [] ∧ K v := by
  unfold constK at h
  split at h
  · exact ⟨.c (.d (.int _ _)), fun M τ H => DRep.scal (.int _ _) rfl, rfl, h⟩
  · exact ⟨.c .tt, fun M τ H => rfl, rfl, h⟩
  · exact ⟨.c .ff, fun M τ H => rfl, rfl, h⟩
  · exact ⟨.c .ns, fun M τ H => rfl, rfl, h⟩
  · exact ⟨.c (.d .nilp), fun M τ H => DRep.scal .nilp rfl, rfl, h⟩
  · rename_i s; exact ⟨.c (.d (.str s)), fun M τ H => DRep.scal (.str s) rfl, rfl, h⟩
  · exact h.elim

theorem ev_ok {fr : Fr} {x : Operand} {K : AV → Prop} (h : evK fr x K) : ∃ v, EvOK fr x v ∧ K v := by
  unfold evK at h
  cases x with
  | tmp t =>
    simp only at h
    split at h
    · rename_i v hv; exact ⟨v, hv, h⟩
    · exact h.elim
  | const c => obtain ⟨v, h1, h0, h2⟩ := const_ok h; exact ⟨v, ⟨h1, h0⟩, h2⟩
  | func f => exact ⟨_, rfl, h⟩
  | global g => exact h.elim

theorem evs_ok {fr : Fr} : ∀ {xs : List Operand} {K : List AV → Prop}, evsK fr xs K → ∃ vs, All2 (EvOK fr) xs vs ∧ K vs
  | [], K, h => ⟨[], trivial, h⟩
  | x :: r, K, h => by
    obtain ⟨v, h1, h2⟩ := ev_ok h
    obtain ⟨vs, h3, h4⟩ := evs_ok h2
    exact ⟨v :: vs, ⟨h1, h3⟩, h4⟩

/-- what an operation does, from what it looks at alone -/
structure OpData where
  ins : List (Operand × AV)
  rd : Fp
  us : Fp
  nw : List Nat
  v : AV

def OpRun (P : Program) (o : Oper) (ρ : Operand → Value) (w : World) (R : Value → World → Prop) : Prop :=
  ∀ (a : Act) (next : Act → World → Prop) (Q : Exit → Act → World → Prop), (∀ v w', R v w' → next (a.put o.dst v) w') → o.upon P a next Q ((execOp ρ o).run P w)

def OpHolds (P : Program) (o : Oper) (d : OpData) : Prop :=
  ∀ (M : Mem) (τ : Tau) (H : HF) (w : World) (ρ : Operand → Value), Inv P M τ H w → (∀ p ∈ d.ins, AVRep M τ H p.2 (ρ p.1)) → (∀ p ∈ d.rd, H p.1 = p.2) →
    (∀ id ∈ d.nw, FreshH H id ∧ ∀ p ∈ d.ins, id ∉ p.2.ids) →
    OpRun P o ρ w fun v' w' => ∃ M' τ', Nx P M τ H w (updH H d.us) M' τ' w' d.nw ∧ AVRep M' τ' (updH H d.us) d.v v'

theorem OpRun.value {P : Program} {o : Oper} {ρ : Operand → Value} {w : World} {R : Value → World → Prop} {v : Value} {w' : World} (h : (execOp ρ o).run P w = .ok (.value v) w') (hr : R v w') : OpRun P o ρ w R :=
  fun a next Q hn => by rw [h]; exact hn v w' hr

theorem OpRun.skip {P : Program} {o : Oper} {ρ : Operand → Value} {w : World} {R : Value → World → Prop} {w' : World} (h : (execOp ρ o).run P w = .ok .skip w') (hr : R Go.undef w') : OpRun P o ρ w R :=
  fun a next Q hn => by rw [h]; exact hn _ w' hr

theorem OpRun.call {P : Program} {o : Oper} {ρ : Operand → Value} {w : World} {R : Value → World → Prop} {f : FuncId} {args : Array Value} {w' : World} (h : (execOp ρ o).run P w = .ok (.enter f args) w')
    (hr : Calls P f args w' fun e w'' => ∃ v, e = .returned v ∧ R v w'') : OpRun P o ρ w R :=
  fun a next Q hn => by
    rw [h]
    show Calls P f args w' _
    refine hr.mono ?_
    rintro e w'' ⟨v, rfl, hv⟩
    exact hn v w'' hv

/-- an operation that leaves the world alone -/
theorem OpHolds.pure {P : Program} {o : Oper} {ins : List (Operand × AV)} {rd : Fp} {v : AV}
    (h : ∀ (M : Mem) (τ : Tau) (H : HF) (w : World) (ρ : Operand → Value), Inv P M τ H w → (∀ p ∈ ins, AVRep M τ H p.2 (ρ p.1)) → (∀ p ∈ rd, H p.1 = p.2) →
      ∃ v', (execOp ρ o).run P w = .ok (.value v') w ∧ AVRep M τ H v v') : OpHolds P o ⟨ins, rd, [], [], v⟩ := by
  intro M τ H w ρ hinv hins hrd _
  obtain ⟨v', hr, hv⟩ := h M τ H w ρ hinv hins hrd
  exact OpRun.value hr ⟨M, τ, Nx.still hinv (WSame.refl _ _), hv⟩

section ops
variable {P : Program} {o : Oper}

theorem ok_move {x : Operand} {v : AV} (ho : o.op = .move x ∨ o.op = .assign x) : OpHolds P o ⟨[(x, v)], [], [], [], v⟩ :=
  OpHolds.pure fun M τ H w ρ _ hins _ => ⟨ρ x, by rcases ho with ho | ho <;> simp [execOp, ho], hins (x, v) (by simp)⟩

theorem ok_pick {c x y : Operand} {t : Bool} {v : AV} (ho : o.op = .pick c x y) :
    OpHolds P o ⟨[(c, .c (if t then .tt else .ff)), (if t then x else y, v)], [], [], [], v⟩ :=
  OpHolds.pure fun M τ H w ρ _ hins _ => by
    have h1 := hins (c, _) (List.mem_cons_self ..)
    have h2 := hins (if t then x else y, v) (by simp)
    refine ⟨ρ (if t then x else y), ?_, h2⟩
    cases t
    · have h1 : ρ c = .bool false := h1
      simp [execOp, ho, h1, asBool]
    · have h1 : ρ c = .bool true := h1
      simp [execOp, ho, h1, asBool]

def aggB : TypeDesc → Bool
  | .struct _ | .array _ _ => true
  | _ => false

theorem run_isAgg {t : TypeId} {d : TypeDesc} (h : P.underlying t = some d) (w : World) : (isAgg t).run P w = .ok (aggB d) w := by
  unfold isAgg
  simp only [Sem.run_bind, run_underlying h, Result.andThen_ok]
  cases d <;> simp [aggB]

theorem run_sizeOf {t : TypeId} {i : TypeInfo} (h : P.info? t = some i) (w : World) : (sizeOf t).run P w = .ok i.size w := by
  simp [sizeOf, typeInfo, h]

theorem cell_of {w : World} {b off : Nat} {cs : Array Value} {e : TypeId} {fz : Nat × Nat} (h : w.heap[b]? = some (.cells cs e fz)) : w.cell? ⟨b, off, none⟩ = cs[off]? := by
  simp [World.cell?, h]

theorem add_addr (b off j : Nat) : (⟨b, off, none⟩ : Addr).add j = ⟨b, off + j, none⟩ := by
  unfold Addr.add; split <;> simp_all

/-! ### the table of types -/

def acVal : AC → Value
  | .d x => x.val
  | .tt => .bool true
  | .ff => .bool false
  | .ns => .slice none 0 0
  | _ => .tuple #[]

def acConst : AC → Bool
  | .d x => x.scalar
  | .tt | .ff | .ns => true
  | _ => false

theorem acConst_rep {x : AC} (h : acConst x = true) (M : Mem) (τ : Tau) (H : HF) : ACRep M τ H x (acVal x) := by
  cases x with
  | d x => exact DRep.scal x h
  | tt => rfl
  | ff => rfl
  | ns => rfl
  | ptr => simp [acConst] at h
  | gs => simp [acConst] at h
  | gv => simp [acConst] at h
  | mp => simp [acConst] at h
  | rp => simp [acConst] at h

theorem acConsts_rep (M : Mem) (τ : Tau) (H : HF) : ∀ (xs : List AC), xs.all acConst = true → All2 (ACRep M τ H) xs (xs.map acVal)
  | [], _ => trivial
  | x :: r, h => by simp only [List.all_cons, Bool.and_eq_true] at h; exact ⟨acConst_rep h.1 M τ H, acConsts_rep M τ H r h.2⟩

theorem acConsts_ids : ∀ (xs : List AC), xs.all acConst = true → idsOf xs = []
  | [], _ => rfl
  | x :: r, h => by
    simp only [List.all_cons, Bool.and_eq_true] at h
    have : x.ids = [] := by cases x <;> first | rfl | simp [acConst] at h
    simp [idsOf, this, acConsts_ids r h.2]

def structFact (P : Program) (t : TypeId) : Option (List (Nat × Nat × Bool)) := match P.underlying t with
  | some (.struct fs) => some (fs.toList.map fun f => match P.underlying f.type with
    | some d => (f.offset, P.cellsOf f.type, aggB d)
    | none => (0, 0, false))
  | _ => none

def sizeFact (P : Program) (t : TypeId) : Option (Nat × Nat × Option (List Value)) := (P.info? t).map fun i => (i.size, i.bytes, i.zero.map (·.cells.toList))

/-- keys of maps: an int, or two ints in an array -/
def keyTy (P : Program) (kt : TypeId) (n : Nat) (ka : Bool) : Bool := match P.underlying kt with
  | some (.int _) => !ka && Nat.beq n 1
  | some (.array m e) => ka && Nat.beq m 2 && Nat.beq n 2 && (match P.underlying e, P.info? e with
    | some (.int _), some i => Nat.beq i.size 1
    | _, _ => false)
  | _ => false

/-- the zero value of a map's elements is of the right form -/
def elZero (P : Program) (et : TypeId) : Bool := match P.underlying et, (P.info? et).bind (·.zero) with
  | some d, some (.agg _) => aggB d
  | some d, some v => !aggB d && v.oneCell'
  | _, _ => false

/-- a map type, as the table has it: the key's type, number of cells, aggregate?; the elements' type -/
def mapFact (P : Program) (t : TypeId) (offs : List (Nat × Nat × Bool)) (el : TypeId) : Bool := match P.underlying t, offs with
  | some (.map kt et), [(kt', n, ka)] => Nat.beq kt kt' && Nat.beq et el && keyTy P kt n ka && elZero P et
  | _, _ => false

def TyOK (P : Program) (t : TypeId) (i : TyI) : Prop :=
  i.kind = 0 ∨ ((∃ bytes, bytes ≤ 65536 ∧ sizeFact P t = some (i.size, bytes, some (i.zero.map acVal))) ∧ i.zero.all acConst = true ∧ i.zero.length = i.size ∧ 0 < i.size ∧ match i.kind with
    | 1 => P.underlying t = some (.int i.ik) ∧ i.size = 1
    | 2 => P.underlying t = some (.slice i.el) ∧ i.size = 1
    | 3 => structFact P t = some i.offs ∧ i.offs.all (fun f => f.2.1 != 0) = true
    | 5 => P.underlying t = some .bool ∧ i.size = 1
    | 6 => mapFact P t i.offs i.el = true ∧ i.size = 1
    | 7 => P.underlying t = some (.pointer i.el) ∧ i.size = 1
    | 8 => P.underlying t = some .string ∧ i.size = 1
    | _ => (P.underlying t).map aggB = some false ∧ i.size = 1)

def TabOK (P : Program) (T : Nat → TyI) : Prop := ∀ t, TyOK P t (T t)

theorem TyOK.info {t : TypeId} {i : TyI} (h : TyOK P t i) (hk : i.kind ≠ 0) : ∃ inf z, P.info? t = some inf ∧ inf.size = i.size ∧ inf.bytes ≤ 65536 ∧ inf.zero = some z ∧ z.cells = (i.zero.map acVal).toArray ∧ i.zero.all acConst = true ∧ i.zero.length = i.size ∧ 0 < i.size := by
  rcases h with h | ⟨⟨bytes, hb, h⟩, h0, h1, h2, _⟩
  · exact absurd h hk
  · unfold sizeFact at h
    cases hi : P.info? t with
    | none => rw [hi] at h; simp at h
    | some inf =>
      rw [hi] at h
      simp only [Option.map_some, Option.some.injEq, Prod.mk.injEq] at h
      obtain ⟨e1, e2, e3⟩ := h
      cases hz : inf.zero with
      | none => rw [hz] at e3; simp at e3
      | some z =>
        rw [hz] at e3
        simp only [Option.map_some, Option.some.injEq] at e3
        refine ⟨inf, z, rfl, e1, by omega, hz, ?_, h0, h1, h2⟩
        rw [← e3]

theorem TyOK.und {t : TypeId} {i : TyI} (h : TyOK P t i) (hk : i.kind ≠ 0) : ∃ d, P.underlying t = some d ∧ (aggB d = true ↔ i.kind = 3) ∧ (i.kind ≠ 3 → i.size = 1) := by
  rcases h with h | ⟨_, _, _, _, h⟩
  · exact absurd h hk
  · split at h
    · rename_i e; exact ⟨_, h.1, by simp [aggB, e], fun _ => h.2⟩
    · rename_i e; exact ⟨_, h.1, by simp [aggB, e], fun _ => h.2⟩
    · rename_i e
      have h1 := h.1
      unfold structFact at h1
      split at h1
      · rename_i fs hfs; exact ⟨_, hfs, by simp [aggB, e], fun hn => absurd e hn⟩
      · cases h1
    · rename_i e; exact ⟨_, h.1, by simp [aggB, e], fun _ => h.2⟩
    · rename_i e
      have h1 := h.1
      unfold mapFact at h1
      split at h1
      · rename_i hu _; exact ⟨_, hu, by simp [aggB, e], fun _ => h.2⟩
      · cases h1
    · rename_i e; exact ⟨_, h.1, by simp [aggB, e], fun _ => h.2⟩
    · rename_i e; exact ⟨_, h.1, by simp [aggB, e], fun _ => h.2⟩
    · rename_i e1 e2 e3 e4 e5 e6 e7
      have h1 := h.1
      cases hu : P.underlying t with
      | none => rw [hu] at h1; simp at h1
      | some d =>
        rw [hu] at h1
        simp at h1
        exact ⟨d, rfl, ⟨(fun h => by rw [h1] at h; exact absurd h (by simp)), fun h => (e3 h).elim⟩, fun _ => h.2⟩

/-- a load of one cell -/
theorem run_load_cell {t : TypeId} {d : TypeDesc} (hd : P.underlying t = some d) (ha : aggB d = false) {w : World} {b off : Nat} {v : Value} (hc : w.cell? ⟨b, off, none⟩ = some v) :
    (Instr.loadAt t (.pointer (some ⟨b, off, none⟩))).run P w = .ok v w := by
  simp [Instr.loadAt, Instr.sureAddr, loadVar, run_isAgg hd, ha, hc]

theorem run_load_agg {t : TypeId} {d : TypeDesc} {i : TypeInfo} (hd : P.underlying t = some d) (ha : aggB d = true) (hi : P.info? t = some i) {w : World} {b off : Nat} {us : List Value} (hl : us.length = i.size)
    (hc : ∀ j v, us[j]? = some v → w.cell? ⟨b, off + j, none⟩ = some v) :
    (Instr.loadAt t (.pointer (some ⟨b, off, none⟩))).run P w = .ok (.agg us.toArray) w := by
  have := run_loadCells_list (P := P) w ⟨b, off, none⟩ us (fun j v hj => by rw [add_addr]; exact hc j v hj)
  rw [hl] at this
  simp [Instr.loadAt, Instr.sureAddr, loadVar, run_isAgg hd, ha, run_sizeOf hi, this]

end ops
end Go.Cpl

namespace Go.Cpl
open Go
section ops
variable {P : Program} {o : Oper}

theorem cells_rep {M : Mem} {τ : Tau} {H : HF} {v : AV} {u : Value} {cs : List AC} (h : AVRep M τ H v u) (hc : cellsOf v = some cs) : ∃ us : List Value, u.cells = us.toArray ∧ All2 (ACRep M τ H) cs us := by
  cases v with
  | c x =>
    simp [cellsOf] at hc
    subst hc
    have := ACRep.one h
    refine ⟨[u], ?_, h, trivial⟩
    cases u <;> first | rfl | simp [Value.oneCell'] at this
  | agg xs =>
    simp [cellsOf] at hc
    subst hc
    obtain ⟨us, rfl, h⟩ := h
    exact ⟨us, rfl, h⟩
  | tup => simp [cellsOf] at hc
  | fn => simp [cellsOf] at hc
  | undef => simp [cellsOf] at hc
  | top => simp [cellsOf] at hc

theorem cellsOf_ids {v : AV} {cs : List AC} (hc : cellsOf v = some cs) : v.ids = idsOf cs := by
  cases v <;> simp [cellsOf] at hc <;> subst hc <;> simp [AV.ids, idsOf]

theorem one_all {M : Mem} {τ : Tau} {H : HF} : ∀ {cs : List AC} {us : List Value}, All2 (ACRep M τ H) cs us → ∀ u ∈ us, u.oneCell' = true
  | [], [], _, _, h => by cases h
  | _ :: _, _ :: _, ⟨h1, h2⟩, u, h => by
    cases h with
    | head => exact ACRep.one h1
    | tail _ h => exact one_all h2 u h
  | [], _ :: _, h, _, _ => h.elim
  | _ :: _, [], h, _, _ => h.elim

theorem ok_box {x : Operand} {t : TypeId} {v : AV} {cs : List AC} {n : Nat} (ho : o.op = .box t x) (hc : cellsOf v = some cs) :
    OpHolds P o ⟨[(x, v)], [], [(n, .box cs)], [n], .c (.ptr n 0 0)⟩ := by
  intro M τ H w ρ hinv hins hrd hnew
  obtain ⟨us, h1, h2⟩ := cells_rep (hins (x, v) (by simp)) hc
  obtain ⟨hf, hid⟩ := hnew n (by simp)
  have hid := hid (x, v) (by simp)
  rw [cellsOf_ids hc] at hid
  refine OpRun.value (v := .pointer (some ⟨w.heap.size, 0, none⟩)) (w' := w.alloc (.cells us.toArray t)) ?_ ⟨M, updF τ n ⟨w.heap.size, 0, 0, false⟩, ?_, ?_⟩
  · simp [execOp, ho, Instr.box, newVar, newRow, h1]
  · have := Nx.newBox (w' := w.alloc (.cells us.toArray t)) hinv hf cs us t (WSame.alloc _ _ _) hid (Nat.le_refl _) (alloc_new _ _) h2
    exact this
  · simp [AVRep, ACRep, updH, updF]

theorem ok_alloc {t : TypeId} {i : TyI} {n : Nat} (ho : o.op = .alloc t) (ht : TyOK P t i) (hk : i.kind ≠ 0) :
    OpHolds P o ⟨[], [], [(n, .box i.zero)], [n], .c (.ptr n 0 0)⟩ := by
  intro M τ H w ρ hinv hins hrd hnew
  obtain ⟨inf, z, h1, h2, h3, h4, h5, h6, h7, h8⟩ := ht.info hk
  obtain ⟨hf, hid⟩ := hnew n (by simp)
  refine OpRun.value (v := .pointer (some ⟨w.heap.size, 0, none⟩)) (w' := w.alloc (.cells (i.zero.map acVal).toArray t)) ?_ ⟨M, updF τ n ⟨w.heap.size, 0, 0, false⟩, ?_, ?_⟩
  · simp [execOp, ho, Instr.alloc, zeroValue, typeInfo, h1, h4, newVar, newRow, h5]
  · have := Nx.newBox (w' := w.alloc (.cells (i.zero.map acVal).toArray t)) hinv hf i.zero (i.zero.map acVal) t (WSame.alloc _ _ _) (by rw [acConsts_ids _ h6]; simp) (Nat.le_refl _) (alloc_new _ _) (acConsts_rep _ _ _ _ h6)
    exact this
  · simp [AVRep, ACRep, updH, updF]

theorem rp_at {M : Mem} {τ : Tau} {H : HF} {w : World} {cells : List D} {v : Value} (hinv : Inv P M τ H w) (h : ACRep M τ H (.rp cells) v) :
    ∃ (b off : Nat) (us : List Value), v = .pointer (some ⟨b, off, none⟩) ∧ All2 (DRep M) cells us ∧ ∀ j u, us[j]? = some u → w.cell? ⟨b, off + j, none⟩ = some u := by
  obtain ⟨b, off, cs, e, fz, vs, rfl, h1, h2⟩ := h
  have hb := hinv.mem _ _ h1
  refine ⟨b, off, (List.range cells.length).map vs, rfl, ?_, ?_⟩
  · clear hb hinv h1
    induction cells generalizing off vs with
    | nil => simp [All2]
    | cons x r ih =>
      rw [List.length_cons, List.range_succ_eq_map, List.map_cons, List.map_map]
      refine ⟨(h2 0 x (by simp)).2, ?_⟩
      exact ih (off + 1) (vs ∘ Nat.succ) (fun j y hj => by
        have := h2 (j + 1) y (by simpa using hj)
        rw [show off + (j + 1) = off + 1 + j by omega] at this
        exact this)
  · intro j u hj
    rw [cell_of hb]
    simp only [List.getElem?_map, Option.map_eq_some_iff] at hj
    obtain ⟨k, hk, rfl⟩ := hj
    obtain ⟨hlt, hk⟩ := List.getElem?_eq_some_iff.1 hk
    simp at hk hlt
    subst hk
    obtain ⟨x, hx⟩ : ∃ x, cells[j]? = some x := ⟨cells[j], by simp [hlt]⟩
    exact (h2 j x hx).1

theorem mapD_rep {M : Mem} {τ : Tau} {H : HF} : ∀ {l : List D} {us : List Value}, All2 (DRep M) l us → All2 (ACRep M τ H) (l.map .d) us
  | [], [], _ => trivial
  | _ :: _, _ :: _, ⟨h1, h2⟩ => ⟨h1, mapD_rep h2⟩
  | [], _ :: _, h => h.elim
  | _ :: _, [], h => h.elim

theorem ok_load_rp_cell {t : TypeId} {x : Operand} {i : TyI} {c : D} {cells : List D} (ho : o.op = .load t x) (ht : TyOK P t i) (hk : i.kind ≠ 0) (hk3 : i.kind ≠ 3) :
    OpHolds P o ⟨[(x, .c (.rp (c :: cells)))], [], [], [], .c (.d c)⟩ :=
  OpHolds.pure fun M τ H w ρ hinv hins _ => by
    obtain ⟨b, off, us, hv, hu, hc⟩ := rp_at hinv (hins (x, _) (List.mem_cons_self ..))
    obtain ⟨d, hd, ha, _⟩ := ht.und hk
    cases us with
    | nil => exact hu.elim
    | cons u us =>
      refine ⟨u, ?_, hu.1⟩
      have := run_load_cell (P := P) hd (by simpa [hk3] using ha) (hc 0 u (by simp))
      simp at hv
      simp at this
      simp [execOp, ho, hv, this]

/-- cells from 'off' on, as a list -/
theorem ok_load_agg_of {t : TypeId} {i : TyI} (ht : TyOK P t i) (hk3 : i.kind = 3) {w : World} {b off : Nat} {us : List Value} (hl : us.length = i.size)
    (hc : ∀ j v, us[j]? = some v → w.cell? ⟨b, off + j, none⟩ = some v) : (Instr.loadAt t (.pointer (some ⟨b, off, none⟩))).run P w = .ok (.agg us.toArray) w := by
  obtain ⟨d, hd, ha, _⟩ := ht.und (by omega)
  obtain ⟨inf, z, h1, h2, _⟩ := ht.info (by omega)
  exact run_load_agg (P := P) hd (ha.2 hk3) h1 (by rw [h2, ← hl]) hc

theorem ok_load_cell_of {t : TypeId} {i : TyI} (ht : TyOK P t i) (hk : i.kind ≠ 0) (hk3 : i.kind ≠ 3) {w : World} {b off : Nat} {u : Value}
    (hc : w.cell? ⟨b, off, none⟩ = some u) : (Instr.loadAt t (.pointer (some ⟨b, off, none⟩))).run P w = .ok u w := by
  obtain ⟨d, hd, ha, _⟩ := ht.und hk
  exact run_load_cell (P := P) hd (by simpa [hk3] using ha) hc

theorem take_get {α : Type} {us : List α} {n j : Nat} {v : α} (h : (us.take n)[j]? = some v) : us[j]? = some v := by
  rw [List.getElem?_take] at h
  split at h
  · exact h
  · cases h

theorem ok_load_rp_agg {t : TypeId} {x : Operand} {i : TyI} {l r : List D} (ho : o.op = .load t x) (ht : TyOK P t i) (hk3 : i.kind = 3) (hl : l.length = i.size) :
    OpHolds P o ⟨[(x, .c (.rp (l ++ r)))], [], [], [], .agg (l.map .d)⟩ :=
  OpHolds.pure fun M τ H w ρ hinv hins _ => by
    obtain ⟨b, off, us, hv, hu, hc⟩ := rp_at hinv (hins (x, _) (List.mem_cons_self ..))
    have hu' := hu.take l.length
    rw [List.take_left' rfl] at hu'
    have hul := hu'.length
    refine ⟨.agg (us.take l.length).toArray, ?_, us.take l.length, rfl, mapD_rep hu'⟩
    have := ok_load_agg_of ht hk3 (us := us.take l.length) (by rw [← hul, hl]) (fun j v hj => hc j v (take_get hj))
    simp at hv
    simp only [execOp, ho, hv, Sem.run_bind, this]
    simp

/-- the cells of an owned box -/
theorem box_at {M : Mem} {τ : Tau} {H : HF} {w : World} {id : Nat} {cells : List AC} (hinv : Inv P M τ H w) (h : H id = .box cells) :
    ∃ (us : List Value) (e : TypeId), w.heap[(τ id).b]? = some (.cells us.toArray e (0, 0)) ∧ All2 (ACRep M τ H) cells us := by
  have := hinv.obj id
  rw [h] at this
  exact this

theorem ok_load_box_cell {t : TypeId} {x : Operand} {i : TyI} {id row col : Nat} {cells : List AC} {c : AC} (ho : o.op = .load t x) (ht : TyOK P t i) (hk : i.kind ≠ 0) (hk3 : i.kind ≠ 3) (hc : cells[col]? = some c) :
    OpHolds P o ⟨[(x, .c (.ptr id row col))], [(id, .box cells)], [], [], .c c⟩ :=
  OpHolds.pure fun M τ H w ρ hinv hins hrd => by
    have hH := hrd (id, _) (List.mem_cons_self ..)
    have hv := hins (x, _) (List.mem_cons_self ..)
    simp only [AVRep, ACRep, hH] at hv
    obtain ⟨us, e, h1, h2⟩ := box_at hinv hH
    obtain ⟨u, hu, hr⟩ := h2.get hc
    refine ⟨u, ?_, hr⟩
    have := ok_load_cell_of ht hk hk3 (w := w) (b := (τ id).b) (off := col) (u := u) (by rw [cell_of h1]; simpa using hu)
    simp [execOp, ho, hv.2, this]

theorem ok_load_box_agg {t : TypeId} {x : Operand} {i : TyI} {id row col : Nat} {cells pre l r : List AC} (ho : o.op = .load t x) (ht : TyOK P t i) (hk3 : i.kind = 3) (hl : l.length = i.size) (hp : pre.length = col) (hc : cells = pre ++ (l ++ r)) :
    OpHolds P o ⟨[(x, .c (.ptr id row col))], [(id, .box cells)], [], [], .agg l⟩ :=
  OpHolds.pure fun M τ H w ρ hinv hins hrd => by
    have hH := hrd (id, _) (List.mem_cons_self ..)
    have hv := hins (x, _) (List.mem_cons_self ..)
    simp only [AVRep, ACRep, hH] at hv
    obtain ⟨us, e, h1, h2⟩ := box_at hinv hH
    have h3 := (h2.drop col).take l.length
    rw [hc, List.drop_left' hp, List.take_left' rfl] at h3
    have hul := h3.length
    refine ⟨.agg ((us.drop col).take l.length).toArray, ?_, _, rfl, h3⟩
    have := ok_load_agg_of ht hk3 (w := w) (b := (τ id).b) (off := col) (us := (us.drop col).take l.length) (by rw [← hul, hl]) (fun j v hj => by
      have hj := take_get hj
      rw [cell_of h1]
      rw [List.getElem?_drop] at hj
      simpa using hj)
    simp only [execOp, ho, hv.2, Sem.run_bind, this]
    simp

theorem flat_get {s : Nat} : ∀ {rows : List (List D)} {i j : Nat} {r : List D} {x : D}, (∀ r ∈ rows, r.length = s) → rows[i]? = some r → r[j]? = some x → (flat rows)[i * s + j]? = some x.val
  | [], _, _, _, _, _, h, _ => by simp at h
  | r0 :: rows, 0, j, r, x, hs, h, hj => by
    simp at h; subst h
    obtain ⟨hlt, he⟩ := List.getElem?_eq_some_iff.1 hj
    simp [flat, List.getElem?_append_left, hlt, he]
  | r0 :: rows, i + 1, j, r, x, hs, h, hj => by
    have h0 := hs r0 (by simp)
    have := flat_get (rows := rows) (i := i) (j := j) (fun r hr => hs r (by simp [hr])) (by simpa using h) hj
    have e : flat (r0 :: rows) = r0.map D.val ++ flat rows := by simp [flat]
    rw [e, List.getElem?_append_right (by simp [h0, Nat.add_mul]; omega)]
    rw [← this]
    congr 1
    simp [h0, Nat.add_mul]; omega

theorem flat_length {s : Nat} : ∀ {rows : List (List D)}, (∀ r ∈ rows, r.length = s) → (flat rows).length = rows.length * s
  | [], _ => by simp [flat]
  | r0 :: rows, hs => by
    have h0 := hs r0 (by simp)
    have := flat_length (rows := rows) (fun r hr => hs r (by simp [hr]))
    simp [flat] at this ⊢
    rw [h0, this, Nat.add_mul]; omega

theorem RowsRep.length {M : Mem} {s : Nat} {rows : List (List D)} {vs : List Value} (h : RowsRep M s rows vs) : vs.length = rows.length * s := by
  have h1 := h.rep.length
  have : ∀ (l : List (List D)), (∀ r ∈ l, r.length = s) → l.flatten.length = l.length * s := by
    intro l
    induction l with
    | nil => simp
    | cons r l ih =>
      intro hl
      rw [List.flatten_cons, List.length_append, ih fun q hq => hl q (by simp [hq]), hl r (by simp), List.length_cons, Nat.add_mul]; omega
  rw [← h1, this rows h.len]

theorem flatten_get {s : Nat} : ∀ {rows : List (List D)} {i j : Nat} {r : List D} {x : D}, (∀ r ∈ rows, r.length = s) → rows[i]? = some r → r[j]? = some x → rows.flatten[i * s + j]? = some x
  | [], _, _, _, _, _, h, _ => by simp at h
  | r0 :: rows, 0, j, r, x, hs, h, hj => by
    simp at h; subst h
    obtain ⟨hlt, he⟩ := List.getElem?_eq_some_iff.1 hj
    simp [List.getElem?_append_left, hlt, he]
  | r0 :: rows, i + 1, j, r, x, hs, h, hj => by
    have h0 := hs r0 (by simp)
    have := flatten_get (rows := rows) (i := i) (j := j) (fun r hr => hs r (by simp [hr])) (by simpa using h) hj
    rw [List.flatten_cons, List.getElem?_append_right (by rw [h0, Nat.add_mul]; omega)]
    rw [← this]
    congr 1
    rw [h0, Nat.add_mul]; omega

theorem RowsRep.get {M : Mem} {s : Nat} {rows : List (List D)} {vs : List Value} (h : RowsRep M s rows vs) {i j : Nat} {r : List D} {x : D} (hr : rows[i]? = some r) (hx : r[j]? = some x) : ∃ v, vs[i * s + j]? = some v ∧ DRep M x v :=
  h.rep.get (flatten_get h.len hr hx)

theorem RowsRep.append {M : Mem} {s : Nat} {a b : List (List D)} {us vs : List Value} (h : RowsRep M s a us) (k : RowsRep M s b vs) : RowsRep M s (a ++ b) (us ++ vs) :=
  ⟨fun r hr => (List.mem_append.1 hr).elim (h.len r) (k.len r), by rw [List.flatten_append]; exact h.rep.append k.rep⟩

theorem RowsRep.one {M : Mem} {s : Nat} {rows : List (List D)} {vs : List Value} (h : RowsRep M s rows vs) : ∀ u ∈ vs, u.oneCell' = true := by
  have : ∀ (ds : List D) (us : List Value), All2 (DRep M) ds us → ∀ u ∈ us, u.oneCell' = true := by
    intro ds
    induction ds with
    | nil => intro us hu; cases us with
      | nil => simp
      | cons => exact hu.elim
    | cons d ds ih => intro us hu; cases us with
      | nil => exact hu.elim
      | cons u us =>
        intro x hx
        rcases List.mem_cons.1 hx with rfl | hx
        · exact DRep.one hu.1
        · exact ih us hu.2 x hx
  exact this _ _ h.rep

/-- the cells of an owned array's row -/
theorem arr_at {M : Mem} {τ : Tau} {H : HF} {w : World} {id : Nat} {e : TypeId} {rows : List (List D)} (hinv : Inv P M τ H w) (h : H id = .arr e rows) {i j : Nat} {r : List D} {x : D} (hr : rows[i]? = some r) (hx : r[j]? = some x) :
    w.cell? ⟨(τ id).b, i * (τ id).s + j, none⟩ = some x.val ∧ x.scalar = true := by
  have := hinv.obj id
  rw [h] at this
  obtain ⟨h1, h2, h3⟩ := this
  have hmem := List.mem_of_getElem? hr
  refine ⟨?_, (h2 r hmem).2 x (List.mem_of_getElem? hx)⟩
  have hn : (τ id).nil = false := by
    cases hn : (τ id).nil with
    | false => rfl
    | true =>
      have := (owns_nil h3 hn).1
      rw [List.length_eq_zero_iff.1 this] at hr
      simp at hr
  obtain ⟨cur, a1, a2, a3, a4, a5⟩ := owns_block h3 hn
  rw [cell_of a1]
  have := flat_get (s := (τ id).s) (fun r hr => (h2 r hr).1) hr hx
  rw [← a5] at this
  simpa using take_get this

theorem scal_rep {M : Mem} {x : D} (h : x.scalar = true) : DRep M x x.val := .scal x h

theorem scals_rep {M : Mem} : ∀ {l : List D}, (∀ x ∈ l, x.scalar = true) → All2 (DRep M) l (l.map D.val)
  | [], _ => trivial
  | x :: l, h => ⟨scal_rep (h x (by simp)), scals_rep (fun y hy => h y (by simp [hy]))⟩

theorem ok_load_arr_cell {t : TypeId} {x : Operand} {i : TyI} {id row col : Nat} {e : TypeId} {rows : List (List D)} {r : List D} {c : D} (ho : o.op = .load t x) (ht : TyOK P t i) (hk : i.kind ≠ 0) (hk3 : i.kind ≠ 3) (hr : rows[row]? = some r) (hc : r[col]? = some c) :
    OpHolds P o ⟨[(x, .c (.ptr id row col))], [(id, .arr e rows)], [], [], .c (.d c)⟩ :=
  OpHolds.pure fun M τ H w ρ hinv hins hrd => by
    have hH := hrd (id, _) (List.mem_cons_self ..)
    have hv := hins (x, _) (List.mem_cons_self ..)
    simp only [AVRep, ACRep, hH] at hv
    obtain ⟨h1, h2⟩ := arr_at hinv hH hr hc
    refine ⟨c.val, ?_, scal_rep h2⟩
    have := ok_load_cell_of ht hk hk3 h1
    simp [execOp, ho, hv, this]

theorem ok_load_arr_agg {t : TypeId} {x : Operand} {i : TyI} {id row col : Nat} {e : TypeId} {rows : List (List D)} {pre l r : List D} (ho : o.op = .load t x) (ht : TyOK P t i) (hk3 : i.kind = 3) (hl : l.length = i.size) (hp : pre.length = col) (hr : rows[row]? = some (pre ++ (l ++ r))) :
    OpHolds P o ⟨[(x, .c (.ptr id row col))], [(id, .arr e rows)], [], [], .agg (l.map .d)⟩ :=
  OpHolds.pure fun M τ H w ρ hinv hins hrd => by
    have hH := hrd (id, _) (List.mem_cons_self ..)
    have hv := hins (x, _) (List.mem_cons_self ..)
    simp only [AVRep, ACRep, hH] at hv
    have hget : ∀ j y, l[j]? = some y → w.cell? ⟨(τ id).b, row * (τ id).s + col + j, none⟩ = some y.val ∧ y.scalar = true := fun j y hj => by
      have hlt := (List.getElem?_eq_some_iff.1 hj).1
      rw [Nat.add_assoc]
      refine arr_at hinv hH hr (j := col + j) ?_
      rw [List.getElem?_append_right (by omega), hp, show col + j - col = j by omega, List.getElem?_append_left hlt]
      exact hj
    refine ⟨.agg (l.map D.val).toArray, ?_, _, rfl, mapD_rep (scals_rep fun y hy => ?_)⟩
    · have := ok_load_agg_of ht hk3 (w := w) (b := (τ id).b) (off := row * (τ id).s + col) (us := l.map D.val) (by simp [hl]) (fun j v hj => by
        simp only [List.getElem?_map, Option.map_eq_some_iff] at hj
        obtain ⟨y, hy, rfl⟩ := hj
        exact (hget j y hy).1)
      simp only [execOp, ho, hv, Sem.run_bind, this]
      simp
    · obtain ⟨j, hj⟩ := List.getElem?_of_mem hy
      exact (hget j y hj).2

/-! ### stores -/

theorem WSame.setRow {w : World} {g : Nat} {cur new : Array Value} {t : TypeId} {fz : Nat × Nat} (_h : w.heap[g]? = some (.cells cur t fz)) : WSame w (w.setRow g new) (· = g) := by
  refine ⟨rfl, rfl, ⟨rfl, Nat.le_refl _⟩, by simp [World.setRow], fun b hb hn => ?_⟩
  simp only [World.setRow, Array.getElem?_modify]
  rw [if_neg (fun he => hn he.symm)]

theorem ok_store_box {t : TypeId} {x y : Operand} {i : TyI} {id row col : Nat} {u : AV} {ys cells pre old r : List AC} (ho : o.op = .store t x y) (ht : TyOK P t i) (hk : i.kind ≠ 0)
    (hy : cellsOf u = some ys) (hl : ys.length = i.size) (hc : cells = pre ++ (old ++ r)) (hp : pre.length = col) (hlo : old.length = ys.length) :
    OpHolds P o ⟨[(x, .c (.ptr id row col)), (y, u)], [(id, .box cells)], [(id, .box (pre ++ (ys ++ r)))], [], .undef⟩ := by
  intro M τ H w ρ hinv hins hrd _
  have hH := hrd (id, _) (List.mem_cons_self ..)
  have hv := hins (x, _) (List.mem_cons_self ..)
  have hu := hins (y, u) (by simp)
  simp only [AVRep, ACRep, hH] at hv
  obtain ⟨us, e, h1, h2⟩ := box_at hinv hH
  obtain ⟨zs, h3, h4⟩ := cells_rep hu hy
  obtain ⟨inf, z, i1, i2, _⟩ := ht.info hk
  have hlen := h2.length
  have hz := h4.length
  have hfit : col + 0 + zs.length ≤ us.toArray.size := by
    simp only [List.size_toArray, ← hlen, hc, List.length_append]; omega
  have hst := run_storeCells_at P (τ id).b col e zs 0 us.toArray w h1 hfit (one_all h4)
  have hnew : us.take col ++ zs ++ us.drop (col + zs.length) = us.take col ++ (zs ++ us.drop (col + zs.length)) := by simp
  simp only [Nat.add_zero] at hst
  refine OpRun.skip (w' := w.setRow (τ id).b (us.take col ++ zs ++ us.drop (col + zs.length)).toArray) ?_ ⟨M, τ, ?_, rfl⟩
  · simp only [execOp, ho, hv.2, Instr.storeAt, Instr.sureAddr, storeVar, h3, Sem.run_bind, Sem.run_pure, Result.andThen_ok, run_sizeOf i1]
    rw [if_neg (by simp [i2, ← hl, hz])]
    simp [hst]
  · have hkeep : ∀ j, KeepId M τ H M τ (updF H id (.box (pre ++ (ys ++ r)))) j := fun j => by
      by_cases hj : j = id
      · subst hj
        exact KeepId.box (a := cells) (b := pre ++ (ys ++ r)) hH (by simp [updF])
      · exact KeepId.refl (by simp [updF, Ne.symm hj]) rfl
    refine Nx.store (b := (τ id).b) hinv (by simp [blkOf, hH]) (.box (pre ++ (ys ++ r))) (WSame.setRow h1) (by simp [blkOf, updF]) (hkeep id) ⟨_, e, setRow_heap w (τ id).b us.toArray _ e _ h1, ?_⟩
    rw [hnew]
    have a1 := h2.take col
    have a3 := h2.drop (col + zs.length)
    rw [hc, List.take_left' hp] at a1
    rw [hc, ← List.append_assoc, List.drop_left' (by simp; omega)] at a3
    exact cells_keep (fun _ _ h => h) (fun j _ => hkeep j) (a1.append (h4.append a3))

theorem flat_append (a b : List (List D)) : flat (a ++ b) = flat a ++ flat b := by simp [flat]
theorem flat_cons (a : List D) (b : List (List D)) : flat (a :: b) = a.map D.val ++ flat b := by simp [flat]

theorem split_flat {s : Nat} {rows : List (List D)} {i : Nat} {r : List D} (hs : ∀ r ∈ rows, r.length = s) (h : rows[i]? = some r) :
    ∃ A B : List Value, A.length = i * s ∧ flat rows = A ++ (r.map D.val ++ B) ∧ ∀ r', flat (rows.set i r') = A ++ (r'.map D.val ++ B) := by
  obtain ⟨hlt, he⟩ := List.getElem?_eq_some_iff.1 h
  have e1 : rows = rows.take i ++ r :: rows.drop (i + 1) := by
    rw [← he, List.getElem_cons_drop]; simp
  refine ⟨flat (rows.take i), flat (rows.drop (i + 1)), ?_, ?_, fun r' => ?_⟩
  · rw [flat_length (fun r hr => hs r (List.mem_of_mem_take hr))]; simp; rw [Nat.min_eq_left (by omega)]
  · rw [← flat_cons, ← flat_append, ← e1]
  · rw [List.set_eq_take_append_cons_drop, if_pos hlt, flat_append, flat_cons]

theorem ok_store_arr {t : TypeId} {x y : Operand} {i : TyI} {id row col : Nat} {e : TypeId} {u : AV} {ys : List AC} {ds : List D} {rows : List (List D)} {pre old r : List D} (ho : o.op = .store t x y) (ht : TyOK P t i) (hk : i.kind ≠ 0)
    (hy : cellsOf u = some ys) (hds : ∀ M τ H us, All2 (ACRep M τ H) ys us → us = ds.map D.val) (hsc : ∀ d ∈ ds, d.scalar = true) (hlen : ds.length = ys.length) (hl : ys.length = i.size)
    (hr : rows[row]? = some (pre ++ (old ++ r))) (hp : pre.length = col) (hlo : old.length = ds.length) :
    OpHolds P o ⟨[(x, .c (.ptr id row col)), (y, u)], [(id, .arr e rows)], [(id, .arr e (rows.set row (pre ++ (ds ++ r))))], [], .undef⟩ := by
  intro M τ H w ρ hinv hins hrd _
  have hH := hrd (id, _) (List.mem_cons_self ..)
  have hv := hins (x, _) (List.mem_cons_self ..)
  have hu := hins (y, u) (by simp)
  simp only [AVRep, ACRep, hH] at hv
  obtain ⟨zs, h3, h4⟩ := cells_rep hu hy
  have hzs := hds _ _ _ _ h4
  obtain ⟨inf, z, i1, i2, _⟩ := ht.info hk
  have ho' := hinv.obj id
  rw [hH] at ho'
  obtain ⟨o1, o2, o3⟩ := ho'
  have hs : ∀ r ∈ rows, r.length = (τ id).s := fun r hr => (o2 r hr).1
  have hn : (τ id).nil = false := by
    cases hn : (τ id).nil with
    | false => rfl
    | true =>
      have := (owns_nil o3 hn).1
      rw [List.length_eq_zero_iff.1 this] at hr
      simp at hr
  obtain ⟨cur, a1, a2, a3, a4, a5⟩ := owns_block o3 hn
  have hrow := hs _ (List.mem_of_getElem? hr)
  simp only [List.length_append] at hrow
  have hlt : row < rows.length := (List.getElem?_eq_some_iff.1 hr).1
  have hmul : (row + 1) * (τ id).s ≤ rows.length * (τ id).s := Nat.mul_le_mul_right _ hlt
  have hmul2 : rows.length * (τ id).s ≤ (τ id).cap * (τ id).s := Nat.mul_le_mul_right _ a2
  rw [Nat.add_mul] at hmul
  have hzl : zs.length = ds.length := by rw [hzs]; simp
  have hfit : (row * (τ id).s + col) + 0 + zs.length ≤ cur.size := by rw [a4]; omega
  have hst := run_storeCells_at P (τ id).b (row * (τ id).s + col) e zs 0 cur w a1 hfit (one_all h4)
  simp only [Nat.add_zero] at hst
  refine OpRun.skip (w' := w.setRow (τ id).b (cur.toList.take (row * (τ id).s + col) ++ zs ++ cur.toList.drop (row * (τ id).s + col + zs.length)).toArray) ?_ ⟨M, τ, ?_, rfl⟩
  · simp only [execOp, ho, hv, Instr.storeAt, Instr.sureAddr, storeVar, h3, Sem.run_bind, Sem.run_pure, Result.andThen_ok, run_sizeOf i1]
    rw [if_neg (by simp [i2, ← hl, ← hlen, hzl])]
    simp [hst]
  · have hkeep : KeepId M τ H M τ (updF H id (.arr e (rows.set row (pre ++ (ds ++ r))))) id :=
      KeepId.arr (e := e) (e' := e) (a := rows) (b := rows.set row (pre ++ (ds ++ r))) hH (by simp [updF]) (by simp)
    have hs' : ∀ q ∈ rows.set row (pre ++ (ds ++ r)), q.length = (τ id).s ∧ ∀ x ∈ q, x.scalar = true := fun q hq => by
      rcases List.mem_or_eq_of_mem_set hq with hq | rfl
      · exact o2 q hq
      · refine ⟨by simp only [List.length_append]; omega, fun x hx => ?_⟩
        have hold := (o2 _ (List.mem_of_getElem? hr)).2
        simp only [List.mem_append] at hx hold
        rcases hx with hx | hx | hx
        · exact hold x (.inl hx)
        · exact hsc x hx
        · exact hold x (.inr (.inr hx))
    refine Nx.store (b := (τ id).b) hinv (by simp [blkOf, hH, hn]) _ (WSame.setRow a1) (by simp [blkOf, updF, hn]) hkeep ⟨o1, hs', ?_⟩
    obtain ⟨A, B, hA, hF, hF'⟩ := split_flat hs hr
    rw [hF] at a5
    have hcur : cur.toList = (A ++ pre.map D.val) ++ (old.map D.val ++ (r.map D.val ++ (B ++ cur.toList.drop (rows.length * (τ id).s)))) := by
      have := List.take_append_drop (rows.length * (τ id).s) cur.toList
      rw [a5] at this
      simpa using this.symm
    have hAp : (A ++ pre.map D.val).length = row * (τ id).s + col := by simp [hA, hp]
    have hzo : (old.map D.val).length = zs.length := by simp [hzl, hlo]
    generalize hR : cur.toList.drop (rows.length * (τ id).s) = R at hcur
    have hnew : cur.toList.take (row * (τ id).s + col) ++ zs ++ cur.toList.drop (row * (τ id).s + col + zs.length) = (A ++ (pre.map D.val ++ (zs ++ (r.map D.val ++ B)))) ++ R := by
      rw [hcur, List.take_left' hAp, ← List.append_assoc (A ++ pre.map D.val) (old.map D.val), List.drop_left' (by rw [List.length_append, hAp, hzo])]
      simp
    refine owns_of_block hn (by rw [flat_length (fun q hq => (hs' q hq).1)]) (setRow_heap w (τ id).b cur _ e _ a1) (by simpa using a2) a3 ?_ ?_
    · simp only [List.size_toArray, List.length_append, List.length_take, List.length_drop, Array.length_toList]; omega
    · have hlF := flat_length (rows := rows.set row (pre ++ (ds ++ r))) (fun q hq => (hs' q hq).1)
      rw [hnew, hF', hzs]
      rw [hF'] at hlF
      have e : A ++ (List.map D.val (pre ++ (ds ++ r)) ++ B) = A ++ (pre.map D.val ++ (ds.map D.val ++ (r.map D.val ++ B))) := by simp
      rw [e] at hlF ⊢
      exact List.take_left' hlF

end ops
end Go.Cpl

namespace Go.Cpl
open Go
section ops
variable {P : Program} {o : Oper}

theorem ok_nilCheck_ptr {x : Operand} {id row col : Nat} {ob : HObj} (ho : o.op = .nilCheck x) (hob : ob.pt = true) :
    OpHolds P o ⟨[(x, .c (.ptr id row col))], [(id, ob)], [], [], .c (.ptr id row col)⟩ :=
  OpHolds.pure fun M τ H w ρ _ hins hrd => by
    have hH := hrd (id, _) (List.mem_cons_self ..)
    have hv := hins (x, _) (List.mem_cons_self ..)
    have hv' := hv
    simp only at hH
    simp only [AVRep, ACRep, hH] at hv
    refine ⟨ρ x, ?_, hv'⟩
    cases ob with
    | gone => cases hob
    | mp => cases hob
    | brr => cases hob
    | box cells => simp [execOp, ho, hv.2]
    | arr e rows => simp [execOp, ho, hv]

theorem ok_nilCheck_rp {x : Operand} {cells : List D} (ho : o.op = .nilCheck x) :
    OpHolds P o ⟨[(x, .c (.rp cells))], [], [], [], .c (.rp cells)⟩ :=
  OpHolds.pure fun M τ H w ρ _ hins hrd => by
    have hv := hins (x, _) (List.mem_cons_self ..)
    have hv' := hv
    obtain ⟨b, off, cs, e, fz, vs, h, _⟩ := hv
    refine ⟨ρ x, ?_, hv'⟩
    simp only at h
    simp [execOp, ho, h]

theorem rep_int {M : Mem} {τ : Tau} {H : HF} {k : IntKind} {n : Int} {v : Value} (h : AVRep M τ H (.c (.d (.int k n))) v) : v = .int k n := by
  cases h; rfl

theorem rep_bool {M : Mem} {τ : Tau} {H : HF} {b : Bool} {v : Value} (h : AVRep M τ H (.c (.d (.bool b))) v) : v = .bool b := by
  cases h; rfl

theorem int_rep (M : Mem) (τ : Tau) (H : HF) (k : IntKind) (n : Int) : AVRep M τ H (.c (.d (.int k n))) (.int k n) := DRep.scal (.int k n) rfl
theorem bool_rep (M : Mem) (τ : Tau) (H : HF) (b : Bool) : AVRep M τ H (.c (.d (.bool b))) (.bool b) := DRep.scal (.bool b) rfl

theorem rep_asB {M : Mem} {τ : Tau} {H : HF} {x : AV} {b : Bool} {v : Value} (h : AVRep M τ H x v) (hb : asB x = some b) : v = .bool b := by
  unfold asB at hb
  split at hb
  · simp at hb; subst hb; exact h
  · simp at hb; subst hb; exact h
  · simp at hb; subst hb; exact rep_bool h
  · cases hb

/-- an operation on two integers -/
theorem ok_binInt {op : BinOp} {t t' : TypeId} {x y : Operand} {k k' : IntKind} {a b : Int} {v : AV} {v' : Value} (ho : o.op = .binOp op t x y t')
    (hrun : ∀ w, (binOp op t (.int k a) (.int k' b)).run P w = .ok v' w) (hv : ∀ M τ H, AVRep M τ H v v') :
    OpHolds P o ⟨[(x, .c (.d (.int k a))), (y, .c (.d (.int k' b)))], [], [], [], v⟩ :=
  OpHolds.pure fun M τ H w ρ _ hins _ => by
    have h1 := rep_int (hins (x, _) (List.mem_cons_self ..))
    have h2 := rep_int (hins (y, .c (.d (.int k' b))) (by simp))
    simp only at h1 h2
    refine ⟨v', ?_, hv M τ H⟩
    have hg : (eqGuard op t x y (.int k a) (.int k' b)).run P w = .ok () w := by
      unfold eqGuard; split <;> rfl
    simp [execOp, ho, h1, h2, hg, hrun]

theorem ikEq_eq {a b : IntKind} (h : ikEq a b = true) : a = b := by
  cases a <;> cases b <;> simp_all [ikEq]

theorem abinInt_ok {op : BinOp} {t t' : TypeId} {x y : Operand} {k : IntKind} {a b : Int} {K : AV → Prop} (h : abinInt op k a b K) :
    ∃ v, v.ids = [] ∧ K v ∧ ∀ o : Oper, o.op = .binOp op t x y t' → OpHolds P o ⟨[(x, .c (.d (.int k a))), (y, .c (.d (.int k b)))], [], [], [], v⟩ := by
  have bo : ∀ r, (∀ w, (binOp op t (.int k a) (.int k b)).run P w = .ok (.bool r) w) → K (.c (.d (.bool r))) →
      ∃ v, v.ids = [] ∧ K v ∧ ∀ o : Oper, o.op = .binOp op t x y t' → OpHolds P o ⟨[(x, .c (.d (.int k a))), (y, .c (.d (.int k b)))], [], [], [], v⟩ := fun r hr hk =>
    ⟨_, rfl, hk, fun o ho => ok_binInt ho hr (fun M τ H => bool_rep M τ H r)⟩
  have io : ∀ r, (∀ w, (binOp op t (.int k a) (.int k b)).run P w = .ok (.int k r) w) → Gives r (fun c => K (.c (.d (.int k c)))) →
      ∃ v, v.ids = [] ∧ K v ∧ ∀ o : Oper, o.op = .binOp op t x y t' → OpHolds P o ⟨[(x, .c (.d (.int k a))), (y, .c (.d (.int k b)))], [], [], [], v⟩ := fun r hr hk => by
    obtain ⟨c, rfl, hk⟩ := hk
    exact ⟨_, rfl, hk, fun o ho => ok_binInt ho hr (fun M τ H => int_rep M τ H k _)⟩
  cases op <;> simp only [abinInt] at h
  case add => exact io _ (fun w => by simp [binOp, Op.intArith]) h
  case sub => exact io _ (fun w => by simp [binOp, Op.intArith]) h
  case mul => exact io _ (fun w => by simp [binOp, Op.intArith]) h
  case quo => exact io _ (fun w => by simp [binOp, Op.intDiv, h.1]) h.2
  case rem => exact io _ (fun w => by simp [binOp, Op.intDiv, h.1]) h.2
  case and => exact io _ (fun w => by simp [binOp, Op.intBits]) h
  case or => exact io _ (fun w => by simp [binOp, Op.intBits]) h
  case xor => exact io _ (fun w => by simp [binOp, Op.intBits]) h
  case andNot => exact io _ (fun w => by simp [binOp, Op.intBits]) h
  case eql => exact bo _ (fun w => by simp [binOp, Op.intCmp]) h
  case neq => exact bo _ (fun w => by simp [binOp, Op.intCmp]) h
  case lss => exact bo _ (fun w => by simp [binOp, Op.intCmp]) h
  case leq => exact bo _ (fun w => by simp [binOp, Op.intCmp]) h
  case gtr => exact bo _ (fun w => by simp [binOp, Op.intCmp]) h
  case geq => exact bo _ (fun w => by simp [binOp, Op.intCmp]) h

theorem equalIn_bool {t : TypeId} (hu : P.underlying t = some .bool) (d : Nat) (a b : Bool) (w : World) : (Op.equalIn (d + 1) t (.bool a) (.bool b)).run P w = .ok (a == b) w := by
  simp only [Op.equalIn, Sem.run_bind, run_underlying hu, Result.andThen_ok, Sem.run_pure]

theorem ok_binBool {op : BinOp} {t t' : TypeId} {x y : Operand} {u v : AV} {a b : Bool} {i : TyI} (ho : o.op = .binOp op t x y t') (ht : TyOK P t i) (hk : i.kind = 5) (ha : asB u = some a) (hb : asB v = some b)
    (hop : op = .eql ∨ op = .neq) : OpHolds P o ⟨[(x, u), (y, v)], [], [], [], .c (.d (.bool (if op = .eql then a == b else !(a == b))))⟩ :=
  OpHolds.pure fun M τ H w ρ _ hins _ => by
    have h1 := rep_asB (hins (x, u) (by simp)) ha
    have h2 := rep_asB (hins (y, v) (by simp)) hb
    simp only at h1 h2
    refine ⟨_, ?_, bool_rep M τ H _⟩
    have hu : P.underlying t = some .bool := by
      rcases ht with ht | ⟨_, _, _, _, ht⟩
      · omega
      · rw [hk] at ht; exact ht.1
    have hg : (eqGuard op t x y (.bool a) (.bool b)).run P w = .ok () w := by
      unfold eqGuard; split <;> rfl
    have he : (Op.equal t (.bool a) (.bool b)).run P w = .ok (a == b) w := by
      exact equalIn_bool hu 9999 a b w
    rcases hop with rfl | rfl
    · simp [execOp, ho, h1, h2, hg, binOp, he]
    · simp [execOp, ho, h1, h2, hg, binOp, he]

theorem ok_not {t : TypeId} {x : Operand} {u : AV} {b : Bool} (ho : o.op = .unOp .not t x) (hb : asB u = some b) {r : AV} (hr : ∀ M τ H, AVRep M τ H r (.bool !b)) : OpHolds P o ⟨[(x, u)], [], [], [], r⟩ :=
  OpHolds.pure fun M τ H w ρ _ hins _ => by
    have h1 := rep_asB (hins (x, u) (by simp)) hb
    simp only at h1
    exact ⟨_, by simp [execOp, ho, h1, Op.unary], hr M τ H⟩

theorem ok_neg {t : TypeId} {x : Operand} {k : IntKind} {n : Int} (ho : o.op = .unOp .neg t x) : OpHolds P o ⟨[(x, .c (.d (.int k n)))], [], [], [], .c (.d (.int k (k.wrap (0 - n))))⟩ :=
  OpHolds.pure fun M τ H w ρ _ hins _ => by
    have h1 := rep_int (hins (x, _) (List.mem_cons_self ..))
    simp only at h1
    exact ⟨_, by simp [execOp, ho, h1, Op.unary, Op.intArith], int_rep M τ H _ _⟩

theorem ok_convert {s t : TypeId} {x : Operand} {k : IntKind} {n : Int} {i : TyI} {ds : TypeDesc} (ho : o.op = .convert s t x) (ht : TyOK P t i) (hk : i.kind = 1) (hs : P.underlying s = some ds) :
    OpHolds P o ⟨[(x, .c (.d (.int k n)))], [], [], [], .c (.d (.int i.ik (i.ik.wrap n)))⟩ :=
  OpHolds.pure fun M τ H w ρ _ hins _ => by
    have h1 := rep_int (hins (x, _) (List.mem_cons_self ..))
    simp only at h1
    have hu : P.underlying t = some (.int i.ik) := by
      rcases ht with ht | ⟨_, _, _, _, ht⟩
      · omega
      · rw [hk] at ht; exact ht.1
    exact ⟨_, by simp [execOp, ho, h1, convert, run_underlying hu, run_underlying hs, Conv.intToInt], int_rep M τ H _ _⟩

/-- the fields of a struct type -/
theorem TyOK.field {t : TypeId} {i : TyI} (ht : TyOK P t i) (hk : i.kind = 3) {f off sz : Nat} {ag : Bool} (hf : i.offs[f]? = some (off, sz, ag)) :
    ∃ fs fd inf, P.underlying t = some (.struct fs) ∧ fs[f]? = some fd ∧ fd.offset = off ∧ P.info? fd.type = some inf ∧ inf.size = sz ∧ sz ≠ 0 ∧
      ∃ d, P.underlying fd.type = some d ∧ aggB d = ag := by
  rcases ht with ht | ⟨_, _, _, _, ht⟩
  · omega
  rw [hk] at ht
  obtain ⟨h1, h2⟩ := ht
  unfold structFact at h1
  split at h1
  · rename_i fs hfs
    simp only [Option.some.injEq] at h1
    rw [← h1] at hf
    simp only [List.getElem?_map, Option.map_eq_some_iff] at hf
    obtain ⟨fd, hfd, e⟩ := hf
    have hz : sz ≠ 0 := by
      have := List.all_eq_true.1 h2 (off, sz, ag) (by
        rw [← h1]
        exact List.mem_map.2 ⟨fd, List.mem_of_getElem? hfd, e⟩)
      simpa using this
    cases hd : P.underlying fd.type with
    | none => rw [hd] at e; simp only [Prod.mk.injEq] at e; omega
    | some d =>
      rw [hd] at e
      simp only [Prod.mk.injEq] at e
      obtain ⟨e1, e2, e3⟩ := e
      unfold Program.cellsOf at e2
      cases hi : P.info? fd.type with
      | none => rw [hi] at e2; simp at e2; omega
      | some inf => rw [hi] at e2; simp at e2; exact ⟨fs, fd, inf, hfs, by simpa using hfd, e1, hi, e2, hz, d, hd, e3⟩
  · cases h1

theorem run_fieldAt {t : TypeId} {i : TyI} (ht : TyOK P t i) (hk : i.kind = 3) {f off sz : Nat} {ag : Bool} (hf : i.offs[f]? = some (off, sz, ag)) (w : World) (b o : Nat) :
    (Instr.fieldAt t (.pointer (some ⟨b, o, none⟩)) f).run P w = .ok (.pointer (some ⟨b, o + off, none⟩)) w := by
  obtain ⟨fs, fd, inf, h1, h2, h3, h4, h5, h6, _⟩ := ht.field hk hf
  simp [Instr.fieldAt, run_underlying h1, h2, Instr.sureAddr, fieldPlace, run_sizeOf h4, h5, h6, add_addr, h3]

theorem ok_fieldAddr_ptr {t : TypeId} {x : Operand} {f off sz id row col : Nat} {ag : Bool} {i : TyI} {ob : HObj} (ho : o.op = .fieldAddr t x f) (ht : TyOK P t i) (hk : i.kind = 3) (hf : i.offs[f]? = some (off, sz, ag)) (hob : ob.pt = true) :
    OpHolds P o ⟨[(x, .c (.ptr id row col))], [(id, ob)], [], [], .c (.ptr id row (col + off))⟩ :=
  OpHolds.pure fun M τ H w ρ _ hins hrd => by
    have hH := hrd (id, _) (List.mem_cons_self ..)
    have hv := hins (x, _) (List.mem_cons_self ..)
    simp only at hH
    simp only [AVRep, ACRep, hH] at hv
    cases ob with
    | gone => cases hob
    | mp => cases hob
    | brr => cases hob
    | box cells => exact ⟨.pointer (some ⟨(τ id).b, col + off, none⟩), by simp [execOp, ho, hv.2, run_fieldAt ht hk hf], by simp [AVRep, ACRep, hH, hv.1]⟩
    | arr e rows => exact ⟨.pointer (some ⟨(τ id).b, row * (τ id).s + col + off, none⟩), by simp [execOp, ho, hv, run_fieldAt ht hk hf], by simp [AVRep, ACRep, hH, Nat.add_assoc]⟩

theorem ok_fieldAddr_rp {t : TypeId} {x : Operand} {f off sz : Nat} {ag : Bool} {i : TyI} {pre l : List D} (ho : o.op = .fieldAddr t x f) (ht : TyOK P t i) (hk : i.kind = 3) (hf : i.offs[f]? = some (off, sz, ag)) (hp : pre.length = off) :
    OpHolds P o ⟨[(x, .c (.rp (pre ++ l)))], [], [], [], .c (.rp l)⟩ :=
  OpHolds.pure fun M τ H w ρ _ hins hrd => by
    have hv := hins (x, _) (List.mem_cons_self ..)
    obtain ⟨b, of, cs, e, fz, vs, h, hM, hc⟩ := hv
    simp only at h
    refine ⟨.pointer (some ⟨b, of + off, none⟩), by simp [execOp, ho, h, run_fieldAt ht hk hf], b, of + off, cs, e, fz, fun j => vs (off + j), rfl, hM, fun j y hj => ?_⟩
    have := hc (off + j) y (by rw [List.getElem?_append_right (by omega), hp, show off + j - off = j by omega]; exact hj)
    rw [← Nat.add_assoc] at this
    exact this

theorem ok_field_cell {t : TypeId} {x : Operand} {f off sz : Nat} {i : TyI} {cells : List AC} {c : AC} (ho : o.op = .field t x f) (ht : TyOK P t i) (hk : i.kind = 3) (hf : i.offs[f]? = some (off, sz, false)) (hc : cells[off]? = some c) :
    OpHolds P o ⟨[(x, .agg cells)], [], [], [], .c c⟩ :=
  OpHolds.pure fun M τ H w ρ _ hins hrd => by
    obtain ⟨us, h, h2⟩ := hins (x, .agg cells) (by simp)
    obtain ⟨fs, fd, inf, h1, h3, h4, h5, h6, h7, d, hd, h8⟩ := ht.field hk hf
    obtain ⟨u, hu1, hu2⟩ := h2.get hc
    simp only at h
    refine ⟨u, ?_, hu2⟩
    simp [execOp, ho, h, Instr.field, run_underlying h1, h3, asAgg, part, run_isAgg hd, h8, h4, hu1]

theorem ok_field_agg {t : TypeId} {x : Operand} {f off sz : Nat} {i : TyI} {cells pre l r : List AC} (ho : o.op = .field t x f) (ht : TyOK P t i) (hk : i.kind = 3) (hf : i.offs[f]? = some (off, sz, true)) (hc : cells = pre ++ (l ++ r)) (hp : pre.length = off) (hl : l.length = sz) :
    OpHolds P o ⟨[(x, .agg cells)], [], [], [], .agg l⟩ :=
  OpHolds.pure fun M τ H w ρ _ hins hrd => by
    obtain ⟨us, h, h2⟩ := hins (x, .agg cells) (by simp)
    obtain ⟨fs, fd, inf, h1, h3, h4, h5, h6, h7, d, hd, h8⟩ := ht.field hk hf
    have h9 := (h2.drop off).take l.length
    rw [hc, List.drop_left' hp, List.take_left' rfl] at h9
    simp only at h
    refine ⟨.agg ((us.drop off).take l.length).toArray, ?_, _, rfl, h9⟩
    simp only [execOp, ho, h, Instr.field, run_underlying h1, h3, asAgg, part, run_isAgg hd, h8, h4, run_sizeOf h5, h6, Sem.run_bind, Result.andThen_ok, Sem.run_pure, if_true, hl]
    congr 3
    simp

theorem ok_extract_c {x : Operand} {n : Nat} {vs : List (AC ⊕ List AC)} {c : AC} (ho : o.op = .extract x n) (hc : vs[n]? = some (.inl c)) : OpHolds P o ⟨[(x, .tup vs)], [], [], [], .c c⟩ :=
  OpHolds.pure fun M τ H w ρ _ hins hrd => by
    obtain ⟨us, h, h2⟩ := hins (x, .tup vs) (by simp)
    obtain ⟨u, hu1, hu2⟩ := h2.get hc
    simp only at h
    exact ⟨u, by simp [execOp, ho, h, Instr.extract, hu1], hu2⟩

theorem ok_extract_agg {x : Operand} {n : Nat} {vs : List (AC ⊕ List AC)} {c : List AC} (ho : o.op = .extract x n) (hc : vs[n]? = some (.inr c)) : OpHolds P o ⟨[(x, .tup vs)], [], [], [], .agg c⟩ :=
  OpHolds.pure fun M τ H w ρ _ hins hrd => by
    obtain ⟨us, h, h2⟩ := hins (x, .tup vs) (by simp)
    obtain ⟨u, hu1, hu2⟩ := h2.get hc
    simp only at h
    exact ⟨u, by simp [execOp, ho, h, Instr.extract, hu1], hu2⟩

end ops
end Go.Cpl

namespace Go.Cpl
open Go
section ops
variable {P : Program} {o : Oper}

theorem drep_sl {M : Mem} {rows : List (List D)} {v : Value} (h : DRep M (.sl rows) v) : (rows = [] ∧ ∃ a cap, v = .slice a 0 cap) ∨
    ∃ (b off cap : Nat) (cs : Array Value) (e : TypeId) (fz : Nat × Nat) (s : Nat) (vs : Nat → Nat → Value), v = .slice (some ⟨b, off, none⟩) rows.length cap ∧ M b = some (.cells cs e fz) ∧ rows.length ≤ cap ∧ (∀ r ∈ rows, r.length = s) ∧
      (∀ (i j : Nat) (r : List D) (x : D), rows[i]? = some r → r[j]? = some x → cs[off + i * s + j]? = some (vs i j)) ∧
      (∀ (i j : Nat) (r : List D) (x : D), rows[i]? = some r → r[j]? = some x → DRep M x (vs i j)) := by
  cases h with
  | scal _ h => simp [D.scalar] at h
  | sl0 a cap => exact .inl ⟨rfl, a, cap, rfl⟩
  | sl _ b off cap cs e fz s vs hM hcap hs hc hd => exact .inr ⟨b, off, cap, cs, e, fz, s, vs, rfl, hM, hcap, hs, hc, hd⟩

theorem TyOK.slice {t : TypeId} {i : TyI} (ht : TyOK P t i) (hk : i.kind = 2) : P.underlying t = some (.slice i.el) := by
  rcases ht with ht | ⟨_, _, _, _, ht⟩
  · omega
  · rw [hk] at ht; exact ht.1

theorem run_indexAt {t el : TypeId} {inf : TypeInfo} (hu : P.underlying t = some (.slice el)) (hi : P.info? el = some inf) {b off len cap : Nat} {k : IntKind} {n : Int} (h0 : 0 ≤ n) (hn : n < len) (w : World) :
    (Instr.indexAt t (.slice (some ⟨b, off, none⟩) len cap) (.int k n)).run P w = .ok (.pointer (some ⟨b, off + n.toNat * inf.size, none⟩)) w := by
  simp [Instr.indexAt, asIntOf, run_underlying hu, h0, hn, run_sizeOf hi, add_addr]

theorem ok_index_sl {t : TypeId} {x y : Operand} {i j : TyI} {rows : List (List D)} {k : IntKind} {n : Int} {r : List D} (ho : o.op = .indexAddr t x y) (ht : TyOK P t i) (hk : i.kind = 2) (hj : TyOK P i.el j) (hjk : j.kind ≠ 0)
    (h0 : 0 ≤ n) (hr : rows[n.toNat]? = some r) (hl : r.length = j.size) :
    OpHolds P o ⟨[(x, .c (.d (.sl rows))), (y, .c (.d (.int k n)))], [], [], [], .c (.rp r)⟩ :=
  OpHolds.pure fun M τ H w ρ _ hins _ => by
    have h2 := rep_int (hins (y, .c (.d (.int k n))) (by simp))
    have h1 := hins (x, .c (.d (.sl rows))) (by simp)
    simp only at h1 h2
    obtain ⟨inf, z, i1, i2, _⟩ := hj.info hjk
    rcases drep_sl h1 with ⟨rfl, _⟩ | ⟨b, off, cap, cs, e, fz, s, vs, hv, hM, hcap, hs, hc, hd⟩
    · simp at hr
    · have hlt := (List.getElem?_eq_some_iff.1 hr).1
      have hrun := run_indexAt (ht.slice hk) i1 (b := b) (off := off) (cap := cap) (k := k) h0 (show n < rows.length by omega) w
      refine ⟨_, by simp only [execOp, ho, hv, h2, Sem.run_bind, hrun]; rfl, b, off + n.toNat * inf.size, cs, e, fz, vs n.toNat, rfl, hM, fun q y hq => ?_⟩
      have hse : inf.size = s := by rw [i2, ← hl]; exact hs r (List.mem_of_getElem? hr)
      rw [hse]
      exact ⟨hc _ _ _ _ hr hq, hd _ _ _ _ hr hq⟩

theorem ok_index_gs {t : TypeId} {x y : Operand} {i j : TyI} {id : Nat} {rows : List (List D)} {k : IntKind} {n : Int} (ho : o.op = .indexAddr t x y) (ht : TyOK P t i) (hk : i.kind = 2) (hj : TyOK P i.el j) (hjk : j.kind ≠ 0)
    (h0 : 0 ≤ n) (hlt : n.toNat < rows.length) :
    OpHolds P o ⟨[(x, .c (.gs id)), (y, .c (.d (.int k n)))], [(id, .arr i.el rows)], [], [], .c (.ptr id n.toNat 0)⟩ :=
  OpHolds.pure fun M τ H w ρ hinv hins hrd => by
    have hH := hrd (id, _) (List.mem_cons_self ..)
    have h2 := rep_int (hins (y, .c (.d (.int k n))) (by simp))
    have h1 := hins (x, .c (.gs id)) (by simp)
    simp only at h1 h2 hH
    simp only [AVRep, ACRep, hH] at h1
    obtain ⟨inf, z, i1, i2, _⟩ := hj.info hjk
    have hob := hinv.obj id
    rw [hH] at hob
    obtain ⟨o1, o2, o3⟩ := hob
    have hn : (τ id).nil = false := by
      cases hn : (τ id).nil with
      | false => rfl
      | true => have := (owns_nil o3 hn).1; omega
    simp [Loc.slice, hn] at h1
    have hrun := run_indexAt (ht.slice hk) i1 (b := (τ id).b) (off := 0) (cap := (τ id).cap) (k := k) h0 (show n < rows.length by omega) w
    refine ⟨_, by simp only [execOp, ho, h1, h2, Sem.run_bind, hrun]; rfl, ?_⟩
    have hs : inf.size = (τ id).s := by rw [o1]; simp [Program.cellsOf, i1]
    simp [AVRep, ACRep, hH, hs]

theorem ok_len_sl {x : Operand} {t : TypeId} {i : TyI} {ty : TypeId} {rows : List (List D)} (ho : o.op = .call ⟨.builtin .len, #[x], #[t]⟩) (_hty : o.type = ty) (ht : TyOK P t i) (hk : i.kind = 2) :
    OpHolds P o ⟨[(x, .c (.d (.sl rows)))], [], [], [], .c (.d (.int .i64 rows.length))⟩ :=
  OpHolds.pure fun M τ H w ρ _ hins _ => by
    have h1 := hins (x, .c (.d (.sl rows))) (by simp)
    simp only at h1
    have : ∃ a c, ρ x = .slice a rows.length c := by
      rcases drep_sl h1 with ⟨rfl, a, cap, hv⟩ | ⟨b, off, cap, cs, e, fz, s, vs, hv, _⟩
      · exact ⟨a, cap, by simpa using hv⟩
      · exact ⟨_, cap, hv⟩
    obtain ⟨a, c, hv⟩ := this
    refine ⟨.int .i64 rows.length, ?_, int_rep ..⟩
    simp [execOp, ho, resolve, invoke, builtin, Builtin.len_, run_underlying (ht.slice hk), hv, goInt]

theorem ok_len_ns {x : Operand} {t : TypeId} {i : TyI} (ho : o.op = .call ⟨.builtin .len, #[x], #[t]⟩) (ht : TyOK P t i) (hk : i.kind = 2) :
    OpHolds P o ⟨[(x, .c .ns)], [], [], [], .c (.d (.int .i64 0))⟩ :=
  OpHolds.pure fun M τ H w ρ _ hins _ => by
    have h1 : ρ x = .slice none 0 0 := hins (x, .c .ns) (by simp)
    refine ⟨.int .i64 0, ?_, int_rep ..⟩
    simp [execOp, ho, resolve, invoke, builtin, Builtin.len_, run_underlying (ht.slice hk), h1, goInt]

theorem ok_len_gs {x : Operand} {t : TypeId} {i : TyI} {id : Nat} {e : TypeId} {rows : List (List D)} (ho : o.op = .call ⟨.builtin .len, #[x], #[t]⟩) (ht : TyOK P t i) (hk : i.kind = 2) :
    OpHolds P o ⟨[(x, .c (.gs id))], [(id, .arr e rows)], [], [], .c (.d (.int .i64 rows.length))⟩ :=
  OpHolds.pure fun M τ H w ρ hinv hins hrd => by
    have hH := hrd (id, _) (List.mem_cons_self ..)
    have h1 := hins (x, .c (.gs id)) (by simp)
    simp only at h1 hH
    simp only [AVRep, ACRep, hH] at h1
    have hob := hinv.obj id
    rw [hH] at hob
    obtain ⟨o1, o2, o3⟩ := hob
    have : ∃ a c, ρ x = .slice a rows.length c := by
      cases hn : (τ id).nil with
      | false => simp [Loc.slice, hn] at h1; exact ⟨_, _, h1⟩
      | true => have := (owns_nil o3 hn).1; simp [Loc.slice, hn] at h1; exact ⟨none, 0, by rw [this]; exact h1⟩
    obtain ⟨a, c, hv⟩ := this
    refine ⟨.int .i64 rows.length, ?_, int_rep ..⟩
    simp [execOp, ho, resolve, invoke, builtin, Builtin.len_, run_underlying (ht.slice hk), hv, goInt]

theorem ok_len_gv {x : Operand} {t : TypeId} {i : TyI} {id lo n : Nat} {e : TypeId} {rows : List (List D)} (ho : o.op = .call ⟨.builtin .len, #[x], #[t]⟩) (ht : TyOK P t i) (hk : i.kind = 2) :
    OpHolds P o ⟨[(x, .c (.gv id lo n))], [(id, .arr e rows)], [], [], .c (.d (.int .i64 n))⟩ :=
  OpHolds.pure fun M τ H w ρ hinv hins hrd => by
    have hH := hrd (id, _) (List.mem_cons_self ..)
    have h1 := hins (x, .c (.gv id lo n)) (by simp)
    simp only at h1 hH
    simp only [AVRep, ACRep, hH] at h1
    have : ∃ a c, ρ x = .slice a n c := by
      obtain ⟨_, ⟨_, rfl, h⟩ | ⟨_, ad, h, _⟩⟩ := h1
      · exact ⟨_, _, h⟩
      · exact ⟨_, _, h⟩
    obtain ⟨a, c, hv⟩ := this
    refine ⟨.int .i64 n, ?_, int_rep ..⟩
    simp [execOp, ho, resolve, invoke, builtin, Builtin.len_, run_underlying (ht.slice hk), hv, goInt]

theorem ok_len_gv' {x : Operand} {t : TypeId} {i : TyI} {id lo n : Nat} {e : TypeId} {rows : List (List D)} (ho : o.op = .call ⟨.builtin .len, #[x], #[t]⟩) (ht : TyOK P t i) (hk : i.kind = 2) :
    OpHolds P o ⟨[(x, .c (.gv id lo n))], [(id, .arr e rows)], [], [], .c (.d (.int .i64 ((rows.drop lo).take n).length))⟩ :=
  OpHolds.pure fun M τ H w ρ hinv hins hrd => by
    have hH := hrd (id, _) (List.mem_cons_self ..)
    have h1 := hins (x, .c (.gv id lo n)) (by simp)
    simp only at h1 hH
    simp only [AVRep, ACRep, hH] at h1
    have hl : ((rows.drop lo).take n).length = n := by
      have := h1.1
      simp; omega
    have : ∃ a c, ρ x = .slice a n c := by
      obtain ⟨_, ⟨_, rfl, h⟩ | ⟨_, ad, h, _⟩⟩ := h1
      · exact ⟨_, _, h⟩
      · exact ⟨_, _, h⟩
    obtain ⟨a, c, hv⟩ := this
    refine ⟨.int .i64 n, ?_, by rw [hl]; exact int_rep ..⟩
    simp [execOp, ho, resolve, invoke, builtin, Builtin.len_, run_underlying (ht.slice hk), hv, goInt]

theorem ok_max {x y : Operand} {ts : Array TypeId} {k : IntKind} {a b : Int} (ho : o.op = .call ⟨.builtin .max, #[x, y], ts⟩) :
    OpHolds P o ⟨[(x, .c (.d (.int k a))), (y, .c (.d (.int k b)))], [], [], [], .c (.d (.int k (if b > a then b else a)))⟩ :=
  OpHolds.pure fun M τ H w ρ _ hins _ => by
    have h1 := rep_int (hins (x, .c (.d (.int k a))) (by simp))
    have h2 := rep_int (hins (y, .c (.d (.int k b))) (by simp))
    simp only at h1 h2
    exact ⟨_, by simp [execOp, ho, resolve, invoke, builtin, Builtin.max_, Builtin.max2, h1, h2], int_rep ..⟩

theorem ok_min {x y : Operand} {ts : Array TypeId} {k : IntKind} {a b : Int} (ho : o.op = .call ⟨.builtin .min, #[x, y], ts⟩) :
    OpHolds P o ⟨[(x, .c (.d (.int k a))), (y, .c (.d (.int k b)))], [], [], [], .c (.d (.int k (if b < a then b else a)))⟩ :=
  OpHolds.pure fun M τ H w ρ _ hins _ => by
    have h1 := rep_int (hins (x, .c (.d (.int k a))) (by simp))
    have h2 := rep_int (hins (y, .c (.d (.int k b))) (by simp))
    simp only at h1 h2
    exact ⟨_, by simp [execOp, ho, resolve, invoke, builtin, Builtin.min_, Builtin.min2, h1, h2], int_rep ..⟩

/-! ### slices of immutable data -/

theorem run_sliceBound {y n : Nat} {k : IntKind} {i : Int} {code : BoundsCode} (h0 : 0 ≤ i) (hn : i.toNat = n) (hy : n ≤ y) (w : World) : (Instr.sliceBound (.int k i) y code).run P w = .ok n w := by
  have : i ≤ y := by omega
  simp [Instr.sliceBound, asIntOf, h0, this, hn]

def BdOK (ρ : Operand → Value) (x : Option Operand) (n : Nat) (dflt : Nat) : Prop := match x with
  | none => n = dflt
  | some x => ∃ k i, ρ x = .int k i ∧ 0 ≤ i ∧ i.toNat = n

theorem run_slice_sl {t el : TypeId} {inf : TypeInfo} (hu : P.underlying t = some (.slice el)) (hi : P.info? el = some inf) {a : Option Addr} {len cap l h : Nat} {lo hi' : Option Operand} {ρ : Operand → Value}
    (hh : BdOK ρ hi' h len) (hl : BdOK ρ lo l 0) (h1 : l ≤ h) (h2 : h ≤ len) (h3 : len ≤ cap) (w : World) :
    (Instr.sliceAt t (.slice a len cap) (lo.map ρ) (hi'.map ρ) none).run P w = .ok (.slice (if cap = l then a else a.map (·.add (l * inf.size))) (h - l) (cap - l)) w := by
  have hb : (Instr.sliceBounds true len cap (lo.map ρ) (hi'.map ρ) none).run P w = .ok (l, h, cap) w := by
    cases hi' with
    | none =>
      simp only [BdOK] at hh; subst hh
      cases lo with
      | none => simp only [BdOK] at hl; subst hl; simp [Instr.sliceBounds]
      | some y =>
        obtain ⟨k', i', e', h0', hn'⟩ := hl
        simp [Instr.sliceBounds, e', run_sliceBound h0' hn' h1]
    | some x =>
      obtain ⟨k, i, e, h0, hn⟩ := hh
      cases lo with
      | none => simp only [BdOK] at hl; subst hl; simp [Instr.sliceBounds, e, run_sliceBound h0 hn (show h ≤ cap by omega)]
      | some y =>
        obtain ⟨k', i', e', h0', hn'⟩ := hl
        simp [Instr.sliceBounds, e, e', run_sliceBound h0 hn (show h ≤ cap by omega), run_sliceBound h0' hn' h1]
  simp [Instr.sliceAt, run_underlying hu, Instr.slice, hb, run_sizeOf hi]

theorem ok_slice_sl {t : TypeId} {x : Operand} {lo hi : Option Operand} {i j : TyI} {rows : List (List D)} {l h : Nat} {ins : List (Operand × AV)} (ho : o.op = .slice t x lo hi none) (ht : TyOK P t i) (hk : i.kind = 2) (hj : TyOK P i.el j) (hjk : j.kind ≠ 0)
    (hsz : ∀ r ∈ rows, r.length = j.size)
    (hh : ∀ M τ H (ρ : Operand → Value), (∀ p ∈ ins, AVRep M τ H p.2 (ρ p.1)) → BdOK ρ hi h rows.length) (hl : ∀ M τ H (ρ : Operand → Value), (∀ p ∈ ins, AVRep M τ H p.2 (ρ p.1)) → BdOK ρ lo l 0) (h1 : l ≤ h) (h2 : h ≤ rows.length) :
    OpHolds P o ⟨(x, .c (.d (.sl rows))) :: ins, [], [], [], .c (.d (.sl ((rows.take h).drop l)))⟩ :=
  OpHolds.pure fun M τ H w ρ _ hins _ => by
    have hx := hins (x, .c (.d (.sl rows))) (by simp)
    have hins' : ∀ p ∈ ins, AVRep M τ H p.2 (ρ p.1) := fun p hp => hins p (by simp [hp])
    simp only at hx
    obtain ⟨inf, z, i1, i2, _⟩ := hj.info hjk
    have hH := hh M τ H ρ hins'
    have hL := hl M τ H ρ hins'
    rcases drep_sl hx with ⟨rfl, a, cap, hv⟩ | ⟨b, off, cap, cs, e, fz, s, vs, hv, hM, hcap, hs, hc, hd⟩
    · simp at h2; subst h2
      simp at h1; subst h1
      have := run_slice_sl (P := P) (a := a) (cap := cap) (ht.slice hk) i1 hH hL (Nat.le_refl _) (Nat.le_refl _) (Nat.zero_le _) w
      refine ⟨_, by simp only [execOp, ho, hv, Sem.run_bind, Option.map_none]; rw [show (0:Nat) = ([] : List (List D)).length from rfl, this]; rfl, ?_⟩
      simp only [List.take_nil, List.drop_nil]
      exact DRep.sl0 _ _
    · have := run_slice_sl (P := P) (a := some ⟨b, off, none⟩) (cap := cap) (ht.slice hk) i1 hH hL h1 h2 hcap w
      refine ⟨_, by simp only [execOp, ho, hv, Sem.run_bind, Option.map_none]; rw [this]; rfl, ?_⟩
      have hlen : ((rows.take h).drop l).length = h - l := by simp; omega
      by_cases he : (rows.take h).drop l = []
      · rw [he] at hlen ⊢
        simp at hlen
        rw [← hlen]
        exact DRep.sl0 _ _
      · have hpos : l < h := by
          rcases Nat.lt_or_ge l h with h' | h'
          · exact h'
          · exact absurd (List.length_eq_zero_iff.1 (by omega)) he
        rw [if_neg (by omega), ← hlen]
        have hse : inf.size = s := by
          obtain ⟨r, hr⟩ : ∃ r, r ∈ rows := by
            cases rows with
            | nil => simp at h2; omega
            | cons r _ => exact ⟨r, by simp⟩
          rw [i2, ← hsz r hr]; exact hs r hr
        simp only [Option.map_some, add_addr, hse]
        have hget : ∀ (q : Nat) (r : List D), ((rows.take h).drop l)[q]? = some r → rows[l + q]? = some r := fun q r hq => by
          rw [List.getElem?_drop] at hq; exact take_get hq
        refine DRep.sl _ b (off + l * s) (cap - l) cs e fz s (fun q j => vs (l + q) j) hM (by omega) (fun r hr => hs r (List.mem_of_mem_take (List.mem_of_mem_drop hr))) (fun q j r y hq hy => ?_) (fun q j r y hq hy => hd _ _ _ _ (hget q r hq) hy)
        rw [← hc _ _ _ _ (hget q r hq) hy, Nat.add_mul]
        congr 1
        omega

end ops
end Go.Cpl

namespace Go.Cpl
open Go
section ops
variable {P : Program} {o : Oper}

theorem fold_put (off : Nat) : ∀ (zs : List Value) (k : Nat) (cs : Array Value), off + k + zs.length ≤ cs.size →
    (zs.zipIdx k).foldl (fun cs (p : Value × Nat) => cs.setIfInBounds (off + p.2) p.1) cs = (cs.toList.take (off + k) ++ zs ++ cs.toList.drop (off + k + zs.length)).toArray
  | [], k, cs, _ => by simp
  | z :: zs, k, cs, h => by
    simp only [List.length_cons] at h
    simp only [List.zipIdx_cons, List.foldl_cons]
    rw [fold_put off zs (k + 1) _ (by simp; omega)]
    congr 1
    have e := list_seg_step cs.toList (off + k) z zs (by simp; omega)
    simpa [Array.toList_setIfInBounds, Nat.add_assoc] using e

theorem fill_step {place : Nat → Option (Nat × Nat)} {A old B : List Value} {i off size : Nat} {v : Value} {zs : List Value} {rest : List (Nat × Value)} (hp : place i = some (off, size)) (hv : v.cells = zs.toArray) (hz : zs.length = size)
    (ho : old.length = size) (hA : A.length = off) : Instr.fill place (A ++ (old ++ B)).toArray ((i, v) :: rest) = Instr.fill place (A ++ (zs ++ B)).toArray rest := by
  have e := fold_put off zs 0 (A ++ (old ++ B)).toArray (by simp; omega)
  simp only [Nat.add_zero] at e
  rw [List.take_left' hA, ← List.append_assoc A old B, List.drop_left' (by simp; omega)] at e
  rw [Instr.fill]
  simp only [hp, hv]
  rw [if_neg (by simp; omega)]
  have e2 : (zs.toArray.zipIdx.foldl (fun cs (x : Value × Nat) => match x with | (c, j) => cs.setIfInBounds (off + j) c) (A ++ (old ++ B)).toArray) = (zs.zipIdx 0).foldl (fun cs (p : Value × Nat) => cs.setIfInBounds (off + p.2) p.1) (A ++ (old ++ B)).toArray := by
    rw [← Array.foldl_toList]
    simp
  rw [e2, ← List.append_assoc A old B, e, List.append_assoc]

theorem run_mapM_pure {α β : Type} {f : α → Sem β} {g : α → β} {w : World} : ∀ {l : List α}, (∀ x ∈ l, (f x).run P w = .ok (g x) w) → (l.mapM f).run P w = .ok (l.map g) w
  | [], _ => by simp
  | x :: l, h => by
    have ih := run_mapM_pure (l := l) (fun y hy => h y (by simp [hy]))
    simp [List.mapM_cons, h x (by simp), ih]

theorem run_places {t : TypeId} {i : TyI} (ht : TyOK P t i) (hk : i.kind = 3) {fs : Array Field} (hu : P.underlying t = some (.struct fs)) (w : World) :
    (fs.mapM fun (f : Field) => (do pure (f.offset, ← sizeOf f.type) : Sem (Nat × Nat))).run P w = .ok (fs.map fun f => (f.offset, P.cellsOf f.type)) w := by
  rw [Array.mapM_eq_mapM_toList]
  have : ∀ f ∈ fs.toList, (do pure (f.offset, ← sizeOf f.type) : Sem (Nat × Nat)).run P w = .ok (f.offset, P.cellsOf f.type) w := fun f hf => by
    obtain ⟨k, hk'⟩ := List.getElem?_of_mem hf
    have hlen : ∃ x, i.offs[k]? = some x := by
      rcases ht with ht | ⟨_, _, _, _, ht⟩
      · omega
      · rw [hk] at ht
        have h1 := ht.1
        unfold structFact at h1
        rw [hu] at h1
        simp only [Option.some.injEq] at h1
        rw [← h1]
        simp [hk']
    obtain ⟨⟨off, sz, ag⟩, hx⟩ := hlen
    obtain ⟨fs', fd, inf, h1, h2, h3, h4, h5, h6, _⟩ := ht.field hk hx
    rw [hu] at h1
    simp at h1; subst h1
    have : fd = f := by
      have : fs.toList[k]? = some fd := by simpa using h2
      rw [this] at hk'; simpa using hk'
    subst this
    simp [run_sizeOf h4, Program.cellsOf, h4]
  have h2 := run_mapM_pure (P := P) (w := w) this
  rw [Sem.run_map, h2]
  simp only [Result.andThen_ok]
  congr 1
  apply Array.ext'
  simp

theorem place_at {t : TypeId} {i : TyI} (ht : TyOK P t i) (hk : i.kind = 3) {fs : Array Field} (hu : P.underlying t = some (.struct fs)) {f off sz : Nat} {ag : Bool} (hf : i.offs[f]? = some (off, sz, ag)) :
    (fs.map fun f => (f.offset, P.cellsOf f.type))[f]? = some (off, sz) := by
  obtain ⟨fs', fd, inf, h1, h2, h3, h4, h5, h6, _⟩ := ht.field hk hf
  rw [hu] at h1
  simp at h1; subst h1
  simp [h2, h3, Program.cellsOf, h4, h5]

/-- what 'fillK' has gone through -/
inductive Filled (fr : Fr) (offs : List (Nat × Nat × Bool)) : List (Operand × AV) → List AC → List (Nat × Operand) → List AC → Prop
  | nil (cells : List AC) : Filled fr offs [] cells [] cells
  | cons {ins : List (Operand × AV)} {A old B cs res : List AC} {f off sz : Nat} {ag : Bool} {x : Operand} {v : AV} {r : List (Nat × Operand)} (hf : offs[f]? = some (off, sz, ag)) (hev : EvOK fr x v) (hc : cellsOf v = some cs) (hl : cs.length = sz) (hA : A.length = off) (ho : old.length = cs.length)
      (h : Filled fr offs ins (A ++ (cs ++ B)) r res) : Filled fr offs ((x, v) :: ins) (A ++ (old ++ B)) ((f, x) :: r) res

theorem nth_ok {α : Type} : ∀ {l : List α} {n : Nat} {K : α → Prop}, nthK l n K → ∃ x, l[n]? = some x ∧ K x
  | [], _, _, h => h.elim
  | x :: _, 0, _, h => ⟨x, by simp, h⟩
  | _ :: r, n + 1, _, h => by obtain ⟨x, h1, h2⟩ := nth_ok (l := r) (n := n) h; exact ⟨x, by simpa using h1, h2⟩

theorem take_ok {α : Type} : ∀ {n : Nat} {l : List α} {K : List α → Prop}, takeK n l K → ∃ a r, l = a ++ r ∧ a.length = n ∧ K a
  | 0, l, _, h => ⟨[], l, rfl, rfl, h⟩
  | n + 1, x :: l, K, h => by
    obtain ⟨a, r, h1, h2, h3⟩ := take_ok (n := n) (l := l) h
    exact ⟨x :: a, r, by simp [h1], by simp [h2], h3⟩
  | _ + 1, [], _, h => h.elim

theorem drop_ok {α : Type} : ∀ {n : Nat} {l : List α} {K : List α → Prop}, dropK n l K → ∃ a r, l = a ++ r ∧ a.length = n ∧ K r
  | 0, l, _, h => ⟨[], l, rfl, rfl, h⟩
  | n + 1, x :: l, K, h => by
    obtain ⟨a, r, h1, h2, h3⟩ := drop_ok (n := n) (l := l) h
    exact ⟨x :: a, r, by simp [h1], by simp [h2], h3⟩
  | _ + 1, [], _, h => h.elim

theorem put_ok {α : Type} : ∀ {xs : List α} {n : Nat} {ys : List α} {K : List α → Prop}, putK xs n ys K → ys = [] ∧ K xs ∨ ∃ A old B, xs = A ++ (old ++ B) ∧ A.length = n ∧ old.length = ys.length ∧ K (A ++ (ys ++ B))
  | xs, n, [], K, h => .inl ⟨rfl, by unfold putK at h; exact h⟩
  | [], _, _ :: _, _, h => by simp [putK] at h
  | x :: xs, 0, y :: ys, K, h => by
    rw [putK] at h
    rcases put_ok h with ⟨e, h⟩ | ⟨A, old, B, h1, h2, h3, h4⟩
    · exact .inr ⟨[], [x], xs, rfl, rfl, by simp [e], by rw [e]; exact h⟩
    · have := List.length_eq_zero_iff.1 h2; subst this
      exact .inr ⟨[], x :: old, B, by simpa using h1, rfl, by simp [h3], by simpa using h4⟩
  | x :: xs, n + 1, y :: ys, K, h => by
    rw [putK] at h
    rcases put_ok h with ⟨e, h⟩ | ⟨A, old, B, h1, h2, h3, h4⟩
    · cases e
    · exact .inr ⟨x :: A, old, B, by simp [h1], by simp [h2], h3, by simpa using h4⟩
    · simp

theorem app_ok {α : Type} : ∀ {xs ys : List α} {K : List α → Prop}, appK xs ys K → K (xs ++ ys)
  | [], _, _, h => h
  | _ :: xs, _, _, h => app_ok (xs := xs) h

theorem mapD_ok : ∀ {l : List D} {K : List AC → Prop}, mapDK l K → K (l.map .d)
  | [], _, h => h
  | _ :: l, _, h => mapD_ok (l := l) h

theorem succ_ok {n : Nat} {K : Nat → Prop} (h : succK n K) : K (n + 1) := by
  unfold succK at h
  split at h <;> exact h

theorem add_ok {a b : Nat} {K : Nat → Prop} (h : addK a b K) : K (a + b) := by
  unfold addK at h
  split at h
  · simpa using h
  · exact h
  · exact h

theorem fill_ok {fr : Fr} {offs : List (Nat × Nat × Bool)} : ∀ {parts : List (Nat × Operand)} {cells : List AC} {K : List AC → Prop}, fillK fr offs cells parts K → offs.all (fun f => f.2.1 != 0) = true → ∃ ins res, Filled fr offs ins cells parts res ∧ K res
  | [], cells, K, h, _ => ⟨[], cells, .nil cells, h⟩
  | (f, x) :: r, cells, K, h, hz => by
    rw [fillK] at h
    obtain ⟨⟨off, sz, ag⟩, hf, h⟩ := nth_ok h
    obtain ⟨v, hev, h⟩ := ev_ok h
    split at h
    · rename_i cs hc
      split at h
      · rename_i hb
        have hl := Nat.eq_of_beq_eq_true hb
        have hsz : sz ≠ 0 := by simpa using List.all_eq_true.1 hz _ (List.mem_of_getElem? hf)
        rcases put_ok h with ⟨e, _⟩ | ⟨A, old, B, h1, h2, h3, h4⟩
        · rw [e] at hl; simp at hl; omega
        · obtain ⟨ins, res, h5, h6⟩ := fill_ok h4 hz
          subst h1
          exact ⟨(x, v) :: ins, res, .cons hf hev hc hl h2 h3 h5, h6⟩
      · exact h.elim
    · exact h.elim

theorem Filled.run {fr : Fr} {t : TypeId} {i : TyI} (ht : TyOK P t i) (hk : i.kind = 3) {fs : Array Field} (hu : P.underlying t = some (.struct fs)) {M : Mem} {τ : Tau} {H : HF} {ρ : Operand → Value}
    {ins : List (Operand × AV)} {cells res : List AC} {parts : List (Nat × Operand)} (h : Filled fr i.offs ins cells parts res) (hins : ∀ p ∈ ins, AVRep M τ H p.2 (ρ p.1)) {us : List Value} (hus : All2 (ACRep M τ H) cells us) :
    ∃ us', Instr.fill (fun k => (fs.map fun f => (f.offset, P.cellsOf f.type))[k]?) us.toArray (parts.map fun p => (p.1, ρ p.2)) = some us'.toArray ∧ All2 (ACRep M τ H) res us' := by
  induction h generalizing us with
  | nil cells => exact ⟨us, by simp [Instr.fill], hus⟩
  | @cons ins A old B cs res f off sz ag x v r hf hev hc hl hA ho h ih =>
    have hv := hins (x, v) (by simp)
    obtain ⟨zs, hz1, hz2⟩ := cells_rep hv hc
    have hzl := hz2.length
    have hul := hus.length
    have hA' := (hus.take A.length)
    rw [List.take_left' rfl] at hA'
    have hB' := (hus.drop (A.length + old.length))
    rw [← List.append_assoc, List.drop_left' (by simp)] at hB'
    have hsplit : us = us.take A.length ++ ((us.drop A.length).take old.length ++ us.drop (A.length + old.length)) := by
      rw [← List.drop_drop, List.take_append_drop, List.take_append_drop]
    obtain ⟨us', h1, h2⟩ := ih (fun p hp => hins p (by simp [hp])) (hA'.append (hz2.append hB'))
    refine ⟨us', ?_, h2⟩
    rw [List.map_cons, hsplit]
    simp only [List.length_append] at hul
    rw [fill_step (place_at ht hk hu hf) hz1 (by omega) (by simp; omega) (by simp; omega)]
    exact h1

theorem ok_build {t : TypeId} {parts : Array (Nat × Operand)} {i : TyI} {fr : Fr} {ins : List (Operand × AV)} {res : List AC} (ho : o.op = .build t parts) (ht : TyOK P t i) (hk : i.kind = 3) (h : Filled fr i.offs ins i.zero parts.toList res) :
    OpHolds P o ⟨ins, [], [], [], .agg res⟩ :=
  OpHolds.pure fun M τ H w ρ _ hins _ => by
    obtain ⟨inf, z, i1, i2, i3, i4, i5, i6, i7, i8⟩ := ht.info (by omega)
    obtain ⟨d, hd, hag, _⟩ := ht.und (by omega)
    have hfs : ∃ fs, P.underlying t = some (.struct fs) := by
      rcases ht with ht | ⟨_, _, _, _, ht⟩
      · omega
      · rw [hk] at ht
        have h1 := ht.1
        unfold structFact at h1
        split at h1
        · rename_i fs hfs; exact ⟨fs, hfs⟩
        · cases h1
    obtain ⟨fs, hu⟩ := hfs
    obtain ⟨us', h1, h2⟩ := h.run ht hk hu hins (acConsts_rep M τ H _ i6)
    refine ⟨.agg us'.toArray, ?_, us', rfl, h2⟩
    have hmap : (parts.map fun (p : Nat × Operand) => (p.1, ρ p.2)).toList = parts.toList.map fun p => (p.1, ρ p.2) := by simp
    have hz : (zeroValue t).run P w = .ok z w := by simp [zeroValue, typeInfo, i1, i4]
    simp only [execOp, ho, Instr.build, Sem.run_bind, hz, Result.andThen_ok, run_underlying hu, run_places ht hk hu]
    have e : (parts.map fun x => match x with | (i, x) => (i, ρ x)).toList = parts.toList.map fun p => (p.1, ρ p.2) := by simp
    rw [e, i5, h1]
    simp

end ops
end Go.Cpl

namespace Go.Cpl
open Go
section ops
variable {P : Program} {o : Oper}

theorem scal_ok {x : AC} {K : D → Prop} (h : scalK x K) : ∃ d, K d ∧ d.scalar = true ∧ x.ids = [] ∧ ∀ M τ H v, ACRep M τ H x v → v = d.val := by
  unfold scalK at h
  split at h
  · exact ⟨_, h, rfl, rfl, fun M τ H v hv => by cases hv; rfl⟩
  · exact ⟨_, h, rfl, rfl, fun M τ H v hv => by cases hv; rfl⟩
  · exact ⟨_, h, rfl, rfl, fun M τ H v hv => by cases hv; rfl⟩
  · exact ⟨_, h, rfl, rfl, fun M τ H v hv => by cases hv; rfl⟩
  · exact ⟨_, h, rfl, rfl, fun M τ H v hv => by cases hv; rfl⟩
  · exact ⟨_, h, rfl, rfl, fun M τ H v hv => hv⟩
  · exact ⟨_, h, rfl, rfl, fun M τ H v hv => hv⟩
  · exact h.elim

theorem scals_ok : ∀ {xs : List AC} {K : List D → Prop}, scalsK xs K → ∃ ds, K ds ∧ (∀ d ∈ ds, d.scalar = true) ∧ ds.length = xs.length ∧ ∀ M τ H us, All2 (ACRep M τ H) xs us → us = ds.map D.val
  | [], K, h => ⟨[], h, by simp, rfl, fun M τ H us hu => by cases us <;> first | rfl | exact hu.elim⟩
  | x :: r, K, h => by
    obtain ⟨d, h1, h2, _, h4⟩ := scal_ok h
    obtain ⟨ds, g1, g2, g3, g4⟩ := scals_ok h1
    refine ⟨d :: ds, g1, fun y hy => ?_, by simp [g3], fun M τ H us hu => ?_⟩
    · cases hy with
      | head => exact h2
      | tail _ hy => exact g2 y hy
    · cases us with
      | nil => exact hu.elim
      | cons u us => rw [h4 _ _ _ _ hu.1, g4 _ _ _ _ hu.2]; rfl

/-- what 'elemsK' has gone through -/
inductive Elems (fr : Fr) (size : Nat) : List (Operand × AV) → Nat → List (Nat × Operand) → List (List D) → Prop
  | nil (k : Nat) : Elems fr size [] k [] []
  | cons {ins : List (Operand × AV)} {k : Nat} {x : Operand} {v : AV} {cs : List AC} {ds : List D} {r : List (Nat × Operand)} {l : List (List D)} (hev : EvOK fr x v) (hc : cellsOf v = some cs) (hl : cs.length = size) (hsc : ∀ d ∈ ds, d.scalar = true) (hdl : ds.length = cs.length)
      (hds : ∀ M τ H us, All2 (ACRep M τ H) cs us → us = ds.map D.val) (h : Elems fr size ins (k + 1) r l) : Elems fr size ((x, v) :: ins) k ((k, x) :: r) (ds :: l)

theorem elems_ok {fr : Fr} {size : Nat} : ∀ {parts : List (Nat × Operand)} {k : Nat} {K : List (List D) → Prop}, elemsK fr size k parts K → ∃ ins rows, Elems fr size ins k parts rows ∧ K rows
  | [], k, K, h => ⟨[], [], .nil k, h⟩
  | (i, x) :: r, k, K, h => by
    rw [elemsK] at h
    split at h
    · rename_i hb
      have := Nat.eq_of_beq_eq_true hb
      subst this
      obtain ⟨v, hev, h⟩ := ev_ok h
      split at h
      · rename_i cs hc
        split at h
        · rename_i hb
          have hl := Nat.eq_of_beq_eq_true hb
          obtain ⟨ds, h1, h2, h3, h4⟩ := scals_ok h
          obtain ⟨ins, rows, h5, h6⟩ := elems_ok h1
          exact ⟨_, _, .cons hev hc hl h2 h3 h4 h5, h6⟩
        · exact h.elim
      · exact h.elim
    · exact h.elim

theorem Elems.sizes {fr : Fr} {size : Nat} {ins : List (Operand × AV)} {k : Nat} {parts : List (Nat × Operand)} {rows : List (List D)} (h : Elems fr size ins k parts rows) : rows.length = parts.length ∧ ∀ r ∈ rows, r.length = size ∧ ∀ d ∈ r, d.scalar = true := by
  induction h with
  | nil => simp
  | cons hev hc hl hsc hdl hds h ih =>
    refine ⟨by simp [ih.1], fun r hr => ?_⟩
    cases hr with
    | head => exact ⟨by omega, hsc⟩
    | tail _ hr => exact ih.2 r hr

theorem Elems.run {fr : Fr} {size : Nat} {M : Mem} {τ : Tau} {H : HF} {ρ : Operand → Value} {ins : List (Operand × AV)} {k : Nat} {parts : List (Nat × Operand)} {rows : List (List D)} (h : Elems fr size ins k parts rows)
    (hins : ∀ p ∈ ins, AVRep M τ H p.2 (ρ p.1)) {A B : List Value} (hA : A.length = k * size) (hB : B.length = parts.length * size) :
    Instr.fill (fun i => some (i * size, size)) (A ++ B).toArray (parts.map fun p => (p.1, ρ p.2)) = some (A ++ flat rows).toArray := by
  induction h generalizing A B with
  | nil k => simp at hB; subst hB; simp [Instr.fill, flat]
  | @cons ins k x v cs ds r l hev hc hl hsc hdl hds h ih =>
    have hv := hins (x, v) (by simp)
    obtain ⟨zs, hz1, hz2⟩ := cells_rep hv hc
    have hz := hds _ _ _ _ hz2
    have hzl : zs.length = size := by rw [hz]; simp; omega
    simp only [List.length_cons, Nat.add_mul] at hB
    have hsplit : B = B.take size ++ B.drop size := by simp
    rw [List.map_cons, hsplit]
    rw [fill_step (place := fun i => some (i * size, size)) (i := k) (off := k * size) rfl hz1 hzl (by simp; omega) hA, ← List.append_assoc A zs]
    rw [ih (fun p hp => hins p (by simp [hp])) (by simp [hA, hzl, Nat.add_mul]) (by simp; omega)]
    simp [flat, hz]

theorem ok_buildSlice {t : TypeId} {len : Nat} {parts : Array (Nat × Operand)} {i j : TyI} {fr : Fr} {ins : List (Operand × AV)} {rows : List (List D)} {n : Nat} (ho : o.op = .buildSlice t len parts) (ht : TyOK P t i) (hk : i.kind = 2) (hj : TyOK P i.el j) (hjk : j.kind ≠ 0)
    (hlen : parts.toList.length = len) (hsmall : len * j.size ≤ 16777216) (h : Elems fr j.size ins 0 parts.toList rows) :
    OpHolds P o ⟨ins, [], [(n, .arr i.el rows)], [n], .c (.gs n)⟩ := by
  intro M τ H w ρ hinv hins hrd hnew
  obtain ⟨inf, z, i1, i2, i3, i4, i5, i6, i7, i8⟩ := hj.info hjk
  obtain ⟨hf, hid⟩ := hnew n (by simp)
  obtain ⟨hs1, hs2⟩ := h.sizes
  have hfl := flat_length (fun r hr => (hs2 r hr).1)
  have hbs : (List.map (fun x => z.cells[x % z.cells.size]!) (List.range (len * inf.size))).length = parts.toList.length * j.size := by simp [hlen, i2]
  have hrun := h.run (M := M) (τ := τ) (H := H) (ρ := ρ) (A := []) (B := List.map (fun x => z.cells[x % z.cells.size]!) (List.range (len * inf.size))) hins (by simp) hbs
  refine OpRun.value (v := .slice (some ⟨w.heap.size, 0, none⟩) len len) (w' := w.alloc (.cells (flat rows).toArray i.el)) ?_ ⟨M, updF τ n ⟨w.heap.size, len, j.size, false⟩, ?_, ?_⟩
  · have hc : (Array.range (len * inf.size)).map (fun x => z.cells[x % z.cells.size]!) = (List.map (fun x => z.cells[x % z.cells.size]!) (List.range (len * inf.size))).toArray := by
      apply Array.ext'
      simp
    have e : (parts.map fun x => match x with | (i, x) => (i, ρ x)).toList = parts.toList.map fun p => (p.1, ρ p.2) := by simp
    simp only [List.nil_append] at hrun
    rw [← i2] at hrun
    have hns : ¬ len * inf.size > 2 ^ 24 := by rw [i2]; omega
    simp only [execOp, ho, Instr.buildSlice, Sem.run_bind, run_underlying (ht.slice hk), Result.andThen_ok, run_sizeOf i1]
    rw [if_neg hns]
    by_cases h0 : len * inf.size = 0
    · rw [h0] at hrun hc
      simp only [List.range_zero, List.map_nil] at hrun
      simp only [Sem.run_pure, h0, if_true, Sem.run_bind, Result.andThen_ok, e]
      have hc0 : ∀ f : Nat → Value, (Array.range 0).map f = [].toArray := fun f => by apply Array.ext'; simp
      rw [hc0, hrun]
      simp [newRow]
    · have hz : (zeroValue i.el).run P w = .ok z w := by simp [zeroValue, typeInfo, i1, i4]
      simp only [Sem.run_pure, h0, if_false, Sem.run_bind, Result.andThen_ok, e, hz, hc, hrun]
      simp [newRow]
  · refine Nx.push hinv hf (.arr i.el rows) ⟨w.heap.size, len, j.size, false⟩ (WSame.alloc _ _ _) (.inr (Nat.le_refl _)) ⟨?_, ?_, ?_⟩
    · simp [updF, Program.cellsOf, i1, i2]
    · simpa [updF] using hs2
    · simp only [updF, if_true]
      refine owns_of_block rfl hfl (alloc_new _ _) ?_ ?_ ?_ ?_
      · simp [hs1, hlen]
      · show len ≤ maxLen
        have : len * 1 ≤ len * j.size := Nat.mul_le_mul_left _ i8
        unfold maxLen; omega
      · simp [hfl, hs1, hlen]
      · rw [← hfl]; simp
  · simp [AVRep, ACRep, updH, Loc.slice, updF, hs1, hlen]

theorem flat_replicate (z : List D) : ∀ n : Nat, flat (List.replicate n z) = (List.replicate n (z.map D.val)).flatten
  | 0 => by simp [flat]
  | n + 1 => by rw [List.replicate_succ, flat_cons, flat_replicate z n]; simp [List.replicate_succ]

theorem made_take {z : List Value} (hz : 0 < z.length) : ∀ (n m : Nat), n ≤ m → (madeCells z.toArray (m * z.length)).toList.take (n * z.length) = (List.replicate n z).flatten := by
  intro n m hnm
  apply List.ext_getElem?
  intro k
  have hmul : n * z.length ≤ m * z.length := Nat.mul_le_mul_right _ hnm
  by_cases hk : k < n * z.length
  · rw [List.getElem?_take, if_pos hk]
    have hk' : k < m * z.length := by omega
    simp only [madeCells, Array.toList_map, Array.toList_range, List.getElem?_map, List.getElem?_range hk', Option.map_some, List.size_toArray]
    have hmod : k % z.length < z.length := Nat.mod_lt _ hz
    have hget : (List.replicate n z).flatten[k]? = z[k % z.length]? := by
      have : ∀ (n k : Nat), k < n * z.length → (List.replicate n z).flatten[k]? = z[k % z.length]? := by
        intro n
        induction n with
        | zero => intro k hk; omega
        | succ n ih =>
          intro k hk
          rw [List.replicate_succ, List.flatten_cons]
          by_cases h : k < z.length
          · rw [List.getElem?_append_left h, Nat.mod_eq_of_lt h]
          · rw [List.getElem?_append_right (by omega), ih _ (by rw [Nat.add_mul] at hk; omega)]
            congr 1
            exact (Nat.mod_eq_sub_mod (by omega)).symm
      exact this n k hk
    rw [hget]
    simp [hmod]
  · rw [List.getElem?_eq_none (by simp; omega), List.getElem?_eq_none (by simp; omega)]

theorem ok_makeSlice {t : TypeId} {l c : Operand} {i j : TyI} {a b : Int} {zs : List D} {n : Nat} (ho : o.op = .makeSlice t l c) (ht : TyOK P t i) (hk : i.kind = 2) (hj : TyOK P i.el j) (hjk : j.kind ≠ 0)
    (h0 : 0 ≤ a) (hab : a ≤ b) (hfit : Fits b.toNat) (hsc : ∀ d ∈ zs, d.scalar = true) (hzl : zs.length = j.zero.length) (hz : ∀ M τ H us, All2 (ACRep M τ H) j.zero us → us = zs.map D.val) :
    OpHolds P o ⟨[(l, .c (.d (.int .i64 a))), (c, .c (.d (.int .i64 b)))], [], [(n, .arr i.el (List.replicate a.toNat zs))], [n], .c (.gs n)⟩ := by
  intro M τ H w ρ hinv hins hrd hnew
  obtain ⟨inf, z, i1, i2, i3, i4, i5, i6, i7, i8⟩ := hj.info hjk
  obtain ⟨hf, hid⟩ := hnew n (by simp)
  have h1 := rep_int (hins (l, .c (.d (.int .i64 a))) (by simp))
  have h2 := rep_int (hins (c, .c (.d (.int .i64 b))) (by simp))
  simp only at h1 h2
  replace hfit := hfit.le
  have hzc := hz M τ H _ (acConsts_rep M τ H _ i6)
  rw [hzc] at i5
  have hzl' : (zs.map D.val).length = inf.size := by simp [hzl, i7, i2]
  have hbytes : (inf.bytes : Int) * b ≤ 281474976710656 := by
    have h3 : (inf.bytes : Int) * b ≤ 65536 * b := Int.mul_le_mul_of_nonneg_right (by omega) (by omega)
    omega
  have hrun := run_make (P := P) w t i.el inf z (ht.slice hk) i1 i4 .i64 .i64 a b h0 hab hbytes (by omega)
  rw [i5] at hrun
  refine OpRun.value (v := .slice (some ⟨w.heap.size, 0, none⟩) a.toNat b.toNat) (w' := w.alloc (.cells (madeCells (zs.map D.val).toArray (b.toNat * inf.size)) i.el)) ?_ ⟨M, updF τ n ⟨w.heap.size, b.toNat, j.size, false⟩, ?_, ?_⟩
  · simp [execOp, ho, h1, h2, hrun]
  · refine Nx.push hinv hf (.arr i.el (List.replicate a.toNat zs)) ⟨w.heap.size, b.toNat, j.size, false⟩ (WSame.alloc _ _ _) (.inr (Nat.le_refl _)) ⟨?_, ?_, ?_⟩
    · simp [updF, Program.cellsOf, i1, i2]
    · intro r hr
      have := List.eq_of_mem_replicate hr
      subst this
      exact ⟨by simp only [updF, if_true]; rw [hzl, i7], hsc⟩
    · simp only [updF, if_true]
      have hsz : j.size = (zs.map D.val).length := by rw [hzl', i2]
      refine owns_of_block rfl ?_ (alloc_new _ _) ?_ ?_ ?_ ?_
      · rw [flat_length (s := j.size)]
        intro r hr
        have := List.eq_of_mem_replicate hr
        subst this
        rw [hzl, i7]
      · simp; omega
      · show b.toNat ≤ maxLen
        unfold maxLen; omega
      · rw [size_madeCells, i2]
      · rw [flat_replicate, i2, hsz]
        simp only [List.length_replicate]
        exact made_take (by rw [hzl', i2]; exact i8) _ _ (by omega)
  · simp [AVRep, ACRep, updH, Loc.slice, updF]

end ops
end Go.Cpl

namespace Go.Cpl
open Go
section ops
variable {P : Program} {o : Oper}

/-- an owned object is let go, and another one takes its block over (or a new one) -/
theorem Nx.reown {M : Mem} {τ : Tau} {H : HF} {w w' : World} (h : Inv P M τ H w) {id id' : Nat} (hf : FreshH H id') (hne : id' ≠ id) (ob : HObj) (l : Loc) (hs : WSame w w' fun b => blkOf τ H id = some b)
    (hl : ∀ b, blkOf (updF τ id' l) (updF (updF H id .gone) id' ob) id' = some b → w.heap.size ≤ b ∨ blkOf τ H id = some b)
    (hobj : ObjRep P M (updF τ id' l) (updF (updF H id .gone) id' ob) w' id' ob) :
    Nx P M τ H w (updF (updF H id .gone) id' ob) M (updF τ id' l) w' [id'] := by
  have hH : ∀ j, j ≠ id' → j ≠ id → updF (updF H id .gone) id' ob j = H j := fun j h1 h2 => by simp [updF, Ne.symm h1, Ne.symm h2]
  have hτ : ∀ j, j ≠ id' → updF τ id' l j = τ j := fun j h1 => by simp [updF, Ne.symm h1]
  have hkeep : ∀ j, j ≠ id' → KeepId M τ H M (updF τ id' l) (updF (updF H id .gone) id' ob) j := fun j hj => by
    by_cases hj2 : j = id
    · subst hj2
      have e : updF (updF H j .gone) id' ob j = .gone := by simp [updF, hne]
      exact KeepId.gone e
    · exact KeepId.refl (hH j hj hj2) (hτ j hj)
  have hblk : ∀ j b, j ≠ id' → blkOf (updF τ id' l) (updF (updF H id .gone) id' ob) j = some b → blkOf τ H j = some b ∧ j ≠ id := fun j b hj hb => by
    by_cases hj2 : j = id
    · subst hj2; simp [blkOf, updF, hne] at hb
    · exact ⟨by rwa [blkOf_congr (H := H) (τ := τ) (hH j hj hj2) (hτ j hj)] at hb, hj2⟩
  have hsb : ∀ j b, j ≠ id → blkOf τ H j = some b → w'.heap[b]? = w.heap[b]? := fun j b hj hb => hs.block b (blk_lt h hb) (fun he => hj (h.inj j id b hb he))
  refine ⟨⟨fun b o' hb => ?_, fun j => ?_, fun j b hb => ?_, fun i j b hi hj => ?_⟩, fun _ _ h => h, fun _ _ h => .inl h,
    fun j hj => hkeep j (by simpa using hj), fun j b hb => ?_, fun b hb hn => hs.block b hb (hn id), hs.size, hs.os, hs.tape, hs.output⟩
  · rw [hs.block b (mem_lt h hb) (fun he => by rw [h.dis id b he] at hb; cases hb)]; exact h.mem b o' hb
  · by_cases hj : j = id'
    · subst hj; simp only [updF, if_true]; exact hobj
    · by_cases hj2 : j = id
      · subst hj2; simp [updF, hne, ObjRep]
      · rw [hH j hj hj2]
        refine ObjRep.keep (h.obj j) (fun _ _ h => h) (hτ j hj) (fun b hb => hsb j b hj2 hb) rfl (fun i hi => hkeep i (fun he => ?_))
        subst he; exact hf.2 j hi
  · by_cases hj : j = id'
    · subst hj
      rcases hl b hb with hb | hb
      · cases hm : M b with
        | none => rfl
        | some o' => exact absurd (mem_lt h hm) (by omega)
      · exact h.dis id b hb
    · exact h.dis j b (hblk j b hj hb).1
  · by_cases hi' : i = id' <;> by_cases hj' : j = id'
    · rw [hi', hj']
    · subst hi'
      obtain ⟨h1, h2⟩ := hblk j b hj' hj
      rcases hl b hi with hb | hb
      · exact absurd (blk_lt h h1) (by omega)
      · exact absurd (h.inj j id b h1 hb) h2
    · subst hj'
      obtain ⟨h1, h2⟩ := hblk i b hi' hi
      rcases hl b hj with hb | hb
      · exact absurd (blk_lt h h1) (by omega)
      · exact absurd (h.inj i id b h1 hb) h2
    · exact h.inj i j b (hblk i b hi' hi).1 (hblk j b hj' hj).1
  · by_cases hj : j = id'
    · subst hj
      rcases hl b hb with h | h
      · exact .inl h
      · exact .inr ⟨id, h⟩
    · exact .inr ⟨j, (hblk j b hj hb).1⟩

theorem flat_inv {s : Nat} : ∀ {rows : List (List D)} {k : Nat} {v : Value}, (∀ r ∈ rows, r.length = s) → (flat rows)[k]? = some v → ∃ (i j : Nat) (r : List D) (x : D), k = i * s + j ∧ rows[i]? = some r ∧ r[j]? = some x ∧ v = x.val
  | [], k, v, _, h => by simp [flat] at h
  | r0 :: rows, k, v, hs, h => by
    have h0 := hs r0 (by simp)
    rw [flat_cons] at h
    by_cases hk : k < r0.length
    · rw [List.getElem?_append_left (by simpa using hk)] at h
      simp only [List.getElem?_map, Option.map_eq_some_iff] at h
      obtain ⟨x, hx, rfl⟩ := h
      exact ⟨0, k, r0, x, by simp, by simp, hx, rfl⟩
    · rw [List.getElem?_append_right (by simp; omega)] at h
      obtain ⟨i, j, r, x, h1, h2, h3, h4⟩ := flat_inv (fun r hr => hs r (by simp [hr])) h
      refine ⟨i + 1, j, r, x, ?_, by simpa using h2, h3, h4⟩
      simp at h1
      rw [Nat.add_mul]; omega

theorem drep_scal {M : Mem} {x : D} {v : Value} (h : DRep M x v) (hs : x.scalar = true) : v = x.val := by
  cases h with
  | scal => rfl
  | sl0 => simp [D.scalar] at hs
  | sl => simp [D.scalar] at hs

/-- the operand whose elements are appended -/
def RowsOf (fp : Fp) (y : AC) (rows : List (List D)) : Prop :=
  (y = .d (.sl rows) ∧ fp = []) ∨ (y = .ns ∧ rows = [] ∧ fp = []) ∨ (∃ id e, y = .gs id ∧ fp = [(id, .arr e rows)]) ∨ ∃ id e lo n all, y = .gv id lo n ∧ fp = [(id, .arr e all)] ∧ rows = (all.drop lo).take n

theorem rows_ok {hp : Hp} {y : AC} {K : List (List D) → Fp → Prop} (h : rowsK hp y K) : ∃ rows fp, RowsOf fp y rows ∧ (∀ p ∈ fp, hpAt hp p.1 = p.2) ∧ K rows fp := by
  unfold rowsK at h
  split at h
  · exact ⟨_, _, .inl ⟨rfl, rfl⟩, by simp, h⟩
  · exact ⟨_, _, .inr (.inl ⟨rfl, rfl, rfl⟩), by simp, h⟩
  · split at h
    · rename_i e rows he; exact ⟨_, _, .inr (.inr (.inl ⟨_, e, rfl, rfl⟩)), by simp [he], h⟩
    · exact h.elim
  · split at h
    · rename_i e rows he; exact ⟨_, _, .inr (.inr (.inr ⟨_, e, _, _, _, rfl, rfl, rfl⟩)), by simp [he], h⟩
    · exact h.elim
  · exact h.elim

theorem first_ok {M : Mem} {τ : Tau} {H : HF} {w : World} {fp : Fp} {y : AC} {rows : List (List D)} {v : Value} {size : Nat} (hinv : Inv P M τ H w) (hr : RowsOf fp y rows) (hfp : ∀ p ∈ fp, H p.1 = p.2) (hv : ACRep M τ H y v)
    (hs : ∀ r ∈ rows, r.length = size ∧ ∀ d ∈ r, d.scalar = true) :
    ∃ a c, v = .slice a rows.length c ∧ ∀ w' : World, w'.heap = w.heap → (Builtin.firstCells size rows.length v).run P w' = .ok (flat rows).toArray w' := by
  have key : ∀ (b off c : Nat), (∀ (i j : Nat) (r : List D) (x : D), rows[i]? = some r → r[j]? = some x → w.cell? ⟨b, off + (i * size + j), none⟩ = some x.val) →
      ∀ w' : World, w'.heap = w.heap → (Builtin.firstCells size rows.length (.slice (some ⟨b, off, none⟩) rows.length c)).run P w' = .ok (flat rows).toArray w' := by
    intro b off c hc w' hw'
    refine run_firstCells_some (P := P) w' size rows.length ⟨b, off, none⟩ rows.length c (flat rows) (flat_length fun r hr => (hs r hr).1) (fun k u hk => ?_)
    obtain ⟨i, j, r, x, rfl, h1, h2, rfl⟩ := flat_inv (fun r hr => (hs r hr).1) hk
    rw [add_addr]
    have := hc i j r x h1 h2
    simpa [World.cell?, hw'] using this
  rcases hr with ⟨rfl, rfl⟩ | ⟨rfl, rfl, rfl⟩ | ⟨id, e, rfl, rfl⟩ | ⟨id, e, lo, n, all, rfl, rfl, rfl⟩
  · rcases drep_sl hv with ⟨rfl, a, cap, rfl⟩ | ⟨b, off, cap, cs, e, fz, s, vs, rfl, hM, hcap, hs', hc, hd⟩
    · refine ⟨a, cap, rfl, fun w' hw' => ?_⟩
      cases a with
      | none => simp [Builtin.firstCells, flat]
      | some a => simp [Builtin.firstCells, flat, loadCells, loadCellsFrom]
    · refine ⟨_, cap, rfl, key b off cap fun i j r x hr hx => ?_⟩
      have hb := hinv.mem _ _ hM
      rw [cell_of hb]
      have e1 : size = s := by
        have hm := List.mem_of_getElem? hr
        rw [← (hs r hm).1]; exact hs' r hm
      rw [e1, ← Nat.add_assoc, hc i j r x hr hx, drep_scal (hd i j r x hr hx) ((hs r (List.mem_of_getElem? hr)).2 x (List.mem_of_getElem? hx))]
  · have hv : v = .slice none 0 0 := hv
    subst hv
    exact ⟨none, 0, rfl, fun w' hw' => by simp [Builtin.firstCells, flat]⟩
  · have hH := hfp (id, .arr e rows) (by simp)
    simp only at hH
    simp only [ACRep, hH] at hv
    have hob := hinv.obj id
    rw [hH] at hob
    obtain ⟨o1, o2, o3⟩ := hob
    cases hn : (τ id).nil with
    | true =>
      obtain ⟨e1, _⟩ := owns_nil o3 hn
      have := List.length_eq_zero_iff.1 e1
      subst this
      simp [Loc.slice, hn] at hv
      subst hv
      exact ⟨none, 0, rfl, fun w' hw' => by simp [Builtin.firstCells, flat]⟩
    | false =>
      simp [Loc.slice, hn] at hv
      subst hv
      refine ⟨_, _, rfl, key (τ id).b 0 (τ id).cap fun i j r x hr hx => ?_⟩
      have e1 : size = (τ id).s := by
        have hm := List.mem_of_getElem? hr
        rw [← (hs r hm).1]; exact (o2 r hm).1
      rw [e1]
      simpa using (arr_at hinv hH hr hx).1
  · have hH := hfp (id, .arr e all) (by simp)
    simp only at hH
    simp only [ACRep, hH] at hv
    have hob := hinv.obj id
    rw [hH] at hob
    obtain ⟨o1, o2, o3⟩ := hob
    obtain ⟨hlen, ⟨_, rfl, rfl⟩ | ⟨hn, ad, rfl, hpos⟩⟩ := hv
    · exact ⟨none, 0, by simp, fun w' hw' => by simp [Builtin.firstCells, flat]⟩
    · have hl : ((all.drop lo).take n).length = n := by simp; omega
      obtain ⟨cur, a1, a2, a3, a4, a5⟩ := owns_block o3 hn
      rcases Nat.eq_zero_or_pos n with h0 | h0
      · subst h0
        exact ⟨some ad, (τ id).cap - lo, by simp, fun w' hw' => by simp [Builtin.firstCells, flat, loadCells, loadCellsFrom]⟩
      have := hpos (.inl (by omega))
      subst this
      refine ⟨some ⟨(τ id).b, lo * (τ id).s, none⟩, (τ id).cap - lo, by rw [hl], ?_⟩
      have hk := key (τ id).b (lo * (τ id).s) ((τ id).cap - lo) fun i j r x hr hx => by
        have hr' : all[lo + i]? = some r := by have := take_get hr; rwa [List.getElem?_drop] at this
        have e1 : size = (τ id).s := by rw [← (hs r (List.mem_of_getElem? hr)).1]; exact (o2 r (List.mem_of_getElem? hr')).1
        have := (arr_at hinv hH hr' hx).1
        rw [e1, ← Nat.add_assoc, ← Nat.add_mul]
        exact this
      rw [hl] at hk ⊢
      exact hk

theorem run_append_grow' {t ty e : TypeId} {i : TypeInfo} {z : Value} (ht : P.underlying t = some (.slice e)) (hi : P.info? e = some i) (hz : i.zero = some z) (w : World)
    (b : Option Addr) (sLen sCap : Nat) (olds : List Value) (a : Option Addr) (n c : Nat) (news : List Value)
    (hfo : (Builtin.firstCells i.size sLen (.slice b sLen sCap)).run P w.drew = .ok olds.toArray w.drew) (hf : (Builtin.firstCells i.size n (.slice a n c)).run P w.drew = .ok news.toArray w.drew)
    (hg : sCap < sLen + n) (h63 : ((sLen + n : Nat) : Int) ≤ 9223372036854775807) (hfit : Builtin.nextslicecap (sLen + n) sCap * i.bytes ≤ 281474976710656) :
    (Builtin.append_ #[t, t] ty #[.slice b sLen sCap, .slice a n c]).run P w =
      .ok (.slice (some ⟨w.heap.size, 0, none⟩) (sLen + n) (grownCap w (sLen + n) sCap e))
        (w.drew.alloc (.cells (olds.toArray ++ news.toArray ++ Builtin.zeroCells z.cells (grownCap w (sLen + n) sCap e - (sLen + n))) e)) := by
  have hn : ¬ (sLen + n ≤ sCap) := by omega
  have h63' : ¬ (9223372036854775807 < ((sLen : Int) + (n : Int))) := by omega
  have h48' : ¬ (281474976710656 < Builtin.nextslicecap (sLen + n) sCap * i.bytes) := by omega
  simp [Builtin.append_, run_underlying ht, sizeOf, typeInfo, zeroValue, hi, hz, Builtin.lenOf, hn, h63', h48', Question.forced, hf, hfo, newRow, grownCap]
  congr 2
  apply Array.ext'
  simp [List.append_assoc]

theorem run_append_room' {t ty e : TypeId} {i : TypeInfo} (ht : P.underlying t = some (.slice e)) (hi : P.info? e = some i) (w : World)
    (g sLen sCap : Nat) (cur : Array Value) (hg : w.heap[g]? = some (.cells cur e (0, 0)))
    (a : Option Addr) (m c : Nat) (news : List Value) (hf : (Builtin.firstCells i.size m (.slice a m c)).run P w = .ok news.toArray w) (h1 : ∀ u ∈ news, u.oneCell' = true)
    (hroom : sLen + m ≤ sCap) (hfit : sLen * i.size + news.length ≤ cur.size) :
    (Builtin.append_ #[t, t] ty #[.slice (some ⟨g, 0, none⟩) sLen sCap, .slice a m c]).run P w =
      .ok (.slice (some ⟨g, 0, none⟩) (sLen + m) sCap) (w.setRow g (cur.toList.take (sLen * i.size) ++ news ++ cur.toList.drop (sLen * i.size + news.length)).toArray) := by
  have hst := run_storeCells_at P g (sLen * i.size) e news 0 cur w hg (by simpa using hfit) h1
  simp only [Nat.add_zero] at hst
  simp [Builtin.append_, run_underlying ht, sizeOf, typeInfo, hi, Builtin.lenOf, hroom, hf, Addr.add_lit, hst]

theorem run_append_nils {t ty e : TypeId} {i : TypeInfo} (ht : P.underlying t = some (.slice e)) (hi : P.info? e = some i) (w : World) (a : Option Addr) (c : Nat)
    (hf : (Builtin.firstCells i.size 0 (.slice a 0 c)).run P w = .ok #[] w) :
    (Builtin.append_ #[t, t] ty #[.slice none 0 0, .slice a 0 c]).run P w = .ok (.slice none 0 0) w := by
  simp [Builtin.append_, run_underlying ht, sizeOf, typeInfo, hi, Builtin.lenOf, hf]

theorem flat_one {rows : List (List D)} (hs : ∀ r ∈ rows, ∀ d ∈ r, d.scalar = true) : ∀ u ∈ flat rows, u.oneCell' = true := by
  intro u hu
  simp only [flat, List.mem_map, List.mem_flatten] at hu
  obtain ⟨d, ⟨r, hr, hd⟩, rfl⟩ := hu
  have := hs r hr d hd
  cases d <;> first | rfl | simp [D.scalar] at this

theorem take_flat_room {cur : List Value} {old rows : List (List D)} {s : Nat} (h : cur.take (old.length * s) = flat old) (hr : (flat rows).length = rows.length * s) (ho : (flat old).length = old.length * s) :
    (cur.take (old.length * s) ++ flat rows ++ cur.drop (old.length * s + (flat rows).length)).take ((old ++ rows).length * s) = flat (old ++ rows) := by
  rw [h, flat_append]
  refine List.take_left' ?_
  simp [ho, hr, Nat.add_mul]

/-- the new array behind an append that grows -/
theorem grown_rep {M : Mem} {τ : Tau} {H : HF} {w' : World} {e : TypeId} {inf : TypeInfo} {z : Value} (hi : P.info? e = some inf) (hz : z.cells.size = inf.size) {n : Nat} {all : List (List D)} (hs : ∀ r ∈ all, r.length = inf.size ∧ ∀ d ∈ r, d.scalar = true) {b cap : Nat}
    (hcap : all.length ≤ cap) (hmax : cap ≤ maxLen) (hb : w'.heap[b]? = some (.cells ((flat all).toArray ++ Builtin.zeroCells z.cells (cap - all.length)) e (0, 0))) :
    ObjRep P M (updF τ n ⟨b, cap, inf.size, false⟩) H w' n (.arr e all) := by
  have hfl := flat_length (fun r hr => (hs r hr).1)
  refine ⟨by simp [updF, Program.cellsOf, hi], by simpa [updF] using hs, ?_⟩
  simp only [updF, if_true]
  refine owns_of_block rfl hfl hb hcap hmax ?_ ?_
  · simp only [Array.size_append, size_zeroCells, hz, List.size_toArray, hfl, ← Nat.add_mul]
    congr 1
    show _ = cap
    omega
  · rw [← hfl]
    simp

theorem ok_append_ns {x y : Operand} {t : TypeId} {i j : TyI} {a : AC} {fp : Fp} {rows : List (List D)} {n : Nat} (ho : o.op = .call ⟨.builtin .append, #[x, y], #[t, t]⟩) (ht : TyOK P t i) (hk : i.kind = 2) (hj : TyOK P i.el j) (hjk : j.kind ≠ 0)
    (hr : RowsOf fp a rows) (hs : ∀ r ∈ rows, r.length = j.size ∧ ∀ d ∈ r, d.scalar = true) (hfit : Fits rows.length) :
    OpHolds P o ⟨[(x, .c .ns), (y, .c a)], fp, [(n, .arr i.el rows)], [n], .c (.gs n)⟩ := by
  intro M τ H w ρ hinv hins hrd hnew
  obtain ⟨inf, z, i1, i2, i3, i4, i5, i6, i7, i8⟩ := hj.info hjk
  obtain ⟨hf, hid⟩ := hnew n (by simp)
  have h1 : ρ x = .slice none 0 0 := hins (x, .c .ns) (by simp)
  have h2 := hins (y, .c a) (by simp)
  simp only at h2
  obtain ⟨ad, c, hv, hfirst⟩ := first_ok (size := inf.size) hinv hr hrd h2 (by rw [i2]; exact hs)
  rw [hv] at hfirst
  replace hfit := hfit.le
  have hzs : z.cells.size = inf.size := by rw [i5, i2, ← i7]; simp
  have hexec : ∀ r, (Builtin.append_ #[t, t] o.type #[.slice none 0 0, .slice ad rows.length c]).run P w = r → (execOp ρ o).run P w = r.andThen fun v w' => .ok (.value v) w' := fun r hr => by
    simp [execOp, ho, resolve, invoke, builtin, h1, hv, hr]
  rcases Nat.eq_zero_or_pos rows.length with h0 | h0
  · have := List.length_eq_zero_iff.1 h0
    subst this
    have hrun := run_append_nils (ty := o.type) (ht.slice hk) i1 w ad c (by simpa [flat] using hfirst w rfl)
    refine OpRun.value (hexec _ hrun) ⟨M, updF τ n ⟨0, 0, inf.size, true⟩, ?_, ?_⟩
    · refine Nx.push hinv hf (.arr i.el []) ⟨0, 0, inf.size, true⟩ (WSame.refl _ _) (.inl (by simp [blkOf, updF])) ⟨by simp [updF, Program.cellsOf, i1], by simp, ?_⟩
      simp only [updF, if_true]
      exact ⟨by simp [flat], .inl ⟨by simp [Loc.slice], rfl⟩⟩
    · simp [AVRep, ACRep, updH, Loc.slice, updF]
  · have hb : rows.length * inf.bytes ≤ 140737488355328 := by
      have := Nat.mul_le_mul (show rows.length ≤ 1073741824 from hfit) (show inf.bytes ≤ 65536 from i3)
      omega
    have hrun := run_append_grow' (ty := o.type) (ht.slice hk) i1 i4 w none 0 0 [] ad rows.length c (flat rows) (by simp [Builtin.firstCells]) (hfirst w.drew rfl) (by omega) (by omega) (growslice_fits (by omega) (by simpa using hb))
    simp only [Nat.zero_add] at hrun
    refine OpRun.value (hexec _ hrun) ⟨M, updF τ n ⟨w.heap.size, grownCap w rows.length 0 i.el, inf.size, false⟩, ?_, ?_⟩
    · refine Nx.push hinv hf (.arr i.el rows) _ ((WSame.drew w _).trans (WSame.alloc _ _ _)) (.inr (Nat.le_refl _)) (grown_rep i1 hzs (by rw [i2]; exact hs) (grownCap_ge _ _ _ _) (grownCap_le_maxLen _ _ _ _ (by unfold maxLen; omega)) ?_)
      have := alloc_new w.drew (.cells (([] : List Value).toArray ++ (flat rows).toArray ++ Builtin.zeroCells z.cells (grownCap w rows.length 0 i.el - rows.length)) i.el)
      simpa using this
    · simp [AVRep, ACRep, updH, Loc.slice, updF]

theorem ok_append_gs {x y : Operand} {t : TypeId} {i j : TyI} {a : AC} {fp : Fp} {id : Nat} {old rows : List (List D)} {n : Nat} (ho : o.op = .call ⟨.builtin .append, #[x, y], #[t, t]⟩) (ht : TyOK P t i) (hk : i.kind = 2) (hj : TyOK P i.el j) (hjk : j.kind ≠ 0)
    (hr : RowsOf fp a rows) (hs : ∀ r ∈ rows, r.length = j.size ∧ ∀ d ∈ r, d.scalar = true) (hfit : Fits (old.length + rows.length)) :
    OpHolds P o ⟨[(x, .c (.gs id)), (y, .c a)], (id, .arr i.el old) :: fp, [(n, .arr i.el (old ++ rows)), (id, .gone)], [n], .c (.gs n)⟩ := by
  intro M τ H w ρ hinv hins hrd hnew
  obtain ⟨inf, z, i1, i2, i3, i4, i5, i6, i7, i8⟩ := hj.info hjk
  obtain ⟨hf, hid⟩ := hnew n (by simp)
  have hne : n ≠ id := by
    have := hid (x, .c (.gs id)) (by simp)
    simpa [AV.ids, AC.ids] using this
  have hH := hrd (id, .arr i.el old) (by simp)
  simp only at hH
  have h1 := hins (x, .c (.gs id)) (by simp)
  simp only at h1
  have h1' := h1
  have h2 := hins (y, .c a) (by simp)
  simp only at h2
  obtain ⟨ad, c, hv, hfirst⟩ := first_ok (size := inf.size) hinv hr (fun p hp => hrd p (by simp [hp])) h2 (by rw [i2]; exact hs)
  have hob := hinv.obj id
  rw [hH] at hob
  obtain ⟨o1, o2, o3⟩ := hob
  have es : (τ id).s = inf.size := by rw [o1]; simp [Program.cellsOf, i1]
  rw [es] at o2 o3
  obtain ⟨ad0, c0, hv0, hfirst0⟩ := first_ok (fp := [(id, .arr i.el old)]) (size := inf.size) hinv (.inr (.inr (.inl ⟨id, i.el, rfl, rfl⟩))) (by simpa using hH) h1 o2
  simp only [AVRep, ACRep, hH] at h1
  rw [hv] at hfirst
  replace hfit := hfit.le
  have hzs : z.cells.size = inf.size := by rw [i5, i2, ← i7]; simp
  have hupd : updH H [(n, .arr i.el (old ++ rows)), (id, .gone)] = updF (updF H id .gone) n (.arr i.el (old ++ rows)) := by
    funext q; simp [updH, updF]
  have hsall : ∀ r ∈ old ++ rows, r.length = inf.size ∧ ∀ d ∈ r, d.scalar = true := fun r hr => by
    rcases List.mem_append.1 hr with hr | hr
    · exact o2 r hr
    · rw [i2]; exact hs r hr
  have hflr := flat_length (rows := rows) (s := inf.size) (fun r hr => by rw [i2]; exact (hs r hr).1)
  have hflo := flat_length (rows := old) (s := inf.size) (fun r hr => (o2 r hr).1)
  simp only [hupd]
  by_cases hroom : old.length + rows.length ≤ (τ id).cap ∧ (τ id).nil = false
  · obtain ⟨hroom, hn⟩ := hroom
    obtain ⟨cur, a1, a2, a3, a4, a5⟩ := owns_block o3 hn
    simp [Loc.slice, hn] at h1
    have hm : (old.length + rows.length) * inf.size ≤ (τ id).cap * inf.size := Nat.mul_le_mul_right _ hroom
    rw [Nat.add_mul] at hm
    have hrun := run_append_room' (ty := o.type) (ht.slice hk) i1 w (τ id).b old.length (τ id).cap cur a1 ad rows.length c (flat rows) (hfirst w rfl) (flat_one fun r hr => (hs r hr).2) hroom (by rw [a4, hflr]; omega)
    refine OpRun.value (v := .slice (some ⟨(τ id).b, 0, none⟩) (old.length + rows.length) (τ id).cap) (w' := _) (by
      simp only [execOp, ho, resolve, invoke, builtin, List.map_toArray, List.map_cons, List.map_nil, h1, hv, Sem.run_bind, Sem.run_pure, Result.andThen_ok, hrun]; rfl) ⟨M, updF τ n ⟨(τ id).b, (τ id).cap, inf.size, false⟩, ?_, ?_⟩
    · have hbk : blkOf τ H id = some (τ id).b := by simp [blkOf, hH, hn]
      have hws := WSame.setRow (new := (cur.toList.take (old.length * inf.size) ++ flat rows ++ cur.toList.drop (old.length * inf.size + (flat rows).length)).toArray) a1
      refine Nx.reown hinv hf hne _ _ ⟨hws.os, hws.tape, hws.output, hws.size, fun b hb hn' => hws.block b hb (fun he => hn' (by rw [he]; exact hbk))⟩ (fun b hb => .inr ?_) ⟨by simp [updF, Program.cellsOf, i1], by simpa [updF] using hsall, ?_⟩
      · simp [blkOf, updF] at hb; rw [← hb]; exact hbk
      · simp only [updF, if_true]
        refine owns_of_block rfl (by rw [flat_length fun r hr => (hsall r hr).1]) (setRow_heap w (τ id).b cur _ i.el _ a1) (by simpa using hroom) a3 ?_ ?_
        · simp only [List.size_toArray, List.length_append, List.length_take, List.length_drop, Array.length_toList, hflr]; omega
        · exact take_flat_room a5 hflr hflo
    · simp [AVRep, ACRep, Loc.slice, updF]
  · by_cases hz0 : (τ id).nil = true ∧ rows = []
    · obtain ⟨hn, rfl⟩ := hz0
      have e1 := (owns_nil o3 hn).1
      have := List.length_eq_zero_iff.1 e1
      subst this
      simp [Loc.slice, hn] at h1
      have hrun := run_append_nils (ty := o.type) (ht.slice hk) i1 w ad c (by simpa [flat] using hfirst w rfl)
      simp only [List.length_nil] at hv
      refine OpRun.value (v := .slice none 0 0) (w' := w) (by
        simp only [execOp, ho, resolve, invoke, builtin, List.map_toArray, List.map_cons, List.map_nil, h1, hv, Sem.run_bind, Sem.run_pure, Result.andThen_ok, hrun]) ⟨M, updF τ n ⟨0, 0, inf.size, true⟩, ?_, ?_⟩
      · refine Nx.reown hinv hf hne _ _ (WSame.refl _ _) (fun b hb => by simp [blkOf, updF] at hb) ⟨by simp [updF, Program.cellsOf, i1], by simp, ?_⟩
        simp only [updF, if_true]
        exact ⟨by simp [flat], .inl ⟨by simp [Loc.slice], rfl⟩⟩
      · simp [AVRep, ACRep, Loc.slice, updF]
    · -- it grows
      have hsl : ∃ sCap, ρ x = .slice (if (τ id).nil then none else some ⟨(τ id).b, 0, none⟩) old.length sCap ∧ sCap < old.length + rows.length := by
        cases hn : (τ id).nil with
        | true =>
          have e1 := (owns_nil o3 hn).1
          simp [Loc.slice, hn] at h1
          refine ⟨0, by rw [h1, e1]; simp, ?_⟩
          rcases Nat.eq_zero_or_pos rows.length with h0 | h0
          · exact absurd ⟨hn, List.length_eq_zero_iff.1 h0⟩ hz0
          · omega
        | false =>
          simp [Loc.slice, hn] at h1
          refine ⟨(τ id).cap, by simp [h1], ?_⟩
          rcases Nat.lt_or_ge (τ id).cap (old.length + rows.length) with h' | h'
          · exact h'
          · exact absurd ⟨h', hn⟩ hroom
      obtain ⟨sCap, hvx, hlt⟩ := hsl
      have hb : (old.length + rows.length) * inf.bytes ≤ 140737488355328 := by
        have := Nat.mul_le_mul (show old.length + rows.length ≤ 1073741824 from hfit) (show inf.bytes ≤ 65536 from i3)
        omega
      rw [hvx] at hfirst0
      have hrun := run_append_grow' (ty := o.type) (ht.slice hk) i1 i4 w _ old.length sCap (flat old) ad rows.length c (flat rows) (hfirst0 w.drew rfl) (hfirst w.drew rfl) hlt (by omega) (growslice_fits hlt hb)
      refine OpRun.value (v := .slice (some ⟨w.heap.size, 0, none⟩) (old.length + rows.length) (grownCap w (old.length + rows.length) sCap i.el)) (w' := _) (by
        simp only [execOp, ho, resolve, invoke, builtin, List.map_toArray, List.map_cons, List.map_nil, hvx, hv, Sem.run_bind, Sem.run_pure, Result.andThen_ok, hrun]; rfl) ⟨M, updF τ n ⟨w.heap.size, grownCap w (old.length + rows.length) sCap i.el, inf.size, false⟩, ?_, ?_⟩
      · refine Nx.reown hinv hf hne _ _ ((WSame.drew w _).trans (WSame.alloc _ _ _)) (fun b hb => .inl ?_) (grown_rep i1 hzs hsall (by simpa using grownCap_ge _ _ _ _) (grownCap_le_maxLen _ _ _ _ (by unfold maxLen; omega)) ?_)
        · simp [blkOf, updF] at hb; omega
        · have := alloc_new w.drew (.cells ((flat old).toArray ++ (flat rows).toArray ++ Builtin.zeroCells z.cells (grownCap w (old.length + rows.length) sCap i.el - (old.length + rows.length))) i.el)
          rw [flat_append]
          simpa using this
      · simp [AVRep, ACRep, Loc.slice, updF]

end ops
end Go.Cpl

namespace Go.Cpl
open Go
section call
variable {P : Program}

inductive CR (ρ : List Nat) : Fp → AC → AC → Prop
  | d (y : D) : CR ρ [] (.d y) (.d y)
  | tt : CR ρ [] .tt (.d (.bool true))
  | ff : CR ρ [] .ff (.d (.bool false))
  | ns : CR ρ [] .ns (.d (.sl []))
  | nn : CR ρ [] .ns .ns
  | rp (cells : List D) : CR ρ [] (.rp cells) (.rp cells)
  | ptr {id k row col : Nat} (h : ρ[k]? = some id) : CR ρ [] (.ptr id row col) (.ptr k row col)
  | gs {id k : Nat} (h : ρ[k]? = some id) : CR ρ [] (.gs id) (.gs k)
  | bor {id : Nat} {e : TypeId} {rows : List (List D)} (h : id ∉ ρ) : CR ρ [(id, .arr e rows)] (.gs id) (.d (.sl rows))
  | borb {id : Nat} {e : TypeId} {rows : List (List D)} (h : id ∉ ρ) : CR ρ [(id, .brr e rows)] (.gs id) (.d (.sl rows))
  | gv {id k lo n : Nat} (h : ρ[k]? = some id) : CR ρ [] (.gv id lo n) (.gv k lo n)
  | borv {id lo n : Nat} {e : TypeId} {rows : List (List D)} (h : id ∉ ρ) : CR ρ [(id, .arr e rows)] (.gv id lo n) (.d (.sl ((rows.drop lo).take n)))
  | mp {id k : Nat} (h : ρ[k]? = some id) : CR ρ [] (.mp id) (.mp k)

inductive CRs (ρ : List Nat) : Fp → List AC → List AC → Prop
  | nil : CRs ρ [] [] []
  | cons {b bs : Fp} {x y : AC} {xs ys : List AC} (h : CR ρ b x y) (hs : CRs ρ bs xs ys) : CRs ρ (b ++ bs) (x :: xs) (y :: ys)

inductive CRV (ρ : List Nat) : Fp → AV → AV → Prop
  | c {b : Fp} {x y : AC} (h : CR ρ b x y) : CRV ρ b (.c x) (.c y)
  | agg {b : Fp} {x y : List AC} (h : CRs ρ b x y) : CRV ρ b (.agg x) (.agg y)
  | fn {b : Fp} {f : Nat} {x y : List AC} (h : CRs ρ b x y) : CRV ρ b (.fn f x) (.fn f y)

inductive CRVs (ρ : List Nat) : Fp → List AV → List AV → Prop
  | nil : CRVs ρ [] [] []
  | cons {b bs : Fp} {x y : AV} {xs ys : List AV} (h : CRV ρ b x y) (hs : CRVs ρ bs xs ys) : CRVs ρ (b ++ bs) (x :: xs) (y :: ys)

inductive OR (ρ : List Nat) : HObj → HObj → Prop
  | arr (e : TypeId) (rows : List (List D)) : OR ρ (.arr e rows) (.arr e rows)
  | brr (e : TypeId) (rows : List (List D)) : OR ρ (.brr e rows) (.brr e rows)
  | mp (ka ea : Bool) (ents : List (List D × List D)) : OR ρ (.mp ka ea ents) (.mp ka ea ents)
  | box {xs ys : List AC} (h : CRs ρ [] xs ys) : OR ρ (.box xs) (.box ys)

theorem idxOf_some : ∀ {ρ : List Nat} {id k n : Nat}, idxOf ρ id n = some k → ∃ j, k = n + j ∧ ρ[j]? = some id
  | [], _, _, _, h => by simp [idxOf] at h
  | i :: r, id, k, n, h => by
    unfold idxOf at h
    split at h
    · rename_i hb
      simp at h; subst h
      exact ⟨0, by simp, by simp [Nat.eq_of_beq_eq_true hb]⟩
    · obtain ⟨j, h1, h2⟩ := idxOf_some h
      exact ⟨j + 1, by omega, by simpa using h2⟩

theorem idxOf_none : ∀ {ρ : List Nat} {id n : Nat}, idxOf ρ id n = none → id ∉ ρ
  | [], _, _, _ => by simp
  | i :: r, id, n, h => by
    unfold idxOf at h
    split at h
    · cases h
    · rename_i hb
      have hne : i ≠ id := Nat.ne_of_beq_eq_false hb
      have := idxOf_none h
      simp [this, Ne.symm hne]

theorem opt_ok {o : Option Nat} {K : Nat → Prop} {no : Prop} (h : optK o K no) : (∃ k, o = some k ∧ K k) ∨ (o = none ∧ no) := by
  unfold optK at h
  split at h
  · exact .inl ⟨_, rfl, by simpa using add_ok h⟩
  · exact .inr ⟨rfl, h⟩

theorem argC_ok {kp : Bool} {ρ : List Nat} {hp : Hp} {x : AC} {K : AC → Fp → Prop} (h : argC kp ρ hp x K) : ∃ y b, CR ρ b x y ∧ (∀ p ∈ b, hpAt hp p.1 = p.2) ∧ K y b := by
  unfold argC at h
  split at h
  · exact ⟨_, _, .d _, by simp, h⟩
  · exact ⟨_, _, .tt, by simp, h⟩
  · exact ⟨_, _, .ff, by simp, h⟩
  · cases kp with
    | true => exact ⟨_, _, .nn, by simp, h⟩
    | false => exact ⟨_, _, .ns, by simp, h⟩
  · exact ⟨_, _, .rp _, by simp, h⟩
  · rcases opt_ok h with ⟨k, h1, h2⟩ | ⟨_, h⟩
    · obtain ⟨j, h3, h4⟩ := idxOf_some h1
      simp at h3; subst h3
      exact ⟨_, _, .ptr h4, by simp, h2⟩
    · exact h.elim
  · rcases opt_ok h with ⟨k, h1, h2⟩ | ⟨h1, h⟩
    · obtain ⟨j, h3, h4⟩ := idxOf_some h1
      simp at h3; subst h3
      exact ⟨_, _, .gs h4, by simp, h2⟩
    · split at h
      · rename_i e rows he
        exact ⟨_, _, .bor (idxOf_none h1), by simp [he], h⟩
      · rename_i e rows he
        exact ⟨_, _, .borb (idxOf_none h1), by simp [he], h⟩
      · exact h.elim
  · rcases opt_ok h with ⟨k, h1, h2⟩ | ⟨h1, h⟩
    · obtain ⟨j, h3, h4⟩ := idxOf_some h1
      simp at h3; subst h3
      exact ⟨_, _, .gv h4, by simp, h2⟩
    · split at h
      · rename_i e rows he
        exact ⟨_, _, .borv (idxOf_none h1), by simp [he], h⟩
      · exact h.elim
  · rcases opt_ok h with ⟨k, h1, h2⟩ | ⟨_, h⟩
    · obtain ⟨j, h3, h4⟩ := idxOf_some h1
      simp at h3; subst h3
      exact ⟨_, _, .mp h4, by simp, h2⟩
    · exact h.elim

theorem argCs_ok {kp : Bool} {ρ : List Nat} {hp : Hp} : ∀ {xs : List AC} {K : List AC → Fp → Prop}, argCs kp ρ hp xs K → ∃ ys b, CRs ρ b xs ys ∧ (∀ p ∈ b, hpAt hp p.1 = p.2) ∧ K ys b
  | [], _, h => ⟨[], [], .nil, by simp, h⟩
  | x :: r, K, h => by
    obtain ⟨y, b, h1, h2, h3⟩ := argC_ok h
    obtain ⟨ys, bs, h4, h5, h6⟩ := argCs_ok h3
    exact ⟨y :: ys, b ++ bs, .cons h1 h4, fun p hp => (List.mem_append.1 hp).elim (h2 p) (h5 p), app_ok h6⟩

theorem argV_ok {kp : Bool} {ρ : List Nat} {hp : Hp} {x : AV} {K : AV → Fp → Prop} (h : argV kp ρ hp x K) : ∃ y b, CRV ρ b x y ∧ (∀ p ∈ b, hpAt hp p.1 = p.2) ∧ K y b := by
  unfold argV at h
  split at h
  · obtain ⟨y, b, h1, h2, h3⟩ := argC_ok h; exact ⟨_, _, .c h1, h2, h3⟩
  · obtain ⟨y, b, h1, h2, h3⟩ := argCs_ok h; exact ⟨_, _, .agg h1, h2, h3⟩
  · obtain ⟨y, b, h1, h2, h3⟩ := argCs_ok h; exact ⟨_, _, .fn h1, h2, h3⟩
  · exact h.elim

theorem argVs_ok {kp : Bool} {ρ : List Nat} {hp : Hp} : ∀ {xs : List AV} {K : List AV → Fp → Prop}, argVs kp ρ hp xs K → ∃ ys b, CRVs ρ b xs ys ∧ (∀ p ∈ b, hpAt hp p.1 = p.2) ∧ K ys b
  | [], _, h => ⟨[], [], .nil, by simp, h⟩
  | x :: r, K, h => by
    obtain ⟨y, b, h1, h2, h3⟩ := argV_ok h
    obtain ⟨ys, bs, h4, h5, h6⟩ := argVs_ok h3
    exact ⟨y :: ys, b ++ bs, .cons h1 h4, fun p hp => (List.mem_append.1 hp).elim (h2 p) (h5 p), app_ok h6⟩

theorem obj_ok {kp : Bool} {ρ : List Nat} {hp : Hp} {o : HObj} {K : HObj → Prop} (h : objK kp ρ hp o K) : ∃ o', OR ρ o o' ∧ K o' := by
  unfold objK at h
  split at h
  · exact h.elim
  · exact ⟨_, .arr _ _, h⟩
  · exact ⟨_, .mp _ _ _, h⟩
  · exact ⟨_, .brr _ _, h⟩
  · obtain ⟨ys, b, h1, _, h3⟩ := argCs_ok h
    cases b with
    | nil => exact ⟨_, .box h1, h3⟩
    | cons => exact h3.elim

/-- the objects handed over: the number k of the callee's is number ρ k of the caller's -/
theorem hin_ok {kp : Bool} {ρ : List Nat} {hp : Hp} : ∀ {l : List Nat} {K : List HObj → Fp → Prop}, hinK kp ρ hp l K → ∃ hin rd, All2 (fun id o => OR ρ (hpAt hp id) o) l hin ∧ (∀ p ∈ rd, hpAt hp p.1 = p.2) ∧ (∀ id ∈ l, (id, hpAt hp id) ∈ rd) ∧ K hin rd
  | [], _, h => ⟨[], [], trivial, by simp, by simp, h⟩
  | id :: r, K, h => by
    obtain ⟨o, h1, h2⟩ := obj_ok h
    obtain ⟨hin, rd, h3, h4, h5, h6⟩ := hin_ok h2
    refine ⟨o :: hin, _, ⟨h1, h3⟩, fun p hp => ?_, fun j hj => ?_, h6⟩
    · cases hp with
      | head => rfl
      | tail _ hp => exact h4 p hp
    · cases hj with
      | head => simp
      | tail _ hj => exact List.mem_cons_of_mem _ (h5 j hj)

theorem memN_iff : ∀ {n : Nat} {l : List Nat}, memN n l = true ↔ n ∈ l
  | n, [] => by simp [memN]
  | n, m :: r => by
    unfold memN
    split
    · rename_i hb; simp [Nat.eq_of_beq_eq_true hb]
    · rename_i hb
      have hne : m ≠ n := Nat.ne_of_beq_eq_false hb
      rw [memN_iff]; simp [Ne.symm hne]

theorem nodupB_ok : ∀ {l : List Nat}, nodupB l = true → l.Nodup
  | [], _ => List.nodup_nil
  | i :: r, h => by
    unfold nodupB at h
    split at h
    · cases h
    · rename_i hm
      refine List.nodup_cons.2 ⟨fun hmem => ?_, nodupB_ok h⟩
      rw [memN_iff.2 hmem] at hm; cases hm

/-- the place of a number in a list -/
def pos : List Nat → Nat → Option Nat
  | [], _ => none
  | i :: r, id => if i = id then some 0 else (pos r id).map (· + 1)

theorem pos_some : ∀ {l : List Nat} {id k : Nat}, pos l id = some k → l[k]? = some id
  | [], _, _, h => by simp [pos] at h
  | i :: r, id, k, h => by
    unfold pos at h
    split at h
    · rename_i he; simp at h; subst h; simp [he]
    · simp only [Option.map_eq_some_iff] at h
      obtain ⟨j, hj, rfl⟩ := h
      simpa using pos_some hj

theorem pos_of : ∀ {l : List Nat} {id k : Nat}, l.Nodup → l[k]? = some id → pos l id = some k
  | [], _, _, _, h => by simp at h
  | i :: r, id, 0, _, h => by simp at h; simp [pos, h]
  | i :: r, id, k + 1, hn, h => by
    have h' : r[k]? = some id := by simpa using h
    have hne : i ≠ id := fun he => by
      subst he
      exact (List.nodup_cons.1 hn).1 (List.mem_of_getElem? h')
    simp [pos, hne, pos_of (List.nodup_cons.1 hn).2 h']

/-- what the callee sees of the immutable memory: what is borrowed, too -/
def memWith (M : Mem) (τ : Tau) (H : HF) (w : World) (bor : Fp) : Mem := fun b => if bor.any (fun p => blkOf τ H p.1 == some b) then w.heap[b]? else M b

theorem bor_rep {M : Mem} {τ : Tau} {H : HF} {w : World} {bor : Fp} (hinv : Inv P M τ H w) {id : Nat} {e : TypeId} {rows : List (List D)} (hb : (id, .arr e rows) ∈ bor) (hH : H id = .arr e rows) {v : Value} (hv : ACRep M τ H (.gs id) v) :
    DRep (memWith M τ H w bor) (.sl rows) v := by
  simp only [ACRep, hH] at hv
  have hob := hinv.obj id
  rw [hH] at hob
  obtain ⟨o1, o2, o3⟩ := hob
  cases hn : (τ id).nil with
  | true =>
    obtain ⟨e1, _⟩ := owns_nil o3 hn
    have := List.length_eq_zero_iff.1 e1
    subst this
    simp [Loc.slice, hn] at hv
    subst hv
    exact .sl0 _ _
  | false =>
    obtain ⟨cur, a1, a2, a3, a4, a5⟩ := owns_block o3 hn
    simp [Loc.slice, hn] at hv
    subst hv
    have hM : memWith M τ H w bor (τ id).b = some (.cells cur e (0, 0)) := by
      unfold memWith
      rw [if_pos (List.any_eq_true.2 ⟨_, hb, by simp [blkOf, hH, hn]⟩)]
      exact a1
    have hg : ∀ (i j : Nat) (r : List D) (x : D), rows[i]? = some r → r[j]? = some x → cur[0 + i * (τ id).s + j]? = some x.val := fun i j r x hr hx => by
      have := flat_get (fun r hr => (o2 r hr).1) hr hx
      rw [← a5] at this
      simpa using take_get this
    refine DRep.sl rows (τ id).b 0 (τ id).cap cur e (0, 0) (τ id).s (fun i j => (cur[0 + i * (τ id).s + j]?).getD Go.undef) hM a2 (fun r hr => (o2 r hr).1) (fun i j r x hr hx => by rw [hg i j r x hr hx]; rfl) (fun i j r x hr hx => ?_)
    rw [hg i j r x hr hx]
    exact scal_rep ((o2 r (List.mem_of_getElem? hr)).2 x (List.mem_of_getElem? hx))

theorem borv_rep {M : Mem} {τ : Tau} {H : HF} {w : World} {bor : Fp} (hinv : Inv P M τ H w) {id lo n : Nat} {e : TypeId} {rows : List (List D)} (hb : (id, .arr e rows) ∈ bor) (hH : H id = .arr e rows) {v : Value} (hv : ACRep M τ H (.gv id lo n) v) :
    DRep (memWith M τ H w bor) (.sl ((rows.drop lo).take n)) v := by
  simp only [ACRep, hH] at hv
  obtain ⟨hlen, ⟨_, rfl, rfl⟩ | ⟨hn, ad, rfl, hpos⟩⟩ := hv
  · simp only [List.take_zero]; exact .sl0 _ _
  rcases Nat.eq_zero_or_pos n with h0 | h0
  · subst h0; simp only [List.take_zero]; exact .sl0 _ _
  have hob := hinv.obj id
  rw [hH] at hob
  obtain ⟨o1, o2, o3⟩ := hob
  obtain ⟨cur, a1, a2, a3, a4, a5⟩ := owns_block o3 hn
  have := hpos (.inl (by omega))
  subst this
  have hM : memWith M τ H w bor (τ id).b = some (.cells cur e (0, 0)) := by
    unfold memWith
    rw [if_pos (List.any_eq_true.2 ⟨_, hb, by simp [blkOf, hH, hn]⟩)]
    exact a1
  have hl : ((rows.drop lo).take n).length = n := by simp; omega
  have hget : ∀ (q : Nat) (r : List D), ((rows.drop lo).take n)[q]? = some r → rows[lo + q]? = some r := fun q r hq => by
    have := take_get hq
    rwa [List.getElem?_drop] at this
  have hg : ∀ (i j : Nat) (r : List D) (x : D), ((rows.drop lo).take n)[i]? = some r → r[j]? = some x → cur[lo * (τ id).s + i * (τ id).s + j]? = some x.val := fun i j r x hr hx => by
    have := flat_get (fun r hr => (o2 r hr).1) (hget i r hr) hx
    rw [← a5] at this
    rw [← Nat.add_mul]
    simpa using take_get this
  have := DRep.sl (M := memWith M τ H w bor) ((rows.drop lo).take n) (τ id).b (lo * (τ id).s) ((τ id).cap - lo) cur e (0, 0) (τ id).s (fun i j => (cur[lo * (τ id).s + i * (τ id).s + j]?).getD Go.undef) hM (by omega) (fun r hr => (o2 r (List.mem_of_mem_drop (List.mem_of_mem_take hr))).1) (fun i j r x hr hx => by rw [hg i j r x hr hx]; rfl) (fun i j r x hr hx => by
    rw [hg i j r x hr hx]
    exact scal_rep ((o2 r (List.mem_of_mem_drop (List.mem_of_mem_take (List.mem_of_getElem? hr)))).2 x (List.mem_of_getElem? hx)))
  rwa [hl] at this

theorem borb_rep {M : Mem} {τ : Tau} {H : HF} {w : World} {bor : Fp} (hinv : Inv P M τ H w) (hMw : ∀ b o, M b = some o → memWith M τ H w bor b = some o) {id : Nat} {e : TypeId} {rows : List (List D)} (hb : (id, .brr e rows) ∈ bor) (hH : H id = .brr e rows) {v : Value} (hv : ACRep M τ H (.gs id) v) :
    DRep (memWith M τ H w bor) (.sl rows) v := by
  simp only [ACRep, hH] at hv
  have hob := hinv.obj id
  rw [hH] at hob
  obtain ⟨o1, vs, o2, o3⟩ := hob
  cases hn : (τ id).nil with
  | true =>
    obtain ⟨e1, _⟩ := owns_nil o3 hn
    have := List.length_eq_zero_iff.1 e1
    subst this
    simp [Loc.slice, hn] at hv
    subst hv
    exact .sl0 _ _
  | false =>
    obtain ⟨cur, a1, a2, a3, a4, a5⟩ := owns_block o3 hn
    simp [Loc.slice, hn] at hv
    subst hv
    have hM : memWith M τ H w bor (τ id).b = some (.cells cur e (0, 0)) := by
      unfold memWith
      rw [if_pos (List.any_eq_true.2 ⟨_, hb, by simp [blkOf, hH, hn]⟩)]
      exact a1
    have hg : ∀ (i j : Nat) (r : List D) (x : D), rows[i]? = some r → r[j]? = some x → ∃ u, cur[0 + i * (τ id).s + j]? = some u ∧ DRep M x u := fun i j r x hr hx => by
      obtain ⟨u, h1, h2⟩ := o2.get hr hx
      rw [← a5] at h1
      exact ⟨u, by simpa using take_get h1, h2⟩
    refine DRep.sl rows (τ id).b 0 (τ id).cap cur e (0, 0) (τ id).s (fun i j => (cur[0 + i * (τ id).s + j]?).getD Go.undef) hM a2 o2.len (fun i j r x hr hx => by
      obtain ⟨u, h1, _⟩ := hg i j r x hr hx; rw [h1]; rfl) (fun i j r x hr hx => ?_)
    obtain ⟨u, h1, h2⟩ := hg i j r x hr hx
    rw [h1]
    exact DRep.mono hMw h2

/-- the caller's cells, seen by the callee -/
theorem CR.rep {M : Mem} {τ : Tau} {H : HF} {w : World} {ρ : List Nat} {bor b : Fp} {x y : AC} {Hc : HF} (hinv : Inv P M τ H w) (h : CR ρ b x y) (hbs : ∀ p ∈ b, p ∈ bor) (hbH : ∀ p ∈ b, H p.1 = p.2) (hM : ∀ b o, M b = some o → memWith M τ H w bor b = some o)
    (hc : ∀ k id, ρ[k]? = some id → OR ρ (H id) (Hc k)) {v : Value} (hv : ACRep M τ H x v) : ACRep (memWith M τ H w bor) (fun k => τ (ρ.getD k 0)) Hc y v := by
  cases h with
  | d y => exact DRep.mono hM hv
  | tt => have hv : v = _ := hv; subst hv; exact DRep.scal (.bool true) rfl
  | ff => have hv : v = _ := hv; subst hv; exact DRep.scal (.bool false) rfl
  | ns => have hv : v = _ := hv; subst hv; exact .sl0 _ _
  | nn => exact hv
  | rp cells =>
    obtain ⟨b, off, cs, e, fz, vs, rfl, h1, h2⟩ := hv
    exact ⟨b, off, cs, e, fz, vs, rfl, hM _ _ h1, fun j x hj => ⟨(h2 j x hj).1, DRep.mono hM (h2 j x hj).2⟩⟩
  | @ptr id k row col h =>
    have ho := hc k id h
    have hρ : ρ.getD k 0 = id := by simp [h]
    simp only [ACRep, hρ] at hv ⊢
    generalize H id = a at hv ho
    generalize Hc k = c at ho ⊢
    cases ho <;> exact hv
  | @gs id k h =>
    have ho := hc k id h
    have hρ : ρ.getD k 0 = id := by simp [h]
    simp only [ACRep, hρ] at hv ⊢
    generalize H id = a at hv ho
    generalize Hc k = c at ho ⊢
    cases ho <;> exact hv
  | @gv id k lo n h =>
    have ho := hc k id h
    have hρ : ρ.getD k 0 = id := by simp [h]
    simp only [ACRep, hρ] at hv ⊢
    generalize H id = a at hv ho
    generalize Hc k = c at ho ⊢
    cases ho <;> exact hv
  | @mp id k h =>
    have ho := hc k id h
    have hρ : ρ.getD k 0 = id := by simp [h]
    simp only [ACRep, hρ] at hv ⊢
    generalize H id = a at hv ho
    generalize Hc k = c at ho ⊢
    cases ho <;> exact hv
  | @bor id e rows h => exact bor_rep hinv (hbs (id, .arr e rows) (by simp)) (hbH (id, .arr e rows) (by simp)) hv
  | @borb id e rows h => exact borb_rep hinv hM (hbs (id, .brr e rows) (by simp)) (hbH (id, .brr e rows) (by simp)) hv
  | @borv id lo n e rows h => exact borv_rep hinv (hbs (id, .arr e rows) (by simp)) (hbH (id, .arr e rows) (by simp)) hv

end call
end Go.Cpl

namespace Go.Cpl
open Go
section call
variable {P : Program}

theorem CRs.rep {M : Mem} {τ : Tau} {H : HF} {w : World} {ρ : List Nat} {bor : Fp} {Hc : HF} (hinv : Inv P M τ H w) (hM : ∀ b o, M b = some o → memWith M τ H w bor b = some o) (hc : ∀ k id, ρ[k]? = some id → OR ρ (H id) (Hc k))
    {b : Fp} {xs ys : List AC} (h : CRs ρ b xs ys) (hbs : ∀ p ∈ b, p ∈ bor) (hbH : ∀ p ∈ b, H p.1 = p.2) {us : List Value} (hu : All2 (ACRep M τ H) xs us) : All2 (ACRep (memWith M τ H w bor) (fun k => τ (ρ.getD k 0)) Hc) ys us := by
  induction h generalizing us with
  | nil => cases us <;> first | trivial | exact hu.elim
  | cons h hs ih =>
    cases us with
    | nil => exact hu.elim
    | cons u us => exact ⟨h.rep hinv (fun p hp => hbs p (by simp [hp])) (fun p hp => hbH p (by simp [hp])) hM hc hu.1, ih (fun p hp => hbs p (by simp [hp])) (fun p hp => hbH p (by simp [hp])) hu.2⟩

theorem CRVs.rep {M : Mem} {τ : Tau} {H : HF} {w : World} {ρ : List Nat} {bor : Fp} {Hc : HF} (hinv : Inv P M τ H w) (hM : ∀ b o, M b = some o → memWith M τ H w bor b = some o) (hc : ∀ k id, ρ[k]? = some id → OR ρ (H id) (Hc k))
    {b : Fp} {xs ys : List AV} (h : CRVs ρ b xs ys) (hbs : ∀ p ∈ b, p ∈ bor) (hbH : ∀ p ∈ b, H p.1 = p.2) {us : List Value} (hu : All2 (AVRep M τ H) xs us) : All2 (AVRep (memWith M τ H w bor) (fun k => τ (ρ.getD k 0)) Hc) ys us := by
  induction h generalizing us with
  | nil => cases us <;> first | trivial | exact hu.elim
  | cons h hs ih =>
    cases us with
    | nil => exact hu.elim
    | cons u us =>
      refine ⟨?_, ih (fun p hp => hbs p (by simp [hp])) (fun p hp => hbH p (by simp [hp])) hu.2⟩
      have h1 := hu.1
      cases h with
      | c h => exact h.rep hinv (fun p hp => hbs p (by simp [hp])) (fun p hp => hbH p (by simp [hp])) hM hc h1
      | agg h => obtain ⟨zs, rfl, h2⟩ := h1; exact ⟨zs, rfl, h.rep hinv hM hc (fun p hp => hbs p (by simp [hp])) (fun p hp => hbH p (by simp [hp])) h2⟩
      | fn h => obtain ⟨zs, rfl, h2⟩ := h1; exact ⟨zs, rfl, h.rep hinv hM hc (fun p hp => hbs p (by simp [hp])) (fun p hp => hbH p (by simp [hp])) h2⟩

/-- callee's cells back in the caller's names -/
inductive RR (ρ : List Nat) : AC → AC → Prop
  | ptr {k id row col : Nat} (h : ρ[k]? = some id) : RR ρ (.ptr k row col) (.ptr id row col)
  | gs {k id : Nat} (h : ρ[k]? = some id) : RR ρ (.gs k) (.gs id)
  | gv {k id lo n : Nat} (h : ρ[k]? = some id) : RR ρ (.gv k lo n) (.gv id lo n)
  | mp {k id : Nat} (h : ρ[k]? = some id) : RR ρ (.mp k) (.mp id)
  | d (x : D) : RR ρ (.d x) (.d x)
  | tt : RR ρ .tt .tt
  | ff : RR ρ .ff .ff
  | ns : RR ρ .ns .ns
  | rp (cells : List D) : RR ρ (.rp cells) (.rp cells)

theorem renC_ok {ρ : List Nat} {x : AC} {K : AC → Prop} (h : renC ρ x K) : ∃ y, RR ρ x y ∧ K y := by
  unfold renC at h
  split at h
  · obtain ⟨id, h1, h2⟩ := nth_ok h; exact ⟨_, .ptr h1, h2⟩
  · obtain ⟨id, h1, h2⟩ := nth_ok h; exact ⟨_, .gs h1, h2⟩
  · obtain ⟨id, h1, h2⟩ := nth_ok h; exact ⟨_, .gv h1, h2⟩
  · obtain ⟨id, h1, h2⟩ := nth_ok h; exact ⟨_, .mp h1, h2⟩
  · rename_i h1 h2 h3 h4
    refine ⟨_, ?_, h⟩
    cases x with
    | d => exact .d _
    | tt => exact .tt
    | ff => exact .ff
    | ns => exact .ns
    | rp => exact .rp _
    | ptr => exact absurd rfl (h1 _ _ _)
    | gs => exact absurd rfl (h2 _)
    | gv => exact absurd rfl (h3 _ _ _)
    | mp => exact absurd rfl (h4 _)

theorem renCs_ok {ρ : List Nat} : ∀ {xs : List AC} {K : List AC → Prop}, renCs ρ xs K → ∃ ys, All2 (RR ρ) xs ys ∧ K ys
  | [], _, h => ⟨[], trivial, h⟩
  | x :: r, K, h => by
    obtain ⟨y, h1, h2⟩ := renC_ok h
    obtain ⟨ys, h3, h4⟩ := renCs_ok h2
    exact ⟨y :: ys, ⟨h1, h3⟩, h4⟩

inductive RT (ρ : List Nat) : AC ⊕ List AC → AC ⊕ List AC → Prop
  | inl {x y : AC} (h : RR ρ x y) : RT ρ (.inl x) (.inl y)
  | inr {x y : List AC} (h : All2 (RR ρ) x y) : RT ρ (.inr x) (.inr y)

theorem renT_ok {ρ : List Nat} : ∀ {xs : List (AC ⊕ List AC)} {K : List (AC ⊕ List AC) → Prop}, renT ρ xs K → ∃ ys, All2 (RT ρ) xs ys ∧ K ys
  | [], _, h => ⟨[], trivial, h⟩
  | .inl x :: r, K, h => by
    obtain ⟨y, h1, h2⟩ := renC_ok h
    obtain ⟨ys, h3, h4⟩ := renT_ok h2
    exact ⟨_ :: ys, ⟨.inl h1, h3⟩, h4⟩
  | .inr x :: r, K, h => by
    obtain ⟨y, h1, h2⟩ := renCs_ok h
    obtain ⟨ys, h3, h4⟩ := renT_ok h2
    exact ⟨_ :: ys, ⟨.inr h1, h3⟩, h4⟩

inductive RV (ρ : List Nat) : AV → AV → Prop
  | c {x y : AC} (h : RR ρ x y) : RV ρ (.c x) (.c y)
  | agg {x y : List AC} (h : All2 (RR ρ) x y) : RV ρ (.agg x) (.agg y)
  | tup {x y : List (AC ⊕ List AC)} (h : All2 (RT ρ) x y) : RV ρ (.tup x) (.tup y)
  | fn {f : Nat} {x y : List AC} (h : All2 (RR ρ) x y) : RV ρ (.fn f x) (.fn f y)
  | undef : RV ρ .undef .undef
  | top : RV ρ .top .top

theorem renV_ok {ρ : List Nat} {x : AV} {K : AV → Prop} (h : renV ρ x K) : ∃ y, RV ρ x y ∧ K y := by
  cases x <;> simp only [renV] at h
  · obtain ⟨y, h1, h2⟩ := renC_ok h; exact ⟨_, .c h1, h2⟩
  · obtain ⟨y, h1, h2⟩ := renCs_ok h; exact ⟨_, .agg h1, h2⟩
  · obtain ⟨y, h1, h2⟩ := renT_ok h; exact ⟨_, .tup h1, h2⟩
  · obtain ⟨y, h1, h2⟩ := renCs_ok h; exact ⟨_, .fn h1, h2⟩
  · exact ⟨_, .undef, h⟩
  · exact ⟨_, .top, h⟩

inductive RO (ρ : List Nat) : HObj → HObj → Prop
  | gone : RO ρ .gone .gone
  | arr (e : TypeId) (rows : List (List D)) : RO ρ (.arr e rows) (.arr e rows)
  | brr (e : TypeId) (rows : List (List D)) : RO ρ (.brr e rows) (.brr e rows)
  | mp (ka ea : Bool) (ents : List (List D × List D)) : RO ρ (.mp ka ea ents) (.mp ka ea ents)
  | box {x y : List AC} (h : All2 (RR ρ) x y) : RO ρ (.box x) (.box y)

theorem renHs_ok {ρ : List Nat} : ∀ {l : List Nat} {os : List HObj} {K : Fp → Prop}, renHs ρ l os K → ∃ us, l.length = os.length ∧ (∀ (k id : Nat) (o : HObj), l[k]? = some id → os[k]? = some o → ∃ o', RO ρ o o' ∧ us[k]? = some (id, o')) ∧ us.length = l.length ∧ K us
  | [], [], _, h => ⟨[], rfl, by simp, rfl, h⟩
  | id :: l, o :: os, K, h => by
    unfold renHs renO at h
    have : ∃ o', RO ρ o o' ∧ renHs ρ l os fun us => K ((id, o') :: us) := by
      cases o with
      | gone => exact ⟨_, .gone, h⟩
      | arr e rows => exact ⟨_, .arr _ _, h⟩
      | brr e rows => exact ⟨_, .brr _ _, h⟩
      | mp ka ea ents => exact ⟨_, .mp _ _ _, h⟩
      | box cells => obtain ⟨ys, h1, h2⟩ := renCs_ok h; exact ⟨_, .box h1, h2⟩
    obtain ⟨o', h1, h2⟩ := this
    obtain ⟨us, h3, h4, h5, h6⟩ := renHs_ok h2
    refine ⟨(id, o') :: us, by simp [h3], fun k id' o'' hk ho => ?_, by simp [h5], h6⟩
    cases k with
    | zero => simp at hk ho; subst hk ho; exact ⟨o', h1, by simp⟩
    | succ k => obtain ⟨q, h7, h8⟩ := h4 k id' o'' (by simpa using hk) (by simpa using ho); exact ⟨q, h7, by simpa using h8⟩
  | [], _ :: _, _, h => by simp [renHs] at h
  | _ :: _, [], _, h => by simp [renHs] at h

theorem new_ok : ∀ {nx : Nat} {l : List HObj} {K : List Nat → Nat → Prop}, newK nx l K → ∃ nw, nw.length = l.length ∧ (∀ id ∈ nw, nx ≤ id ∧ id < nx + l.length) ∧ K nw (nx + l.length)
  | nx, [], K, h => ⟨[], rfl, by simp, by simpa [newK] using h⟩
  | nx, _ :: r, K, h => by
    unfold newK at h
    obtain ⟨nw, h1, h2, h3⟩ := new_ok (succ_ok h)
    refine ⟨nx :: nw, by simp [h1], fun id hid => ?_, by simpa [Nat.add_assoc, Nat.add_comm 1] using h3⟩
    cases hid with
    | head => simp
    | tail _ hid => have := h2 id hid; simp; omega

theorem updH_pos {H : HF} {us : Fp} {l : List Nat} (hl : us.length = l.length) (hu : ∀ (k id : Nat), l[k]? = some id → ∃ o, us[k]? = some (id, o)) (id : Nat) :
    updH H us id = match pos l id with
      | some k => ((us[k]?).map (·.2)).getD .gone
      | none => H id := by
  induction us generalizing l with
  | nil => cases l with
    | nil => simp [updH, pos]
    | cons => simp at hl
  | cons p us ih =>
    cases l with
    | nil => simp at hl
    | cons i l =>
      obtain ⟨o, ho⟩ := hu 0 i (by simp)
      simp at ho
      subst ho
      have ih' := ih (l := l) (by simpa using hl) (fun k id hk => by
        obtain ⟨o, ho⟩ := hu (k + 1) id (by simpa using hk); exact ⟨o, by simpa using ho⟩)
      simp only [updH, pos]
      split
      · simp
      · rw [ih']
        cases pos l id <;> simp

/-- a callee's cell, in the caller's world -/
theorem RR.rep {M1 M' : Mem} {τ1 τ' : Tau} {H1 H' : HF} {ρ : List Nat} {x y : AC} (h : RR ρ x y) (hk : ∀ k id, ρ[k]? = some id → τ' id = τ1 k ∧ RO ρ (H1 k) (H' id)) (hM : (∀ b o, M1 b = some o → M' b = some o) ∨ slFreeC x = true) {v : Value}
    (hv : ACRep M1 τ1 H1 x v) : ACRep M' τ' H' y v := by
  cases h with
  | @ptr k id row col h =>
    obtain ⟨h1, h2⟩ := hk k id h
    simp only [ACRep, h1] at hv ⊢
    generalize H1 k = a at hv h2
    generalize H' id = c at h2 ⊢
    cases h2 <;> exact hv
  | @gs k id h =>
    obtain ⟨h1, h2⟩ := hk k id h
    simp only [ACRep, h1] at hv ⊢
    generalize H1 k = a at hv h2
    generalize H' id = c at h2 ⊢
    cases h2 <;> exact hv
  | @gv k id lo n h =>
    obtain ⟨h1, h2⟩ := hk k id h
    simp only [ACRep, h1] at hv ⊢
    generalize H1 k = a at hv h2
    generalize H' id = c at h2 ⊢
    cases h2 <;> exact hv
  | @mp k id h =>
    obtain ⟨h1, h2⟩ := hk k id h
    simp only [ACRep, h1] at hv ⊢
    generalize H1 k = a at hv h2
    generalize H' id = c at h2 ⊢
    cases h2 <;> exact hv
  | d x =>
    rcases hM with hM | hs
    · exact DRep.mono hM hv
    · have hsc : x.scalar = true := by cases x <;> first | rfl | simp [slFreeC] at hs
      have := drep_scal hv hsc
      subst this
      exact DRep.scal x hsc
  | tt => exact hv
  | ff => exact hv
  | ns => exact hv
  | rp cells =>
    rcases hM with hM | hs
    · obtain ⟨b, off, cs, e, fz, vs, rfl, h1, h2⟩ := hv
      exact ⟨b, off, cs, e, fz, vs, rfl, hM _ _ h1, fun j x hj => ⟨(h2 j x hj).1, DRep.mono hM (h2 j x hj).2⟩⟩
    · simp [slFreeC] at hs

theorem slFreeCs_mem : ∀ {xs : List AC}, slFreeCs xs = true → ∀ x ∈ xs, slFreeC x = true
  | [], _, _, h => by cases h
  | y :: r, hs, x, h => by
    unfold slFreeCs at hs
    split at hs
    · rename_i hy
      cases h with
      | head => exact hy
      | tail _ h => exact slFreeCs_mem hs x h
    · cases hs

theorem RRs.rep {M1 M' : Mem} {τ1 τ' : Tau} {H1 H' : HF} {ρ : List Nat} (hk : ∀ k id, ρ[k]? = some id → τ' id = τ1 k ∧ RO ρ (H1 k) (H' id)) : ∀ {xs ys : List AC} {us : List Value}, All2 (RR ρ) xs ys → ((∀ b o, M1 b = some o → M' b = some o) ∨ slFreeCs xs = true) →
    All2 (ACRep M1 τ1 H1) xs us → All2 (ACRep M' τ' H') ys us
  | [], [], [], _, _, _ => trivial
  | x :: xs, y :: ys, u :: us, ⟨h1, h2⟩, hM, ⟨h3, h4⟩ => by
    refine ⟨h1.rep hk (hM.imp id fun h => slFreeCs_mem h x (by simp)) h3, RRs.rep hk h2 (hM.imp id fun h => ?_) h4⟩
    unfold slFreeCs at h
    split at h
    · exact h
    · cases h
  | [], _ :: _, _, h, _, _ => h.elim
  | _ :: _, [], _, h, _, _ => h.elim
  | [], [], _ :: _, _, _, h => h.elim
  | _ :: _, _ :: _, [], _, _, h => h.elim

theorem RTs.rep {M1 M' : Mem} {τ1 τ' : Tau} {H1 H' : HF} {ρ : List Nat} (hk : ∀ k id, ρ[k]? = some id → τ' id = τ1 k ∧ RO ρ (H1 k) (H' id)) : ∀ {xs ys : List (AC ⊕ List AC)} {us : List Value}, All2 (RT ρ) xs ys → ((∀ b o, M1 b = some o → M' b = some o) ∨ slFreeT xs = true) →
    All2 (TupRep M1 τ1 H1) xs us → All2 (TupRep M' τ' H') ys us
  | [], [], [], _, _, _ => trivial
  | .inl x :: xs, y :: ys, u :: us, ⟨h1, h2⟩, hM, ⟨h3, h4⟩ => by
    cases h1 with
    | inl h1 =>
      have hs : (∀ b o, M1 b = some o → M' b = some o) ∨ slFreeC x = true ∧ slFreeT xs = true := hM.imp id fun h => by
        unfold slFreeT at h
        split at h
        · exact ⟨by assumption, h⟩
        · cases h
      exact ⟨h1.rep hk (hs.imp id (·.1)) h3, RTs.rep hk h2 (hs.imp id (·.2)) h4⟩
  | .inr x :: xs, y :: ys, u :: us, ⟨h1, h2⟩, hM, ⟨h3, h4⟩ => by
    cases h1 with
    | inr h1 =>
      have hs : (∀ b o, M1 b = some o → M' b = some o) ∨ slFreeCs x = true ∧ slFreeT xs = true := hM.imp id fun h => by
        unfold slFreeT at h
        split at h
        · exact ⟨by assumption, h⟩
        · cases h
      obtain ⟨zs, rfl, h5⟩ := h3
      exact ⟨⟨zs, rfl, RRs.rep hk h1 (hs.imp id (·.1)) h5⟩, RTs.rep hk h2 (hs.imp id (·.2)) h4⟩
  | [], _ :: _, _, h, _, _ => h.elim
  | _ :: _, [], _, h, _, _ => by cases h
  | [], [], _ :: _, _, _, h => h.elim
  | _ :: _, _ :: _, [], _, _, h => by cases h

theorem RV.rep {M1 M' : Mem} {τ1 τ' : Tau} {H1 H' : HF} {ρ : List Nat} {x y : AV} (h : RV ρ x y) (hk : ∀ k id, ρ[k]? = some id → τ' id = τ1 k ∧ RO ρ (H1 k) (H' id)) (hM : (∀ b o, M1 b = some o → M' b = some o) ∨ slFreeV x = true) {v : Value}
    (hv : AVRep M1 τ1 H1 x v) : AVRep M' τ' H' y v := by
  cases h with
  | c h => exact h.rep hk hM hv
  | agg h => obtain ⟨us, rfl, hu⟩ := hv; exact ⟨us, rfl, RRs.rep hk h hM hu⟩
  | tup h => obtain ⟨us, rfl, hu⟩ := hv; exact ⟨us, rfl, RTs.rep hk h hM hu⟩
  | fn h => obtain ⟨us, rfl, hu⟩ := hv; exact ⟨us, rfl, RRs.rep hk h hM hu⟩
  | undef => exact hv
  | top => trivial

theorem slFreeH_mem : ∀ {l : List HObj}, slFreeH l = true → ∀ cells, .box cells ∈ l → slFreeCs cells = true
  | [], _, _, h => by cases h
  | .box c :: r, hs, cells, h => by
    unfold slFreeH at hs
    split at hs
    · rename_i hc
      cases h with
      | head => exact hc
      | tail _ h => exact slFreeH_mem hs cells h
    · cases hs
  | .gone :: r, hs, cells, h => by
    cases h with
    | tail _ h => exact slFreeH_mem (l := r) (by simpa [slFreeH] using hs) cells h
  | .arr _ _ :: r, hs, cells, h => by
    cases h with
    | tail _ h => exact slFreeH_mem (l := r) (by simpa [slFreeH] using hs) cells h
  | .mp _ _ _ :: r, hs, cells, h => by
    cases h with
    | tail _ h => exact slFreeH_mem (l := r) (by simpa [slFreeH] using hs) cells h
  | .brr _ _ :: r, hs, cells, h => by simp [slFreeH] at hs

theorem slFreeH_brr : ∀ {l : List HObj}, slFreeH l = true → ∀ e rows, .brr e rows ∉ l
  | [], _, _, _ => by simp
  | .box c :: r, hs, e, rows => by
    unfold slFreeH at hs
    split at hs
    · simp [slFreeH_brr hs e rows]
    · cases hs
  | .gone :: r, hs, e, rows => by simp [slFreeH_brr (l := r) (by simpa [slFreeH] using hs) e rows]
  | .arr _ _ :: r, hs, e, rows => by simp [slFreeH_brr (l := r) (by simpa [slFreeH] using hs) e rows]
  | .mp _ _ _ :: r, hs, e, rows => by simp [slFreeH_brr (l := r) (by simpa [slFreeH] using hs) e rows]
  | .brr _ _ :: r, hs, e, rows => by simp [slFreeH] at hs

end call
end Go.Cpl

namespace Go.Cpl
open Go
section call
variable {P : Program} {o : Oper}

/-- the callee's view of the caller's state -/
theorem call_view {M : Mem} {τ : Tau} {H : HF} {w : World} (hinv : Inv P M τ H w) {ρ nw : List Nat} {hin : List HObj} {bor : Fp} {args : List AV} {vs : List AV} {zs : List Value}
    (hlen : ρ.length = hin.length) (hor : ∀ k id, ρ[k]? = some id → OR ρ (H id) (hpOf hin k))
    (hargs : CRVs ρ bor vs args) (hbH : ∀ p ∈ bor, H p.1 = p.2) (hbρ : ∀ p ∈ bor, p.1 ∉ ρ) (hnd : (ρ ++ nw).Nodup) (hzs : All2 (AVRep M τ H) vs zs) :
    Inv P (memWith M τ H w bor) (fun k => τ (ρ.getD k 0)) (hpOf hin) w ∧ All2 (AVRep (memWith M τ H w bor) (fun k => τ (ρ.getD k 0)) (hpOf hin)) args zs := by
  have hMw : ∀ b o, M b = some o → memWith M τ H w bor b = some o := fun b o hb => by
    unfold memWith
    split
    · exact hinv.mem b o hb
    · exact hb
  -- the callee's view
  let τc : Tau := fun k => τ (ρ.getD k 0)
  have hτc : ∀ k id, ρ[k]? = some id → τc k = τ id := fun k id h => by simp [τc, h]
  have hpc : ∀ k, hin.length ≤ k → hpOf hin k = .gone := fun k hk => by simp [hpOf, List.getElem?_eq_none hk]
  have hρk : ∀ k, k < hin.length → ∃ id, ρ[k]? = some id := fun k hk => ⟨ρ[k], by simp [hlen, hk]⟩
  have hblk : ∀ k b, blkOf τc (hpOf hin) k = some b → ∃ id, ρ[k]? = some id ∧ blkOf τ H id = some b := fun k b hb => by
    rcases Nat.lt_or_ge k hin.length with hk | hk
    · obtain ⟨id, hid⟩ := hρk k hk
      refine ⟨id, hid, ?_⟩
      have ho := hor k id hid
      unfold blkOf at hb ⊢
      rw [hτc k id hid] at hb
      generalize H id = a at ho ⊢
      generalize hpOf hin k = c at ho hb
      cases ho <;> exact hb
    · simp [blkOf, hpc k hk] at hb
  have hblk' : ∀ k id b, ρ[k]? = some id → blkOf τ H id = some b → blkOf τc (hpOf hin) k = some b := fun k id b hid hb => by
    have ho := hor k id hid
    unfold blkOf at hb ⊢
    rw [hτc k id hid]
    generalize H id = a at ho hb
    generalize hpOf hin k = c at ho ⊢
    cases ho <;> exact hb
  have hborb : ∀ b, memWith M τ H w bor b ≠ M b → ∃ p ∈ bor, blkOf τ H p.1 = some b := fun b hb => by
    unfold memWith at hb
    split at hb
    · rename_i ha
      obtain ⟨p, hp, he⟩ := List.any_eq_true.1 ha
      exact ⟨p, hp, by simpa using he⟩
    · exact absurd rfl hb
  have hinvc : Inv P (memWith M τ H w bor) τc (hpOf hin) w := by
    refine ⟨fun b o hb => ?_, fun k => ?_, fun k b hb => ?_, fun i j b hi hj => ?_⟩
    · unfold memWith at hb
      split at hb
      · exact hb
      · exact hinv.mem b o hb
    · rcases Nat.lt_or_ge k hin.length with hk | hk
      · obtain ⟨id, hid⟩ := hρk k hk
        have ho := hor k id hid
        have hob := hinv.obj id
        have e1 := hτc k id hid
        generalize hHc : hpOf hin k = c at ho ⊢
        generalize hHi : H id = a at ho hob
        cases ho with
        | arr e rows =>
          obtain ⟨o1, o2, o3⟩ := hob
          exact ⟨by rw [e1]; exact o1, by rw [e1]; exact o2, by rw [e1]; exact o3⟩
        | brr e rows =>
          obtain ⟨o1, vs, o2, o3⟩ := hob
          exact ⟨by rw [e1]; exact o1, vs, by rw [e1]; exact o2.mono hMw, by rw [e1]; exact o3⟩
        | mp ka ea ents =>
          obtain ⟨es, clock, o1, o2⟩ := hob
          exact ⟨es, clock, by rw [e1]; exact o1, o2⟩
        | box hb =>
          obtain ⟨us, e, o1, o2⟩ := hob
          exact ⟨us, e, by rw [e1]; exact o1, hb.rep hinv hMw hor (by simp) (by simp) o2⟩
      · rw [hpc k hk]; trivial
    · obtain ⟨id, hid, hb'⟩ := hblk k b hb
      have hMb := hinv.dis id b hb'
      cases hm : memWith M τ H w bor b with
      | none => rfl
      | some o' =>
        obtain ⟨p, hp, hpb⟩ := hborb b (by rw [hm, hMb]; simp)
        have := hinv.inj _ _ b hpb hb'
        exact absurd (this ▸ List.mem_of_getElem? hid) (hbρ p hp)
    · obtain ⟨a, ha, hab⟩ := hblk i b hi
      obtain ⟨c, hc, hcb⟩ := hblk j b hj
      have := hinv.inj a c b hab hcb
      subst this
      have hnρ : ρ.Nodup := (List.nodup_append.1 hnd).1
      have p1 := pos_of hnρ ha
      have p2 := pos_of hnρ hc
      rw [p1] at p2
      simpa using p2
  exact ⟨hinvc, hargs.rep hinv hMw hor (fun p hp => hp) hbH hzs⟩

open Classical in
/-- what the callee leaves, in the caller's view -/
theorem post_nx {M : Mem} {τ : Tau} {H : HF} {w : World} (hinv : Inv P M τ H w) {ρ nw : List Nat} {hin hout : List HObj} {bor us : Fp} {res res' : AV} {e : Ending} {w1 : World}
    (hpost : PostH P (memWith M τ H w bor) (fun k => τ (ρ.getD k 0)) hin w res hout e w1)
    (hlen : ρ.length = hin.length) (hor : ∀ k id, ρ[k]? = some id → OR ρ (H id) (hpOf hin k))
    (hnd : (ρ ++ nw).Nodup) (hfresh : ∀ id ∈ nw, FreshH H id)
    (hus : us.length = (ρ ++ nw).length) (hlo : (ρ ++ nw).length = hout.length)
    (hro : ∀ (k id : Nat) (o : HObj), (ρ ++ nw)[k]? = some id → hout[k]? = some o → ∃ o', RO (ρ ++ nw) o o' ∧ us[k]? = some (id, o'))
    (hres : RV (ρ ++ nw) res res') (hsl : bor = [] ∨ (slFreeV res = true ∧ slFreeH hout = true)) :
    ∃ v, e = .returned v ∧ ∃ M' τ', Nx P M τ H w (updH H us) M' τ' w1 nw ∧ AVRep M' τ' (updH H us) res' v := by
  have hMw : ∀ b o, M b = some o → memWith M τ H w bor b = some o := fun b o hb => by
    unfold memWith
    split
    · exact hinv.mem b o hb
    · exact hb
  -- the callee's view
  let τc : Tau := fun k => τ (ρ.getD k 0)
  have hτc : ∀ k id, ρ[k]? = some id → τc k = τ id := fun k id h => by simp [τc, h]
  have hpc : ∀ k, hin.length ≤ k → hpOf hin k = .gone := fun k hk => by simp [hpOf, List.getElem?_eq_none hk]
  have hρk : ∀ k, k < hin.length → ∃ id, ρ[k]? = some id := fun k hk => ⟨ρ[k], by simp [hlen, hk]⟩
  have hblk : ∀ k b, blkOf τc (hpOf hin) k = some b → ∃ id, ρ[k]? = some id ∧ blkOf τ H id = some b := fun k b hb => by
    rcases Nat.lt_or_ge k hin.length with hk | hk
    · obtain ⟨id, hid⟩ := hρk k hk
      refine ⟨id, hid, ?_⟩
      have ho := hor k id hid
      unfold blkOf at hb ⊢
      rw [hτc k id hid] at hb
      generalize H id = a at ho ⊢
      generalize hpOf hin k = c at ho hb
      cases ho <;> exact hb
    · simp [blkOf, hpc k hk] at hb
  have hblk' : ∀ k id b, ρ[k]? = some id → blkOf τ H id = some b → blkOf τc (hpOf hin) k = some b := fun k id b hid hb => by
    have ho := hor k id hid
    unfold blkOf at hb ⊢
    rw [hτc k id hid]
    generalize H id = a at ho hb
    generalize hpOf hin k = c at ho ⊢
    cases ho <;> exact hb
  have hborb : ∀ b, memWith M τ H w bor b ≠ M b → ∃ p ∈ bor, blkOf τ H p.1 = some b := fun b hb => by
    unfold memWith at hb
    split at hb
    · rename_i ha
      obtain ⟨p, hp, he⟩ := List.any_eq_true.1 ha
      exact ⟨p, hp, by simpa using he⟩
    · exact absurd rfl hb
  obtain ⟨v, M1, τ1, rfl, i1, i2, i3, i4, i5, i6, i7, i8, i9, i10⟩ := hpost
  refine ⟨v, rfl, ?_⟩
  -- the caller's view behind it
  let M' : Mem := fun b => if b < w.heap.size ∧ ∀ id, id ∈ ρ → blkOf τ H id ≠ some b then M b else M1 b
  have hMy : ∀ b, (b < w.heap.size ∧ ∀ id, id ∈ ρ → blkOf τ H id ≠ some b) → M' b = M b := fun b h => by simp only [M', if_pos h]
  have hMn : ∀ b, ¬ (b < w.heap.size ∧ ∀ id, id ∈ ρ → blkOf τ H id ≠ some b) → M' b = M1 b := fun b h => by simp only [M', if_neg h]
  let τ' : Tau := fun id => match pos (ρ ++ nw) id with
    | some k => τ1 k
    | none => τ id
  have hupd := updH_pos (H := H) (l := ρ ++ nw) hus (fun k id hk => by
    have hlt : k < hout.length := by rw [← hlo]; exact (List.getElem?_eq_some_iff.1 hk).1
    obtain ⟨o', _, h2⟩ := hro k id hout[k] hk (by simp [hlt])
    exact ⟨o', h2⟩)
  have hin' : ∀ k id, (ρ ++ nw)[k]? = some id → τ' id = τ1 k ∧ RO (ρ ++ nw) (hpOf hout k) (updH H us id) := fun k id hk => by
    have hp := pos_of hnd hk
    have hlt : k < hout.length := by rw [← hlo]; exact (List.getElem?_eq_some_iff.1 hk).1
    obtain ⟨o', h1, h2⟩ := hro k id hout[k] hk (by simp [hlt])
    refine ⟨by simp [τ', hp], ?_⟩
    rw [hupd id, hp]
    simp only [h2, Option.map_some, Option.getD_some]
    simpa [hpOf, hlt] using h1
  have hout' : ∀ id, id ∉ ρ ++ nw → τ' id = τ id ∧ updH H us id = H id := fun id hid => by
    have hp : pos (ρ ++ nw) id = none := by
      cases hp : pos (ρ ++ nw) id with
      | none => rfl
      | some k => exact absurd (List.mem_of_getElem? (pos_some hp)) hid
    exact ⟨by simp [τ', hp], by rw [hupd id, hp]⟩
  have hmm : ∀ b o, M b = some o → M' b = some o := fun b o hb => by
    rw [hMy b ⟨mem_lt hinv hb, fun id _ he => by rw [hinv.dis id b he] at hb; cases hb⟩]; exact hb
  have hM1 : (∀ b o, M1 b = some o → M' b = some o) ∨ bor ≠ [] := by
    by_cases hb : bor = []
    · refine .inl fun b o h => ?_
      by_cases hc : b < w.heap.size ∧ ∀ id, id ∈ ρ → blkOf τ H id ≠ some b
      · rw [hMy b hc]
        rcases i3 b o h with h' | h' | ⟨j, h'⟩
        · simp only [memWith, hb, List.any_nil, Bool.false_eq_true, if_false] at h'
          exact h'
        · omega
        · obtain ⟨id, h1, h2⟩ := hblk j b h'
          exact absurd h2 (hc.2 id (List.mem_of_getElem? h1))
      · rw [hMn b hc]; exact h
    · exact .inr hb
  have hcellM : ∀ xs : List AC, (.box xs ∈ hout) → (∀ b o, M1 b = some o → M' b = some o) ∨ slFreeCs xs = true := fun xs hx => by
    rcases hsl with hs | ⟨_, hs⟩
    · exact hM1.imp id fun h => absurd hs h
    · exact .inr (slFreeH_mem hs xs hx)
  have hblk1 : ∀ k id b, (ρ ++ nw)[k]? = some id → (blkOf τ' (updH H us) id = some b ↔ blkOf τ1 (hpOf hout) k = some b) := fun k id b hk => by
    obtain ⟨h1, h2⟩ := hin' k id hk
    unfold blkOf
    rw [h1]
    generalize updH H us id = a at h2 ⊢
    generalize hpOf hout k = c at h2 ⊢
    cases h2 <;> exact Iff.rfl
  have hownc : ∀ k b, blkOf τ1 (hpOf hout) k = some b → w.heap.size ≤ b ∨ ∃ id, id ∈ ρ ∧ blkOf τ H id = some b := fun k b hb => by
    rcases i5 k b hb with h | ⟨j, h⟩
    · exact .inl h
    · obtain ⟨id, h1, h2⟩ := hblk j b h
      exact .inr ⟨id, List.mem_of_getElem? h1, h2⟩
  have hwsame : ∀ b, b < w.heap.size → (∀ id, id ∈ ρ → blkOf τ H id ≠ some b) → w1.heap[b]? = w.heap[b]? := fun b hb hn => i6 b hb fun k hk => by
    obtain ⟨id, h1, h2⟩ := hblk k b hk
    exact hn id (List.mem_of_getElem? h1) h2
  have hkeep : ∀ id, id ∉ nw → KeepId M τ H M' τ' (updH H us) id := fun id hid => by
    by_cases hr : id ∈ ρ
    · obtain ⟨k, hk⟩ := List.getElem?_of_mem hr
      have hk' : (ρ ++ nw)[k]? = some id := by
        rw [List.getElem?_append_left (List.getElem?_eq_some_iff.1 hk).1]; exact hk
      have hkl : k < hin.length := by rw [← hlen]; exact (List.getElem?_eq_some_iff.1 hk).1
      have k1 := i4 k hkl
      intro x v hx hv
      have hxe : ∃ y, CR ρ [] x y ∧ RR (ρ ++ nw) y x ∧ y.ids = [k] ∧ slFreeC y = true := by
        cases x <;> simp only [AC.ids, List.cons.injEq, and_true, reduceCtorEq] at hx
        all_goals subst hx
        · exact ⟨_, .ptr hk, .ptr hk', rfl, rfl⟩
        · exact ⟨_, .gs hk, .gs hk', rfl, rfl⟩
        · exact ⟨_, .gv hk, .gv hk', rfl, rfl⟩
        · exact ⟨_, .mp hk, .mp hk', rfl, rfl⟩
      obtain ⟨y, hc1, hc2, hc3, hc4⟩ := hxe
      have a1 := hc1.rep (bor := bor) hinv (by simp) (by simp) hMw hor hv
      exact hc2.rep hin' (.inr hc4) (k1 y v hc3 a1)
    · obtain ⟨h1, h2⟩ := hout' id (by simp [hr, hid])
      exact KeepId.refl h2 h1
  have hcase : ∀ id, (∃ k, (ρ ++ nw)[k]? = some id) ∨ id ∉ ρ ++ nw := fun id => by
    by_cases h : id ∈ ρ ++ nw
    · exact .inl (List.getElem?_of_mem h)
    · exact .inr h
  have hblk2 : ∀ id b, id ∉ ρ ++ nw → (blkOf τ' (updH H us) id = some b ↔ blkOf τ H id = some b) := fun id b hid => by
    obtain ⟨h1, h2⟩ := hout' id hid
    rw [blkOf_congr h2 h1]
  refine ⟨M', τ', ⟨⟨fun b o hb => ?_, fun id => ?_, fun id b hb => ?_, fun i j b hi hj => ?_⟩, hmm, fun b o hb => ?_, hkeep, fun id b hb => ?_, fun b hb hn => hwsame b hb fun id _ => hn id, i7, i8, i9, i10⟩, ?_⟩
  · by_cases hc : b < w.heap.size ∧ ∀ id, id ∈ ρ → blkOf τ H id ≠ some b
    · rw [hMy b hc] at hb
      rw [hwsame b hc.1 hc.2]
      exact hinv.mem b o hb
    · rw [hMn b hc] at hb
      exact i1.mem b o hb
  · rcases hcase id with ⟨k, hk⟩ | hid
    · obtain ⟨h1, h2⟩ := hin' k id hk
      have hob := i1.obj k
      have hkl : k < hout.length := by rw [← hlo]; exact (List.getElem?_eq_some_iff.1 hk).1
      have hmem : hpOf hout k ∈ hout := by simp [hpOf, hkl]
      generalize hHk : hpOf hout k = c at h2 hob hmem
      generalize hHi : updH H us id = a at h2 ⊢
      cases h2 with
      | gone => trivial
      | arr e rows =>
        obtain ⟨o1, o2, o3⟩ := hob
        exact ⟨by rw [h1]; exact o1, by rw [h1]; exact o2, by rw [h1]; exact o3⟩
      | brr e rows =>
        obtain ⟨o1, vs, o2, o3⟩ := hob
        have hMx : ∀ b o, M1 b = some o → M' b = some o := by
          rcases hsl with hs | ⟨_, hs⟩
          · exact hM1.resolve_right fun h => absurd hs h
          · exact absurd hmem (slFreeH_brr hs e rows)
        exact ⟨by rw [h1]; exact o1, vs, by rw [h1]; exact o2.mono hMx, by rw [h1]; exact o3⟩
      | mp ka ea ents =>
        obtain ⟨es, clock, o1, o2⟩ := hob
        exact ⟨es, clock, by rw [h1]; exact o1, o2⟩
      | box hb =>
        obtain ⟨us', e, o1, o2⟩ := hob
        exact ⟨us', e, by rw [h1]; exact o1, RRs.rep hin' hb (hcellM _ hmem) o2⟩
    · obtain ⟨h1, h2⟩ := hout' id hid
      rw [h2]
      refine ObjRep.keep (hinv.obj id) hmm h1 (fun b hb => hwsame b (blk_lt hinv hb) fun j hj hjb => ?_) rfl (fun i hi => hkeep i fun hm => (hfresh i hm).2 id hi)
      have := hinv.inj j id b hjb hb
      subst this
      exact hid (by simp [hj])
  · rcases hcase id with ⟨k, hk⟩ | hid
    · have hb1 := (hblk1 k id b hk).1 hb
      rw [hMn b (fun hc => by
        rcases hownc k b hb1 with h | ⟨id', h1, h2⟩
        · omega
        · exact hc.2 id' h1 h2)]
      exact i1.dis k b hb1
    · have hb1 := (hblk2 id b hid).1 hb
      rw [hMy b ⟨blk_lt hinv hb1, fun id' h1 h2 => by
        have := hinv.inj id' id b h2 hb1
        subst this
        exact hid (by simp [h1])⟩]
      exact hinv.dis id b hb1
  · rcases hcase i with ⟨k, hk⟩ | hid <;> rcases hcase j with ⟨l, hl⟩ | hjd
    · have := i1.inj k l b ((hblk1 k i b hk).1 hi) ((hblk1 l j b hl).1 hj)
      subst this
      rw [hk] at hl; simpa using hl
    · rcases hownc k b ((hblk1 k i b hk).1 hi) with h | ⟨id', h1, h2⟩
      · have := blk_lt hinv ((hblk2 j b hjd).1 hj); omega
      · have := hinv.inj id' j b h2 ((hblk2 j b hjd).1 hj)
        subst this
        exact absurd (List.mem_append_left nw h1) hjd
    · rcases hownc l b ((hblk1 l j b hl).1 hj) with h | ⟨id', h1, h2⟩
      · have := blk_lt hinv ((hblk2 i b hid).1 hi); omega
      · have := hinv.inj id' i b h2 ((hblk2 i b hid).1 hi)
        subst this
        exact absurd (List.mem_append_left nw h1) hid
    · exact hinv.inj i j b ((hblk2 i b hid).1 hi) ((hblk2 j b hjd).1 hj)
  · by_cases hc : b < w.heap.size ∧ ∀ id, id ∈ ρ → blkOf τ H id ≠ some b
    · rw [hMy b hc] at hb; exact .inl hb
    · by_cases hlt : b < w.heap.size
      · refine .inr (.inr ?_)
        by_cases he : ∃ id, blkOf τ H id = some b
        · exact he
        · exact absurd ⟨hlt, fun id _ h => he ⟨id, h⟩⟩ hc
      · exact .inr (.inl (by omega))
  · rcases hcase id with ⟨k, hk⟩ | hid
    · rcases hownc k b ((hblk1 k id b hk).1 hb) with h | ⟨id', _, h⟩
      · exact .inl h
      · exact .inr ⟨id', h⟩
    · exact .inr ⟨id, (hblk2 id b hid).1 hb⟩
  · refine hres.rep hin' ?_ i2
    rcases hsl with hs | ⟨hs, _⟩
    · exact hM1.imp id fun h => absurd hs h
    · exact .inr hs

theorem call_nx {M : Mem} {τ : Tau} {H : HF} {w : World} (hinv : Inv P M τ H w) {ρ nw : List Nat} {hin hout : List HObj} {bor us : Fp} {args : List AV} {vs : List AV} {res res' : AV} {f : FuncId} {zs : List Value}
    (hC : CallsH P f args hin res hout)
    (hlen : ρ.length = hin.length) (hor : ∀ k id, ρ[k]? = some id → OR ρ (H id) (hpOf hin k))
    (hargs : CRVs ρ bor vs args) (hbH : ∀ p ∈ bor, H p.1 = p.2) (hbρ : ∀ p ∈ bor, p.1 ∉ ρ)
    (hnd : (ρ ++ nw).Nodup) (hfresh : ∀ id ∈ nw, FreshH H id)
    (hus : us.length = (ρ ++ nw).length) (hlo : (ρ ++ nw).length = hout.length)
    (hro : ∀ (k id : Nat) (o : HObj), (ρ ++ nw)[k]? = some id → hout[k]? = some o → ∃ o', RO (ρ ++ nw) o o' ∧ us[k]? = some (id, o'))
    (hres : RV (ρ ++ nw) res res') (hsl : bor = [] ∨ (slFreeV res = true ∧ slFreeH hout = true))
    (hzs : All2 (AVRep M τ H) vs zs) :
    Calls P f zs.toArray w fun e w' => ∃ v, e = .returned v ∧ ∃ M' τ', Nx P M τ H w (updH H us) M' τ' w' nw ∧ AVRep M' τ' (updH H us) res' v := by
  obtain ⟨h1, h2⟩ := call_view hinv hlen hor hargs hbH hbρ hnd hzs
  exact (hC.run _ _ w zs h1 h2).mono fun e w' hp => post_nx hinv hp hlen hor hnd hfresh hus hlo hro hres hsl

theorem run_call {f : FuncId} {x : Operand} {args : Array Operand} {types : Array TypeId} {ρ : Operand → Value} {caps : Array Value} (hc : Callable P f) (ho : o.op = .call ⟨.value x, args, types⟩) (hx : ρ x = .func (.func f) #[] caps) (w : World) :
    (execOp ρ o).run P w = .ok (.enter f (args.map ρ ++ caps)) w := by
  obtain ⟨fn, h1, h2, h3⟩ := hc
  have hb : ¬ fn.body = none := fun he => by rw [he] at h3; cases h3
  have hn : ¬ fn.name = "runtime.NumGoroutine" := by simpa using h2
  simp [execOp, ho, resolve, hx, Deferred.ofValue, invoke, callFunc, h1, hn, hb]

end call
end Go.Cpl
