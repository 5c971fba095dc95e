/- More of the layer: arguments of any plain type; later parts. -/
import Derived.Test.YtelnligfebjjiaaGreatCplB
import Derived.Defers

namespace Go.Cpl
open Go Go.ChangeShapes Go.WideShapes Go.ChangeAt Go.RowKit

/-! ### arguments of any plain type, read from the heap -/

/-- values of this type are read as data of this form -/
def Rd (P : Program) {α : Type} (t : TypeId) (f : α → List D) : Prop :=
  ∀ (H : Type) (enc : TypeId × Value → H) (w : World) (base : Nat) (spare : Nat → Bool) (held : Bool) (n : Nat) (cs : List Value) (x : DataW H × List MemPlace),
    DataW.trod enc P w base spare held n t cs = some x → ∃ a, All2 (DRep (memOf w)) (f a) cs

theorem rd_int {P : Program} {t : TypeId} (ht : P.underlying t = some (.int .i64)) : Rd P t (fun a : Int => [.int .i64 a]) := fun _ _ _ _ _ _ _ _ _ h => trod_int1 ht h

theorem rd_bool {P : Program} {t : TypeId} (ht : P.underlying t = some .bool) : Rd P t (fun a : Bool => [.bool a]) := fun _ _ _ _ _ _ _ _ _ h => by
  obtain ⟨b, rfl, _⟩ := DataW.trod_bool ht h
  exact ⟨b, .scal (.bool b) rfl, trivial⟩

theorem rd_slice {P : Program} {α : Type} {f : α → List D} {t e : TypeId} (ht : P.underlying t = some (.slice e)) {s : Nat} (hs : P.cellsOf e = s) (hs0 : 0 < s) (hf : ∀ a, (f a).length = s) (he : Rd P e f) : Rd P t (fun l : List α => [.sl (l.map f)]) :=
  fun _ _ _ _ _ _ _ _ _ h => by
    obtain ⟨l, v, rfl, hv⟩ := trod_rows f ht hs hs0 hf (fun n cs x h => he _ _ _ _ _ _ n cs x h) h
    exact ⟨l, hv, trivial⟩

def totS : List (TypeId × Nat × Nat) → Nat
  | [] => 0
  | p :: r => p.2.2 + totS r

/-- the fields from a place on -/
def RdF (P : Program) {α : Type} (L : List (TypeId × Nat × Nat)) (off : Nat) (f : α → List D) : Prop :=
  ∀ (H : Type) (enc : TypeId × Value → H) (w : World) (base : Nat) (spare : Nat → Bool) (held : Bool) (n : Nat) (cs : List Value), cs.length = off + totS L →
    (∀ p ∈ L, ∃ y, DataW.trod enc P w base spare held n p.1 ((cs.drop p.2.1).take p.2.2) = some y) → ∃ a, All2 (DRep (memOf w)) (f a) (cs.drop off)

theorem rdF_nil {P : Program} {off : Nat} : RdF P [] off (fun _ : Unit => []) := fun _ _ _ _ _ _ _ cs hl _ => by
  have : cs.drop off = [] := List.drop_eq_nil_of_le (by simp [totS] at hl; omega)
  rw [this]
  exact ⟨(), trivial⟩

theorem rdF_cons {P : Program} {α β : Type} {g : α → List D} {h : β → List D} {t : TypeId} {off s : Nat} {L : List (TypeId × Nat × Nat)} (ht : Rd P t g) (hL : RdF P L (off + s) h) : RdF P ((t, off, s) :: L) off (fun x : α × β => g x.1 ++ h x.2) :=
  fun H enc w base spare held n cs hl hp => by
    obtain ⟨y, hy⟩ := hp _ (List.mem_cons_self ..)
    obtain ⟨a, ha⟩ := ht _ _ _ _ _ _ _ _ _ hy
    obtain ⟨b, hb⟩ := hL H enc w base spare held n cs (by simp only [totS] at hl; omega) fun p hp' => hp p (List.mem_cons_of_mem _ hp')
    refine ⟨(a, b), ?_⟩
    have e : cs.drop off = (cs.drop off).take s ++ cs.drop (off + s) := by
      rw [← List.drop_drop]; exact (List.take_append_drop s _).symm
    rw [e]
    exact All2.append ha hb

theorem Rd.map {P : Program} {α β : Type} {t : TypeId} {f : α → List D} {f' : β → List D} (h : Rd P t f) (g : α → β) (hg : ∀ a, f a = f' (g a)) : Rd P t f' := fun H enc w base spare held n cs x hx => by
  obtain ⟨a, ha⟩ := h H enc w base spare held n cs x hx
  exact ⟨g a, by rw [← hg]; exact ha⟩

def stFact (P : Program) (t : TypeId) : Option (List (TypeId × Nat × Nat) × Nat) := match P.underlying t with
  | some (.struct fs) => some (fs.toList.map (fun f => (f.type, f.offset, P.cellsOf f.type)), P.cellsOf t)
  | _ => none

theorem rd_struct {P : Program} {α : Type} {f : α → List D} {t : TypeId} {L : List (TypeId × Nat × Nat)} {s : Nat} (ht : stFact P t = some (L, s)) (hs : totS L = s) (hL : RdF P L 0 f) : Rd P t f := fun H enc w base spare held n cs x h => by
  unfold stFact at ht
  split at ht
  · rename_i fs hu
    simp only [Option.some.injEq, Prod.mk.injEq] at ht
    obtain ⟨rfl, rfl⟩ := ht
    obtain ⟨xs, m, _, _, hl, hlen, hf⟩ := DataW.trod_struct hu h
    have := hL H enc w base spare held m cs (by rw [hl, hs]; omega) fun p hp => by
      obtain ⟨fl, hfl, rfl⟩ := List.mem_map.1 hp
      obtain ⟨i, hi⟩ := List.getElem?_of_mem hfl
      have hi' : fs[i]? = some fl := by simpa using hi
      have h1 := hf i fl hi'
      have h2 : i < xs.length := by rw [hlen]; exact (Array.getElem?_eq_some_iff.1 hi').1
      rw [List.getElem?_eq_getElem h2] at h1
      exact ⟨_, h1⟩
    simpa using this
  · cases ht

section
variable {H : Type} {enc : TypeId × Value → H} {P : Program} {w : World} {base : Nat} {spare : Nat → Bool} {held : Bool}

/-- a struct by value -/
theorem arg_agg {α : Type} {f : α → List D} {t : TypeId} {x : List (TypeId × Nat × Nat) × Nat} (ht : stFact P t = some x) (hr : Rd P t f) {b0 : Nat} {r : Reach} {v : Value} {d : DataW H} {ps : List MemPlace} (hval : Value.okWide P w r b0 t v) (hd : DataW.Trod enc P w base spare held t v d ps) (τ : Tau) (Hf : HF) :
    ∃ a, AVRep (memOf w) τ Hf (.agg ((f a).map .d)) v := by
  unfold stFact at ht
  split at ht
  · rename_i fs hu
    obtain ⟨cs, rfl, _⟩ := okWide_struct hu hval
    obtain ⟨fuel, h⟩ := hd
    obtain ⟨a, ha⟩ := hr _ _ _ _ _ _ _ _ _ h
    exact ⟨a, cs.toList, by simp, mapD_rep (by simpa [Value.cells] using ha)⟩
  · cases ht

end
end Go.Cpl

namespace Go.Cpl
open Go

/-- a result that is a new slice, taken for immutable data -/
theorem CallsH.frozen {P : Program} {f : FuncId} {args : List AV} {e : TypeId} {rows : List (List D)} (h : CallsH P f args [] (.c (.gs 0)) [.arr e rows]) : CallsH P f args [] (.c (.d (.sl rows))) [] := by
  refine ⟨h.can, fun M τ w vs hinv hargs => Calls.mono (h.run M τ w vs hinv hargs) ?_⟩
  rintro x w' ⟨v, M', τ', rfl, h1, h2, h3, h4, h5, h6, h7⟩
  refine ⟨v, memFz M' τ' (hpOf [.arr e rows]) w' (fun _ => True), τ', rfl, ⟨fun b o hb => ?_, fun id => by simp [hpOf, ObjRep], fun id b hb => by simp [hpOf, blkOf] at hb, fun i j b hb => by simp [hpOf, blkOf] at hb⟩,
    fz_rep h1 (id := 0) trivial rfl h2, fun b o hb => ?_, fun i hi => by simp at hi, fun i b hb => by simp [hpOf, blkOf] at hb, h6, h7⟩
  · unfold memFz at hb
    split at hb
    · exact hb
    · exact h1.mem b o hb
  · unfold memFz at hb
    split at hb
    · rename_i hz
      obtain ⟨id, _, hid⟩ := hz
      exact .inr (h5 id b hid)
    · exact h3 b o hb

end Go.Cpl

namespace Go.Cpl
open Go
section
variable {P : Program} {T : Nat → TyI}

/-- A LOOP that counts from 0: 'J' what holds at each turn, 'N' a bound of the turns. -/
theorem loopN (hT : TabOK P T) (hm : P.follows .mixedOrders = true) {nt n : Nat} {b : Code} (J : Nat → Prop) (N : Nat) (ov : Nat → Fr) (H : Nat → Hp) (nx' : Nat) {fr : Fr} {hp : Hp} {nx : Nat} {Q : Ex → Fr → Hp → Nat → Prop} (ρ0 : Ren) (hJ : J 0)
    (h : keepK (wrs b (fstL (ov 0))) fr [] fun kf => keepHK (H 0) hp [] fun kh => Head ρ0 (ov 0) kf (H 0) kh nx' n fr hp ∧ ∀ i, J i → appK (ov i) kf fun fr1 => appK (H i) kh fun hp1 => awpR P T nt n b fr1 hp1 nx' fun e fr hp nx => match e with
      | .normal => (i < N ∧ J (i + 1)) ∧ ∃ ρ, Head ρ (ov (i + 1)) kf (H (i + 1)) kh nx' n fr hp
      | .exit id => Q (.exit id) fr hp nx
      | .ret => Q .ret fr hp nx) : AWp P nt n (.loop b) fr hp nx Q := by
  rw [awpR_eq] at h
  obtain ⟨kf, h⟩ := keepK_ok h
  obtain ⟨kh, h0, hs⟩ := keepHK_ok h
  refine awp_loopA (ι := { i : Nat // J i }) (fun i => ⟨ov i.1 ++ kf, H i.1 ++ kh, nx'⟩) (fun i => N - i.1) ⟨0, hJ⟩ _ h0.match fun i => ?_
  have := appK_ok' (appK_ok' (hs i.1 i.2))
  refine (awp_sound hT hm nt n b this).mono ?_
  intro e fr hp nx
  cases e with
  | normal => rintro ⟨⟨h1, h2⟩, ρ, h3⟩; exact ⟨⟨i.1 + 1, h2⟩, _, h3.match, by show N - (i.1 + 1) < N - i.1; omega⟩
  | exit _ => exact fun h => h
  | ret => exact fun h => h
end
end Go.Cpl

namespace Go.Cpl
open Go

theorem cplAll_cons {H : Type} {enc : TypeId × Value → H} {P : Program} {w : World} {base : Nat} {spare : Nat → Bool} {held : Bool} {t : TypeId} {ts : List TypeId} {vs : List Value} {ds : List (DataW H)} {ps : List MemPlace}
    (h : DataW.TrodAll enc P w base spare held (t :: ts) vs ds ps) : ∃ v vs' d ds' p q, vs = v :: vs' ∧ ds = d :: ds' ∧ DataW.Trod enc P w base spare held t v d p ∧ DataW.TrodAll enc P w base spare held ts vs' ds' q := by
  match vs, ds, h with
  | v :: vs', d :: ds', ⟨p, q, h1, h2, _⟩ => exact ⟨v, vs', d, ds', p, q, rfl, rfl, h1, h2⟩
  | [], _, h => exact h.elim
  | _ :: _, [], h => exact h.elim

theorem cplAll_nil {H : Type} {enc : TypeId × Value → H} {P : Program} {w : World} {base : Nat} {spare : Nat → Bool} {held : Bool} {vs : List Value} {ds : List (DataW H)} {ps : List MemPlace}
    (h : DataW.TrodAll enc P w base spare held [] vs ds ps) : vs = [] ∧ ds = [] := by
  match vs, ds, h with
  | [], [], _ => exact ⟨rfl, rfl⟩
  | [], _ :: _, h => exact h.elim
  | _ :: _, _, h => exact h.elim

end Go.Cpl

namespace Go.Cpl
open Go
section
variable {P : Program} {T : Nat → TyI}

end
end Go.Cpl

namespace Go.Cpl
open Go
section
variable {P : Program} {T : Nat → TyI}

/-- THE CONTRACT of a call: there is one result, of this property -/
def ExH (P : Program) (f : FuncId) (args : List AV) (hin : List HObj) (Q : AV → List HObj → Prop) : Prop := ∃ res hout, Q res hout ∧ CallsH P f args hin res hout

/-- one state -/
abbrev Is (e' : Ex) (fr' : Fr) (hp' : Hp) (nx' : Nat) : Ex → Fr → Hp → Nat → Prop := fun e f h x => e = e' ∧ f = fr' ∧ h = hp' ∧ x = nx'

/-- THE CODE, from every state of this form, comes to one state, and Q holds there. -/
structure DWp (P : Program) (nt n : Nat) (c : Code) (fr : Fr) (hp : Hp) (nx : Nat) (Q : Ex → Fr → Hp → Nat → Prop) : Prop where
  out : Bnd (lk fr) (hpAt hp) n nx → ∃ e' fr' hp' nx', Q e' fr' hp' nx' ∧ Bnd (lk fr') (hpAt hp') n nx' ∧ AWp P nt n c fr hp nx (Is e' fr' hp' nx')

theorem Match.bnd {ρ : Ren} {s : St} {n : Nat} {fr : Fr} {hp : Hp} (hm : Match ρ s n fr hp) : Bnd (lk s.fr) (hpAt s.hp) n s.nx := by
  obtain ⟨hwf, _, _⟩ := hm
  simp only [wfSt, Bool.and_eq_true] at hwf
  obtain ⟨⟨⟨⟨w1, w2⟩, w3⟩, w4⟩, w5⟩ := hwf
  exact bnd_of (n := n) w1 w2 (Nat.le_of_ble_eq_true w5)

/-- how a loop comes to its end -/
inductive Orb (P : Program) (nt n : Nat) (b : Code) {ι : Type} (I : ι → St) (μ : ι → Nat) (e' : Ex) (fr' : Fr) (hp' : Hp) (nx' : Nat) : ι → Prop
  | stop (i : ι) (h : AWp P nt n b (I i).fr (I i).hp (I i).nx (Is e' fr' hp' nx')) (he : e' ≠ .normal) : Orb P nt n b I μ e' fr' hp' nx' i
  | turn (i j : ι) (fr1 : Fr) (hp1 : Hp) (nx1 : Nat) (ρ : Ren) (h : AWp P nt n b (I i).fr (I i).hp (I i).nx (Is .normal fr1 hp1 nx1)) (hm : Match ρ (I j) n fr1 hp1) (hlt : μ j < μ i) (ho : Orb P nt n b I μ e' fr' hp' nx' j) : Orb P nt n b I μ e' fr' hp' nx' i

theorem DWp.mono {nt n : Nat} {c : Code} {fr : Fr} {hp : Hp} {nx : Nat} {Q Q' : Ex → Fr → Hp → Nat → Prop} (h : DWp P nt n c fr hp nx Q) (hq : ∀ e fr hp nx, Q e fr hp nx → Q' e fr hp nx) : DWp P nt n c fr hp nx Q' :=
  ⟨fun hb => by
    obtain ⟨e', fr', hp', nx', h1, h2, h3⟩ := h.out hb
    exact ⟨e', fr', hp', nx', hq _ _ _ _ h1, h2, h3⟩⟩

theorem DWp.seq {nt n : Nat} {x y : Code} {fr : Fr} {hp : Hp} {nx : Nat} {Q : Ex → Fr → Hp → Nat → Prop} (h : DWp P nt n x fr hp nx fun e fr hp nx => match e with
    | .normal => DWp P nt n y fr hp nx Q
    | .exit id => Q (.exit id) fr hp nx
    | .ret => Q .ret fr hp nx) : DWp P nt n (.seq x y) fr hp nx Q := by
  refine ⟨fun hb => ?_⟩
  obtain ⟨e1, fr1, hp1, nx1, hq, hb1, hw⟩ := h.out hb
  cases e1 with
  | normal =>
    obtain ⟨e2, fr2, hp2, nx2, hq2, hb2, hw2⟩ := hq.out hb1
    refine ⟨e2, fr2, hp2, nx2, hq2, hb2, ⟨fun Γ a w hn hs => wp_seq (wp_mono (hw.out Γ a w hn hs) ?_)⟩⟩
    rintro e a' w' ⟨e', fr', hp', nx', h1, ⟨rfl, rfl, rfl, rfl⟩, h3⟩
    cases e <;> simp only [exOf, Option.some.injEq, reduceCtorEq] at h1
    exact hw2.out Γ a' w' hn h3
  | exit id =>
    refine ⟨.exit id, fr1, hp1, nx1, hq, hb1, ⟨fun Γ a w hn hs => wp_seq (wp_mono (hw.out Γ a w hn hs) ?_)⟩⟩
    rintro e a' w' ⟨e', fr', hp', nx', h1, ⟨rfl, rfl, rfl, rfl⟩, h3⟩
    cases e <;> simp only [exOf, Option.some.injEq, reduceCtorEq] at h1
    cases h1
    exact ⟨_, _, _, _, rfl, ⟨rfl, rfl, rfl, rfl⟩, h3⟩
  | ret =>
    refine ⟨.ret, fr1, hp1, nx1, hq, hb1, ⟨fun Γ a w hn hs => wp_seq (wp_mono (hw.out Γ a w hn hs) ?_)⟩⟩
    rintro e a' w' ⟨e', fr', hp', nx', h1, ⟨rfl, rfl, rfl, rfl⟩, h3⟩
    cases e <;> simp only [exOf, Option.some.injEq, reduceCtorEq] at h1
    exact ⟨_, _, _, _, rfl, ⟨rfl, rfl, rfl, rfl⟩, h3⟩

theorem ExH.of {f : FuncId} {args : List AV} {hin : List HObj} {res : AV} {hout : List HObj} {Q : AV → List HObj → Prop} (h : CallsH P f args hin res hout) (hq : Q res hout) : ExH P f args hin Q := ⟨_, _, hq, h⟩

end
end Go.Cpl
