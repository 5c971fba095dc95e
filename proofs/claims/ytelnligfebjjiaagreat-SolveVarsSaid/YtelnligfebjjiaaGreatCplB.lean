/- A layer over the model: abstract values, a generator of verification conditions for the code, and its soundness. -/
import Derived.Test.YtelnligfebjjiaaGreatCplAb

namespace Go.Cpl
open Go

/-- what was there when the call began -/
structure Cx where
  M : Mem
  τ : Tau
  H : HF
  w : World
  n : Nat
  d : List Deferred := []

def Core (P : Program) (nt : Nat) (Γ : Cx) (F : Nat → Option AV) (H : HF) (a : Act) (w : World) : Prop :=
  a.defers = Γ.d ∧ a.tmps.size = nt ∧ ∃ M τ new, Nx P Γ.M Γ.τ Γ.H Γ.w H M τ w new ∧ (∀ id ∈ new, Γ.n ≤ id) ∧ ∀ t v, F t = some v → AVRep M τ H v (a.eval (.tmp t))

def updO (F : Nat → Option AV) (dst : Option Nat) (v : AV) : Nat → Option AV := match dst with
  | some d => fun t => if d = t then some v else F t
  | none => F

/-- what an operand is, by the slots' values 'F' -/
def EvF (F : Nat → Option AV) (x : Operand) (v : AV) : Prop := match x with
  | .tmp t => ∃ u, F t = some u ∧ (∀ M τ H y, AVRep M τ H u y → AVRep M τ H v y) ∧ v.ids = u.ids
  | .const c => (∀ M τ H, AVRep M τ H v c) ∧ v.ids = []
  | .func f => v = .fn f []
  | .global _ => False

section
variable {P : Program} {nt : Nat} {Γ : Cx}

theorem EvF.rep {F : Nat → Option AV} {x : Operand} {v : AV} {M : Mem} {τ : Tau} {H : HF} {a : Act} (h : EvF F x v) (hf : ∀ t v, F t = some v → AVRep M τ H v (a.eval (.tmp t))) : AVRep M τ H v (a.eval x) := by
  cases x with
  | tmp t => obtain ⟨u, h1, h2, _⟩ := h; exact h2 _ _ _ _ (hf t u h1)
  | const c => exact h.1 M τ H
  | func f =>
    have h : v = _ := h
    subst h
    exact ⟨[], rfl, trivial⟩
  | global g => exact h.elim

theorem EvF.ids {F : Nat → Option AV} {x : Operand} {v : AV} (h : EvF F x v) {id : Nat} (hf : ∀ t v, F t = some v → id ∉ v.ids) : id ∉ v.ids := by
  cases x with
  | tmp t => obtain ⟨u, h1, _, h2⟩ := h; rw [h2]; exact hf t u h1
  | const c => rw [h.2]; simp
  | func f =>
    have h : v = _ := h
    subst h
    simp [AV.ids, idsOf]
  | global g => exact h.elim

theorem eval_put_same {a : Act} {d : Nat} {v : Value} (h : d < a.tmps.size) : (a.put (some d) v).eval (.tmp d) = v := by
  simp [Act.put, Act.eval, h]

theorem eval_put_other {a : Act} {dst : Option Nat} {v : Value} {t : Nat} (h : dst ≠ some t) : (a.put dst v).eval (.tmp t) = a.eval (.tmp t) :=
  Act.eval_put (fun d hd he => h (by rw [hd]; simp at he; rw [he]))

theorem put_size (a : Act) (dst : Option Nat) (v : Value) : (a.put dst v).tmps.size = a.tmps.size := by
  cases dst <;> simp [Act.put]
theorem put_defers (a : Act) (dst : Option Nat) (v : Value) : (a.put dst v).defers = a.defers := by
  cases dst <;> simp [Act.put]

/-- one operation, carried out -/
theorem Core.step {F : Nat → Option AV} {H : HF} {a : Act} {w : World} (hc : Core P nt Γ F H a w) {o : Oper} {d : OpData} (hd : OpHolds P o d) (hins : ∀ p ∈ d.ins, EvF F p.1 p.2) (hrd : ∀ p ∈ d.rd, H p.1 = p.2)
    (hnw : ∀ id ∈ d.nw, FreshH H id ∧ (∀ t v, F t = some v → id ∉ v.ids) ∧ Γ.n ≤ id) (hdst : ∀ t, o.dst = some t → t < nt) {K : Act → World → Prop} {Q : Exit → Act → World → Prop}
    (hK : ∀ a' w', Core P nt Γ (updO F o.dst d.v) (updH H d.us) a' w' → K a' w') : o.wp P a w K Q := by
  obtain ⟨h1, h2, M, τ, new, hnx, hnew, hf⟩ := hc
  refine hd M τ H w a.eval hnx.inv (fun p hp => (hins p hp).rep hf) hrd (fun id hid => ⟨(hnw id hid).1, fun p hp => (hins p hp).ids (hnw id hid).2.1⟩) a K Q ?_
  rintro v' w' ⟨M', τ', hnx', hv⟩
  refine hK _ _ ⟨by rw [put_defers, h1], by rw [put_size, h2], M', τ', new ++ d.nw, hnx.trans hnx', fun id hid => ?_, fun t v ht => ?_⟩
  · rcases List.mem_append.1 hid with h | h
    · exact hnew id h
    · exact (hnw id h).2.2
  · cases hdd : o.dst with
    | none =>
      rw [hdd] at ht
      simp only [updO] at ht
      simp only [Act.put]
      exact AVRep.keep hnx'.mm (fun id hid => hnx'.keep id fun hm => (hnw id hm).2.1 t v ht hid) (hf t v ht)
    | some q =>
      rw [hdd] at ht
      simp only [updO] at ht
      split at ht
      · rename_i he
        subst he
        simp at ht; subst ht
        rw [eval_put_same (by rw [h2]; exact hdst q hdd)]
        exact hv
      · rename_i hne
        rw [eval_put_other (by simpa using hne)]
        exact AVRep.keep hnx'.mm (fun id hid => hnx'.keep id fun hm => (hnw id hm).2.1 t v ht hid) (hf t v ht)

theorem Core.stepQ {F : Nat → Option AV} {H : HF} {a : Act} {w : World} (hc : Core P nt Γ F H a w) {o : Oper} {ins : List (Operand × AV)} {rd : Fp} {nx : Nat} {R : AV → Fp → List Nat → Nat → Prop} (hd : OpHoldsQ P o ins rd nx R) (hins : ∀ p ∈ ins, EvF F p.1 p.2) (hrd : ∀ p ∈ rd, H p.1 = p.2)
    (hnw : ∀ id, nx ≤ id → FreshH H id ∧ (∀ t v, F t = some v → id ∉ v.ids) ∧ Γ.n ≤ id) {K : Act → World → Prop} {Q : Exit → Act → World → Prop}
    (hK : ∀ v us nw nx', R v us nw nx' → nx ≤ nx' → (∀ t, o.dst = some t → t < nt) ∧ ∀ a' w', Core P nt Γ (updO F o.dst v) (updH H us) a' w' → K a' w') : o.wp P a w K Q := by
  obtain ⟨h1, h2, M, τ, new, hnx, hnew, hf⟩ := hc
  refine hd M τ H w a.eval hnx.inv (fun p hp => (hins p hp).rep hf) hrd (fun id hid => ⟨(hnw id hid).1, fun p hp => (hins p hp).ids (hnw id hid).2.1⟩) a K Q ?_
  rintro v' w' ⟨v, us, nw, nx', hR, hn, hle, M', τ', hnx', hv⟩
  obtain ⟨hdst, hK⟩ := hK v us nw nx' hR hle
  refine hK _ _ ⟨by rw [put_defers, h1], by rw [put_size, h2], M', τ', new ++ nw, hnx.trans hnx', fun id hid => ?_, fun t u ht => ?_⟩
  · rcases List.mem_append.1 hid with h | h
    · exact hnew id h
    · exact (hnw id (hn id h).1).2.2
  · cases hdd : o.dst with
    | none =>
      rw [hdd] at ht
      simp only [updO] at ht
      simp only [Act.put]
      exact AVRep.keep hnx'.mm (fun id hid => hnx'.keep id fun hm => (hnw id (hn id hm).1).2.1 t u ht hid) (hf t u ht)
    | some q =>
      rw [hdd] at ht
      simp only [updO] at ht
      split at ht
      · rename_i he
        subst he
        simp at ht; subst ht
        rw [eval_put_same (by rw [h2]; exact hdst q hdd)]
        exact hv
      · rename_i hne
        rw [eval_put_other (by simpa using hne)]
        exact AVRep.keep hnx'.mm (fun id hid => hnx'.keep id fun hm => (hnw id (hn id hm).1).2.1 t u ht hid) (hf t u ht)

/-- an operation passed over -/
theorem Core.skip {F : Nat → Option AV} {H : HF} {a : Act} {w : World} (hc : Core P nt Γ F H a w) {dst : Option Nat} (hdst : ∀ t, dst = some t → t < nt) : Core P nt Γ (updO F dst .undef) H (a.put dst Go.undef) w := by
  obtain ⟨h1, h2, M, τ, new, hnx, hnew, hf⟩ := hc
  refine ⟨by rw [put_defers, h1], by rw [put_size, h2], M, τ, new, hnx, hnew, fun t v ht => ?_⟩
  cases dst with
  | none => exact hf t v ht
  | some q =>
    simp only [updO] at ht
    split at ht
    · rename_i he
      subst he
      simp at ht; subst ht
      rw [eval_put_same (by rw [h2]; exact hdst q rfl)]
      rfl
    · rename_i hne
      rw [eval_put_other (by simpa using hne)]
      exact hf t v ht

theorem Core.drew {F : Nat → Option AV} {H : HF} {a : Act} {w : World} (hc : Core P nt Γ F H a w) : Core P nt Γ F H a { w with drawn := w.drawn + 1 } := by
  obtain ⟨h1, h2, M, τ, new, hnx, hnew, hf⟩ := hc
  refine ⟨h1, h2, M, τ, new, ?_, hnew, hf⟩
  have := hnx.trans (Nx.still hnx.inv (w' := w.drew) (WSame.drew w _))
  simpa using this

/-- the bounds on the names in use -/
structure Bnd (F : Nat → Option AV) (H : HF) (n nx : Nat) : Prop where
  fr : ∀ t v, F t = some v → ∀ id ∈ v.ids, id < nx
  live : ∀ id, H id ≠ .gone → id < nx
  hp : ∀ j, ∀ id ∈ (H j).ids, id < nx
  le : n ≤ nx

theorem Bnd.fresh {F : Nat → Option AV} {H : HF} {n nx id : Nat} (h : Bnd F H n nx) (hid : nx ≤ id) : FreshH H id ∧ (∀ t v, F t = some v → id ∉ v.ids) ∧ n ≤ id := by
  refine ⟨⟨?_, fun j hj => ?_⟩, fun t v hv hm => ?_, Nat.le_trans h.le hid⟩
  · cases hg : H id with
    | gone => rfl
    | box c => exact absurd (h.live id (by simp [hg])) (by omega)
    | arr e r => exact absurd (h.live id (by simp [hg])) (by omega)
    | brr e r => exact absurd (h.live id (by simp [hg])) (by omega)
    | mp a b c => exact absurd (h.live id (by simp [hg])) (by omega)
  · have := h.hp j id hj; omega
  · have := h.fr t v hv id hm; omega

theorem bndL_ok {nx : Nat} : ∀ {l : List Nat}, bndL nx l = true → ∀ id ∈ l, id < nx
  | [], _, _, h => by cases h
  | i :: r, hb, id, h => by
    unfold bndL at hb
    split at hb
    · rename_i hi
      cases h with
      | head => simpa using hi
      | tail _ h => exact bndL_ok hb id h
    · cases hb

theorem bndU_ok {nx : Nat} : ∀ {us : Fp}, bndU nx us = true → ∀ p ∈ us, p.1 < nx ∧ ∀ id ∈ p.2.ids, id < nx
  | [], _, _, h => by cases h
  | (i, o) :: r, hb, p, h => by
    unfold bndU at hb
    split at hb
    · rename_i hi
      split at hb
      · rename_i ho
        cases h with
        | head => exact ⟨by simpa using hi, bndL_ok ho⟩
        | tail _ h => exact bndU_ok hb p h
      · cases hb
    · cases hb

theorem updH_cases (H : HF) (us : Fp) (id : Nat) : updH H us id = H id ∨ ∃ p ∈ us, p.1 = id ∧ updH H us id = p.2 := by
  induction us with
  | nil => exact .inl rfl
  | cons p r ih =>
    obtain ⟨i, o⟩ := p
    simp only [updH]
    split
    · rename_i he; exact .inr ⟨(i, o), by simp, he, rfl⟩
    · rcases ih with h | ⟨q, hq, h1, h2⟩
      · exact .inl h
      · exact .inr ⟨q, by simp [hq], h1, h2⟩

theorem Bnd.step {F : Nat → Option AV} {H : HF} {n nx nx' : Nat} (h : Bnd F H n nx) (hle : nx ≤ nx') {v : AV} {us : Fp} (hv : bndL nx' v.ids = true) (hu : bndU nx' us = true) (dst : Option Nat) : Bnd (updO F dst v) (updH H us) n nx' := by
  refine ⟨fun t u ht id hid => ?_, fun id hid => ?_, fun j id hj => ?_, Nat.le_trans h.le hle⟩
  · cases dst with
    | none => have := h.fr t u ht id hid; omega
    | some d =>
      simp only [updO] at ht
      split at ht
      · simp at ht; subst ht; exact bndL_ok hv id hid
      · have := h.fr t u ht id hid; omega
  · rcases updH_cases H us id with e | ⟨p, hp, e1, e2⟩
    · rw [e] at hid; have := h.live id hid; omega
    · rw [← e1]; exact (bndU_ok hu p hp).1
  · rcases updH_cases H us j with e | ⟨p, hp, e1, e2⟩
    · rw [e] at hj; have := h.hp j id hj; omega
    · rw [e2] at hj; exact (bndU_ok hu p hp).2 id hj

theorem upds_ok {K : Hp → Prop} : ∀ {us : Fp} {hp : Hp}, updsK us hp K → K (us ++ hp)
  | [], _, h => h
  | p :: r, hp, h => by
    have := upds_ok (K := fun h' => K (p :: h')) (us := r) (hp := hp) h
    simpa using this

theorem lk_cons {α : Type} (i : Nat) (x : α) (r : List (Nat × α)) (n : Nat) : lk ((i, x) :: r) n = if i = n then some x else lk r n := by
  rw [lk]
  split
  · rename_i hb; rw [if_pos (Nat.eq_of_beq_eq_true hb)]
  · rename_i hb; rw [if_neg (Nat.ne_of_beq_eq_false hb)]

theorem hpAt_upds (us : Fp) (hp : Hp) : hpAt (us ++ hp) = updH (hpAt hp) us := by
  funext id
  induction us with
  | nil => rfl
  | cons p r ih =>
    obtain ⟨i, o⟩ := p
    simp only [updH, ← ih]
    unfold hpAt
    rw [List.cons_append, lk_cons]
    by_cases he : i = id <;> simp [he]

theorem putDst_ok {dst : Option Nat} {v : AV} {fr : Fr} {K : Fr → Prop} (h : putDst nt dst v fr K) : (∀ t, dst = some t → t < nt) ∧ ∃ fr', lk fr' = updO (lk fr) dst v ∧ K fr' := by
  unfold putDst at h
  split at h
  · split at h
    · rename_i d hb
      refine ⟨fun t ht => by simp at ht; subst ht; simpa using hb, _, ?_, h⟩
      funext t; rw [lk_cons]; rfl
    · exact h.elim
  · exact ⟨by simp, _, rfl, h⟩

/-- evaluator's slots against official ones -/
def Rfn (F G : Nat → Option AV) : Prop := ∀ t v, G t = some v → ∃ u, F t = some u ∧ (∀ M τ H y, AVRep M τ H u y → AVRep M τ H v y) ∧ v.ids = u.ids

theorem Rfn.refl (F : Nat → Option AV) : Rfn F F := fun _ v h => ⟨v, h, fun _ _ _ _ h => h, rfl⟩

theorem Rfn.ev {F : Nat → Option AV} {fr : Fr} (h : Rfn F (lk fr)) {x : Operand} {v : AV} (hx : EvOK fr x v) : EvF F x v := by
  cases x with
  | tmp t => exact h t v hx
  | const c => exact hx
  | func f => exact hx
  | global g => exact hx.elim

theorem Rfn.upd {F G : Nat → Option AV} (h : Rfn F G) (dst : Option Nat) (v : AV) : Rfn (updO F dst v) (updO G dst v) := fun t u ht => by
  cases dst with
  | none => exact h t u ht
  | some d =>
    simp only [updO] at ht ⊢
    split at ht
    · rename_i he; simp at ht; subst ht; rw [if_pos he]; exact ⟨_, rfl, fun _ _ _ _ h => h, rfl⟩
    · rename_i he; rw [if_neg he]; exact h t u ht

/-- what a guard says, whatever the state: the operation is wanted, or not -/
def Guarded (ops : List Oper) (F : Nat → Option AV) (g : Option (Nat × Bool)) (yes : Bool) : Prop := match g with
  | none => yes = true
  | some (j, want) => ∃ s u, dstOf ops j = some s ∧ F s = some u ∧ ((∃ b, (b == want) = yes ∧ ∀ M τ H y, AVRep M τ H u y → y = .bool b) ∨ (yes = false ∧ ∀ M τ H y, AVRep M τ H u y → y = Go.undef))

theorem guard_ok {ops : List Oper} {F : Nat → Option AV} {fr : Fr} {g : Option (Nat × Bool)} {yes no : Fr → Prop} (hr : Rfn F (lk fr)) (h : guardK ops fr g yes no) :
    ∃ fr' b, Rfn F (lk fr') ∧ Guarded ops F g b ∧ (if b then yes fr' else no fr') := by
  unfold guardK at h
  split at h
  · exact ⟨fr, true, hr, rfl, h⟩
  · rename_i j want
    split at h
    · exact h.elim
    · rename_i s hs
      split at h
      · rename_i hl
        obtain ⟨u, hu, hu2, _⟩ := hr s _ hl
        cases want with
        | true => exact ⟨fr, true, hr, ⟨s, u, hs, hu, .inl ⟨true, rfl, fun M τ H y hy => hu2 M τ H y hy⟩⟩, h⟩
        | false => exact ⟨fr, false, hr, ⟨s, u, hs, hu, .inl ⟨true, rfl, fun M τ H y hy => hu2 M τ H y hy⟩⟩, h⟩
      · rename_i hl
        obtain ⟨u, hu, hu2, _⟩ := hr s _ hl
        cases want with
        | true => exact ⟨fr, false, hr, ⟨s, u, hs, hu, .inl ⟨false, rfl, fun M τ H y hy => hu2 M τ H y hy⟩⟩, h⟩
        | false => exact ⟨fr, true, hr, ⟨s, u, hs, hu, .inl ⟨false, rfl, fun M τ H y hy => hu2 M τ H y hy⟩⟩, h⟩
      · rename_i b hl
        obtain ⟨u, hu, hu2, hu3⟩ := hr s _ hl
        have hbb : ∀ M τ H y, AVRep M τ H u y → y = .bool b := fun M τ H y hy => rep_bool (hu2 M τ H y hy)
        have hr' : ∀ c, (∀ M τ H y, AVRep M τ H u y → AVRep M τ H (.c c) y) → (AV.c c).ids = u.ids → Rfn F (lk ((s, .c c) :: fr)) := fun c hc hi t v ht => by
          rw [lk_cons] at ht
          split at ht
          · rename_i he; subst he; simp at ht; subst ht; exact ⟨u, hu, hc, hi⟩
          · exact hr t v ht
        cases hb : b with
        | true =>
          subst hb
          have h := h.1 rfl
          have h2 := hr' .tt (fun M τ H y hy => hbb M τ H y hy) (by rw [← hu3]; rfl)
          cases want with
          | true => exact ⟨_, true, h2, ⟨s, u, hs, hu, .inl ⟨true, rfl, hbb⟩⟩, h⟩
          | false => exact ⟨_, false, h2, ⟨s, u, hs, hu, .inl ⟨true, rfl, hbb⟩⟩, h⟩
        | false =>
          subst hb
          have h := h.2 rfl
          have h2 := hr' .ff (fun M τ H y hy => hbb M τ H y hy) (by rw [← hu3]; rfl)
          cases want with
          | true => exact ⟨_, false, h2, ⟨s, u, hs, hu, .inl ⟨false, rfl, hbb⟩⟩, h⟩
          | false => exact ⟨_, true, h2, ⟨s, u, hs, hu, .inl ⟨false, rfl, hbb⟩⟩, h⟩
      · rename_i hl
        obtain ⟨u, hu, hu2, _⟩ := hr s _ hl
        exact ⟨fr, false, hr, ⟨s, u, hs, hu, .inr ⟨rfl, fun M τ H y hy => hu2 M τ H y hy⟩⟩, h⟩
      · exact h.elim

theorem dstOf_get : ∀ {ops : List Oper} {j : Nat}, dstOf ops j = (ops[j]?).bind (·.dst)
  | [], j => by cases j <;> rfl
  | o :: r, 0 => by simp [dstOf]
  | o :: r, j + 1 => by simp [dstOf, dstOf_get (ops := r) (j := j)]

theorem wanted_of {ops : Array Oper} {F : Nat → Option AV} {H : HF} {a : Act} {w : World} (hc : Core P nt Γ F H a w) {o : Oper} {b : Bool} (hg : Guarded ops.toList F o.guard b) : Region.wanted o (yielded ops a.tmps) = b := by
  unfold Region.wanted
  obtain ⟨_, hsz, M, τ, new, _, _, hf⟩ := hc
  cases hgu : o.guard with
  | none => rw [hgu] at hg; exact hg.symm
  | some p =>
    obtain ⟨j, want⟩ := p
    rw [hgu] at hg
    obtain ⟨s, u, h1, h2, h3⟩ := hg
    have hv := hf s u h2
    rw [dstOf_get] at h1
    simp only [Array.getElem?_toList] at h1
    have hy : yielded ops a.tmps j = match a.eval (.tmp s) with
        | .bool b => some b
        | _ => none := by
      unfold yielded
      simp only [h1, Option.bind_some, Act.eval, Array.getD_eq_getD_getElem?]
      cases hv : a.tmps[s]? with
      | none => simp [Go.undef]
      | some v => cases v <;> simp
    simp only [hy]
    rcases h3 with ⟨c, h4, h5⟩ | ⟨rfl, h5⟩
    · rw [h5 _ _ _ _ hv]
      simp only
      rw [← h4]
      cases c <;> cases want <;> rfl
    · rw [h5 _ _ _ _ hv]
      rfl
end
end Go.Cpl

namespace Go.Cpl
open Go
section
variable {P : Program} {nt : Nat} {Γ : Cx} {T : Nat → TyI}

def Sat (P : Program) (nt : Nat) (Γ : Cx) (fr : Fr) (hp : Hp) (nx : Nat) (a : Act) (w : World) : Prop := Bnd (lk fr) (hpAt hp) Γ.n nx ∧ Core P nt Γ (lk fr) (hpAt hp) a w

theorem Rfn.core {F G : Nat → Option AV} (h : Rfn F G) {H : HF} {a : Act} {w : World} (hc : Core P nt Γ F H a w) : Core P nt Γ G H a w := by
  obtain ⟨h1, h2, M, τ, new, hnx, hnew, hf⟩ := hc
  refine ⟨h1, h2, M, τ, new, hnx, hnew, fun t v ht => ?_⟩
  obtain ⟨u, hu, hu2, _⟩ := h t v ht
  exact hu2 _ _ _ _ (hf t u hu)

theorem Rfn.bnd {F G : Nat → Option AV} (h : Rfn F G) {H : HF} {n nx : Nat} (hc : Bnd F H n nx) : Bnd G H n nx :=
  ⟨fun t v ht id hid => by
    obtain ⟨u, hu, _, hu3⟩ := h t v ht
    rw [hu3] at hid
    exact hc.fr t u hu id hid, hc.live, hc.hp, hc.le⟩

theorem aops_lex (hT : TabOK P T) {ops : Array Oper} {Q : Exit → Act → World → Prop} {K : Fr → Hp → Nat → Prop} (hK : ∀ fr hp nx a w, K fr hp nx → Sat P nt Γ fr hp nx a w → Q .normal a w) :
    ∀ (l : List Oper) (pre : List Oper) (k : Nat) (ms : List Mk) (fr : Fr) (hp : Hp) (nx : Nat) (a : Act) (w : World), ops.toList = pre ++ l → aops P T nt ops.toList false k ms l fr hp nx K → Sat P nt Γ fr hp nx a w →
      wpOps P ops Q (List.range' pre.length l.length) a w
  | [], pre, k, ms, fr, hp, nx, a, w, _, h, hs => by
    simp only [List.length_nil, List.range'_zero, wpOps]
    exact hK fr hp nx a w (by simpa [aops] using h) hs
  | o :: l, pre, k, ms, fr, hp, nx, a, w, hl, h, hs => by
    have ho : ops[pre.length]? = some o := by
      rw [← Array.getElem?_toList, hl]; simp
    rw [List.length_cons, List.range'_succ, wpOps]
    simp only [ho]
    obtain ⟨dst, op, ty, ps, aft, guard⟩ := o
    rw [aops] at h
    obtain ⟨fr', b, hr, hg, h⟩ := guard_ok (Rfn.refl (lk fr)) h
    have hw := wanted_of (o := ⟨dst, op, ty, ps, aft, guard⟩) hs.2 hg
    rw [hw]
    have hnext : ops.toList = (pre ++ [⟨dst, op, ty, ps, aft, guard⟩]) ++ l := by rw [hl]; simp
    have hlen : (pre ++ [(⟨dst, op, ty, ps, aft, guard⟩ : Oper)]).length = pre.length + 1 := by simp
    have hs' : Sat P nt Γ fr' hp nx a w := ⟨hr.bnd hs.1, hr.core hs.2⟩
    cases b with
    | true =>
      simp only [if_true] at h ⊢
      left
      obtain ⟨ins, rd, hins, hrd, hd⟩ := aopQ_sound hT h
      refine Core.stepQ hs'.2 (hd ⟨dst, op, ty, ps, aft, guard⟩ rfl) (fun p hp => (Rfn.refl _).ev (hins p hp).1) hrd (fun id hid => hs'.1.fresh hid) fun v us nw nx' h hle => ?_
      simp only at h
      split at h
      · rename_i hb1 hb2
        obtain ⟨hdst, fr2, hfr2, h⟩ := putDst_ok h
        replace h := upds_ok h
        refine ⟨hdst, fun a' w' hc => ?_⟩
        have := aops_lex hT hK l _ 0 [] fr2 _ nx' a' w' hnext h ⟨by rw [hfr2, hpAt_upds]; exact hs'.1.step hle hb1 hb2 dst, by rw [hfr2, hpAt_upds]; exact hc⟩
        rwa [hlen] at this
      · exact h.elim
    | false =>
      simp only [Bool.false_eq_true, if_false] at h ⊢
      obtain ⟨hdst, fr2, hfr2, h⟩ := putDst_ok h
      have hc := hs'.2.skip hdst
      have hb := hs'.1.step (v := .undef) (us := []) (Nat.le_refl _) rfl rfl dst
      have := aops_lex hT hK l _ 0 [] fr2 _ nx _ w hnext h ⟨by rw [hfr2]; exact hb, by rw [hfr2]; exact hc⟩
      rwa [hlen] at this

/-! ### regions that draw -/

def lastBy (p : Nat → Bool) : Nat → Option Nat
  | 0 => none
  | n + 1 => if p n then some n else lastBy p n

theorem lastBy_congr {p q : Nat → Bool} : ∀ {n : Nat}, (∀ k, k < n → p k = q k) → lastBy p n = lastBy q n
  | 0, _ => rfl
  | n + 1, h => by
    simp only [lastBy, h n (by omega)]
    rw [lastBy_congr (n := n) fun k hk => h k (by omega)]

theorem lastBy_eq {p : Nat → Bool} {j : Nat} (hj : p j = true) : ∀ {n : Nat}, j < n → (∀ k, j < k → k < n → p k = false) → lastBy p n = some j
  | 0, h, _ => by omega
  | n + 1, h, hk => by
    unfold lastBy
    by_cases he : j = n
    · subst he; simp [hj]
    · rw [hk n (by omega) (by omega)]
      exact lastBy_eq hj (by omega) fun k h1 h2 => hk k h1 (by omega)

theorem lastBy_some {p : Nat → Bool} {j : Nat} : ∀ {n : Nat}, lastBy p n = some j → p j = true ∧ j < n
  | 0, h => by simp [lastBy] at h
  | n + 1, h => by
    unfold lastBy at h
    split at h
    · rename_i hp; simp at h; subst h; exact ⟨hp, by omega⟩
    · have := lastBy_some h; exact ⟨this.1, by omega⟩

/-- what one operation of a region comes to -/
structure SD where
  yes : Bool
  d : OpData

def mkOf (s : SD) : Mk := ⟨fpIds s.d.rd, fpIds s.d.us, s.d.nw, s.d.v.ids ++ (usIds s.d.us ++ fpIds s.d.us)⟩

/-- the slots behind the operations of a set -/
def FrS (dst : Nat → Option Nat) (sd : Nat → SD) (F : Nat → Option AV) (n : Nat) (S : Nat → Bool) : Nat → Option AV := fun t =>
  match lastBy (fun k => S k && (dst k == some t)) n with
  | some k => some (sd k).d.v
  | none => F t

def HS (sd : Nat → SD) (H : HF) (n : Nat) (S : Nat → Bool) : HF := fun id =>
  match lastBy (fun k => S k && memN id (fpIds (sd k).d.us)) n with
  | some k => updH H (sd k).d.us id
  | none => H id

theorem updH_mem {H H' : HF} : ∀ {us : Fp} {id : Nat}, id ∈ fpIds us → updH H us id = updH H' us id
  | [], _, h => by simp [fpIds] at h
  | (i, o) :: r, id, h => by
    simp only [updH]
    split
    · rfl
    · rename_i hne
      simp only [fpIds, List.mem_cons] at h
      rcases h with h | h
      · exact absurd h.symm hne
      · exact updH_mem h

theorem updH_not_mem {H : HF} : ∀ {us : Fp} {id : Nat}, id ∉ fpIds us → updH H us id = H id
  | [], _, _ => rfl
  | (i, o) :: r, id, h => by
    simp only [fpIds, List.mem_cons, not_or] at h
    simp only [updH]
    rw [if_neg (fun he => h.1 he.symm)]
    exact updH_not_mem h.2

/-- what the lexical walk has shown of one operation of a region that draws -/
def StepFact (P : Program) (nt : Nat) (ops : List Oper) (F : Nat → Option AV) (H : HF) (sd : Nat → SD) (nxs : Nat → Nat) (j : Nat) : Prop :=
  ∀ o, ops[j]? = some o →
    (∀ t, o.dst = some t → t < nt) ∧
    Guarded ops (FrS (dstOf ops) sd F ops.length (fun k => decide (k < j))) o.guard (sd j).yes ∧
    (nxs j ≤ nxs (j + 1)) ∧ (∀ id ∈ (sd j).d.nw, nxs j ≤ id ∧ id < nxs (j + 1)) ∧
    (∀ id ∈ (sd j).d.v.ids ++ (usIds (sd j).d.us ++ fpIds (sd j).d.us), id < nxs (j + 1)) ∧
    ((sd j).yes = true → OpHolds P o (sd j).d ∧ (∀ p ∈ (sd j).d.ins, EvF (FrS (dstOf ops) sd F ops.length (fun k => decide (k < j))) p.1 p.2 ∧ p.1 ∈ o.op.operands.toList) ∧
      (∀ p ∈ (sd j).d.rd, HS sd H ops.length (fun k => decide (k < j)) p.1 = p.2)) ∧
    ((sd j).yes = false → (sd j).d = ⟨[], [], [], [], .undef⟩) ∧
    (∀ i, i < j → clash (mkOf (sd i)) (mkOf (sd j)) = true → behind ops 60 i j = true)

structure Walk (P : Program) (nt : Nat) (ops : List Oper) (F : Nat → Option AV) (H : HF) (n nx : Nat) (sd : Nat → SD) (nxs : Nat → Nat) : Prop where
  nx0 : nxs 0 = nx
  step : ∀ j, StepFact P nt ops F H sd nxs j

theorem behind_ok {ops : List Oper} {S : Nat → Bool} (hS : ∀ j, S j = true → ∀ i ∈ afters ops j, S i = true) : ∀ (n i j : Nat), behind ops n i j = true → S j = true → S i = true
  | 0, _, _, h, _ => by simp [behind] at h
  | n + 1, i, j, h, hj => by
    unfold behind at h
    split at h
    · rename_i hm; exact hS j hj i (memN_iff.1 hm)
    · have : ∀ {l : List Nat} {p : Nat → Bool}, behind.anyB l p = true → ∃ k ∈ l, p k = true := by
        intro l p
        induction l with
        | nil => intro h; simp [behind.anyB] at h
        | cons x r ih =>
          intro h
          unfold behind.anyB at h
          split at h
          · exact ⟨x, by simp, by assumption⟩
          · obtain ⟨k, hk, h2⟩ := ih h; exact ⟨k, by simp [hk], h2⟩
      obtain ⟨k, hk, hp⟩ := this h
      split at hp
      · exact behind_ok hS n i k hp (hS j hj k hk)
      · cases hp

theorem afters_mem : ∀ {ops : List Oper} {j : Nat} {i : Nat}, i ∈ afters ops j ↔ ∃ o, ops[j]? = some o ∧ ∃ e ∈ o.after, Region.binds .any e = true ∧ e.on = i
  | [], j, i => by simp [afters]
  | o :: r, 0, i => by
    have key : ∀ (l : List Edge), i ∈ afters.go l ↔ ∃ e ∈ l, Region.binds .any e = true ∧ e.on = i := by
      intro l
      induction l with
      | nil => simp [afters.go]
      | cons e l ih =>
        unfold afters.go
        split
        · rename_i hb
          simp only [List.mem_cons, ih]
          constructor
          · rintro (rfl | ⟨e', h1, h2⟩)
            · exact ⟨e, .inl rfl, hb, rfl⟩
            · exact ⟨e', .inr h1, h2⟩
          · rintro ⟨e', rfl | h1, h2, h3⟩
            · exact .inl h3.symm
            · exact .inr ⟨e', h1, h2, h3⟩
        · rename_i hb
          rw [ih]
          constructor
          · rintro ⟨e', h1, h2⟩; exact ⟨e', by simp [h1], h2⟩
          · rintro ⟨e', h1, h2, h3⟩
            simp only [List.mem_cons] at h1
            rcases h1 with rfl | h1
            · rw [hb] at h2; cases h2
            · exact ⟨e', h1, h2, h3⟩
    simp [afters, key]
  | o :: r, j + 1, i => by simp [afters, afters_mem (ops := r) (j := j)]

theorem tmps_mem : ∀ {l : List Operand} {t : Nat}, t ∈ looks.tmpsOf l ↔ .tmp t ∈ l
  | [], _ => by simp [looks.tmpsOf]
  | x :: r, t => by
    cases x <;> simp [looks.tmpsOf, tmps_mem (l := r)]

theorem meets_of {i : Nat} : ∀ {a b : List Nat}, i ∈ a → i ∈ b → meets a b = true
  | [], _, h, _ => by cases h
  | x :: r, b, h, hb => by
    unfold meets
    split
    · rfl
    · rename_i hm
      cases h with
      | head => rw [memN_iff.2 hb] at hm; cases hm
      | tail _ h => exact meets_of h hb

end
end Go.Cpl

namespace Go.Cpl
open Go
section
variable {P : Program} {nt : Nat} {Γ : Cx} {T : Nat → TyI}

/-- the static check, opened -/
theorem drawOk_back {ops : List Oper} (h : drawOk ops = true) {j : Nat} (hj : j < ops.length) : ∀ i ∈ afters ops j, i < j := by
  have := List.all_eq_true.1 h j (by simpa using hj)
  simp only [Bool.and_eq_true] at this
  intro i hi
  have := List.all_eq_true.1 this.1 i hi
  simpa using this

theorem drawOk_apart {ops : List Oper} (h : drawOk ops = true) {i j : Nat} {a b : Oper} (hij : i < j) (ha : ops[i]? = some a) (hb : ops[j]? = some b) : apartB ops a b = true ∨ behind ops 60 i j = true := by
  have hj : j < ops.length := (List.getElem?_eq_some_iff.1 hb).1
  have := List.all_eq_true.1 h j (by simpa using hj)
  simp only [Bool.and_eq_true, hb] at this
  have := List.all_eq_true.1 this.2 i (by simpa using hij)
  simp only [ha, Bool.or_eq_true] at this
  exact this

theorem apartB_ok {ops : List Oper} {a b : Oper} (h : apartB ops a b = true) : (∀ d, a.dst = some d → d ∉ looks ops b ∧ b.dst ≠ some d) ∧ (∀ d, b.dst = some d → d ∉ looks ops a) := by
  unfold apartB at h
  simp only [Bool.and_eq_true] at h
  obtain ⟨h1, h2⟩ := h
  refine ⟨fun d hd => ?_, fun d hd => ?_⟩
  · rw [hd] at h1
    simp only [Bool.and_eq_true, Bool.not_eq_true'] at h1
    refine ⟨fun hm => by rw [memN_iff.2 hm] at h1; simp at h1, fun he => ?_⟩
    rw [he] at h1
    simp at h1
  · rw [hd] at h2
    intro hm
    simp [memN_iff.2 hm] at h2

variable {ops : Array Oper} {F : Nat → Option AV} {H : HF} {nx : Nat} {sd : Nat → SD} {nxs : Nat → Nat}

/-- the set of operations so far is closed: nothing has come up ahead of what it waits for -/
structure Closed (ops : List Oper) (S : Nat → Bool) : Prop where
  lt : ∀ j, S j = true → j < ops.length
  down : ∀ j, S j = true → ∀ i ∈ afters ops j, S i = true

/-- an operation that is not yet in the set, all that it waits for being there -/
structure Next (ops : List Oper) (S : Nat → Bool) (j : Nat) (o : Oper) : Prop where
  get : ops[j]? = some o
  not : S j = false
  all : ∀ i ∈ afters ops j, S i = true

theorem Next.behind {l : List Oper} {S : Nat → Bool} {j : Nat} {o : Oper} (hc : Closed l S) (hn : Next l S j o) {i : Nat} (h : behind l 60 i j = true) : S i = true := by
  -- add j to the set: it is closed, too
  have hS : ∀ k, (S k || decide (k = j)) = true → ∀ q ∈ afters l k, (S q || decide (q = j)) = true := fun k hk q hq => by
    simp only [Bool.or_eq_true, decide_eq_true_eq] at hk ⊢
    rcases hk with hk | rfl
    · exact .inl (hc.down k hk q hq)
    · exact .inl (hn.all q hq)
  have := behind_ok (S := fun k => S k || decide (k = j)) hS 60 i j h (by simp)
  simp only [Bool.or_eq_true, decide_eq_true_eq] at this
  rcases this with h' | he
  · exact h'
  · -- i = j: then j waits for itself
    exfalso
    have key : ∀ (n i k : Nat), Cpl.behind l n i k = true → (k = j ∨ S k = true) → S i = true := by
      intro n
      induction n with
      | zero => intro i k h; simp [Cpl.behind] at h
      | succ n ih =>
        intro i k h hk
        unfold Cpl.behind at h
        split at h
        · rename_i hm
          rcases hk with hk | hk
          · rw [hk] at hm; exact hn.all i (memN_iff.1 hm)
          · exact hc.down k hk i (memN_iff.1 hm)
        · have hany : ∀ {l' : List Nat} {p : Nat → Bool}, behind.anyB l' p = true → ∃ k ∈ l', p k = true := by
            intro l' p
            induction l' with
            | nil => intro h; simp [behind.anyB] at h
            | cons x r ih =>
              intro h
              unfold behind.anyB at h
              split at h
              · exact ⟨x, by simp, by assumption⟩
              · obtain ⟨k, hk, h2⟩ := ih h; exact ⟨k, by simp [hk], h2⟩
          obtain ⟨q, hq, hp⟩ := hany h
          split at hp
          · exact ih i q hp (.inr (by
              rcases hk with hk | hk
              · rw [hk] at hq; exact hn.all q hq
              · exact hc.down k hk q hq))
          · cases hp
    have := key 60 i j h (.inl rfl)
    rw [he, hn.not] at this
    cases this

theorem behind_in {l : List Oper} {S : Nat → Bool} (hc : Closed l S) {i j : Nat} (h : behind l 60 i j = true) (hj : S j = true) : S i = true := behind_ok hc.down 60 i j h hj

/-- slots: what an operation looks at, and its own, are as the lexical walk had them -/
theorem FS_look (hok : drawOk ops.toList = true) {S : Nat → Bool} (hc : Closed ops.toList S) {j : Nat} {o : Oper} (hn : Next ops.toList S j o) {t : Nat} (ht : t ∈ looks ops.toList o) :
    FrS (dstOf ops.toList) sd F ops.toList.length S t = FrS (dstOf ops.toList) sd F ops.toList.length (fun k => decide (k < j)) t := by
  unfold FrS
  have : lastBy (fun k => S k && (dstOf ops.toList k == some t)) ops.toList.length = lastBy (fun k => decide (k < j) && (dstOf ops.toList k == some t)) ops.toList.length := by
    refine lastBy_congr fun k hk => ?_
    cases hd : (dstOf ops.toList k == some t) with
    | false => simp
    | true =>
      simp only [Bool.and_true]
      have hd : dstOf ops.toList k = some t := by simpa using hd
      obtain ⟨b, hb⟩ : ∃ b, ops.toList[k]? = some b := ⟨ops.toList[k], by simp⟩
      have hbd : b.dst = some t := by rw [dstOf_get, hb] at hd; simpa using hd
      rcases Nat.lt_trichotomy k j with h | h | h
      · have : S k = true := by
          rcases drawOk_apart hok h hb hn.get with h' | h'
          · exact absurd ht ((apartB_ok h').1 t hbd).1
          · exact hn.behind hc h'
        simp [this, h]
      · subst h; simp [hn.not]
      · have : S k = false := by
          cases hSk : S k with
          | false => rfl
          | true =>
            rcases drawOk_apart hok h hn.get hb with h' | h'
            · exact absurd ht ((apartB_ok h').2 t hbd)
            · have := behind_in hc h' hSk
              rw [hn.not] at this; cases this
        simp [this]; omega
  rw [this]

theorem FS_put (hok : drawOk ops.toList = true) {S : Nat → Bool} (hc : Closed ops.toList S) {j : Nat} {o : Oper} (hn : Next ops.toList S j o) :
    FrS (dstOf ops.toList) sd F ops.toList.length (fun k => S k || decide (k = j)) = updO (FrS (dstOf ops.toList) sd F ops.toList.length S) o.dst (sd j).d.v := by
  have hjl : j < ops.toList.length := (List.getElem?_eq_some_iff.1 hn.get).1
  have hdj : dstOf ops.toList j = o.dst := by rw [dstOf_get, hn.get]; rfl
  funext t
  by_cases hd : o.dst = some t
  · have e : updO (FrS (dstOf ops.toList) sd F ops.toList.length S) o.dst (sd j).d.v t = some (sd j).d.v := by rw [hd]; simp [updO]
    rw [e]
    unfold FrS
    rw [lastBy_eq (j := j) (by simp [hdj, hd]) hjl]
    intro k hk hkn
    cases hSk : S k with
    | false => simp [show k ≠ j by omega, hSk]
    | true =>
      obtain ⟨b, hb⟩ : ∃ b, ops.toList[k]? = some b := ⟨ops.toList[k], by simp⟩
      rcases drawOk_apart hok hk hn.get hb with h' | h'
      · have := ((apartB_ok h').1 t hd).2
        simp [dstOf_get, hb, this]
      · have := behind_in hc h' hSk
        rw [hn.not] at this; cases this
  · have e : updO (FrS (dstOf ops.toList) sd F ops.toList.length S) o.dst (sd j).d.v t = FrS (dstOf ops.toList) sd F ops.toList.length S t := by
      cases ho : o.dst with
      | none => rfl
      | some d => simp only [updO]; rw [if_neg (fun he => hd (by rw [ho, he]))]
    rw [e]
    unfold FrS
    have : lastBy (fun k => (S k || decide (k = j)) && (dstOf ops.toList k == some t)) ops.toList.length = lastBy (fun k => S k && (dstOf ops.toList k == some t)) ops.toList.length := by
      refine lastBy_congr fun k hk => ?_
      by_cases hkj : k = j
      · subst hkj; simp [hdj, hd]
      · simp [hkj]
    rw [this]

theorem clash_of {a b : Mk} {i : Nat} (h : (i ∈ a.ws ∧ (i ∈ b.rd ∨ i ∈ b.ws)) ∨ (i ∈ b.ws ∧ i ∈ a.rd) ∨ (i ∈ a.nw ∧ i ∈ b.ms) ∨ (i ∈ b.nw ∧ i ∈ a.ms)) : clash a b = true := by
  unfold clash
  rcases h with ⟨h1, h2 | h2⟩ | ⟨h1, h2⟩ | ⟨h1, h2⟩ | ⟨h1, h2⟩
  · simp [meets_of h1 h2]
  · simp [meets_of h1 h2]
  · simp [meets_of h1 h2]
  · simp [meets_of h1 h2]
  · simp [meets_of h1 h2]

/-- objects: likewise -/
theorem HS_look (W : Walk P nt ops.toList F H Γ.n nx sd nxs) {S : Nat → Bool} (hc : Closed ops.toList S) {j : Nat} {o : Oper} (hn : Next ops.toList S j o) {id : Nat} (ht : id ∈ fpIds (sd j).d.rd) :
    HS sd H ops.toList.length S id = HS sd H ops.toList.length (fun k => decide (k < j)) id := by
  unfold HS
  have : lastBy (fun k => S k && memN id (fpIds (sd k).d.us)) ops.toList.length = lastBy (fun k => decide (k < j) && memN id (fpIds (sd k).d.us)) ops.toList.length := by
    refine lastBy_congr fun k hk => ?_
    cases hd : memN id (fpIds (sd k).d.us) with
    | false => simp
    | true =>
      simp only [Bool.and_true]
      have hd := memN_iff.1 hd
      obtain ⟨b, hb⟩ : ∃ b, ops.toList[k]? = some b := ⟨ops.toList[k], by simp⟩
      rcases Nat.lt_trichotomy k j with h | h | h
      · have : S k = true := hn.behind hc ((W.step j o hn.get).2.2.2.2.2.2.2 k h (clash_of (.inl ⟨hd, .inl ht⟩)))
        simp [this, h]
      · subst h; simp [hn.not]
      · have : S k = false := by
          cases hSk : S k with
          | false => rfl
          | true =>
            have h' := (W.step k b hb).2.2.2.2.2.2.2 j h (clash_of (.inr (.inl ⟨hd, ht⟩)))
            have := behind_in hc h' hSk
            rw [hn.not] at this; cases this
        simp [this]; omega
  rw [this]

theorem HS_put (W : Walk P nt ops.toList F H Γ.n nx sd nxs) {S : Nat → Bool} (hc : Closed ops.toList S) {j : Nat} {o : Oper} (hn : Next ops.toList S j o) :
    HS sd H ops.toList.length (fun k => S k || decide (k = j)) = updH (HS sd H ops.toList.length S) (sd j).d.us := by
  have hjl : j < ops.toList.length := (List.getElem?_eq_some_iff.1 hn.get).1
  funext id
  by_cases hd : id ∈ fpIds (sd j).d.us
  · rw [updH_mem (H' := H) hd]
    unfold HS
    rw [lastBy_eq (j := j) (by simp [memN_iff.2 hd]) hjl]
    intro k hk hkn
    cases hSk : S k with
    | false => simp [show k ≠ j by omega, hSk]
    | true =>
      obtain ⟨b, hb⟩ : ∃ b, ops.toList[k]? = some b := ⟨ops.toList[k], by simp⟩
      cases hm : memN id (fpIds (sd k).d.us) with
      | false => simp
      | true =>
        have h' := (W.step k b hb).2.2.2.2.2.2.2 j hk (clash_of (.inl ⟨hd, .inr (memN_iff.1 hm)⟩))
        have := behind_in hc h' hSk
        rw [hn.not] at this; cases this
  · rw [updH_not_mem hd]
    unfold HS
    have hf : memN id (fpIds (sd j).d.us) = false := by
      cases hm : memN id (fpIds (sd j).d.us) with
      | false => rfl
      | true => exact absurd (memN_iff.1 hm) hd
    have : lastBy (fun k => (S k || decide (k = j)) && memN id (fpIds (sd k).d.us)) ops.toList.length = lastBy (fun k => S k && memN id (fpIds (sd k).d.us)) ops.toList.length := by
      refine lastBy_congr fun k hk => ?_
      by_cases hkj : k = j
      · subst hkj; simp [hf]
      · simp [hkj]
    rw [this]

theorem nxs_mono (W : Walk P nt ops.toList F H Γ.n nx sd nxs) : ∀ {i j : Nat}, i ≤ j → j ≤ ops.toList.length → nxs i ≤ nxs j
  | i, j, h, hj => by
    induction j with
    | zero => have : i = 0 := by omega
              subst this; exact Nat.le_refl _
    | succ j ih =>
      by_cases he : i = j + 1
      · rw [he]; exact Nat.le_refl _
      · obtain ⟨b, hb⟩ : ∃ b, ops.toList[j]? = some b := ⟨ops.toList[j], by simp⟩
        exact Nat.le_trans (ih (by omega) (by omega)) (W.step j b hb).2.2.1

theorem usIds_mem : ∀ {us : Fp} {p : Nat × HObj}, p ∈ us → ∀ id ∈ p.2.ids, id ∈ usIds us
  | [], _, h, _, _ => by cases h
  | (i, o) :: r, p, h, id, hid => by
    simp only [usIds, List.mem_append]
    cases h with
    | head => exact .inl hid
    | tail _ h => exact .inr (usIds_mem h id hid)

/-- new objects are new in every order -/
theorem fresh_any (W : Walk P nt ops.toList F H Γ.n nx sd nxs) (hb : Bnd F H Γ.n nx) {S : Nat → Bool} (hc : Closed ops.toList S) {j : Nat} {o : Oper} (hn : Next ops.toList S j o) {id : Nat} (hid : id ∈ (sd j).d.nw) :
    FreshH (HS sd H ops.toList.length S) id ∧ (∀ t v, FrS (dstOf ops.toList) sd F ops.toList.length S t = some v → id ∉ v.ids) ∧ Γ.n ≤ id := by
  have hjl : j < ops.toList.length := (List.getElem?_eq_some_iff.1 hn.get).1
  have hlow := ((W.step j o hn.get).2.2.2.1 id hid).1
  have h0 : nx ≤ id := by
    have := nxs_mono W (Nat.zero_le j) (by omega)
    rw [W.nx0] at this; omega
  obtain ⟨f1, f2, f3⟩ := hb.fresh h0
  -- what an operation of the set names is not new here
  have hms : ∀ k, S k = true → k < ops.toList.length → id ∉ (sd k).d.v.ids ++ (usIds (sd k).d.us ++ fpIds (sd k).d.us) := fun k hSk hkn hm' => by
    obtain ⟨b, hb'⟩ : ∃ b, ops.toList[k]? = some b := ⟨ops.toList[k], by simp⟩
    rcases Nat.lt_trichotomy k j with h | h | h
    · have hm := nxs_mono W (i := k + 1) (j := j) (by omega) (by omega)
      have := (W.step k b hb').2.2.2.2.1 id hm'; omega
    · subst h; rw [hn.not] at hSk; cases hSk
    · have h' := (W.step k b hb').2.2.2.2.2.2.2 j h (clash_of (.inr (.inr (.inl ⟨hid, hm'⟩))))
      have := behind_in hc h' hSk
      rw [hn.not] at this; cases this
  refine ⟨⟨?_, fun q hq => ?_⟩, fun t v ht hm => ?_, f3⟩
  · unfold HS
    split
    · rename_i k hk
      have := lastBy_some hk
      simp only [Bool.and_eq_true] at this
      exact absurd (by simp [memN_iff.1 this.1.2]) (hms k this.1.1 this.2)
    · exact f1.1
  · unfold HS at hq
    split at hq
    · rename_i k hk
      have := lastBy_some hk
      simp only [Bool.and_eq_true] at this
      rcases updH_cases H (sd k).d.us q with e | ⟨p, hp, e1, e2⟩
      · rw [e] at hq; exact f1.2 q hq
      · rw [e2] at hq
        exact hms k this.1.1 this.2 (List.mem_append_right _ (List.mem_append_left _ (usIds_mem hp id hq)))
    · exact f1.2 q hq
  · unfold FrS at ht
    split at ht
    · rename_i k hk
      have := lastBy_some hk
      simp only [Bool.and_eq_true] at this
      simp at ht; subst ht
      exact hms k this.1.1 this.2 (List.mem_append_left _ hm)
    · exact f2 t v ht hm

theorem guarded_congr {l : List Oper} {F G : Nat → Option AV} {o : Oper} {b : Bool} (h : ∀ t ∈ looks l o, F t = G t) (hg : Guarded l F o.guard b) : Guarded l G o.guard b := by
  cases hgu : o.guard with
  | none => rw [hgu] at hg; exact hg
  | some p =>
    obtain ⟨j, want⟩ := p
    rw [hgu] at hg
    obtain ⟨s, u, h1, h2, h3⟩ := hg
    refine ⟨s, u, h1, ?_, h3⟩
    rw [← h s (by simp [looks, hgu, h1])]
    exact h2

theorem ev_congr {F G : Nat → Option AV} {x : Operand} {v : AV} (h : ∀ t, x = .tmp t → F t = G t) (hx : EvF F x v) : EvF G x v := by
  cases x with
  | tmp t => obtain ⟨u, h1, h2⟩ := hx; exact ⟨u, by rw [← h t rfl]; exact h1, h2⟩
  | const c => exact hx
  | func f => exact hx
  | global g => exact hx

theorem fpIds_mem : ∀ {fp : Fp} {p : Nat × HObj}, p ∈ fp → p.1 ∈ fpIds fp
  | [], _, h => by cases h
  | (i, o) :: r, p, h => by
    simp only [fpIds, List.mem_cons]
    cases h with
    | head => exact .inl rfl
    | tail _ h => exact .inr (fpIds_mem h)

/-- how many operations have not come up -/
def left (listed : Array Bool) : Nat → Nat
  | 0 => 0
  | n + 1 => left listed n + (if listed.getD n false then 0 else 1)

theorem left_set {listed : Array Bool} {i : Nat} (hi : listed.getD i false = false) (hsz : i < listed.size) : ∀ {n : Nat}, left (listed.setIfInBounds i true) n + (if i < n then 1 else 0) = left listed n
  | 0 => by simp [left]
  | n + 1 => by
    have ih := left_set hi hsz (n := n)
    unfold left
    by_cases h : i = n
    · subst h
      have e : (listed.setIfInBounds i true).getD i false = true := by simp [hsz]
      rw [e, hi]
      simp at ih ⊢
      omega
    · rw [getD_set_ne false h]
      by_cases h2 : i < n
      · have h3 : i < n + 1 := by omega
        simp only [h2, h3, if_true] at ih ⊢; omega
      · have h3 : ¬ i < n + 1 := by omega
        simp only [h2, h3, if_false] at ih ⊢; omega

theorem left_zero {listed : Array Bool} : ∀ {n : Nat}, left listed n = 0 → ∀ i, i < n → listed.getD i false = true
  | 0, _, i, h => by omega
  | n + 1, h, i, hi => by
    unfold left at h
    by_cases he : i = n
    · subst he
      cases hb : listed.getD i false with
      | true => rfl
      | false => rw [hb] at h; simp at h
    · exact left_zero (n := n) (by omega) i (by omega)

theorem walk_any (W : Walk P nt ops.toList F H Γ.n nx sd nxs) (hok : drawOk ops.toList = true) (hb : Bnd F H Γ.n nx) {Q : Exit → Act → World → Prop}
    (hQ : ∀ a w, Core P nt Γ (FrS (dstOf ops.toList) sd F ops.toList.length fun _ => true) (HS sd H ops.toList.length fun _ => true) a w → Q .normal a w) :
    ∀ (fuel : Nat) (listed : Array Bool) (a : Act) (w : World), listed.size = ops.size → Closed ops.toList (fun k => listed.getD k false) → left listed ops.size ≤ fuel →
      Core P nt Γ (FrS (dstOf ops.toList) sd F ops.toList.length fun k => listed.getD k false) (HS sd H ops.toList.length fun k => listed.getD k false) a w →
      wpAny P .any ops Q fuel listed a w := by
  have hall : ∀ (listed : Array Bool) (a : Act) (w : World), left listed ops.size = 0 → Core P nt Γ (FrS (dstOf ops.toList) sd F ops.toList.length fun k => listed.getD k false) (HS sd H ops.toList.length fun k => listed.getD k false) a w → Q .normal a w := by
    intro listed a w h0 hc
    have h1 := left_zero h0
    have e1 : FrS (dstOf ops.toList) sd F ops.toList.length (fun k => listed.getD k false) = FrS (dstOf ops.toList) sd F ops.toList.length fun _ => true := by
      funext t; unfold FrS
      rw [lastBy_congr (q := fun k => true && (dstOf ops.toList k == some t)) fun k hk => by simp only; rw [h1 k (by simpa using hk)]]
    have e2 : HS sd H ops.toList.length (fun k => listed.getD k false) = HS sd H ops.toList.length fun _ => true := by
      funext t; unfold HS
      rw [lastBy_congr (q := fun k => true && memN t (fpIds (sd k).d.us)) fun k hk => by simp only; rw [h1 k (by simpa using hk)]]
    rw [e1, e2] at hc
    exact hQ a w hc
  have hready : ∀ (listed : Array Bool), listed.size = ops.size → Closed ops.toList (fun k => listed.getD k false) → Region.ready .any ops listed = [] → left listed ops.size = 0 := by
    intro listed hsz hcl hr
    -- the least that has not come up would be ready
    have key : ∀ n, n ≤ ops.size → left listed n = 0 := by
      intro n
      induction n with
      | zero => intro _; rfl
      | succ n ih =>
        intro hn
        have h0 := ih (by omega)
        unfold left
        rw [h0]
        cases hl : listed.getD n false with
        | true => simp
        | false =>
          exfalso
          have hlt : n < ops.size := by omega
          have : n ∈ Region.ready .any ops listed := by
            rw [mem_ready]
            refine ⟨by simpa [hsz, hlt] using hl, ops[n], by simp [hlt], fun e he hbd => ?_⟩
            have hm : e.on ∈ afters ops.toList n := afters_mem.2 ⟨ops[n], by simp [hlt], e, he, hbd, rfl⟩
            have := drawOk_back hok (by simpa using hlt) e.on hm
            exact left_zero h0 e.on this
          rw [hr] at this
          cases this
    exact key ops.size (Nat.le_refl _)
  intro fuel
  induction fuel with
  | zero =>
    intro listed a w hsz hcl hle hc
    have h0 : left listed ops.size = 0 := by omega
    refine ⟨?_, hall listed a w h0 hc⟩
    cases hr : Region.ready .any ops listed with
    | nil => rfl
    | cons i r =>
      have hi : i ∈ Region.ready .any ops listed := by rw [hr]; simp
      obtain ⟨h1, o, ho, _⟩ := mem_ready.1 hi
      have hlt : i < ops.size := (Array.getElem?_eq_some_iff.1 ho).1
      have := left_zero h0 i hlt
      simp [hsz, hlt] at h1 this
      rw [h1] at this; cases this
  | succ fuel ih =>
    intro listed a w hsz hcl hle hc
    refine ⟨fun hr => hall listed a w (hready listed hsz hcl hr) hc, fun j hj => ?_⟩
    obtain ⟨hun, o, ho, hdeps⟩ := mem_ready.1 hj
    have hlt : j < ops.size := (Array.getElem?_eq_some_iff.1 ho).1
    have hun' : listed.getD j false = false := by simpa [hsz, hlt] using hun
    have hn : Next ops.toList (fun k => listed.getD k false) j o := ⟨by simpa using ho, hun', fun i hi => by
      obtain ⟨o', ho', e, he, hbd, rfl⟩ := afters_mem.1 hi
      have : o' = o := by
        have : ops[j]? = some o' := by simpa using ho'
        rw [ho] at this; simpa using this.symm
      subst this
      exact hdeps e he hbd⟩
    obtain ⟨w1, w2, w3, w4, w5, w6, w7, w8⟩ := W.step j o (by simpa using ho)
    have hlook : ∀ t ∈ looks ops.toList o, FrS (dstOf ops.toList) sd F ops.toList.length (fun k => decide (k < j)) t = FrS (dstOf ops.toList) sd F ops.toList.length (fun k => listed.getD k false) t := fun t ht => (FS_look hok hcl hn ht).symm
    have hg := guarded_congr hlook w2
    have hwant := wanted_of (o := o) hc hg
    have hS : (fun k => (listed.setIfInBounds j true).getD k false) = fun k => listed.getD k false || decide (k = j) := by
      funext k
      by_cases hkj : j = k
      · subst hkj; simp [hsz, hlt]
      · rw [getD_set_ne false hkj]; simp [Ne.symm hkj]
    have hnext : ∀ a' w', Core P nt Γ (updO (FrS (dstOf ops.toList) sd F ops.toList.length fun k => listed.getD k false) o.dst (sd j).d.v) (updH (HS sd H ops.toList.length fun k => listed.getD k false) (sd j).d.us) a' w' →
        wpAny P .any ops Q fuel (listed.setIfInBounds j true) a' w' := by
      intro a' w' hc'
      refine ih _ a' w' (by simpa using hsz) ⟨fun k hk => ?_, fun k hk i hi => ?_⟩ ?_ ?_
      · have hk : (fun k => (listed.setIfInBounds j true).getD k false) k = true := hk
        rw [hS] at hk
        simp only [Bool.or_eq_true, decide_eq_true_eq] at hk
        rcases hk with hk | rfl
        · exact hcl.lt k hk
        · simpa using hlt
      · have hk : (fun k => (listed.setIfInBounds j true).getD k false) k = true := hk
        show (fun k => (listed.setIfInBounds j true).getD k false) i = true
        rw [hS] at hk ⊢
        simp only [Bool.or_eq_true, decide_eq_true_eq] at hk ⊢
        rcases hk with hk | rfl
        · exact .inl (hcl.down k hk i hi)
        · exact .inl (hn.all i hi)
      · have := left_set (n := ops.size) hun' (by rw [hsz]; exact hlt)
        rw [if_pos hlt] at this
        omega
      · rw [hS, FS_put hok hcl hn, HS_put W hcl hn]
        exact hc'
    unfold wpOp
    simp only [ho, hwant]
    cases hy : (sd j).yes with
    | true =>
      simp only [if_true]
      left
      obtain ⟨h1, h2, h3⟩ := w6 hy
      refine Core.step hc h1 (fun p hp => ev_congr (fun t ht => hlook t ?_) (h2 p hp).1) (fun p hp => ?_) (fun id hid => fresh_any W hb hcl hn hid) w1 hnext
      · have := (h2 p hp).2
        rw [ht] at this
        simp only [looks, List.mem_append]
        exact .inl (tmps_mem.2 this)
      · rw [HS_look W hcl hn (fpIds_mem hp)]
        exact h3 p hp
    | false =>
      simp only [Bool.false_eq_true, if_false]
      have hd := w7 hy
      refine hnext _ _ ?_
      rw [hd]
      exact hc.skip w1

end
end Go.Cpl

namespace Go.Cpl
open Go
section
variable {P : Program} {nt : Nat} {Γ : Cx} {T : Nat → TyI}

def noSD : SD := ⟨false, ⟨[], [], [], [], .undef⟩⟩
def sdOf (ds : List SD) : Nat → SD := fun k => ds.getD k noSD
def nOf (nl : List Nat) : Nat → Nat := fun k => nl.getD k 0

theorem FS_congr {dst : Nat → Option Nat} {sd sd' : Nat → SD} {F : Nat → Option AV} {n : Nat} {S : Nat → Bool} (h : ∀ k, S k = true → sd k = sd' k) : FrS dst sd F n S = FrS dst sd' F n S := by
  funext t; unfold FrS
  split
  · rename_i k hk
    have := lastBy_some hk
    simp only [Bool.and_eq_true] at this
    rw [h k this.1.1]
  · rfl

theorem HS_congr {sd sd' : Nat → SD} {H : HF} {n : Nat} {S : Nat → Bool} (h : ∀ k, S k = true → sd k = sd' k) : HS sd H n S = HS sd' H n S := by
  funext t; unfold HS
  have e : lastBy (fun k => S k && memN t (fpIds (sd k).d.us)) n = lastBy (fun k => S k && memN t (fpIds (sd' k).d.us)) n := by
    refine lastBy_congr fun k _ => ?_
    cases hs : S k with
    | false => simp
    | true => rw [h k hs]
  rw [e]
  split
  · rename_i k hk
    have := lastBy_some hk
    simp only [Bool.and_eq_true] at this
    rw [h k this.1.1]
  · rfl

theorem FS_succ {dst : Nat → Option Nat} {sd : Nat → SD} {F : Nat → Option AV} {n m : Nat} (hm : m < n) : FrS dst sd F n (fun k => decide (k < m + 1)) = updO (FrS dst sd F n fun k => decide (k < m)) (dst m) (sd m).d.v := by
  funext t
  by_cases hd : dst m = some t
  · have e : updO (FrS dst sd F n fun k => decide (k < m)) (dst m) (sd m).d.v t = some (sd m).d.v := by rw [hd]; simp [updO]
    rw [e]; unfold FrS
    rw [lastBy_eq (j := m) (by simp [hd]) hm fun k h1 _ => by simp; omega]
  · have e : updO (FrS dst sd F n fun k => decide (k < m)) (dst m) (sd m).d.v t = FrS dst sd F n (fun k => decide (k < m)) t := by
      cases ho : dst m with
      | none => rfl
      | some d => simp only [updO]; rw [if_neg (fun he => hd (by rw [ho, he]))]
    rw [e]; unfold FrS
    rw [lastBy_congr (q := fun k => decide (k < m) && (dst k == some t)) fun k _ => ?_]
    by_cases hk : k = m
    · subst hk; simp [hd]
    · have : (k < m + 1) = (k < m) := by apply propext; omega
      simp [this]

theorem HS_succ {sd : Nat → SD} {H : HF} {n m : Nat} (hm : m < n) : HS sd H n (fun k => decide (k < m + 1)) = updH (HS sd H n fun k => decide (k < m)) (sd m).d.us := by
  funext id
  by_cases hd : id ∈ fpIds (sd m).d.us
  · rw [updH_mem (H' := H) hd]; unfold HS
    rw [lastBy_eq (j := m) (by simp [memN_iff.2 hd]) hm fun k h1 _ => by simp; omega]
  · rw [updH_not_mem hd]; unfold HS
    have hf : memN id (fpIds (sd m).d.us) = false := by
      cases hm : memN id (fpIds (sd m).d.us) with
      | false => rfl
      | true => exact absurd (memN_iff.1 hm) hd
    rw [lastBy_congr (q := fun k => decide (k < m) && memN id (fpIds (sd k).d.us)) fun k _ => ?_]
    by_cases hk : k = m
    · subst hk; simp [hf]
    · have : (k < m + 1) = (k < m) := by apply propext; omega
      simp [this]

theorem FS_zero {dst : Nat → Option Nat} {sd : Nat → SD} {F : Nat → Option AV} {n : Nat} {S : Nat → Bool} (h : ∀ k, S k = false) : FrS dst sd F n S = F := by
  funext t; unfold FrS
  split
  · rename_i k hk
    have := lastBy_some hk
    simp [h k] at this
  · rfl

theorem HS_zero {sd : Nat → SD} {H : HF} {n : Nat} {S : Nat → Bool} (h : ∀ k, S k = false) : HS sd H n S = H := by
  funext t; unfold HS
  split
  · rename_i k hk
    have := lastBy_some hk
    simp [h k] at this
  · rfl

theorem StepFact.congr {ops : List Oper} {F : Nat → Option AV} {H : HF} {sd sd' : Nat → SD} {nxs nxs' : Nat → Nat} {j : Nat} (h1 : ∀ k, k ≤ j → sd k = sd' k) (h2 : ∀ k, k ≤ j + 1 → nxs k = nxs' k) (h : StepFact P nt ops F H sd nxs j) : StepFact P nt ops F H sd' nxs' j := by
  intro o ho
  have := h o ho
  have e1 : FrS (dstOf ops) sd F ops.length (fun k => decide (k < j)) = FrS (dstOf ops) sd' F ops.length (fun k => decide (k < j)) := FS_congr fun k hk => h1 k (by simp at hk; omega)
  have e2 : HS sd H ops.length (fun k => decide (k < j)) = HS sd' H ops.length (fun k => decide (k < j)) := HS_congr fun k hk => h1 k (by simp at hk; omega)
  rw [e1, e2, h1 j (Nat.le_refl _), h2 j (by omega), h2 (j + 1) (Nat.le_refl _)] at this
  obtain ⟨a1, a2, a3, a4, a5, a6, a7, a8⟩ := this
  exact ⟨a1, a2, a3, a4, a5, a6, a7, fun i hi hc => a8 i hi (by rw [h1 i (by omega)]; exact hc)⟩

theorem clashOk_ok {ops : List Oper} {k : Nat} {m : Mk} : ∀ {l : List Mk} {s : Nat}, clashOk ops k m s l = true → ∀ i a, l[i]? = some a → clash a m = true → behind ops 60 (s + i) k = true
  | [], _, _, _, _, h, _ => by simp at h
  | b :: r, s, h, 0, a, ha, hc => by
    simp at ha; subst ha
    unfold clashOk at h
    rw [hc] at h
    simp only at h
    split at h
    · assumption
    · cases h
  | b :: r, s, h, i + 1, a, ha, hc => by
    have h' : clashOk ops k m (s + 1) r = true := by
      unfold clashOk at h
      split at h
      · split at h
        · exact h
        · cases h
      · exact h
    have := clashOk_ok h' i a (by simpa using ha) hc
    rwa [show s + 1 + i = s + (i + 1) by omega] at this

theorem sdOf_append {ds : List SD} {x : SD} {k : Nat} (h : k < ds.length) : sdOf ds k = sdOf (ds ++ [x]) k := by
  simp [sdOf, List.getElem?_append_left h]
theorem sdOf_last {ds : List SD} {x : SD} : sdOf (ds ++ [x]) ds.length = x := by simp [sdOf]
theorem nOf_append {nl : List Nat} {x : Nat} {k : Nat} (h : k < nl.length) : nOf nl k = nOf (nl ++ [x]) k := by
  simp [nOf, List.getElem?_append_left h]
theorem nOf_last {nl : List Nat} {x : Nat} : nOf (nl ++ [x]) nl.length = x := by simp [nOf]

theorem aops_walk (hT : TabOK P T) {ops : List Oper} {F : Nat → Option AV} {H : HF} {K : Fr → Hp → Nat → Prop} {nx0 : Nat} :
    ∀ (l : List Oper) (pre : List Oper) (ds : List SD) (nl : List Nat) (fr : Fr) (hp : Hp) (nx : Nat), ops = pre ++ l → ds.length = pre.length → nl.length = pre.length + 1 → nOf nl 0 = nx0 → nOf nl pre.length = nx →
      (∀ j, j < pre.length → StepFact P nt ops F H (sdOf ds) (nOf nl) j) →
      Rfn (FrS (dstOf ops) (sdOf ds) F ops.length fun k => decide (k < pre.length)) (lk fr) → hpAt hp = HS (sdOf ds) H ops.length (fun k => decide (k < pre.length)) →
      Bnd (FrS (dstOf ops) (sdOf ds) F ops.length fun k => decide (k < pre.length)) (hpAt hp) Γ.n nx →
      aops P T nt ops true pre.length (ds.map mkOf) l fr hp nx K →
      ∃ ds' nl' fr' hp' nx', Walk P nt ops F H Γ.n nx0 (sdOf ds') (nOf nl') ∧ K fr' hp' nx' ∧ Rfn (FrS (dstOf ops) (sdOf ds') F ops.length fun _ => true) (lk fr') ∧ hpAt hp' = HS (sdOf ds') H ops.length (fun _ => true) ∧
        Bnd (FrS (dstOf ops) (sdOf ds') F ops.length fun _ => true) (hpAt hp') Γ.n nx'
  | [], pre, ds, nl, fr, hp, nx, hops, hds, hnl, hn0, hnx, hst, hr, hh, hb, h => by
    have hpre : pre.length = ops.length := by rw [hops]; simp
    have e1 : FrS (dstOf ops) (sdOf ds) F ops.length (fun k => decide (k < pre.length)) = FrS (dstOf ops) (sdOf ds) F ops.length fun _ => true := by
      funext t; unfold FrS; rw [lastBy_congr (q := fun k => true && (dstOf ops k == some t)) fun k hk => by simp; omega]
    have e2 : HS (sdOf ds) H ops.length (fun k => decide (k < pre.length)) = HS (sdOf ds) H ops.length fun _ => true := by
      funext t; unfold HS; rw [lastBy_congr (q := fun k => true && memN t (fpIds (sdOf ds k).d.us)) fun k hk => by simp; omega]
    rw [e1] at hr hb
    rw [e2] at hh
    refine ⟨ds, nl, fr, hp, nx, ⟨hn0, fun j => ?_⟩, by simpa [aops] using h, hr, hh, hb⟩
    by_cases hj : j < pre.length
    · exact hst j hj
    · intro o ho
      have := (List.getElem?_eq_some_iff.1 ho).1
      omega
  | o :: l, pre, ds, nl, fr, hp, nx, hops, hds, hnl, hn0, hnx, hst, hr, hh, hb, h => by
    have hlt : pre.length < ops.length := by rw [hops]; simp
    have hget : ops[pre.length]? = some o := by rw [hops]; simp
    have hdst : dstOf ops pre.length = o.dst := by rw [dstOf_get, hget]; rfl
    obtain ⟨dst, op, ty, ps, aft, guard⟩ := o
    rw [aops] at h
    obtain ⟨fr', b, hr', hg, h⟩ := guard_ok hr h
    have hnext : ops = (pre ++ [⟨dst, op, ty, ps, aft, guard⟩]) ++ l := by rw [hops]; simp
    have hlen : (pre ++ [(⟨dst, op, ty, ps, aft, guard⟩ : Oper)]).length = pre.length + 1 := by simp
    -- one more operation
    have go : ∀ (x : SD) (nx' : Nat) (fr2 : Fr) (hp2 : Hp), lk fr2 = updO (lk fr') dst x.d.v → hp2 = x.d.us ++ hp → nx ≤ nx' → bndL nx' x.d.v.ids = true → bndU nx' x.d.us = true → (∀ t, dst = some t → t < nt) →
        x.yes = b → (∀ id ∈ x.d.nw, nx ≤ id ∧ id < nx') → (x.yes = true → OpHolds P ⟨dst, op, ty, ps, aft, guard⟩ x.d ∧ (∀ p ∈ x.d.ins, EvOK fr' p.1 p.2 ∧ p.1 ∈ op.operands.toList) ∧ ∀ p ∈ x.d.rd, hpAt hp p.1 = p.2) →
        (x.yes = false → x.d = ⟨[], [], [], [], .undef⟩) → (∀ i, i < pre.length → clash (mkOf (sdOf ds i)) (mkOf x) = true → behind ops 60 i pre.length = true) →
        aops P T nt ops true (pre.length + 1) (ds.map mkOf ++ [mkOf x]) l fr2 hp2 nx' K →
        ∃ ds' nl' fr' hp' nx', Walk P nt ops F H Γ.n nx0 (sdOf ds') (nOf nl') ∧ K fr' hp' nx' ∧ Rfn (FrS (dstOf ops) (sdOf ds') F ops.length fun _ => true) (lk fr') ∧ hpAt hp' = HS (sdOf ds') H ops.length (fun _ => true) ∧
          Bnd (FrS (dstOf ops) (sdOf ds') F ops.length fun _ => true) (hpAt hp') Γ.n nx' := by
      intro x nx' fr2 hp2 hfr2 hhp2 hle hbv hbu hdt hy hnw hyes hno hcl hk
      have hsame : ∀ k, k < pre.length → sdOf ds k = sdOf (ds ++ [x]) k := fun k hk => sdOf_append (by omega)
      have hlast : sdOf (ds ++ [x]) pre.length = x := by rw [← hds]; exact sdOf_last
      have hnsame : ∀ k, k ≤ pre.length → nOf nl k = nOf (nl ++ [nx']) k := fun k hk => nOf_append (by omega)
      have hnlast : nOf (nl ++ [nx']) (pre.length + 1) = nx' := by rw [← hnl]; exact nOf_last
      have eF : FrS (dstOf ops) (sdOf (ds ++ [x])) F ops.length (fun k => decide (k < pre.length)) = FrS (dstOf ops) (sdOf ds) F ops.length (fun k => decide (k < pre.length)) := FS_congr fun k hk => (hsame k (by simpa using hk)).symm
      have eH : HS (sdOf (ds ++ [x])) H ops.length (fun k => decide (k < pre.length)) = HS (sdOf ds) H ops.length (fun k => decide (k < pre.length)) := HS_congr fun k hk => (hsame k (by simpa using hk)).symm
      have eF1 := FS_succ (dst := dstOf ops) (sd := sdOf (ds ++ [x])) (F := F) hlt
      have eH1 := HS_succ (sd := sdOf (ds ++ [x])) (H := H) hlt
      rw [eF, hdst, hlast] at eF1
      rw [eH, hlast, ← hh] at eH1
      have hhp : hpAt hp2 = updH (hpAt hp) x.d.us := by rw [hhp2, hpAt_upds]
      refine aops_walk hT l (pre ++ [⟨dst, op, ty, ps, aft, guard⟩]) (ds ++ [x]) (nl ++ [nx']) fr2 hp2 nx' hnext (by simp [hds]) (by simp [hnl]) ?_ (by rw [hlen]; exact hnlast) ?_ ?_ ?_ ?_ (by rw [hlen]; simpa using hk)
      · rw [← hnsame 0 (Nat.zero_le _)]; exact hn0
      · intro j hj
        rw [hlen] at hj
        by_cases hj2 : j < pre.length
        · exact (hst j hj2).congr (fun k hk => hsame k (by omega)) (fun k hk => hnsame k (by omega))
        · have : j = pre.length := by omega
          subst this
          intro o ho
          rw [hget] at ho
          simp at ho; subst ho
          rw [hlast, hnlast, ← hnsame _ (Nat.le_refl _), hnx, eF, eH]
          refine ⟨hdt, by rw [hy]; exact hg, hle, hnw, fun id hid => ?_, fun hyy => ?_, hno, fun i hi hc => hcl i hi (by rw [hsame i hi]; exact hc)⟩
          · simp only [List.mem_append] at hid
            rcases hid with hid | hid | hid
            · exact bndL_ok hbv id hid
            · have : ∀ {us : Fp}, bndU nx' us = true → ∀ id ∈ usIds us, id < nx' := by
                intro us
                induction us with
                | nil => intro _ id h; simp [usIds] at h
                | cons p r ih =>
                  intro hbu id hid
                  have h1 := bndU_ok hbu p (by simp)
                  simp only [usIds, List.mem_append] at hid
                  rcases hid with hid | hid
                  · exact h1.2 id hid
                  · refine ih ?_ id hid
                    unfold bndU at hbu
                    split at hbu
                    · split at hbu
                      · exact hbu
                      · cases hbu
                    · cases hbu
              exact this hbu id hid
            · have : ∀ {us : Fp}, bndU nx' us = true → ∀ id ∈ fpIds us, id < nx' := by
                intro us
                induction us with
                | nil => intro _ id h; simp [fpIds] at h
                | cons p r ih =>
                  intro hbu id hid
                  have h1 := bndU_ok hbu p (by simp)
                  simp only [fpIds, List.mem_cons] at hid
                  rcases hid with rfl | hid
                  · exact h1.1
                  · refine ih ?_ id hid
                    unfold bndU at hbu
                    split at hbu
                    · split at hbu
                      · exact hbu
                      · cases hbu
                    · cases hbu
              exact this hbu id hid
          · obtain ⟨g1, g2, g3⟩ := hyes hyy
            exact ⟨g1, fun p hp => ⟨hr'.ev (g2 p hp).1, (g2 p hp).2⟩, fun p hp => by rw [← hh]; exact g3 p hp⟩
      · rw [hlen, eF1, hfr2]; exact hr'.upd dst _
      · rw [hlen, eH1, hhp]
      · rw [hlen, eF1, hhp]; exact hb.step hle hbv hbu dst
    cases b with
    | true =>
      simp only [if_true] at h
      simp only [aopX] at h
      obtain ⟨d, nx', hins, hrd, hd, hnw, hle, h⟩ := aop4_sound hT h
      split at h
      · rename_i hb1 hb2
        obtain ⟨hdt, fr2, hfr2, h⟩ := putDst_ok h
        replace h := upds_ok h
        · split at h
          · rename_i hcl
            refine go ⟨true, d⟩ nx' fr2 _ hfr2 rfl hle hb1 hb2 hdt rfl hnw (fun _ => ⟨hd _ rfl, hins, hrd⟩) (fun hn => by cases hn) (fun i hi hc => ?_) (app_ok h)
            have := clashOk_ok hcl i (mkOf (sdOf ds i)) (by simp [sdOf, hds, hi]) hc
            simpa using this
          · exact h.elim
      · exact h.elim
    | false =>
      simp only [Bool.false_eq_true, if_false] at h
      obtain ⟨hdt, fr2, hfr2, h⟩ := putDst_ok h
      · refine go noSD nx fr2 hp hfr2 rfl (Nat.le_refl _) rfl rfl hdt rfl (by simp [noSD]) (fun hn => by cases hn) (fun _ => rfl) (fun i hi hc => ?_) (app_ok h)
        exfalso
        simp [clash, mkOf, noSD, fpIds, usIds, AV.ids, meets] at hc
        have hm : ∀ l : List Nat, meets l [] = false := fun l => by
          induction l with
          | nil => rfl
          | cons x r ih => simp [meets, memN, ih]
        simp [hm] at hc

/-- A REGION THAT DRAWS: the lexical walk serves every order. -/
theorem region_draw (hT : TabOK P T) (hm : P.follows .mixedOrders = true) {id : Nat} {ops : Array Oper} (hok : drawOk ops.toList = true) {Q : Exit → Act → World → Prop} {K : Fr → Hp → Nat → Prop} {fr : Fr} {hp : Hp} {nx : Nat} {a : Act} {w : World}
    (hK : ∀ fr hp nx a w, K fr hp nx → Sat P nt Γ fr hp nx a w → Q .normal a w) (h : aops P T nt ops.toList true 0 [] ops.toList fr hp nx K) (hs : Sat P nt Γ fr hp nx a w) : (Code.region id ops true).wp P Q a w := by
  have e0 : FrS (dstOf ops.toList) (sdOf []) (lk fr) ops.toList.length (fun k => decide (k < 0)) = lk fr := FS_zero fun k => by simp
  have e1 : HS (sdOf []) (hpAt hp) ops.toList.length (fun k => decide (k < 0)) = hpAt hp := HS_zero fun k => by simp
  obtain ⟨ds, nl, fr', hp', nx', W, hk, hr, hh, hb⟩ := aops_walk (Γ := Γ) (F := lk fr) (H := hpAt hp) (nx0 := nx) hT ops.toList [] [] [nx] fr hp nx (by simp) rfl rfl rfl rfl (by simp) (by simp only [List.length_nil]; rw [e0]; exact Rfn.refl _) (by simp only [List.length_nil]; rw [e1]) (by simp only [List.length_nil]; rw [e0]; exact hs.1) h
  refine wp_region_any hm (walk_any W hok hs.1 (fun a w hc => hK fr' hp' nx' a w hk ⟨hr.bnd hb, ?_⟩) ops.size (Array.replicate ops.size false) a _ (by simp) ⟨fun j hj => ?_, fun j hj => ?_⟩ ?_ ?_)
  · rw [hh]; exact hr.core hc
  · simp [Array.getElem?_replicate] at hj
    split at hj <;> simp at hj
  · simp [Array.getElem?_replicate] at hj
    split at hj <;> simp at hj
  · have : ∀ n, left (Array.replicate ops.size false) n ≤ n := fun n => by
      induction n with
      | zero => simp [left]
      | succ n ih => unfold left; split <;> omega
    exact this ops.size
  · have hz : ∀ k, (Array.replicate ops.size false).getD k false = false := fun k => by
      simp [Array.getElem?_replicate]
      split <;> simp
    rw [FS_zero hz, HS_zero hz]
    exact hs.2.drew

end
end Go.Cpl

namespace Go.Cpl
open Go
section
variable {P : Program} {T : Nat → TyI}

/-- the model's exits, as the evaluator has them -/
def exOf : Exit → Option Ex
  | .normal => some .normal
  | .exit id => some (.exit id)
  | .ret => some .ret
  | _ => none

def Post (P : Program) (nt : Nat) (Γ : Cx) (Q : Ex → Fr → Hp → Nat → Prop) : Exit → Act → World → Prop := fun e a w =>
  ∃ e' fr hp nx, exOf e = some e' ∧ Q e' fr hp nx ∧ Sat P nt Γ fr hp nx a w

/-- THE CODE, from every state of this form, comes to Q. -/
structure AWp (P : Program) (nt n : Nat) (c : Code) (fr : Fr) (hp : Hp) (nx : Nat) (Q : Ex → Fr → Hp → Nat → Prop) : Prop where
  out : ∀ (Γ : Cx) (a : Act) (w : World), Γ.n = n → Sat P nt Γ fr hp nx a w → c.wp P (Post P nt Γ Q) a w

def awp (P : Program) (T : Nat → TyI) (nt n : Nat) : Code → Fr → Hp → Nat → (Ex → Fr → Hp → Nat → Prop) → Prop
  | .skip, fr, hp, nx, Q => Q .normal fr hp nx
  | .seq a b, fr, hp, nx, Q => awp P T nt n a fr hp nx fun e fr hp nx => match e with
    | .normal => awp P T nt n b fr hp nx Q
    | .exit id => Q (.exit id) fr hp nx
    | .ret => Q .ret fr hp nx
  | .region _ ops draw, fr, hp, nx, Q => match draw with
    | false => aops P T nt ops.toList false 0 [] ops.toList fr hp nx fun fr hp nx => Q .normal fr hp nx
    | true => drawOk ops.toList = true ∧ aops P T nt ops.toList true 0 [] ops.toList fr hp nx fun fr hp nx => Q .normal fr hp nx
  | .cond c a b, fr, hp, nx, Q => evK fr c fun v => match v with
    | .c .tt => awp P T nt n a fr hp nx Q
    | .c .ff => awp P T nt n b fr hp nx Q
    | .c (.d (.bool x)) => (x = true → awp P T nt n a fr hp nx Q) ∧ (x = false → awp P T nt n b fr hp nx Q)
    | _ => False
  | .block id b, fr, hp, nx, Q => awp P T nt n b fr hp nx fun e fr hp nx => match e with
    | .normal => Q .normal fr hp nx
    | .exit id' => match Nat.beq id id' with
      | true => Q .normal fr hp nx
      | false => Q (.exit id') fr hp nx
    | .ret => Q .ret fr hp nx
  | .exit id, fr, hp, nx, Q => Q (.exit id) fr hp nx
  | .ret, fr, hp, nx, Q => Q .ret fr hp nx
  | .loop b, fr, hp, nx, Q => AWp P nt n (.loop b) fr hp nx Q
  | _, _, _, _, _ => False

theorem post_mono {nt : Nat} {Γ : Cx} {Q Q' : Ex → Fr → Hp → Nat → Prop} (h : ∀ e fr hp nx, Q e fr hp nx → Q' e fr hp nx) {e : Exit} {a : Act} {w : World} (hp : Post P nt Γ Q e a w) : Post P nt Γ Q' e a w := by
  obtain ⟨e', fr, hp, nx, h1, h2, h3⟩ := hp
  exact ⟨e', fr, hp, nx, h1, h _ _ _ _ h2, h3⟩

theorem awp_sound (hT : TabOK P T) (hm : P.follows .mixedOrders = true) (nt n : Nat) : ∀ (c : Code) {fr : Fr} {hp : Hp} {nx : Nat} {Q : Ex → Fr → Hp → Nat → Prop}, awp P T nt n c fr hp nx Q → AWp P nt n c fr hp nx Q := by
  intro c
  induction c with
  | skip => intro fr hp nx Q h; refine ⟨fun Γ a w hn hs => ?_⟩; exact wp_skip ⟨.normal, fr, hp, nx, rfl, h, hs⟩
  | seq x y ihx ihy =>
    intro fr hp nx Q h
    refine ⟨fun Γ a w hn hs => ?_⟩
    rw [awp] at h
    refine wp_seq (wp_mono ((ihx h).out Γ a w hn hs) ?_)
    rintro e a' w' ⟨e', fr', hp', nx', h1, h2, h3⟩
    cases e <;> simp only [exOf, Option.some.injEq] at h1
    case normal => subst h1; exact (ihy h2).out Γ a' w' hn h3
    case exit id => subst h1; exact ⟨.exit id, fr', hp', nx', rfl, h2, h3⟩
    case ret => subst h1; exact ⟨.ret, fr', hp', nx', rfl, h2, h3⟩
    all_goals cases h1
  | region id ops draw =>
    intro fr hp nx Q h
    refine ⟨fun Γ a w hn hs => ?_⟩
    unfold awp at h
    have hK : ∀ fr hp nx a w, Q .normal fr hp nx → Sat P nt Γ fr hp nx a w → Post P nt Γ Q .normal a w := fun fr hp nx a w hq hs => ⟨.normal, fr, hp, nx, rfl, hq, hs⟩
    cases draw with
    | false =>
      refine wp_region ?_
      have := aops_lex (Γ := Γ) hT hK ops.toList [] 0 [] fr hp nx a w (by simp) h hs
      rw [List.range_eq_range']
      simpa using this
    | true => exact region_draw hT hm h.1 hK h.2 hs
  | cond c x y ihx ihy =>
    intro fr hp nx Q h
    refine ⟨fun Γ a w hn hs => ?_⟩
    rw [awp] at h
    obtain ⟨v, hv, h⟩ := ev_ok h
    obtain ⟨_, _, M, τ, new, _, _, hf⟩ := hs.2
    have hrep : AVRep M τ (hpAt hp) v (a.eval c) := ((Rfn.refl (lk fr)).ev hv).rep hf
    split at h
    · exact wp_cond_true hrep ((ihx h).out Γ a w hn hs)
    · exact wp_cond_false hrep ((ihy h).out Γ a w hn hs)
    · rename_i b
      exact wp_cond_split (rep_bool hrep) (fun hb => (ihx (h.1 hb)).out Γ a w hn hs) (fun hb => (ihy (h.2 hb)).out Γ a w hn hs)
    · exact h.elim
  | block id b ih =>
    intro fr hp nx Q h
    refine ⟨fun Γ a w hn hs => ?_⟩
    rw [awp] at h
    refine wp_block (wp_mono ((ih h).out Γ a w hn hs) ?_)
    rintro e a' w' ⟨e', fr', hp', nx', h1, h2, h3⟩
    cases e <;> simp only [exOf, Option.some.injEq] at h1
    case normal => subst h1; exact ⟨.normal, fr', hp', nx', rfl, h2, h3⟩
    case exit id' =>
      subst h1
      simp only at h2
      simp only [Exit.inBlock]
      split at h2
      · rename_i hb
        rw [if_pos (Nat.eq_of_beq_eq_true hb).symm]
        exact ⟨.normal, fr', hp', nx', rfl, h2, h3⟩
      · rename_i hb
        rw [if_neg (Ne.symm (Nat.ne_of_beq_eq_false hb))]
        exact ⟨.exit id', fr', hp', nx', rfl, h2, h3⟩
    case ret => subst h1; exact ⟨.ret, fr', hp', nx', rfl, h2, h3⟩
    all_goals cases h1
  | loop b ih => intro fr hp nx Q h; rw [awp] at h; exact h
  | exit id => intro fr hp nx Q h; refine ⟨fun Γ a w hn hs => ?_⟩; exact wp_exit ⟨.exit id, fr, hp, nx, rfl, h, hs⟩
  | ret => intro fr hp nx Q h; refine ⟨fun Γ a w hn hs => ?_⟩; exact wp_ret ⟨.ret, fr, hp, nx, rfl, h, hs⟩
  | rangeFunc => intro fr hp nx Q h; simp [awp] at h
  | scope => intro fr hp nx Q h; simp [awp] at h
  | label => intro fr hp nx Q h; simp [awp] at h
  | goto => intro fr hp nx Q h; simp [awp] at h
  | refuse => intro fr hp nx Q h; simp [awp] at h

/-! ### one state seen as another one: at a loop's head, at a return -/

def eqD : D → D → Prop
  | .int k n, .int k' n' => k = k' ∧ n = n'
  | .bool b, .bool b' => b = b'
  | .sl r, .sl r' => r = r'
  | .nilp, .nilp => True
  | .nilm, .nilm => True
  | .str a, .str b => a = b
  | _, _ => False

theorem eqD_eq {x y : D} (h : eqD x y) : x = y := by
  cases x <;> cases y <;> simp_all [eqD]

/-- the names of the new state: each an old one's, or that of a slice that is nil -/
abbrev Ren := List (Nat × Option Nat)

def renIs (ρ : Ren) (k : Nat) (id : Nat) : Bool := match lk ρ k with
  | some (some j) => Nat.beq j id
  | _ => false

def renNil (ρ : Ren) (k : Nat) : Bool := match lk ρ k with
  | some none => true
  | _ => false

def renIds : Ren → List Nat
  | [] => []
  | (_, some id) :: r => id :: renIds r
  | (_, none) :: r => renIds r

/-- the new state's cell (first) from the old one's; fz: what an owned slice holds may be taken for immutable data -/
def mtC (fz : Bool) (ρ : Ren) (hp : Hp) (x y : AC) : Prop := match x, y with
  | .d a, .d b => eqD a b
  | .d a, .tt => eqD a (.bool true)
  | .d a, .ff => eqD a (.bool false)
  | .d a, .ns => eqD a (.sl [])
  | .d a, .gs id => match fz, memN id (renIds ρ) with
    | true, false => match hpAt hp id with
      | .arr _ rows => eqD a (.sl rows)
      | .brr _ rows => eqD a (.sl rows)
      | _ => False
    | _, _ => False
  | .d a, .gv id lo n => match fz, memN id (renIds ρ) with
    | true, false => match hpAt hp id with
      | .arr _ rows => eqD a (.sl ((rows.drop lo).take n))
      | _ => False
    | _, _ => False
  | .tt, .tt => True
  | .ff, .ff => True
  | .ns, .ns => True
  | .gs k, .gs id => renIs ρ k id = true
  | .gs k, .ns => renNil ρ k = true
  | .gv k lo n, .gv id lo' n' => renIs ρ k id = true ∧ lo = lo' ∧ n = n'
  | .gv k lo n, .gs id => renIs ρ k id = true ∧ lo = 0 ∧ (match hpAt hp id with
    | .arr _ rows => n = rows.length
    | _ => False)
  | .mp k, .mp id => renIs ρ k id = true
  | .ptr k r c, .ptr id r' c' => renIs ρ k id = true ∧ r = r' ∧ c = c'
  | .rp a, .rp b => a = b
  | .tt, .d b => eqD (.bool true) b
  | .ff, .d b => eqD (.bool false) b
  | _, _ => False

def mtCs (fz : Bool) (ρ : Ren) (hp : Hp) : List AC → List AC → Prop
  | [], [] => True
  | x :: xs, y :: ys => mtC fz ρ hp x y ∧ mtCs fz ρ hp xs ys
  | _, _ => False

def mtT (fz : Bool) (ρ : Ren) (hp : Hp) : List (AC ⊕ List AC) → List (AC ⊕ List AC) → Prop
  | [], [] => True
  | .inl x :: xs, .inl y :: ys => mtC fz ρ hp x y ∧ mtT fz ρ hp xs ys
  | .inr x :: xs, .inr y :: ys => mtCs fz ρ hp x y ∧ mtT fz ρ hp xs ys
  | _, _ => False

def mtV (fz : Bool) (ρ : Ren) (hp : Hp) (x y : AV) : Prop := match x, y with
  | .c x, .c y => mtC fz ρ hp x y
  | .agg xs, .agg ys => mtCs fz ρ hp xs ys
  | .tup xs, .tup ys => mtT fz ρ hp xs ys
  | .fn f xs, .fn g ys => f = g ∧ mtCs fz ρ hp xs ys
  | .undef, .undef => True
  | .top, _ => True
  | _, _ => False

def mtFr (ρ : Ren) (hp : Hp) : Fr → Fr → Prop
  | [], _ => True
  | (t, x) :: r, fr => (match lk fr t with
    | some y => mtV false ρ hp x y
    | none => False) ∧ mtFr ρ hp r fr

def mtO (fz : Bool) (ρ : Ren) (hp : Hp) (x y : HObj) : Prop := match x, y with
  | .gone, _ => True
  | .box xs, .box ys => mtCs fz ρ hp xs ys
  | .arr e r, .arr e' r' => e = e' ∧ r = r'
  | .brr e r, .brr e' r' => e = e' ∧ r = r'
  | .mp a b c, .mp a' b' c' => a = a' ∧ b = b' ∧ c = c'
  | _, _ => False

/-- each object of the new state is one of the old ones, or a nil slice -/
def mtHp (fz : Bool) (ρ : Ren) (hp : Hp) : Hp → Prop
  | [] => True
  | (k, x) :: r => (match lk ρ k with
    | some (some id) => mtO fz ρ hp x (hpAt hp id)
    | some none => (match x with
      | .arr _ rows => rows = []
      | .brr _ rows => rows = []
      | _ => False)
    | none => False) ∧ mtHp fz ρ hp r

def bndFr (nx : Nat) : Fr → Bool
  | [] => true
  | (_, v) :: r => match bndL nx v.ids with
    | true => bndFr nx r
    | false => false

/-- objects that came in keep their names -/
def keepB (n : Nat) (ρ : Ren) : Hp → Bool
  | [] => true
  | (k, _) :: r => match Nat.blt k n with
    | true => match renIs ρ k k with
      | true => keepB n ρ r
      | false => false
    | false => keepB n ρ r

structure St where
  fr : Fr
  hp : Hp
  nx : Nat

/-- the new state is well formed -/
def wfSt (n : Nat) (ρ : Ren) (s : St) : Bool := bndFr s.nx s.fr && bndU s.nx s.hp && nodupB (renIds ρ) && keepB n ρ s.hp && Nat.ble n s.nx

/-- the old state (fr, hp) is of the new form s -/
def Match (ρ : Ren) (s : St) (n : Nat) (fr : Fr) (hp : Hp) : Prop := wfSt n ρ s = true ∧ mtFr ρ hp s.fr fr ∧ mtHp false ρ hp s.hp

end
end Go.Cpl

namespace Go.Cpl
open Go
section
variable {P : Program} {T : Nat → TyI}

open Classical in
/-- immutable memory, what some owned slices hold added -/
noncomputable def memFz (M : Mem) (τ : Tau) (H : HF) (w : World) (Z : Nat → Prop) : Mem := fun b => if ∃ id, Z id ∧ blkOf τ H id = some b then w.heap[b]? else M b

theorem memFz_none (M : Mem) (τ : Tau) (H : HF) (w : World) : memFz M τ H w (fun _ => False) = M := by
  funext b; simp [memFz]

theorem memFz_mono {M : Mem} {τ : Tau} {H : HF} {w : World} {Z : Nat → Prop} (h : Inv P M τ H w) : ∀ b o, M b = some o → memFz M τ H w Z b = some o := fun b o hb => by
  unfold memFz
  split
  · exact h.mem b o hb
  · exact hb

theorem fz_rep {M : Mem} {τ : Tau} {H : HF} {w : World} {Z : Nat → Prop} (hinv : Inv P M τ H w) {id : Nat} {e : TypeId} {rows : List (List D)} (hz : Z id) (hH : H id = .arr e rows) {v : Value} (hv : ACRep M τ H (.gs id) v) :
    DRep (memFz M τ H w Z) (.sl rows) v := by
  have h := bor_rep (bor := [(id, .arr e rows)]) hinv (by simp) hH hv
  refine DRep.mono (fun b o hb => ?_) h
  unfold memWith at hb
  split at hb
  · rename_i ha
    unfold memFz
    rw [if_pos ⟨id, hz, by simpa using ha⟩]
    exact hb
  · exact memFz_mono hinv b o hb

theorem fz_repv {M : Mem} {τ : Tau} {H : HF} {w : World} {Z : Nat → Prop} (hinv : Inv P M τ H w) {id lo n : Nat} {e : TypeId} {rows : List (List D)} (hz : Z id) (hH : H id = .arr e rows) {v : Value} (hv : ACRep M τ H (.gv id lo n) v) :
    DRep (memFz M τ H w Z) (.sl ((rows.drop lo).take n)) v := by
  have h := borv_rep (bor := [(id, .arr e rows)]) hinv (by simp) hH hv
  refine DRep.mono (fun b o hb => ?_) h
  unfold memWith at hb
  split at hb
  · rename_i ha
    unfold memFz
    rw [if_pos ⟨id, hz, by simpa using ha⟩]
    exact hb
  · exact memFz_mono hinv b o hb

theorem fz_repb {M : Mem} {τ : Tau} {H : HF} {w : World} {Z : Nat → Prop} (hinv : Inv P M τ H w) {id : Nat} {e : TypeId} {rows : List (List D)} (hz : Z id) (hH : H id = .brr e rows) {v : Value} (hv : ACRep M τ H (.gs id) v) :
    DRep (memFz M τ H w Z) (.sl rows) v := by
  have hMw : ∀ b o, M b = some o → memWith M τ H w [(id, .brr e rows)] b = some o := fun b o hb => by
    unfold memWith
    split
    · exact hinv.mem b o hb
    · exact hb
  have h := borb_rep (bor := [(id, .brr e rows)]) hinv hMw (by simp) hH hv
  refine DRep.mono (fun b o hb => ?_) h
  unfold memWith at hb
  split at hb
  · rename_i ha
    unfold memFz
    rw [if_pos ⟨id, hz, by simpa using ha⟩]
    exact hb
  · exact memFz_mono hinv b o hb

def tauOf (P : Program) (τ : Tau) (ρ : Ren) (H' : HF) : Tau := fun k => match lk ρ k with
  | some (some id) => τ id
  | some none => match H' k with
    | .arr e _ => ⟨0, 0, P.cellsOf e, true⟩
    | .brr e _ => ⟨0, 0, P.cellsOf e, true⟩
    | _ => ⟨0, 0, 0, true⟩
  | none => τ k

theorem renIs_ok {ρ : Ren} {k id : Nat} (h : renIs ρ k id = true) : lk ρ k = some (some id) := by
  unfold renIs at h
  split at h
  · rename_i j hj; rw [hj, Nat.eq_of_beq_eq_true h]
  · cases h

theorem renNil_ok {ρ : Ren} {k : Nat} (h : renNil ρ k = true) : lk ρ k = some none := by
  unfold renNil at h
  split at h
  · assumption
  · cases h

theorem lk_mem {α : Type} : ∀ {l : List (Nat × α)} {k : Nat} {x : α}, lk l k = some x → (k, x) ∈ l
  | [], _, _, h => by simp [lk] at h
  | (i, y) :: r, k, x, h => by
    rw [lk_cons] at h
    split at h
    · rename_i he; simp at h; subst he h; simp
    · simp [lk_mem h]

theorem renIds_mem : ∀ {ρ : Ren} {k id : Nat}, (k, some id) ∈ ρ → id ∈ renIds ρ
  | (j, some i) :: r, k, id, h => by
    simp only [renIds, List.mem_cons]
    cases h with
    | head => exact .inl rfl
    | tail _ h => exact .inr (renIds_mem h)
  | (j, none) :: r, k, id, h => by
    cases h with
    | tail _ h => exact renIds_mem (ρ := r) h

theorem ren_inj : ∀ {ρ : Ren} {k k' id : Nat}, (renIds ρ).Nodup → lk ρ k = some (some id) → lk ρ k' = some (some id) → k = k'
  | [], _, _, _, _, h, _ => by simp [lk] at h
  | (j, x) :: r, k, k', id, hn, h, h' => by
    rw [lk_cons] at h h'
    have hnr : (renIds r).Nodup := by
      cases x with
      | none => exact hn
      | some i => exact (List.nodup_cons.1 hn).2
    split at h
    · rename_i he
      simp at h; subst h
      split at h'
      · rename_i he'; omega
      · exact absurd (renIds_mem (lk_mem h')) (List.nodup_cons.1 hn).1
    · split at h'
      · simp at h'; subst h'
        exact absurd (renIds_mem (lk_mem h)) (List.nodup_cons.1 hn).1
      · exact ren_inj hnr h h'

theorem mtHp_at {fz : Bool} {ρ : Ren} {hp : Hp} : ∀ {h : Hp} {k : Nat} {x : HObj}, mtHp fz ρ hp h → (k, x) ∈ h → (∃ id, lk ρ k = some (some id) ∧ mtO fz ρ hp x (hpAt hp id)) ∨ (lk ρ k = some none ∧ ∃ e, x = .arr e [] ∨ x = .brr e [])
  | (j, y) :: r, k, x, h, hm => by
    cases hm with
    | head =>
      have h1 := h.1
      split at h1
      · rename_i id hid; exact .inl ⟨id, hid, h1⟩
      · rename_i hid
        split at h1
        · subst h1; exact .inr ⟨hid, _, .inl rfl⟩
        · subst h1; exact .inr ⟨hid, _, .inr rfl⟩
        · exact h1.elim
      · exact h1.elim
    | tail _ hm => exact mtHp_at h.2 hm

/-- what the new objects are -/
def HpRel (fz : Bool) (ρ : Ren) (hp : Hp) (H' : HF) : Prop := ∀ k, H' k ≠ .gone → (∃ id, lk ρ k = some (some id) ∧ mtO fz ρ hp (H' k) (hpAt hp id)) ∨ (lk ρ k = some none ∧ ∃ e, H' k = .arr e [] ∨ H' k = .brr e [])

theorem hpRel_of {fz : Bool} {ρ : Ren} {hp h : Hp} (hm : mtHp fz ρ hp h) : HpRel fz ρ hp (hpAt h) := fun k hk => by
  unfold hpAt at hk ⊢
  split at hk
  · rename_i o ho; exact mtHp_at hm (lk_mem ho)
  · exact absurd rfl hk

theorem mtC_rep {fz : Bool} {ρ : Ren} {hp : Hp} {H' : HF} (hrel : HpRel fz ρ hp H') {M : Mem} {τ : Tau} {w : World} (hinv : Inv P M τ (hpAt hp) w) {Z : Nat → Prop} (hZ : fz = true → ∀ id, id ∉ renIds ρ → Z id)
    {x y : AC} (h : mtC fz ρ hp x y) {v : Value} (hv : ACRep M τ (hpAt hp) y v) : ACRep (memFz M τ (hpAt hp) w Z) (tauOf P τ ρ H') H' x v := by
  have hone := ACRep.one hv
  have hM := memFz_mono (Z := Z) hinv
  cases x with
  | d a =>
    cases y with
    | d b => simp only [mtC] at h; rw [eqD_eq h]; exact DRep.mono hM hv
    | tt => simp only [mtC] at h; rw [eqD_eq h]; have hv : v = _ := hv; subst hv; exact DRep.scal (.bool true) rfl
    | ff => simp only [mtC] at h; rw [eqD_eq h]; have hv : v = _ := hv; subst hv; exact DRep.scal (.bool false) rfl
    | ns => simp only [mtC] at h; rw [eqD_eq h]; have hv : v = _ := hv; subst hv; exact .sl0 _ _
    | gs id =>
      simp only [mtC] at h
      split at h
      · rename_i hmem
        split at h
        · rename_i e rows hH
          rw [eqD_eq h]
          refine fz_rep hinv (hZ rfl id fun hm => ?_) hH hv
          rw [memN_iff.2 hm] at hmem; cases hmem
        · rename_i e rows hH
          rw [eqD_eq h]
          refine fz_repb hinv (hZ rfl id fun hm => ?_) hH hv
          rw [memN_iff.2 hm] at hmem; cases hmem
        · exact h.elim
      · exact h.elim
    | gv id lo n =>
      simp only [mtC] at h
      split at h
      · rename_i hmem
        split at h
        · rename_i e rows hH
          rw [eqD_eq h]
          refine fz_repv hinv (hZ rfl id fun hm => ?_) hH hv
          rw [memN_iff.2 hm] at hmem; cases hmem
        · exact h.elim
      · exact h.elim
    | ptr => exact h.elim
    | rp => exact h.elim
    | mp => exact h.elim
  | tt =>
    cases y with
    | tt => exact hv
    | d b => simp only [mtC] at h; have := eqD_eq h; subst this; exact rep_bool (M := M) (τ := τ) (H := hpAt hp) hv
    | ff => exact h.elim
    | ns => exact h.elim
    | gs => exact h.elim
    | ptr => exact h.elim
    | rp => exact h.elim
    | gv => exact h.elim
    | mp => exact h.elim
  | ff =>
    cases y with
    | ff => exact hv
    | d b => simp only [mtC] at h; have := eqD_eq h; subst this; exact rep_bool (M := M) (τ := τ) (H := hpAt hp) hv
    | tt => exact h.elim
    | ns => exact h.elim
    | gs => exact h.elim
    | ptr => exact h.elim
    | rp => exact h.elim
    | gv => exact h.elim
    | mp => exact h.elim
  | ns =>
    cases y with
    | ns => exact hv
    | d => exact h.elim
    | ff => exact h.elim
    | tt => exact h.elim
    | gs => exact h.elim
    | ptr => exact h.elim
    | rp => exact h.elim
    | gv => exact h.elim
    | mp => exact h.elim
  | gs k =>
    cases y with
    | gs id =>
      simp only [mtC] at h
      have hl := renIs_ok h
      simp only [ACRep]
      split
      · rename_i e rows hk
        rcases hrel k (by simp [hk]) with ⟨id', h1, h2⟩ | ⟨h1, _⟩
        · rw [hl] at h1; simp at h1; subst h1
          rw [hk] at h2
          simp only [mtO] at h2
          split at h2 <;> simp_all
          rename_i hH
          simp only [ACRep, hH] at hv
          rw [hv]
          simp [tauOf, hl]
        · rw [hl] at h1; simp at h1
      · rename_i e rows hk
        rcases hrel k (by simp [hk]) with ⟨id', h1, h2⟩ | ⟨h1, _⟩
        · rw [hl] at h1; simp at h1; subst h1
          rw [hk] at h2
          simp only [mtO] at h2
          split at h2 <;> simp_all
          rename_i hH
          simp only [ACRep, hH] at hv
          rw [hv]
          simp [tauOf, hl]
        · rw [hl] at h1; simp at h1
      · exact hone
    | ns =>
      simp only [mtC] at h
      have hl := renNil_ok h
      have hv : v = _ := hv
      subst hv
      simp only [ACRep]
      split
      · rename_i e rows hk
        rcases hrel k (by simp [hk]) with ⟨id', h1, _⟩ | ⟨_, e', h2⟩
        · rw [hl] at h1; simp at h1
        · simp [tauOf, hl, hk, Loc.slice]
      · rename_i e rows hk
        rcases hrel k (by simp [hk]) with ⟨id', h1, _⟩ | ⟨_, e', h2⟩
        · rw [hl] at h1; simp at h1
        · simp [tauOf, hl, hk, Loc.slice]
      · rfl
    | d => exact h.elim
    | tt => exact h.elim
    | ff => exact h.elim
    | ptr => exact h.elim
    | rp => exact h.elim
    | gv => exact h.elim
    | mp => exact h.elim
  | ptr k r c =>
    cases y with
    | ptr id r' c' =>
      simp only [mtC] at h
      obtain ⟨h0, rfl, rfl⟩ := h
      have hl := renIs_ok h0
      simp only [ACRep]
      split
      · rename_i cells hk
        rcases hrel k (by simp [hk]) with ⟨id', h1, h2⟩ | ⟨h1, _⟩
        · rw [hl] at h1; simp at h1; subst h1
          rw [hk] at h2
          simp only [mtO] at h2
          split at h2 <;> simp_all
          rename_i hH
          simp only [ACRep, hH] at hv
          simpa [tauOf, hl] using hv
        · rw [hl] at h1; simp at h1
      · rename_i e rows hk
        rcases hrel k (by simp [hk]) with ⟨id', h1, h2⟩ | ⟨h1, _⟩
        · rw [hl] at h1; simp at h1; subst h1
          rw [hk] at h2
          simp only [mtO] at h2
          split at h2 <;> simp_all
          rename_i hH
          simp only [ACRep, hH] at hv
          simpa [tauOf, hl] using hv
        · rw [hl] at h1; simp at h1
      · exact hone
    | d => exact h.elim
    | tt => exact h.elim
    | ff => exact h.elim
    | ns => exact h.elim
    | gs => exact h.elim
    | rp => exact h.elim
    | gv => exact h.elim
    | mp => exact h.elim
  | gv k lo n =>
    cases y with
    | gv id lo' n' =>
      simp only [mtC] at h
      obtain ⟨h0, rfl, rfl⟩ := h
      have hl := renIs_ok h0
      simp only [ACRep]
      split
      · rename_i e rows hk
        rcases hrel k (by simp [hk]) with ⟨id', h1, h2⟩ | ⟨h1, _⟩
        · rw [hl] at h1; simp at h1; subst h1
          rw [hk] at h2
          simp only [mtO] at h2
          split at h2 <;> simp_all
          rename_i hH
          simp only [ACRep, hH] at hv
          simpa [tauOf, hl] using hv
        · rw [hl] at h1; simp at h1
      · exact hone
    | d => exact h.elim
    | tt => exact h.elim
    | ff => exact h.elim
    | ns => exact h.elim
    | gs id =>
      simp only [mtC] at h
      obtain ⟨h0, rfl, h3⟩ := h
      have hl := renIs_ok h0
      split at h3
      · rename_i e' rows' hH
        subst h3
        simp only [ACRep]
        split
        · rename_i e rows hk
          rcases hrel k (by simp [hk]) with ⟨id', h1, h2⟩ | ⟨h1, _⟩
          · rw [hl] at h1; simp at h1; subst h1
            rw [hk, hH] at h2
            simp only [mtO] at h2
            obtain ⟨rfl, rfl⟩ := h2
            simp only [ACRep, hH] at hv
            refine ⟨by omega, ?_⟩
            have e2 : tauOf P τ ρ H' k = τ id := by simp [tauOf, hl]
            rw [e2, hv]
            unfold Loc.view Loc.slice
            cases hn : (τ id).nil with
            | true =>
              have hob := hinv.obj id
              rw [hH] at hob
              have := (owns_nil hob.2.2 hn).1
              left; simp [this]
            | false => right; simp
          · rw [hl] at h1; simp at h1
        · exact hone
      · exact h3.elim
    | ptr => exact h.elim
    | rp => exact h.elim
    | mp => exact h.elim
  | mp k =>
    cases y with
    | mp id =>
      simp only [mtC] at h
      have hl := renIs_ok h
      simp only [ACRep]
      split
      · rename_i ka ea ents hk
        rcases hrel k (by simp [hk]) with ⟨id', h1, h2⟩ | ⟨h1, _⟩
        · rw [hl] at h1; simp at h1; subst h1
          rw [hk] at h2
          simp only [mtO] at h2
          split at h2 <;> simp_all
          rename_i hH
          simp only [ACRep, hH] at hv
          simpa [tauOf, hl] using hv
        · rw [hl] at h1; simp at h1
      · exact hone
    | d => exact h.elim
    | tt => exact h.elim
    | ff => exact h.elim
    | ns => exact h.elim
    | gs => exact h.elim
    | gv => exact h.elim
    | ptr => exact h.elim
    | rp => exact h.elim
  | rp a =>
    cases y with
    | rp b =>
      simp only [mtC] at h
      subst h
      obtain ⟨b, off, cs, e, fz, vs, rfl, h1, h2⟩ := hv
      exact ⟨b, off, cs, e, fz, vs, rfl, hM _ _ h1, fun j x hj => ⟨(h2 j x hj).1, DRep.mono hM (h2 j x hj).2⟩⟩
    | d => exact h.elim
    | tt => exact h.elim
    | ff => exact h.elim
    | ns => exact h.elim
    | gs => exact h.elim
    | ptr => exact h.elim
    | gv => exact h.elim
    | mp => exact h.elim

theorem mtCs_rep {fz : Bool} {ρ : Ren} {hp : Hp} {H' : HF} (hrel : HpRel fz ρ hp H') {M : Mem} {τ : Tau} {w : World} (hinv : Inv P M τ (hpAt hp) w) {Z : Nat → Prop} (hZ : fz = true → ∀ id, id ∉ renIds ρ → Z id) :
    ∀ {xs ys : List AC} {us : List Value}, mtCs fz ρ hp xs ys → All2 (ACRep M τ (hpAt hp)) ys us → All2 (ACRep (memFz M τ (hpAt hp) w Z) (tauOf P τ ρ H') H') xs us
  | [], [], [], _, _ => trivial
  | _ :: _, _ :: _, _ :: _, ⟨h1, h2⟩, ⟨h3, h4⟩ => ⟨mtC_rep hrel hinv hZ h1 h3, mtCs_rep hrel hinv hZ h2 h4⟩
  | [], _ :: _, _, h, _ => h.elim
  | _ :: _, [], _, h, _ => h.elim
  | [], [], _ :: _, _, h => h.elim
  | _ :: _, _ :: _, [], _, h => h.elim

theorem mtT_rep {fz : Bool} {ρ : Ren} {hp : Hp} {H' : HF} (hrel : HpRel fz ρ hp H') {M : Mem} {τ : Tau} {w : World} (hinv : Inv P M τ (hpAt hp) w) {Z : Nat → Prop} (hZ : fz = true → ∀ id, id ∉ renIds ρ → Z id) :
    ∀ {xs ys : List (AC ⊕ List AC)} {us : List Value}, mtT fz ρ hp xs ys → All2 (TupRep M τ (hpAt hp)) ys us → All2 (TupRep (memFz M τ (hpAt hp) w Z) (tauOf P τ ρ H') H') xs us
  | [], [], [], _, _ => trivial
  | .inl x :: xs, .inl y :: ys, u :: us, ⟨h1, h2⟩, ⟨h3, h4⟩ => ⟨mtC_rep hrel hinv hZ h1 h3, mtT_rep hrel hinv hZ h2 h4⟩
  | .inr x :: xs, .inr y :: ys, u :: us, ⟨h1, h2⟩, ⟨⟨zs, h3, h5⟩, h4⟩ => ⟨⟨zs, h3, mtCs_rep hrel hinv hZ h1 h5⟩, mtT_rep hrel hinv hZ h2 h4⟩
  | .inl _ :: _, .inr _ :: _, _, h, _ => h.elim
  | .inr _ :: _, .inl _ :: _, _, h, _ => h.elim
  | [], _ :: _, _, h, _ => by simp [mtT] at h
  | _ :: _, [], _, h, _ => by simp [mtT] at h
  | [], [], _ :: _, _, h => h.elim
  | _ :: _, _ :: _, [], _, h => by cases h

theorem mtV_rep {fz : Bool} {ρ : Ren} {hp : Hp} {H' : HF} (hrel : HpRel fz ρ hp H') {M : Mem} {τ : Tau} {w : World} (hinv : Inv P M τ (hpAt hp) w) {Z : Nat → Prop} (hZ : fz = true → ∀ id, id ∉ renIds ρ → Z id)
    {x y : AV} (h : mtV fz ρ hp x y) {v : Value} (hv : AVRep M τ (hpAt hp) y v) : AVRep (memFz M τ (hpAt hp) w Z) (tauOf P τ ρ H') H' x v := by
  unfold mtV at h
  split at h
  · exact mtC_rep hrel hinv hZ h hv
  · obtain ⟨us, rfl, hu⟩ := hv; exact ⟨us, rfl, mtCs_rep hrel hinv hZ h hu⟩
  · obtain ⟨us, rfl, hu⟩ := hv; exact ⟨us, rfl, mtT_rep hrel hinv hZ h hu⟩
  · obtain ⟨us, rfl, hu⟩ := hv; obtain ⟨rfl, h⟩ := h; exact ⟨us, rfl, mtCs_rep hrel hinv hZ h hu⟩
  · exact hv
  · trivial
  · exact h.elim

theorem blk_ren {fz : Bool} {ρ : Ren} {hp : Hp} {H' : HF} (hrel : HpRel fz ρ hp H') {τ : Tau} {k b : Nat} (h : blkOf (tauOf P τ ρ H') H' k = some b) : ∃ id, lk ρ k = some (some id) ∧ blkOf τ (hpAt hp) id = some b := by
  have hg : H' k ≠ .gone := fun he => by simp [blkOf, he] at h
  rcases hrel k hg with ⟨id, h1, h2⟩ | ⟨h1, e, h2⟩
  · refine ⟨id, h1, ?_⟩
    unfold blkOf at h ⊢
    simp only [tauOf, h1] at h
    generalize H' k = a at h h2
    generalize hpAt hp id = c at h2 ⊢
    cases a <;> cases c <;> simp_all [mtO]
  · rcases h2 with h2 | h2 <;> simp [blkOf, h2, tauOf, h1] at h

/-- the new view of the state -/
theorem view_inv {fz : Bool} {ρ : Ren} {hp : Hp} {H' : HF} (hrel : HpRel fz ρ hp H') (hnd : (renIds ρ).Nodup) {M : Mem} {τ : Tau} {w : World} (hinv : Inv P M τ (hpAt hp) w) {Z : Nat → Prop} (hZ : fz = true → ∀ id, id ∉ renIds ρ → Z id) (hZ' : ∀ id, Z id → id ∉ renIds ρ) :
    Inv P (memFz M τ (hpAt hp) w Z) (tauOf P τ ρ H') H' w := by
  refine ⟨fun b o hb => ?_, fun k => ?_, fun k b hb => ?_, fun i j b hi hj => ?_⟩
  · unfold memFz at hb
    split at hb
    · exact hb
    · exact hinv.mem b o hb
  · by_cases hg : H' k = .gone
    · rw [hg]; trivial
    · rcases hrel k hg with ⟨id, h1, h2⟩ | ⟨h1, e, h2⟩
      · have hob := hinv.obj id
        have ht : tauOf P τ ρ H' k = τ id := by simp [tauOf, h1]
        generalize hHk : H' k = a at h2 ⊢
        generalize hHi : hpAt hp id = c at h2 hob
        cases a with
        | gone => trivial
        | box xs =>
          cases c with
          | box ys =>
            obtain ⟨us, e, o1, o2⟩ := hob
            exact ⟨us, e, by rw [ht]; exact o1, mtCs_rep hrel hinv hZ h2 o2⟩
          | gone => exact h2.elim
          | arr => exact h2.elim
          | brr => exact h2.elim
          | mp => exact h2.elim
        | brr e r =>
          cases c with
          | brr e' r' =>
            obtain ⟨rfl, rfl⟩ := h2
            obtain ⟨o1, vs, o2, o3⟩ := hob
            exact ⟨by rw [ht]; exact o1, vs, by rw [ht]; exact o2.mono (memFz_mono hinv), by rw [ht]; exact o3⟩
          | gone => exact h2.elim
          | arr => exact h2.elim
          | box => exact h2.elim
          | mp => exact h2.elim
        | mp ka ea ents =>
          cases c with
          | mp ka' ea' ents' =>
            obtain ⟨rfl, rfl, rfl⟩ := h2
            obtain ⟨es, clock, o1, o2⟩ := hob
            exact ⟨es, clock, by rw [ht]; exact o1, o2⟩
          | gone => exact h2.elim
          | arr => exact h2.elim
          | box => exact h2.elim
          | brr => exact h2.elim
        | arr e r =>
          cases c with
          | arr e' r' =>
            obtain ⟨rfl, rfl⟩ := h2
            obtain ⟨o1, o2, o3⟩ := hob
            exact ⟨by rw [ht]; exact o1, by rw [ht]; exact o2, by rw [ht]; exact o3⟩
          | gone => exact h2.elim
          | box => exact h2.elim
          | brr => exact h2.elim
          | mp => exact h2.elim
      · rcases h2 with h2 | h2
        · rw [h2]
          have ht : tauOf P τ ρ H' k = ⟨0, 0, P.cellsOf e, true⟩ := by simp [tauOf, h1, h2]
          refine ⟨by rw [ht], by simp, ?_⟩
          rw [ht]
          exact ⟨by simp [flat], .inl ⟨by simp [Loc.slice], rfl⟩⟩
        · rw [h2]
          have ht : tauOf P τ ρ H' k = ⟨0, 0, P.cellsOf e, true⟩ := by simp [tauOf, h1, h2]
          refine ⟨by rw [ht], [], ⟨by simp, trivial⟩, ?_⟩
          rw [ht]
          exact ⟨by simp, .inl ⟨by simp [Loc.slice], rfl⟩⟩
  · obtain ⟨id, h1, h2⟩ := blk_ren hrel hb
    unfold memFz
    rw [if_neg]
    · exact hinv.dis id b h2
    · rintro ⟨id', hz, h3⟩
      have := hinv.inj id' id b h3 h2
      subst this
      exact hZ' _ hz (renIds_mem (lk_mem h1))
  · obtain ⟨id, h1, h2⟩ := blk_ren hrel hi
    obtain ⟨id', h3, h4⟩ := blk_ren hrel hj
    have := hinv.inj id id' b h2 h4
    subst this
    exact ren_inj hnd h1 h3

theorem mtFr_at {ρ : Ren} {hp : Hp} : ∀ {s fr : Fr} {t : Nat} {x : AV}, mtFr ρ hp s fr → lk s t = some x → ∃ y, lk fr t = some y ∧ mtV false ρ hp x y
  | [], _, _, _, _, h => by simp [lk] at h
  | (i, x) :: r, fr, t, x', hm, h => by
    rw [lk_cons] at h
    split at h
    · rename_i he
      simp at h; subst he h
      have h1 := hm.1
      split at h1
      · rename_i y hy; exact ⟨y, hy, h1⟩
      · exact h1.elim
    · exact mtFr_at hm.2 h

theorem bndFr_ok {nx : Nat} : ∀ {fr : Fr} {t : Nat} {v : AV}, bndFr nx fr = true → lk fr t = some v → ∀ id ∈ v.ids, id < nx
  | [], _, _, _, h, _, _ => by simp [lk] at h
  | (i, x) :: r, t, v, hb, h, id, hid => by
    unfold bndFr at hb
    split at hb
    · rename_i hx
      rw [lk_cons] at h
      split at h
      · simp at h; subst h; exact bndL_ok hx id hid
      · exact bndFr_ok hb h id hid
    · cases hb

theorem keepB_ok {n : Nat} {ρ : Ren} : ∀ {hp : Hp} {k : Nat} {x : HObj}, keepB n ρ hp = true → (k, x) ∈ hp → k < n → lk ρ k = some (some k)
  | (i, y) :: r, k, x, hb, hm, hk => by
    unfold keepB at hb
    cases hm with
    | head =>
      split at hb
      · split at hb
        · rename_i h; exact renIs_ok h
        · cases hb
      · rename_i h
        have h2 : Nat.blt i n = true := by simpa using hk
        rw [h2] at h; cases h
    | tail _ hm =>
      split at hb
      · split at hb
        · exact keepB_ok hb hm hk
        · cases hb
      · exact keepB_ok hb hm hk

theorem hpAt_mem {hp : Hp} {k : Nat} (h : hpAt hp k ≠ .gone) : (k, hpAt hp k) ∈ hp := by
  unfold hpAt at h ⊢
  split at h
  · rename_i o ho; exact lk_mem ho
  · exact absurd rfl h

theorem bnd_of {s : St} {n : Nat} (h1 : bndFr s.nx s.fr = true) (h2 : bndU s.nx s.hp = true) (h3 : n ≤ s.nx) : Bnd (lk s.fr) (hpAt s.hp) n s.nx := by
  refine ⟨fun t v ht id hid => bndFr_ok h1 ht id hid, fun id hid => (bndU_ok h2 _ (hpAt_mem hid)).1, fun j id hj => ?_, h3⟩
  by_cases hg : hpAt s.hp j = .gone
  · rw [hg] at hj; simp [HObj.ids] at hj
  · exact (bndU_ok h2 _ (hpAt_mem hg)).2 id hj

/-- the accumulated step, in the new names -/
theorem view_nx {fz : Bool} {Γ : Cx} {ρ : Ren} {hp : Hp} {H' : HF} (hrel : HpRel fz ρ hp H') (hnd : (renIds ρ).Nodup) {M : Mem} {τ : Tau} {w : World} {new : List Nat} (hnx : Nx P Γ.M Γ.τ Γ.H Γ.w (hpAt hp) M τ w new) (hnew : ∀ id ∈ new, Γ.n ≤ id)
    (hkeep : ∀ k, H' k ≠ .gone → k < Γ.n → lk ρ k = some (some k)) {nx : Nat} (hb : ∀ k, H' k ≠ .gone → k < nx) {Z : Nat → Prop} (hZ : fz = true → ∀ id, id ∉ renIds ρ → Z id) (hZ' : ∀ id, Z id → id ∉ renIds ρ) :
    ∃ new', Nx P Γ.M Γ.τ Γ.H Γ.w H' (memFz M τ (hpAt hp) w Z) (tauOf P τ ρ H') w new' ∧ ∀ id ∈ new', Γ.n ≤ id := by
  refine ⟨(List.range nx).filter fun k => decide (Γ.n ≤ k), ⟨view_inv hrel hnd hnx.inv hZ hZ', fun b o hb => memFz_mono hnx.inv b o (hnx.mm b o hb), fun b o hb => ?_, fun id hid => ?_, fun k b hb => ?_, hnx.frame, hnx.size, hnx.os, hnx.tape, hnx.output⟩, fun id hid => ?_⟩
  · unfold memFz at hb
    split at hb
    · rename_i h; obtain ⟨id, hz, hbk⟩ := h; exact .inr (hnx.own id b hbk)
    · exact hnx.mb b o hb
  · by_cases hg : H' id = .gone
    · exact KeepId.gone hg
    · have hlt := hb id hg
      have hn : id < Γ.n := by
        simp only [List.mem_filter, List.mem_range, decide_eq_true_eq, not_and] at hid
        have := hid hlt; omega
      have hr := hkeep id hg hn
      have hk := hnx.keep id fun hm => by have := hnew id hm; omega
      have hri : renIs ρ id id = true := by simp [renIs, hr]
      intro x v hx h
      refine mtC_rep hrel hnx.inv hZ (x := x) (y := x) ?_ (hk x v hx h)
      cases x <;> simp only [AC.ids, List.cons.injEq, and_true, reduceCtorEq] at hx
      all_goals subst hx
      · exact ⟨hri, rfl, rfl⟩
      · exact hri
      · exact ⟨hri, rfl, rfl⟩
      · exact hri
  · obtain ⟨id, _, h2⟩ := blk_ren hrel hb
    exact hnx.own id b h2
  · simp only [List.mem_filter, decide_eq_true_eq] at hid
    exact hid.2

theorem Match.sat {nt : Nat} {Γ : Cx} {ρ : Ren} {s : St} {fr : Fr} {hp : Hp} {nx : Nat} {a : Act} {w : World} (hm : Match ρ s Γ.n fr hp) (hs : Sat P nt Γ fr hp nx a w) : Sat P nt Γ s.fr s.hp s.nx a w := by
  obtain ⟨hwf, hfr, hhp⟩ := hm
  simp only [wfSt, Bool.and_eq_true] at hwf
  obtain ⟨⟨⟨⟨w1, w2⟩, w3⟩, w4⟩, w5⟩ := hwf
  have hbn := bnd_of (n := Γ.n) w1 w2 (Nat.le_of_ble_eq_true w5)
  refine ⟨hbn, ?_⟩
  obtain ⟨h1, h2, M, τ, new, hnx, hnew, hf⟩ := hs.2
  have hrel := hpRel_of hhp
  obtain ⟨new', hnx', hnew'⟩ := view_nx (Z := fun _ => False) hrel (nodupB_ok w3) hnx hnew (fun k hk hkn => keepB_ok w4 (hpAt_mem hk) hkn) (nx := s.nx) hbn.live (by simp) (by simp)
  rw [memFz_none] at hnx'
  refine ⟨h1, h2, M, _, new', hnx', hnew', fun t v ht => ?_⟩
  obtain ⟨y, hy, hmv⟩ := mtFr_at hfr ht
  have := mtV_rep (Z := fun _ => False) hrel hnx.inv (by simp) hmv (hf t y hy)
  rwa [memFz_none] at this

theorem least {p : Nat → Prop} : ∀ n, p n → ∃ m, p m ∧ ∀ k, k < m → ¬ p k := by
  intro n
  induction n using Nat.strongRecOn with
  | _ n ih =>
    intro hn
    by_cases h : ∃ k, k < n ∧ p k
    · obtain ⟨k, hk, hp⟩ := h; exact ih k hk hp
    · exact ⟨n, hn, fun k hk hp => h ⟨k, hk, hp⟩⟩

/-- A LOOP, by what holds at its head. -/
theorem awp_loopA {nt n : Nat} {b : Code} {ι : Type} (I : ι → St) (μ : ι → Nat) {fr : Fr} {hp : Hp} {nx : Nat} {Q : Ex → Fr → Hp → Nat → Prop} (i0 : ι) (ρ0 : Ren) (h0 : Match ρ0 (I i0) n fr hp)
    (hstep : ∀ i, AWp P nt n b (I i).fr (I i).hp (I i).nx fun e fr hp nx => match e with
      | .normal => ∃ i' ρ, Match ρ (I i') n fr hp ∧ μ i' < μ i
      | .exit id => Q (.exit id) fr hp nx
      | .ret => Q .ret fr hp nx) : AWp P nt n (.loop b) fr hp nx Q := by
  refine ⟨fun Γ a w hn hs => ?_⟩
  subst hn
  let p : Act → World → Nat → Prop := fun a w m => ∃ i, μ i = m ∧ Sat P nt Γ (I i).fr (I i).hp (I i).nx a w
  have hex : ∀ a w, (∃ m, p a w m) → ∃ m, p a w m ∧ ∀ k, k < m → ¬ p a w k := fun a w ⟨m, h⟩ => least m h
  classical
  let μ' : Act → World → Nat := fun a w => if h : ∃ m, p a w m then Classical.choose (hex a w h) else 0
  have hμ : ∀ a w, (∃ m, p a w m) → p a w (μ' a w) ∧ ∀ k, k < μ' a w → ¬ p a w k := fun a w h => by
    simp only [μ', dif_pos h]; exact Classical.choose_spec (hex a w h)
  refine wp_loop (fun a w => ∃ m, p a w m) μ' ⟨_, i0, rfl, h0.sat hs⟩ fun a w hI => ?_
  obtain ⟨⟨i, hi, hsi⟩, _⟩ := hμ a w hI
  refine wp_mono ((hstep i).out Γ a w rfl hsi) ?_
  rintro e a' w' ⟨e', fr', hp', nx', h1, h2, h3⟩
  cases e <;> simp only [exOf, Option.some.injEq] at h1
  case normal =>
    subst h1
    obtain ⟨i', ρ, hm', hlt⟩ := h2
    have hp' : p a' w' (μ i') := ⟨i', rfl, hm'.sat h3⟩
    refine ⟨⟨_, hp'⟩, ?_⟩
    obtain ⟨_, hmin⟩ := hμ a' w' ⟨_, hp'⟩
    have : μ' a' w' ≤ μ i' := by
      rcases Nat.lt_or_ge (μ i') (μ' a' w') with h | h
      · exact absurd hp' (hmin _ h)
      · exact h
    rw [← hi]
    omega
  case exit id => subst h1; exact ⟨.exit id, fr', hp', nx', rfl, h2, h3⟩
  case ret => subst h1; exact ⟨.ret, fr', hp', nx', rfl, h2, h3⟩
  all_goals cases h1

theorem AWp.mono {nt n : Nat} {c : Code} {fr : Fr} {hp : Hp} {nx : Nat} {Q Q' : Ex → Fr → Hp → Nat → Prop} (h : AWp P nt n c fr hp nx Q) (hq : ∀ e fr hp nx, Q e fr hp nx → Q' e fr hp nx) : AWp P nt n c fr hp nx Q' :=
  ⟨fun Γ a w hn hs => wp_mono (h.out Γ a w hn hs) fun _ _ _ hp => post_mono hq hp⟩

end
end Go.Cpl

namespace Go.Cpl
open Go
section
variable {P : Program} {T : Nat → TyI}

def frOf : Nat → List AV → Fr
  | _, [] => []
  | k, x :: r => (k, x) :: frOf (k + 1) r

def hpL : Nat → List HObj → Hp
  | _, [] => []
  | k, x :: r => match x with
    | .gone => hpL (k + 1) r
    | x => (k, x) :: hpL (k + 1) r

def resK (T : Nat → TyI) (fr : Fr) (hp : Hp) : List ResultVar → (List (AC ⊕ List AC) → Prop) → Prop
  | [], K => K []
  | .tmp t :: r, K => match lk fr t with
    | some (.c x) => resK T fr hp r fun l => K (.inl x :: l)
    | some (.agg xs) => resK T fr hp r fun l => K (.inr xs :: l)
    | _ => False
  | .cell a t :: r, K => match lk fr a with
    | some (.c (.ptr id _ col)) => match T t with
      | .mk kind _ size _ _ _ => match hpAt hp id with
        | .box cells => match kind with
          | 0 => False
          | 3 => dropK col cells fun l => takeK size l fun l => resK T fr hp r fun l' => K (.inr l :: l')
          | _ => nthK cells col fun x => resK T fr hp r fun l' => K (.inl x :: l')
        | _ => False
    | _ => False

def valOf : List (AC ⊕ List AC) → AV
  | [.inl x] => .c x
  | [.inr xs] => .agg xs
  | l => .tup l

/-- what a function returns: this result, these objects -/
def RetOK (T : Nat → TyI) (n : Nat) (rs : List ResultVar) (res : AV) (hout : List HObj) (fr : Fr) (hp : Hp) : Prop :=
  resK T fr hp rs fun l => ∃ ρ : Ren, (nodupB (renIds ρ) && keepB n ρ (hpL 0 hout)) = true ∧ mtV true ρ hp res (valOf l) ∧ mtHp true ρ hp (hpL 0 hout)

theorem frOf_get : ∀ {l : List AV} {k t : Nat} {v : AV}, lk (frOf k l) t = some v → ∃ j, t = k + j ∧ l[j]? = some v
  | [], _, _, _, h => by simp [frOf, lk] at h
  | x :: r, k, t, v, h => by
    rw [frOf, lk_cons] at h
    split at h
    · rename_i he; simp at h; subst h; exact ⟨0, by omega, by simp⟩
    · obtain ⟨j, h1, h2⟩ := frOf_get h; exact ⟨j + 1, by omega, by simpa using h2⟩

theorem hpL_at : ∀ {l : List HObj} {k t : Nat}, hpAt (hpL k l) t = if k ≤ t then (l[t - k]?).getD .gone else .gone
  | [], k, t => by simp [hpL, hpAt, lk]
  | x :: r, k, t => by
    have ih := hpL_at (l := r) (k := k + 1) (t := t)
    have hcons : ∀ y, x = y → y ≠ .gone → hpL k (x :: r) = (k, x) :: hpL (k + 1) r := by
      rintro y rfl hy
      cases x <;> first | rfl | exact absurd rfl hy
    by_cases hx : x = .gone
    · subst hx
      show hpAt (hpL (k + 1) r) t = _
      rw [ih]
      by_cases h : k = t
      · subst h; rw [if_neg (by omega)]; simp
      · by_cases h2 : k + 1 ≤ t
        · rw [if_pos h2, if_pos (by omega), show t - k = (t - (k + 1)) + 1 by omega, List.getElem?_cons_succ]
        · rw [if_neg h2, if_neg (by omega)]
    · rw [hcons x rfl hx]
      unfold hpAt at ih ⊢
      rw [lk_cons]
      by_cases h : k = t
      · subst h; simp
      · rw [if_neg h, ih]
        by_cases h2 : k + 1 ≤ t
        · rw [if_pos h2, if_pos (by omega), show t - k = (t - (k + 1)) + 1 by omega, List.getElem?_cons_succ]
        · rw [if_neg h2, if_neg (by omega)]

theorem hpL_eq (l : List HObj) : hpAt (hpL 0 l) = hpOf l := by
  funext t; rw [hpL_at]; simp [hpOf]

def resRun (tmps : Array Value) : ResultVar → Sem Value
  | .tmp t => pure (tmps.getD t Go.undef)
  | .cell b t => do loadVar t (← asAddr (tmps.getD b Go.undef))

theorem results_eq (fn : Func) (tmps : Array Value) : results fn tmps = (do
    let vs ← fn.results.mapM (resRun tmps)
    pure (if h : vs.size = 1 then vs[0] else .tuple vs)) := by
  unfold results
  congr 1

theorem res_ok (hT : TabOK P T) {fr : Fr} {hp : Hp} {M : Mem} {τ : Tau} {w : World} {a : Act} (hinv : Inv P M τ (hpAt hp) w) (hf : ∀ t v, lk fr t = some v → AVRep M τ (hpAt hp) v (a.eval (.tmp t))) :
    ∀ {rs : List ResultVar} {K : List (AC ⊕ List AC) → Prop}, resK T fr hp rs K → ∃ l us, K l ∧ All2 (TupRep M τ (hpAt hp)) l us ∧ (rs.mapM (resRun a.tmps)).run P w = .ok us w
  | [], K, h => ⟨[], [], h, trivial, by simp⟩
  | .tmp t :: r, K, h => by
    rw [resK] at h
    split at h
    · rename_i x hx
      obtain ⟨l, us, h1, h2, h3⟩ := res_ok hT hinv hf h
      refine ⟨_, a.eval (.tmp t) :: us, h1, ⟨hf t _ hx, h2⟩, ?_⟩
      simp only [List.mapM_cons, resRun, Sem.run_bind, Sem.run_pure, Result.andThen_ok, h3]
      rfl
    · rename_i xs hx
      obtain ⟨l, us, h1, h2, h3⟩ := res_ok hT hinv hf h
      refine ⟨_, a.eval (.tmp t) :: us, h1, ⟨hf t _ hx, h2⟩, ?_⟩
      simp only [List.mapM_cons, resRun, Sem.run_bind, Sem.run_pure, Result.andThen_ok, h3]
      rfl
    · exact h.elim
  | .cell b t :: r, K, h => by
    rw [resK] at h
    split at h
    · rename_i id row col hx
      have ht := hT t
      generalize T t = i at h ht
      obtain ⟨kind, ik, size, zero, offs, el⟩ := i
      simp only at h
      split at h
      · rename_i cells hb
        have hv := hf b _ hx
        simp only [AVRep, ACRep, hb] at hv
        have hv2 : a.tmps.getD b Go.undef = .pointer (some ⟨(τ id).b, col, none⟩) := hv.2
        obtain ⟨us0, e, h1, h2⟩ := box_at hinv hb
        split at h
        · exact h.elim
        · replace h := drop_ok h
          obtain ⟨pre, l1, rfl, hp1, h⟩ := h
          replace h := take_ok h
          obtain ⟨l, r', rfl, hl, h⟩ := h
          obtain ⟨l', us, g1, g2, g3⟩ := res_ok hT hinv hf h
          have h3 := (h2.drop col).take l.length
          rw [List.drop_left' hp1, List.take_left' rfl] at h3
          have hld := ok_load_agg_of ht rfl (w := w) (b := (τ id).b) (off := col) (us := (us0.drop col).take l.length) (by rw [← h3.length, hl]) (fun j v hj => by
            have hj := take_get hj
            rw [cell_of h1]
            rw [List.getElem?_drop] at hj
            simpa using hj)
          simp only [Instr.loadAt, Instr.sureAddr, Sem.run_bind, Sem.run_pure, Result.andThen_ok] at hld
          refine ⟨_, .agg ((us0.drop col).take l.length).toArray :: us, g1, ⟨⟨_, rfl, h3⟩, g2⟩, ?_⟩
          simp only [List.mapM_cons, resRun, Sem.run_bind, hv2, asAddr, Sem.run_pure, Result.andThen_ok, hld, g3]
        · rename_i hk0 hk3
          replace h := nth_ok h
          obtain ⟨c, hc, h⟩ := h
          obtain ⟨l', us, g1, g2, g3⟩ := res_ok hT hinv hf h
          obtain ⟨u, hu, hr⟩ := h2.get hc
          have hld := ok_load_cell_of ht hk0 hk3 (w := w) (b := (τ id).b) (off := col) (u := u) (by rw [cell_of h1]; simpa using hu)
          simp only [Instr.loadAt, Instr.sureAddr, Sem.run_bind, Sem.run_pure, Result.andThen_ok] at hld
          refine ⟨_, u :: us, g1, ⟨hr, g2⟩, ?_⟩
          simp only [List.mapM_cons, resRun, Sem.run_bind, hv2, asAddr, Sem.run_pure, Result.andThen_ok, hld, g3]
      · exact h.elim
    · exact h.elim

theorem valOf_rep {M : Mem} {τ : Tau} {H : HF} : ∀ {l : List (AC ⊕ List AC)} {us : List Value}, All2 (TupRep M τ H) l us → AVRep M τ H (valOf l) (if h : us.toArray.size = 1 then us.toArray[0] else .tuple us.toArray)
  | [], [], _ => ⟨[], by simp, trivial⟩
  | [.inl x], [u], h => h.1
  | [.inr x], [u], h => h.1
  | a :: b :: l, u :: v :: us, h => by
    have e : valOf (a :: b :: l) = .tup (a :: b :: l) := by cases a <;> rfl
    rw [e]
    exact ⟨u :: v :: us, by simp, h⟩
  | [], _ :: _, h => h.elim
  | [_], [], h => by cases h
  | [_], _ :: _ :: _, h => h.2.elim
  | _ :: _ :: _, [], h => h.elim
  | _ :: _ :: _, [_], h => h.2.elim

/-- A CONTRACT, from the evaluator's word on the function's body. -/
theorem callsH_of (hT : TabOK P T) (hm : P.follows .mixedOrders = true) {f : FuncId} {fn : Func} {c : Code} (hf : P.funcs[f]? = some fn) (hbody : fn.body = some c) (hname : (fn.name == "runtime.NumGoroutine") = false) {args : List AV} {hin : List HObj} {res : AV} {hout : List HObj}
    (hargs : Nat.ble args.length fn.ntmps = true) (hwf : (bndFr hin.length (frOf 0 args) && bndU hin.length (hpL 0 hin)) = true)
    (h : awp P T fn.ntmps hin.length c (frOf 0 args) (hpL 0 hin) hin.length fun e fr hp _ => match e with
      | .normal => RetOK T hin.length fn.results.toList res hout fr hp
      | .ret => RetOK T hin.length fn.results.toList res hout fr hp
      | .exit _ => False) : CallsH P f args hin res hout := by
  refine ⟨⟨fn, hf, hname, by rw [hbody]; rfl⟩, fun M τ w vs hinv hvs => calls_of_wp hf hbody ?_⟩
  simp only [Bool.and_eq_true] at hwf
  have hlen := hvs.length
  have hal := Nat.le_of_ble_eq_true hargs
  let Γ : Cx := ⟨M, τ, hpOf hin, w, hin.length, []⟩
  have hs : Sat P fn.ntmps Γ (frOf 0 args) (hpL 0 hin) hin.length { tmps := vs.toArray ++ Array.replicate (fn.ntmps - vs.toArray.size) Go.undef, defers := [] } w := by
    refine ⟨bnd_of (s := ⟨frOf 0 args, hpL 0 hin, hin.length⟩) hwf.1 hwf.2 (Nat.le_refl _), rfl, by simp; omega, M, τ, [], ?_, by simp, fun t v ht => ?_⟩
    · rw [hpL_eq]; exact Nx.still hinv (WSame.refl _ _)
    · obtain ⟨j, h1, h2⟩ := frOf_get ht
      obtain ⟨u, hu, hr⟩ := hvs.get h2
      rw [hpL_eq]
      have : t = j := by omega
      subst this
      have hlt := (List.getElem?_eq_some_iff.1 hu).1
      have e : ({ tmps := vs.toArray ++ Array.replicate (fn.ntmps - vs.toArray.size) Go.undef, defers := [] } : Act).eval (.tmp t) = u := by
        simp [Act.eval, Array.getElem?_append_left, hlt, (List.getElem?_eq_some_iff.1 hu).2]
      rw [e]
      exact hr
  refine wp_mono ((awp_sound hT hm fn.ntmps hin.length c h).out Γ _ w rfl hs) ?_
  rintro e a' w' ⟨e', fr, hp, nx, h1, h2, h3⟩
  have fin : RetOK T hin.length fn.results.toList res hout fr hp → a'.defers = [] ∧ ∃ v, (results fn a'.tmps).run P w' = .ok v w' ∧ ∃ v' M' τ', Ending.returned v = .returned v' ∧ Inv P M' τ' (hpOf hout) w' ∧ AVRep M' τ' (hpOf hout) res v' ∧
      (∀ b o, M' b = some o → M b = some o ∨ w.heap.size ≤ b ∨ ∃ j, blkOf τ (hpOf hin) j = some b) ∧ (∀ i, i < hin.length → KeepId M τ (hpOf hin) M' τ' (hpOf hout) i) ∧
      (∀ i b, blkOf τ' (hpOf hout) i = some b → w.heap.size ≤ b ∨ ∃ j, blkOf τ (hpOf hin) j = some b) ∧
      (∀ b, b < w.heap.size → (∀ i, blkOf τ (hpOf hin) i ≠ some b) → w'.heap[b]? = w.heap[b]?) ∧ w.heap.size ≤ w'.heap.size ∧ w'.os = w.os ∧ w'.tape = w.tape ∧ OutD w w' := by
    intro hret
    obtain ⟨hd, hsz, M1, τ1, new, hnx, hnew, hfr⟩ := h3.2
    refine ⟨hd, ?_⟩
    obtain ⟨l, us, ⟨ρ, hwf2, hmv, hmh⟩, hu, hrun⟩ := res_ok hT hnx.inv hfr hret
    simp only [Bool.and_eq_true] at hwf2
    have hrel := hpRel_of hmh
    rw [hpL_eq] at hrel
    -- what may be taken for immutable: all other slices
    let Z : Nat → Prop := fun id => id ∉ renIds ρ
    have hZ : true = true → ∀ id, id ∉ renIds ρ → Z id := fun _ id hid => hid
    have hlive : ∀ k, hpOf hout k ≠ .gone → k < hout.length := fun k hk => by
      rcases Nat.lt_or_ge k hout.length with h | h
      · exact h
      · simp [hpOf, List.getElem?_eq_none h] at hk
    obtain ⟨new', hnx', hnew'⟩ := view_nx (Γ := Γ) (Z := Z) hrel (nodupB_ok hwf2.1) hnx hnew (fun k hk hkn => keepB_ok hwf2.2 (hpAt_mem (by rw [hpL_eq]; exact hk)) hkn) (nx := hout.length) hlive hZ (fun id hz => hz)
    have hval := mtV_rep (Z := Z) hrel hnx.inv hZ hmv (valOf_rep hu)
    refine ⟨_, ?_, _, _, _, rfl, hnx'.inv, hval, hnx'.mb, fun i hi => hnx'.keep i fun hm => ?_, hnx'.own, hnx'.frame, hnx'.size, hnx'.os, hnx'.tape, hnx'.output⟩
    · rw [results_eq, Array.mapM_eq_mapM_toList]
      simp only [Sem.run_bind, Sem.run_map]
      rw [hrun]
      simp
    · have := hnew' i hm
      simp only [Γ] at this
      omega
  cases e <;> simp only [exOf, Option.some.injEq] at h1
  case normal => subst h1; exact fin h2
  case ret => subst h1; exact fin h2
  case exit id => subst h1; exact h2.elim
  all_goals cases h1

end
end Go.Cpl

namespace Go.Cpl
open Go
section
variable {P : Program} {T : Nat → TyI}

/-! ### loops: the slots that the body writes are named, all others stay -/

def wrOps : List Oper → List Nat → List Nat
  | [], l => l
  | x :: r, l => match x.dst with
    | some d => d :: wrOps r l
    | none => wrOps r l

def wrs : Code → List Nat → List Nat
  | .region _ ops _, l => wrOps ops.toList l
  | .seq a b, l => wrs a (wrs b l)
  | .cond _ a b, l => wrs a (wrs b l)
  | .block _ b, l => wrs b l
  | .loop b, l => wrs b l
  | _, l => l

def fstL : Fr → List Nat
  | [] => []
  | (t, _) :: r => t :: fstL r

def keepK (W : List Nat) : Fr → List Nat → (Fr → Prop) → Prop
  | [], _, K => K []
  | (t, v) :: r, seen, K => match memN t W with
    | true => keepK W r seen K
    | false => match memN t seen with
      | true => keepK W r seen K
      | false => keepK W r (t :: seen) fun l => K ((t, v) :: l)

def keptL (fr : Fr) : Fr → List (Option AV)
  | [] => []
  | (t, _) :: r => lk fr t :: keptL fr r

def someL : Fr → List (Option AV)
  | [] => []
  | (_, v) :: r => some v :: someL r

def selfL (ρ : Ren) : List Nat → Bool
  | [] => true
  | i :: r => match renIs ρ i i with
    | true => selfL ρ r
    | false => false

def selfFr (ρ : Ren) : Fr → Bool
  | [] => true
  | (_, v) :: r => match selfL ρ v.ids with
    | true => selfFr ρ r
    | false => false

/-- the objects that the loop leaves as they are: those that 'H' does not name -/
def keepHK (H : Hp) : Hp → List Nat → (Hp → Prop) → Prop
  | [], _, K => K []
  | (t, o) :: r, seen, K => match lk H t with
    | some _ => keepHK H r seen K
    | none => match memN t seen with
      | true => keepHK H r seen K
      | false => keepHK H r (t :: seen) fun l => K ((t, o) :: l)

def keptHL (hp : Hp) : Hp → List HObj
  | [] => []
  | (t, _) :: r => hpAt hp t :: keptHL hp r

def someHL : Hp → List HObj
  | [] => []
  | (_, o) :: r => o :: someHL r

def idRen : Hp → Ren → Ren
  | [], ρ => ρ
  | (t, _) :: r, ρ => (t, some t) :: idRen r ρ

def selfHp (ρ : Ren) : Hp → Bool
  | [] => true
  | (t, o) :: r => match renIs ρ t t with
    | true => match selfL ρ o.ids with
      | true => selfHp ρ r
      | false => false
    | false => false

/-- the state at the loop's head: 'ov' and 'H' with what stays as it was ('kf', 'kh') -/
def Head (ρ : Ren) (ov kf : Fr) (H kh : Hp) (nx n : Nat) (fr : Fr) (hp : Hp) : Prop :=
  (wfSt n (idRen kh ρ) ⟨ov ++ kf, H ++ kh, nx⟩ && selfFr (idRen kh ρ) kf && selfHp (idRen kh ρ) kh) = true ∧ (mtFr (idRen kh ρ) hp ov fr ∧ mtHp false (idRen kh ρ) hp H) ∧ keptL fr kf = someL kf ∧ keptHL hp kh = someHL kh

theorem selfL_ok {ρ : Ren} : ∀ {l : List Nat}, selfL ρ l = true → ∀ i ∈ l, renIs ρ i i = true
  | [], _, i, hi => by simp at hi
  | j :: r, h, i, hi => by
    rw [selfL] at h
    split at h
    · rename_i hj
      rcases List.mem_cons.1 hi with rfl | hi
      · exact hj
      · exact selfL_ok h i hi
    · cases h

theorem eqD_refl (x : D) : eqD x x := by cases x <;> simp [eqD]

theorem mtC_self {ρ : Ren} {hp : Hp} {x : AC} (h : ∀ i ∈ x.ids, renIs ρ i i = true) : mtC false ρ hp x x := by
  cases x <;> simp_all [mtC, AC.ids, eqD_refl]

theorem mtCs_self {ρ : Ren} {hp : Hp} : ∀ {l : List AC}, (∀ i ∈ idsOf l, renIs ρ i i = true) → mtCs false ρ hp l l
  | [], _ => trivial
  | x :: r, h => by
    simp only [idsOf, List.mem_append] at h
    exact ⟨mtC_self fun i hi => h i (.inl hi), mtCs_self fun i hi => h i (.inr hi)⟩

theorem mtT_self {ρ : Ren} {hp : Hp} : ∀ {l : List (AC ⊕ List AC)}, (∀ i ∈ tupIds l, renIs ρ i i = true) → mtT false ρ hp l l
  | [], _ => trivial
  | .inl x :: r, h => by
    simp only [tupIds, List.mem_append] at h
    exact ⟨mtC_self fun i hi => h i (.inl hi), mtT_self fun i hi => h i (.inr hi)⟩
  | .inr x :: r, h => by
    simp only [tupIds, List.mem_append] at h
    exact ⟨mtCs_self fun i hi => h i (.inl hi), mtT_self fun i hi => h i (.inr hi)⟩

theorem mtV_self {ρ : Ren} {hp : Hp} {x : AV} (h : ∀ i ∈ x.ids, renIs ρ i i = true) : mtV false ρ hp x x := by
  cases x with
  | c x => exact mtC_self (hp := hp) h
  | agg xs => exact mtCs_self h
  | tup xs => exact mtT_self h
  | fn f xs => exact ⟨rfl, mtCs_self h⟩
  | undef => trivial
  | top => trivial

theorem mtFr_self {ρ : Ren} {hp : Hp} {fr : Fr} : ∀ {kf : Fr}, selfFr ρ kf = true → keptL fr kf = someL kf → mtFr ρ hp kf fr
  | [], _, _ => trivial
  | (t, v) :: r, h, hk => by
    rw [selfFr] at h
    simp only [keptL, someL, List.cons.injEq] at hk
    split at h
    · rename_i hv
      refine ⟨?_, mtFr_self h hk.2⟩
      rw [hk.1]
      exact mtV_self (selfL_ok hv)
    · cases h

theorem mtFr_append {ρ : Ren} {hp : Hp} {fr : Fr} : ∀ {a b : Fr}, mtFr ρ hp a fr → mtFr ρ hp b fr → mtFr ρ hp (a ++ b) fr
  | [], _, _, h => h
  | (_, _) :: _, _, h, h2 => ⟨h.1, mtFr_append h.2 h2⟩

theorem mtO_self {ρ : Ren} {hp : Hp} {x : HObj} (h : ∀ i ∈ x.ids, renIs ρ i i = true) : mtO false ρ hp x x := by
  cases x with
  | gone => trivial
  | box xs => exact mtCs_self h
  | arr e r => exact ⟨rfl, rfl⟩
  | brr e r => exact ⟨rfl, rfl⟩
  | mp a b c => exact ⟨rfl, rfl, rfl⟩

theorem mtHp_self {ρ : Ren} {hp : Hp} : ∀ {kh : Hp}, selfHp ρ kh = true → keptHL hp kh = someHL kh → mtHp false ρ hp kh
  | [], _, _ => trivial
  | (t, o) :: r, h, hk => by
    rw [selfHp] at h
    simp only [keptHL, someHL, List.cons.injEq] at hk
    split at h
    · rename_i ht
      split at h
      · rename_i ho
        refine ⟨?_, mtHp_self h hk.2⟩
        unfold renIs at ht
        split at ht
        · rename_i j hj
          rw [hj]
          have := Nat.eq_of_beq_eq_true ht
          subst this
          simp only [hk.1]
          exact mtO_self (selfL_ok ho)
        · cases ht
      · cases h
    · cases h

theorem mtHp_append {fz : Bool} {ρ : Ren} {hp : Hp} : ∀ {a b : Hp}, mtHp fz ρ hp a → mtHp fz ρ hp b → mtHp fz ρ hp (a ++ b)
  | [], _, _, h => h
  | (_, _) :: _, _, h, h2 => ⟨h.1, mtHp_append h.2 h2⟩

theorem Head.match {ρ : Ren} {ov kf : Fr} {H kh : Hp} {nx n : Nat} {fr : Fr} {hp : Hp} (h : Head ρ ov kf H kh nx n fr hp) : Match (idRen kh ρ) ⟨ov ++ kf, H ++ kh, nx⟩ n fr hp := by
  obtain ⟨h1, ⟨h2, h3⟩, h4, h5⟩ := h
  simp only [Bool.and_eq_true] at h1
  exact ⟨h1.1.1, mtFr_append h2 (mtFr_self h1.1.2 h4), mtHp_append h3 (mtHp_self h1.2 h5)⟩

theorem keepHK_ok {H : Hp} : ∀ {hp : Hp} {s : List Nat} {K : Hp → Prop}, keepHK H hp s K → ∃ kh, K kh
  | [], _, _, h => ⟨_, h⟩
  | (t, v) :: r, s, K, h => by
    rw [keepHK] at h
    split at h
    · exact keepHK_ok h
    · split at h
      · exact keepHK_ok h
      · obtain ⟨kf, h⟩ := keepHK_ok h; exact ⟨_, h⟩

theorem keepK_ok {W : List Nat} : ∀ {fr : Fr} {s : List Nat} {K : Fr → Prop}, keepK W fr s K → ∃ kf, K kf
  | [], _, _, h => ⟨_, h⟩
  | (t, v) :: r, s, K, h => by
    rw [keepK] at h
    split at h
    · exact keepK_ok h
    · split at h
      · exact keepK_ok h
      · obtain ⟨kf, h⟩ := keepK_ok h; exact ⟨_, h⟩

theorem appK_ok' {α : Type} : ∀ {xs ys : List α} {K : List α → Prop}, appK xs ys K → K (xs ++ ys)
  | [], _, _, h => h
  | x :: xs, _, K, h => appK_ok' (xs := xs) (K := fun l => K (x :: l)) h

/-- A LOOP: 'ov' are the slots that its body writes and that live on from turn to turn, 'H' the objects that it changes. -/
theorem awp_for (hT : TabOK P T) (hm : P.follows .mixedOrders = true) {nt n : Nat} {b : Code} {ι : Type} (ov : ι → Fr) (H : ι → Hp) (nx' : Nat) (μ : ι → Nat) {fr : Fr} {hp : Hp} {nx : Nat} {Q : Ex → Fr → Hp → Nat → Prop} (i0 : ι) (ρ0 : Ren)
    (h : keepK (wrs b (fstL (ov i0))) fr [] fun kf => keepHK (H i0) hp [] fun kh => Head ρ0 (ov i0) kf (H i0) kh nx' n fr hp ∧ ∀ i, appK (ov i) kf fun fr1 => appK (H i) kh fun hp1 => awp P T nt n b fr1 hp1 nx' fun e fr hp nx => match e with
      | .normal => ∃ i' ρ, Head ρ (ov i') kf (H i') kh nx' n fr hp ∧ μ i' < μ i
      | .exit id => Q (.exit id) fr hp nx
      | .ret => Q .ret fr hp nx) : AWp P nt n (.loop b) fr hp nx Q := by
  obtain ⟨kf, h⟩ := keepK_ok h
  obtain ⟨kh, h0, hs⟩ := keepHK_ok h
  refine awp_loopA (fun i => ⟨ov i ++ kf, H i ++ kh, nx'⟩) μ i0 _ h0.match fun i => ?_
  have := appK_ok' (appK_ok' (hs i))
  refine (awp_sound hT hm nt n b this).mono ?_
  intro e fr hp nx
  cases e with
  | normal => rintro ⟨i', ρ, h1, h2⟩; exact ⟨i', _, h1.match, h2⟩
  | exit _ => exact fun h => h
  | ret => exact fun h => h

/-- THE SAME, and what follows the loop is shown once: all exits 'x' come to one form. -/
theorem awp_forX (hT : TabOK P T) (hm : P.follows .mixedOrders = true) {nt n : Nat} {b : Code} {ι κ : Type} (ov : ι → Fr) (H : ι → Hp) (nx' : Nat) (μ : ι → Nat) (x : Nat) (ovE : κ → Fr) (HE : κ → Hp) (nxE : Nat) {fr : Fr} {hp : Hp} {nx : Nat} {Q : Ex → Fr → Hp → Nat → Prop} (i0 : ι) (ρ0 : Ren)
    (h : keepK (wrs b (fstL (ov i0))) fr [] fun kf => keepHK (H i0) hp [] fun kh => Head ρ0 (ov i0) kf (H i0) kh nx' n fr hp ∧ (∀ i, appK (ov i) kf fun fr1 => appK (H i) kh fun hp1 => awp P T nt n b fr1 hp1 nx' fun e fr hp nx => match e with
      | .normal => ∃ i' ρ, Head ρ (ov i') kf (H i') kh nx' n fr hp ∧ μ i' < μ i
      | .exit id => match Nat.beq x id with
        | true => ∃ k ρ, Head ρ (ovE k) kf (HE k) kh nxE n fr hp
        | false => Q (.exit id) fr hp nx
      | .ret => Q .ret fr hp nx) ∧ ∀ k, appK (ovE k) kf fun fr1 => appK (HE k) kh fun hp1 => Q (.exit x) fr1 hp1 nxE) : AWp P nt n (.loop b) fr hp nx Q := by
  obtain ⟨kf, h⟩ := keepK_ok h
  obtain ⟨kh, h0, hs, hx⟩ := keepHK_ok h
  have key : AWp P nt n (.loop b) fr hp nx (fun e fr hp nx => match e with
      | .normal => False
      | .exit id => match Nat.beq x id with
        | true => ∃ k ρ, Head ρ (ovE k) kf (HE k) kh nxE n fr hp
        | false => Q (.exit id) fr hp nx
      | .ret => Q .ret fr hp nx) := by
    refine awp_loopA (fun i => ⟨ov i ++ kf, H i ++ kh, nx'⟩) μ i0 _ h0.match fun i => ?_
    have := appK_ok' (appK_ok' (hs i))
    refine (awp_sound hT hm nt n b this).mono ?_
    intro e fr hp nx
    cases e with
    | normal => rintro ⟨i', ρ, h1, h2⟩; exact ⟨i', _, h1.match, h2⟩
    | exit _ => exact fun h => h
    | ret => exact fun h => h
  refine ⟨fun Γ a w hn hsat => wp_mono (key.out Γ a w hn hsat) ?_⟩
  rintro e a' w' ⟨e', fr', hp', nx', h1, h2, h3⟩
  cases e' with
  | normal => exact h2.elim
  | ret => exact ⟨_, _, _, _, h1, h2, h3⟩
  | exit id =>
    simp only at h2
    split at h2
    · rename_i hb
      have := Nat.eq_of_beq_eq_true hb
      subst this
      obtain ⟨k, ρ, hh⟩ := h2
      subst hn
      exact ⟨_, _, _, _, h1, appK_ok' (appK_ok' (hx k)), hh.match.sat h3⟩
    · exact ⟨_, _, _, _, h1, h2, h3⟩

end
end Go.Cpl

namespace Go.Cpl
open Go
section
variable {P : Program} {T : Nat → TyI}

/-! ### the evaluator, by the recursors themselves: the kernel and the elaborator then see the same terms -/

def aopsS (P : Program) (T : Nat → TyI) (nt : Nat) (ops : List Oper) (draw : Bool) (o : Oper) (ih : Nat → List Mk → Fr → Hp → Nat → (Fr → Hp → Nat → Prop) → Prop) (k : Nat) (ms : List Mk) (fr : Fr) (hp : Hp) (nx : Nat) (K : Fr → Hp → Nat → Prop) : Prop := match o with
    | .mk dst op _ _ _ guard => guardK ops fr guard
      (fun fr => aopX draw P T fr hp nx op fun v rd us nw nx' => match bndL nx' v.ids, bndU nx' us with
        | true, true => putDst nt dst v fr fun fr => updsK us hp fun hp => match draw with
          | false => ih 0 [] fr hp nx' K
          | true => match clashOk ops k ⟨fpIds rd, fpIds us, nw, v.ids ++ (usIds us ++ fpIds us)⟩ 0 ms with
            | true => appK ms [⟨fpIds rd, fpIds us, nw, v.ids ++ (usIds us ++ fpIds us)⟩] fun ms => ih (k + 1) ms fr hp nx' K
            | false => False
        | _, _ => False)
      (fun fr => putDst nt dst .undef fr fun fr => match draw with
        | false => ih 0 [] fr hp nx K
        | true => appK ms [⟨[], [], [], []⟩] fun ms => ih (k + 1) ms fr hp nx K)

noncomputable def aopsR (P : Program) (T : Nat → TyI) (nt : Nat) (ops : List Oper) (draw : Bool) (l : List Oper) : Nat → List Mk → Fr → Hp → Nat → (Fr → Hp → Nat → Prop) → Prop :=
  List.rec (motive := fun _ => Nat → List Mk → Fr → Hp → Nat → (Fr → Hp → Nat → Prop) → Prop) (fun _ _ fr hp nx K => K fr hp nx) (fun o _ ih => aopsS P T nt ops draw o ih) l

theorem aopsR_eq (P : Program) (T : Nat → TyI) (nt : Nat) (ops : List Oper) (draw : Bool) : ∀ (l : List Oper), aopsR P T nt ops draw l = fun k ms fr hp nx K => aops P T nt ops draw k ms l fr hp nx K
  | [] => by funext k ms fr hp nx K; rfl
  | o :: r => by
    funext k ms fr hp nx K
    have ih := aopsR_eq P T nt ops draw r
    show aopsS P T nt ops draw o (aopsR P T nt ops draw r) k ms fr hp nx K = _
    rw [ih]
    rfl

noncomputable def awpR (P : Program) (T : Nat → TyI) (nt n : Nat) (c : Code) : Fr → Hp → Nat → (Ex → Fr → Hp → Nat → Prop) → Prop :=
  Code.rec (motive := fun _ => Fr → Hp → Nat → (Ex → Fr → Hp → Nat → Prop) → Prop)
    (skip := fun fr hp nx Q => Q .normal fr hp nx)
    (seq := fun _ _ iha ihb fr hp nx Q => iha fr hp nx fun e fr hp nx => match e with
      | .normal => ihb fr hp nx Q
      | .exit id => Q (.exit id) fr hp nx
      | .ret => Q .ret fr hp nx)
    (region := fun _ ops draw fr hp nx Q => match draw with
      | false => aopsR P T nt ops.toList false ops.toList 0 [] fr hp nx fun fr hp nx => Q .normal fr hp nx
      | true => drawOk ops.toList = true ∧ aopsR P T nt ops.toList true ops.toList 0 [] fr hp nx fun fr hp nx => Q .normal fr hp nx)
    (cond := fun c _ _ iha ihb fr hp nx Q => evK fr c fun v => match v with
      | .c .tt => iha fr hp nx Q
      | .c .ff => ihb fr hp nx Q
      | .c (.d (.bool x)) => (x = true → iha fr hp nx Q) ∧ (x = false → ihb fr hp nx Q)
      | _ => False)
    (block := fun id _ ihb fr hp nx Q => ihb fr hp nx fun e fr hp nx => match e with
      | .normal => Q .normal fr hp nx
      | .exit id' => match Nat.beq id id' with
        | true => Q .normal fr hp nx
        | false => Q (.exit id') fr hp nx
      | .ret => Q .ret fr hp nx)
    (exit := fun id fr hp nx Q => Q (.exit id) fr hp nx)
    (ret := fun fr hp nx Q => Q .ret fr hp nx)
    (loop := fun b _ fr hp nx Q => AWp P nt n (.loop b) fr hp nx Q)
    (rangeFunc := fun _ _ _ _ _ _ _ _ _ _ => False)
    (scope := fun _ _ _ _ _ _ => False)
    (label := fun _ _ _ _ _ => False)
    (goto := fun _ _ _ _ _ => False)
    (refuse := fun _ _ _ _ _ => False) c

theorem awpR_eq (P : Program) (T : Nat → TyI) (nt n : Nat) : ∀ (c : Code), awpR P T nt n c = awp P T nt n c := by
  intro c
  induction c with
  | skip => rfl
  | seq x y ihx ihy =>
    funext fr hp nx Q
    show awpR P T nt n x fr hp nx (fun e fr hp nx => match e with
      | .normal => awpR P T nt n y fr hp nx Q
      | .exit id => Q (.exit id) fr hp nx
      | .ret => Q .ret fr hp nx) = _
    rw [ihx, ihy]
    rfl
  | region id ops draw =>
    funext fr hp nx Q
    cases draw with
    | false =>
      show aopsR P T nt ops.toList false ops.toList 0 [] fr hp nx (fun fr hp nx => Q .normal fr hp nx) = _
      rw [aopsR_eq]
      rfl
    | true =>
      show (drawOk ops.toList = true ∧ aopsR P T nt ops.toList true ops.toList 0 [] fr hp nx (fun fr hp nx => Q .normal fr hp nx)) = _
      rw [aopsR_eq]
      rfl
  | cond c x y ihx ihy =>
    funext fr hp nx Q
    show evK fr c (fun v => match v with
      | .c .tt => awpR P T nt n x fr hp nx Q
      | .c .ff => awpR P T nt n y fr hp nx Q
      | .c (.d (.bool b)) => (b = true → awpR P T nt n x fr hp nx Q) ∧ (b = false → awpR P T nt n y fr hp nx Q)
      | _ => False) = _
    rw [ihx, ihy]
    rfl
  | block id b ih =>
    funext fr hp nx Q
    show awpR P T nt n b fr hp nx (fun e fr hp nx => match e with
      | .normal => Q .normal fr hp nx
      | .exit id' => match Nat.beq id id' with
        | true => Q .normal fr hp nx
        | false => Q (.exit id') fr hp nx
      | .ret => Q .ret fr hp nx) = _
    rw [ih]
    rfl
  | loop b ih => rfl
  | exit id => rfl
  | ret => rfl
  | rangeFunc => funext fr hp nx Q; simp [awp, awpR]
  | scope => funext fr hp nx Q; simp [awp, awpR]
  | label => funext fr hp nx Q; simp [awp, awpR]
  | goto => funext fr hp nx Q; simp [awp, awpR]
  | refuse => funext fr hp nx Q; simp [awp, awpR]

/-- A CONTRACT, from the evaluator's word on the function's body. -/
theorem callsR_of (hT : TabOK P T) (hm : P.follows .mixedOrders = true) {f : FuncId} {fn : Func} {c : Code} (hf : P.funcs[f]? = some fn) (hbody : fn.body = some c) (hname : (fn.name == "runtime.NumGoroutine") = false) {args : List AV} {hin : List HObj} {res : AV} {hout : List HObj}
    (hargs : Nat.ble args.length fn.ntmps = true) (hwf : (bndFr hin.length (frOf 0 args) && bndU hin.length (hpL 0 hin)) = true)
    (h : awpR P T fn.ntmps hin.length c (frOf 0 args) (hpL 0 hin) hin.length fun e fr hp _ => match e with
      | .normal => RetOK T hin.length fn.results.toList res hout fr hp
      | .ret => RetOK T hin.length fn.results.toList res hout fr hp
      | .exit _ => False) : CallsH P f args hin res hout := by
  rw [awpR_eq] at h
  exact callsH_of hT hm hf hbody hname hargs hwf h

/-- A LOOP: 'ov' are the slots that its body writes and that live on from turn to turn, 'H' the objects that it changes. -/
theorem loopR (hT : TabOK P T) (hm : P.follows .mixedOrders = true) {nt n : Nat} {b : Code} {ι : Type} (ov : ι → Fr) (H : ι → Hp) (nx' : Nat) (μ : ι → Nat) {fr : Fr} {hp : Hp} {nx : Nat} {Q : Ex → Fr → Hp → Nat → Prop} (i0 : ι) (ρ0 : Ren)
    (h : keepK (wrs b (fstL (ov i0))) fr [] fun kf => keepHK (H i0) hp [] fun kh => Head ρ0 (ov i0) kf (H i0) kh nx' n fr hp ∧ ∀ i, appK (ov i) kf fun fr1 => appK (H i) kh fun hp1 => awpR P T nt n b fr1 hp1 nx' fun e fr hp nx => match e with
      | .normal => ∃ i' ρ, Head ρ (ov i') kf (H i') kh nx' n fr hp ∧ μ i' < μ i
      | .exit id => Q (.exit id) fr hp nx
      | .ret => Q .ret fr hp nx) : AWp P nt n (.loop b) fr hp nx Q := by
  rw [awpR_eq] at h
  exact awp_for hT hm ov H nx' μ i0 ρ0 h

/-- THE SAME, and what follows the loop is shown once: all exits 'x' come to one form. -/
theorem loopRX (hT : TabOK P T) (hm : P.follows .mixedOrders = true) {nt n : Nat} {b : Code} {ι κ : Type} (ov : ι → Fr) (H : ι → Hp) (nx' : Nat) (μ : ι → Nat) (x : Nat) (ovE : κ → Fr) (HE : κ → Hp) (nxE : Nat) {fr : Fr} {hp : Hp} {nx : Nat} {Q : Ex → Fr → Hp → Nat → Prop} (i0 : ι) (ρ0 : Ren)
    (h : keepK (wrs b (fstL (ov i0))) fr [] fun kf => keepHK (H i0) hp [] fun kh => Head ρ0 (ov i0) kf (H i0) kh nx' n fr hp ∧ (∀ i, appK (ov i) kf fun fr1 => appK (H i) kh fun hp1 => awpR P T nt n b fr1 hp1 nx' fun e fr hp nx => match e with
      | .normal => ∃ i' ρ, Head ρ (ov i') kf (H i') kh nx' n fr hp ∧ μ i' < μ i
      | .exit id => match Nat.beq x id with
        | true => ∃ k ρ, Head ρ (ovE k) kf (HE k) kh nxE n fr hp
        | false => Q (.exit id) fr hp nx
      | .ret => Q .ret fr hp nx) ∧ ∀ k, appK (ovE k) kf fun fr1 => appK (HE k) kh fun hp1 => Q (.exit x) fr1 hp1 nxE) : AWp P nt n (.loop b) fr hp nx Q := by
  rw [awpR_eq] at h
  exact awp_forX hT hm ov H nx' μ x ovE HE nxE i0 ρ0 h

end
end Go.Cpl

namespace Go.Cpl
open Go Go.ChangeShapes Go.WideShapes Go.ChangeAt Go.RowKit

/-! ### from a contract to a given row -/

abbrev memOf (w : World) : Mem := fun b => w.heap[b]?

theorem inv_nil (P : Program) (w : World) (τ : Tau) : Inv P (memOf w) τ (hpOf []) w :=
  ⟨fun _ _ h => h, fun id => by simp [hpOf, ObjRep], fun id b h => by simp [hpOf, blkOf] at h, fun i j b h => by simp [hpOf, blkOf] at h⟩

theorem list_of {α : Type} {p : Nat → α → Prop} : ∀ n, (∀ i, i < n → ∃ a, p i a) → ∃ l : List α, l.length = n ∧ ∀ i a, l[i]? = some a → p i a
  | 0, _ => ⟨[], rfl, fun i a h => by simp at h⟩
  | n + 1, h => by
    obtain ⟨l, h1, h2⟩ := list_of n fun i hi => h i (by omega)
    obtain ⟨a, ha⟩ := h n (by omega)
    refine ⟨l ++ [a], by simp [h1], fun i b hb => ?_⟩
    rcases Nat.lt_or_ge i l.length with hi | hi
    · rw [List.getElem?_append_left hi] at hb; exact h2 i b hb
    · rw [List.getElem?_append_right hi] at hb
      have := (List.getElem?_eq_some_iff.1 hb).1
      simp at this
      have e : i = n := by omega
      subst e
      simp [h1] at hb
      rw [← hb]; exact ha

theorem add_cell {w : World} {a : Addr} {c : Array Value} {e : TypeId} {fz : Nat × Nat} (hb : w.heap[a.block]? = some (.cells c e fz)) (hs : a.spot = none) (m j : Nat) : w.cell? ((a.add m).add j) = c[a.off + m + j]? := by
  unfold Addr.add
  by_cases hm : m = 0 <;> by_cases hj : j = 0 <;> simp [hm, hj, World.cell?, hb, hs]

section
variable {H : Type} {enc : TypeId × Value → H} {P : Program} {w : World} {base : Nat} {spare : Nat → Bool} {held : Bool}

/-- a slice's rows -/
theorem trod_rows {α : Type} (f : α → List D) {t e : TypeId} (ht : P.underlying t = some (.slice e)) {s : Nat} (hs : P.cellsOf e = s) (hs0 : 0 < s) (hf : ∀ a, (f a).length = s)
    (elem : ∀ n cs x, DataW.trod enc P w base spare held n e cs = some x → ∃ a, All2 (DRep (memOf w)) (f a) cs)
    {fuel : Nat} {cs : List Value} {x : DataW H × List MemPlace} (h : DataW.trod enc P w base spare held fuel t cs = some x) : ∃ (l : List α) (v : Value), cs = [v] ∧ DRep (memOf w) (.sl (l.map f)) v := by
  rcases DataW.trod_slice ht h with ⟨rfl, _⟩ | ⟨ad, len, cap, elems, rest, n, _, rfl, _, hb, hl, hm, hlen, hel, _, _⟩
  · exact ⟨[], _, rfl, .sl0 none 0⟩
  rcases Nat.eq_zero_or_pos len with h0 | h0
  · subst h0; exact ⟨[], _, rfl, .sl0 (some ad) cap⟩
  have hp : ∀ i, i < len → ∃ a : α, ∃ cs', w.cells? base (ad.add (i * s)) s = some cs' ∧ All2 (DRep (memOf w)) (f a) cs' := fun i hi => by
    have := hel i hi
    rw [hs, List.getElem?_eq_getElem (by omega), Option.bind_eq_some_iff] at this
    obtain ⟨cs', h1, h2⟩ := this
    obtain ⟨a, ha⟩ := elem _ _ _ h2
    exact ⟨a, cs', h1, ha⟩
  -- the block
  have hblk : ∃ c e' fz, w.heap[ad.block]? = some (.cells c e' fz) ∧ ad.spot = none := by
    obtain ⟨a, cs', h1, _⟩ := hp 0 h0
    have h2 := (World.cells?_some h1).2.2 0 hs0
    have h3 : cs'[0]? ≠ none := by simp [(World.cells?_some h1).2.1]; omega
    rw [← h2] at h3
    simp only [Nat.zero_mul, Addr.add, if_true] at h3
    unfold World.cell? at h3
    split at h3
    · rename_i c e' fz hc
      refine ⟨c, e', fz, hc, ?_⟩
      cases hsp : ad.spot with
      | none => rfl
      | some _ => simp [hsp] at h3
    · exact absurd rfl h3
  obtain ⟨c, e', fz, hc, hsp⟩ := hblk
  obtain ⟨l, h1, h2⟩ := list_of len hp
  refine ⟨l, _, rfl, ?_⟩
  have hcell : ∀ (i j : Nat) (r : List D) (x : D), (l.map f)[i]? = some r → r[j]? = some x → ∃ v, c[ad.off + i * s + j]? = some v ∧ DRep (memOf w) x v := fun i j r x hr hx => by
    rw [List.getElem?_map, Option.map_eq_some_iff] at hr
    obtain ⟨a, ha, rfl⟩ := hr
    obtain ⟨cs', g1, g2⟩ := h2 i a ha
    obtain ⟨v, hv, hd⟩ := g2.get hx
    have hj : j < s := by rw [← hf a]; exact (List.getElem?_eq_some_iff.1 hx).1
    have := (World.cells?_some g1).2.2 j hj
    rw [add_cell hc hsp, hv] at this
    exact ⟨v, this, hd⟩
  have hr := DRep.sl (M := memOf w) (l.map f) ad.block ad.off cap c e' fz s (fun i j => (c[ad.off + i * s + j]?).getD Go.undef) hc (by simp; omega) (fun r hr => by
    obtain ⟨a, _, rfl⟩ := List.mem_map.1 hr; exact hf a) (fun i j r x hr hx => by
      obtain ⟨v, hv, _⟩ := hcell i j r x hr hx; simp [hv]) (fun i j r x hr hx => by
      obtain ⟨v, hv, hd⟩ := hcell i j r x hr hx; simp [hv, hd])
  have e1 : (some ad : Option Addr) = some ⟨ad.block, ad.off, none⟩ := by rw [← hsp]
  rw [e1]
  simpa [h1] using hr

theorem trod_int1 {t : TypeId} (ht : P.underlying t = some (.int .i64)) {n : Nat} {cs : List Value} {x : DataW H × List MemPlace} (h : DataW.trod enc P w base spare held n t cs = some x) : ∃ a : Int, All2 (DRep (memOf w)) [.int .i64 a] cs := by
  obtain ⟨m, rfl, _, _⟩ := DataW.trod_int ht h
  exact ⟨m, .scal (.int .i64 m) rfl, trivial⟩

theorem arg_ints {t e : TypeId} (ht : P.underlying t = some (.slice e)) (he : P.underlying e = some (.int .i64)) (hc : P.cellsOf e = 1) {b0 : Nat} {r : Reach} {v : Value} {d : DataW H} {ps : List MemPlace} (hval : Value.okWide P w r b0 t v) (hd : DataW.Trod enc P w base spare held t v d ps) :
    ∃ l : List Int, DRep (memOf w) (.sl (l.map fun x => [.int .i64 x])) v := by
  obtain ⟨a, len, cap, rfl⟩ := okWide_slice ht hval
  obtain ⟨fuel, h⟩ := hd
  obtain ⟨l, v, h1, h2⟩ := trod_rows (fun x : Int => [D.int .i64 x]) ht hc (by omega) (fun _ => rfl) (fun n cs x h => trod_int1 he h) h
  simp [Value.cells] at h1
  rw [h1]
  exact ⟨l, h2⟩

theorem arg_int {t : TypeId} (ht : P.underlying t = some (.int .i64)) {b0 : Nat} {r : Reach} {v : Value} {d : DataW H} {ps : List MemPlace} (hval : Value.okWide P w r b0 t v) (hd : DataW.Trod enc P w base spare held t v d ps) :
    ∃ n : Int, DRep (memOf w) (.int .i64 n) v := by
  obtain ⟨n, rfl, _⟩ := open_int ht hval hd
  exact ⟨n, .scal (.int .i64 n) rfl⟩

theorem arg_bool {t : TypeId} (ht : P.underlying t = some .bool) {b0 : Nat} {r : Reach} {v : Value} {d : DataW H} {ps : List MemPlace} (hval : Value.okWide P w r b0 t v) (hd : DataW.Trod enc P w base spare held t v d ps) :
    ∃ b : Bool, DRep (memOf w) (.bool b) v := by
  obtain ⟨b, rfl, _⟩ := open_bool ht hval hd
  exact ⟨b, .scal (.bool b) rfl⟩

end

theorem trodAll_below {H : Type} {enc : TypeId × Value → H} {P : Program} (hl : laidOutB P = true) {W W' : World} (hb : Below W.heap.size W W') : ∀ {ts : List TypeId} {vs : List Value} {ds : List (DataW H)} {ps : List MemPlace},
    (∀ t ∈ ts, P.readableRec t = true ∧ t < P.types.size) → DataW.TrodAll enc P W 0 (fun _ => true) true ts vs ds ps → (∀ x ∈ ps, x.block < W.heap.size) →
    DataW.TrodAll enc P W' 0 (fun b => decide (b < W.heap.size)) true ts vs ds ps ∧ DataW.TrodAll enc P W' 0 (fun _ => true) true ts vs ds ps
  | [], [], [], _, _, h, _ => ⟨h, h⟩
  | t :: ts, v :: vs, d :: ds, _, hr, ⟨p, q, h1, h2, e⟩, hlt => by
    subst e
    obtain ⟨g1, g2⟩ := trodAll_below hl hb (fun t ht => hr t (by simp [ht])) h2 fun x hx => hlt x (by simp [hx])
    have h3 := hr t (by simp)
    refine ⟨⟨p, q, Below.trod hl h3.1 h3.2 h1 hb fun x hx => hlt x (by simp [hx]), g1, rfl⟩, p, q, ?_, g2, rfl⟩
    exact WideElems.Trod_stays hl h3.1 h3.2 h1 (fun x hx => hb.same (hlt x (by simp [hx]))) (fun _ _ => rfl)
  | [], [], _ :: _, _, _, h, _ => h.elim
  | [], _ :: _, _, _, _, h, _ => h.elim
  | _ :: _, [], _, _, _, h, _ => h.elim
  | _ :: _, _ :: _, [], _, _, h, _ => h.elim

/-- A LAW's POST: true, and below the heap's old size nothing has turned. -/
theorem law_post {H : Type} {enc : TypeId × Value → H} {P : Program} {f : Func} {s : ChangeSpec} {apart handsOn again : Bool} {W W' : World} {args : Array Value} {ds gs : List (DataW H)} {before : List MemPlace} {tb : TypeId} (hl : laidOutB P = true)
    (hvars : s.vars = []) (hfn : (s.fn H (ds ++ gs)).results = [.lit (.bool true)] ∧ (s.fn H (ds ++ gs)).args = ds ∧ (s.fn H (ds ++ gs)).vars = []) (hres : f.resultTypes = #[tb]) (htb : P.underlying tb = some .bool)
    (hr : ∀ t ∈ f.params.toList, P.readableRec t = true ∧ t < P.types.size)
    (hW : DataW.Whole enc P f.params.toList s.vars apart W args.toList ds gs before) (hb : Below W.heap.size W W') : s.post enc P f apart true handsOn again W args (.bool true) W' := by
  have hW' := hW
  obtain ⟨p, q, hA, hV, rfl, hz, hn⟩ := hW
  have hlt : ∀ x ∈ p ++ q, x.block < W.heap.size := fun x hx => hW'.lt x hx
  rw [hvars] at hV
  obtain ⟨rfl, rfl⟩ := trodVars_none hV
  obtain ⟨g1, g2⟩ := trodAll_below hl hb hr hA fun x hx => hlt x (by simp [hx])
  have hres' : ∀ (b : Nat) (sp : Nat → Bool) (hd : Bool), DataW.TrodAll enc P W' b sp hd f.resultTypes.toList ((Value.bool true).resultList f.resultTypes.size) [.lit (.bool true)] [] := fun b sp hd => by
    rw [hres]
    exact trodAll_mk1 (shut_bool htb true)
  refine ⟨ds, [], p ++ [], [], p, [], hW', ?_, ?_, ?_, World.keptBut_mono (fun x hx => ⟨hx, ?_⟩) (hb.frame (· ∈ p ++ [])), fun _ => ⟨ok_one hres rfl (okWide_bool_mk htb true), [.lit (.bool true)] ++ ds, [], [] ++ p ++ [], ⟨[] ++ p, [], trodAll_append g2 (hres' _ _ _), ?_, rfl, ?_, ?_⟩, ?_⟩⟩
  · rw [hfn.1]; exact hres' _ _ _
  · rw [hfn.2.1]; exact g1
  · rw [hfn.2.2, hvars]; exact rfl
  · simp at hx; exact Or.inr (Or.inl hx)
  · rw [hvars]; exact rfl
  · intro b off hp
    rw [hb.frozen (hlt (.cell b off) (by simpa using hp))]
    exact hz b off (by simpa using hp)
  · intro ha
    have := hn ha
    simpa using this
  · intro x hx _
    simpa using hx

/-- FROM THE CONTRACT OF A LAW to what its row asks. -/
theorem law_calls {H : Type} {enc : TypeId × Value → H} {P : Program} {n : FuncId} {f : Func} {s : ChangeSpec} {apart handsOn again : Bool} {W : World} {args : Array Value} {ds gs : List (DataW H)} {before : List MemPlace} {tb : TypeId} (hl : laidOutB P = true)
    (hvars : s.vars = []) (hfn : (s.fn H (ds ++ gs)).results = [.lit (.bool true)] ∧ (s.fn H (ds ++ gs)).args = ds ∧ (s.fn H (ds ++ gs)).vars = []) (hres : f.resultTypes = #[tb]) (htb : P.underlying tb = some .bool)
    (hr : ∀ t ∈ f.params.toList, P.readableRec t = true ∧ t < P.types.size)
    (hW : DataW.Whole enc P f.params.toList s.vars apart W args.toList ds gs before) {avs : List AV} (hc : CallsH P n avs [] (.c (.d (.bool true))) []) (hargs : All2 (AVRep (memOf W) (fun _ => ⟨0, 0, 0, false⟩) (hpOf [])) avs args.toList) :
    Calls P n args W fun e W' => ∃ v, e = .returned v ∧ s.post enc P f apart true handsOn again W args v W' := by
  have := hc.run (memOf W) (fun _ => ⟨0, 0, 0, false⟩) W args.toList (inv_nil P W _) hargs
  refine Calls.mono this ?_
  rintro e W' ⟨v, M', τ', rfl, _, hv, _, _, _, hframe, hsz, hos, htape, hout⟩
  have hv' : v = .bool true := by
    cases hv with
    | scal x h => rfl
  refine ⟨v, rfl, ?_⟩
  rw [hv']
  exact law_post hl hvars hfn hres htb hr hW ⟨hos, htape, hout.1, hsz, fun k hk => hframe k hk fun i => by simp [hpOf, blkOf]⟩

end Go.Cpl
