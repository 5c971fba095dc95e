/- A layer over the model: abstract values, a generator of verification conditions for the code, and its soundness. -/
import Derived.Test.YtelnligfebjjiaaGreatCplA
import Derived.Orders
import Derived.Laws.Sem
import Derived.Laws.World
import Derived.Laws.AppendOwn
import Derived.Laws.CopyRow
import Derived.Laws.Entries
import Derived.Laws.MakeOwn
import Derived.Laws.StructEq
import Derived.Lib.SliceRun
import Derived.ChangeKeysEq
import Derived.MapKept
import Derived.Laws.Pointers
import Derived.ProofKit

namespace Go.Cpl
open Go
section sound
variable {P : Program}

theorem CR.bors {ρ : List Nat} {b : Fp} {x y : AC} (h : CR ρ b x y) : ∀ p ∈ b, p.1 ∉ ρ := by
  cases h <;> simp
  all_goals assumption

theorem CRs.bors {ρ : List Nat} {b : Fp} {x y : List AC} (h : CRs ρ b x y) : ∀ p ∈ b, p.1 ∉ ρ := by
  induction h with
  | nil => simp
  | cons h _ ih => exact fun p hp => (List.mem_append.1 hp).elim (h.bors p) (ih p)

theorem CRVs.bors {ρ : List Nat} {b : Fp} {x y : List AV} (h : CRVs ρ b x y) : ∀ p ∈ b, p.1 ∉ ρ := by
  induction h with
  | nil => simp
  | cons h _ ih =>
    refine fun p hp => (List.mem_append.1 hp).elim (fun hp => ?_) (ih p)
    cases h with
    | c h => exact h.bors p hp
    | agg h => exact h.bors p hp
    | fn h => exact h.bors p hp

theorem addId_ok {id : Nat} {l : List Nat} {K : List Nat → Prop} (h : addIdK id l K) : ∃ l', K l' := by
  unfold addIdK at h
  split at h
  · exact ⟨_, h⟩
  · exact ⟨_, app_ok h⟩

theorem roots_ok {own : Bool} : ∀ {xs : List AC} {l : List Nat} {K : List Nat → Prop}, rootsK own xs l K → ∃ l', K l'
  | [], l, K, h => ⟨l, h⟩
  | x :: r, l, K, h => by
    cases x <;> simp only [rootsK] at h
    case ptr => obtain ⟨l', h⟩ := addId_ok h; exact roots_ok h
    case gs =>
      cases own with
      | true => obtain ⟨l', h⟩ := addId_ok h; exact roots_ok h
      | false => exact roots_ok h
    case mp => obtain ⟨l', h⟩ := addId_ok h; exact roots_ok h
    all_goals exact roots_ok h

theorem inner_ok : ∀ {xs : List AC} {l : List Nat} {K : List Nat → Prop}, innerK xs l K → ∃ l', K l'
  | [], l, K, h => ⟨l, h⟩
  | x :: r, l, K, h => by
    cases x <;> simp only [innerK] at h
    case ptr => obtain ⟨l', h⟩ := addId_ok h; exact inner_ok h
    case gs => obtain ⟨l', h⟩ := addId_ok h; exact inner_ok h
    case mp => obtain ⟨l', h⟩ := addId_ok h; exact inner_ok h
    all_goals exact inner_ok h

theorem inners_ok {hp : Hp} : ∀ {xs : List Nat} {l : List Nat} {K : List Nat → Prop}, innersK hp xs l K → ∃ l', K l'
  | [], l, K, h => ⟨l, h⟩
  | x :: r, l, K, h => by
    unfold innersK at h
    split at h
    · obtain ⟨l', h⟩ := inner_ok h; exact inners_ok h
    · exact inners_ok h

theorem cellsAll_ok : ∀ {vs : List AV} {K : List AC → Prop}, cellsAllK vs K → ∃ l, K l
  | [], K, h => ⟨[], h⟩
  | v :: r, K, h => by
    cases v <;> simp only [cellsAllK] at h <;> obtain ⟨l, h⟩ := cellsAll_ok h
    case agg => exact ⟨_, app_ok h⟩
    case fn => exact ⟨_, app_ok h⟩
    all_goals exact ⟨_, h⟩

theorem sameK_ok {hp : Hp} : ∀ {n : Nat} {us : Fp} {K : Fp → Prop}, sameK hp n us K → ∃ pre us', us = pre ++ us' ∧ pre.length = n ∧ (∀ p ∈ pre, p.2 = hpAt hp p.1) ∧ K us'
  | 0, us, _, h => ⟨[], us, rfl, rfl, by simp, h⟩
  | n + 1, (id, o) :: us, K, h => by
    obtain ⟨h1, h2⟩ := h
    obtain ⟨pre, us', rfl, e2, e3, e4⟩ := sameK_ok h2
    exact ⟨(id, o) :: pre, us', rfl, by simp [e2], fun p hp => by
      rcases List.mem_cons.1 hp with rfl | hp
      · exact h1
      · exact e3 p hp, e4⟩
  | _ + 1, [], _, h => h.elim

theorem updH_out {H : HF} {j : Nat} : ∀ {us : Fp}, (∀ q ∈ us, q.1 ≠ j) → updH H us j = H j
  | [], _ => rfl
  | (i, o) :: us, h => by
    have := h (i, o) (by simp)
    simp only [updH]
    rw [if_neg this]
    exact updH_out fun q hq => h q (by simp [hq])

theorem updH_pre {H : HF} {us : Fp} : ∀ {pre : Fp}, (∀ p ∈ pre, H p.1 = p.2) → (∀ p ∈ pre, ∀ q ∈ us, q.1 ≠ p.1) → updH H (pre ++ us) = updH H us
  | [], _, _ => rfl
  | (i, o) :: pre, h1, h2 => by
    have ih := updH_pre (H := H) (us := us) (pre := pre) (fun p hp => h1 p (by simp [hp])) (fun p hp => h2 p (by simp [hp]))
    funext j
    simp only [List.cons_append, updH]
    rw [ih]
    split
    · rename_i e
      subst e
      rw [updH_out fun q hq => h2 (i, o) (by simp) q hq]
      exact (h1 (i, o) (by simp)).symm
    · rfl

theorem callK_ok {mode : Nat} {f : FuncId} {vs : List AV} {hp : Hp} {nx : Nat} {K : OpK} (h : callK P mode f vs hp nx K) : ∃ (rd us : Fp) (nw : List Nat) (nx' : Nat) (res : AV), (∀ p ∈ rd, hpAt hp p.1 = p.2) ∧ (∀ id ∈ nw, nx ≤ id ∧ id < nx') ∧ nx ≤ nx' ∧ Callable P f ∧
    (∀ (M : Mem) (τ : Tau) (H : HF) (w : World) (zs : List Value), Inv P M τ H w → (∀ p ∈ rd, H p.1 = p.2) → (∀ id ∈ nw, FreshH H id) → All2 (AVRep M τ H) vs zs →
      Calls P f zs.toArray w fun e w' => ∃ v, e = .returned v ∧ ∃ M' τ', Nx P M τ H w (updH H us) M' τ' w' nw ∧ AVRep M' τ' (updH H us) res v) ∧ K res rd us nw nx' := by
  unfold callK at h
  obtain ⟨cells, h⟩ := cellsAll_ok h
  obtain ⟨roots, h⟩ := roots_ok h
  obtain ⟨roots, h⟩ := inners_ok h
  obtain ⟨ρ, h⟩ := inners_ok h
  obtain ⟨args, bor, ha, hb, h⟩ := argVs_ok h
  obtain ⟨hin, rd, h1, h2, h3, h⟩ := hin_ok h
  obtain ⟨res, hout, hC, h⟩ := h
  split at h
  · rename_i hchk
    obtain ⟨hold, hnew, hd1, hd2, h⟩ := drop_ok h
    obtain ⟨nw, n1, n2, h⟩ := new_ok h
    have h := app_ok h
    split at h
    · rename_i hnd
      have hnd := nodupB_ok hnd
      obtain ⟨res', hres, h⟩ := renV_ok h
      obtain ⟨us, u1, u2, u3, h⟩ := renHs_ok h
      have h := app_ok h
      have key : ∀ (M : Mem) (τ : Tau) (H : HF) (w : World) (zs : List Value), Inv P M τ H w → (∀ p ∈ rd ++ bor, H p.1 = p.2) → (∀ id ∈ nw, FreshH H id) → All2 (AVRep M τ H) vs zs →
          Calls P f zs.toArray w fun e w' => ∃ v, e = .returned v ∧ ∃ M' τ', Nx P M τ H w (updH H us) M' τ' w' nw ∧ AVRep M' τ' (updH H us) res' v := by
        intro M τ H w zs hinv hrd hfr hz
        have hlen : ρ.length = hin.length := h1.length
        refine call_nx hinv hC hlen (fun k id hk => ?_) ha (fun p hp => hrd p (by simp [hp])) ha.bors hnd hfr u3 u1 u2 hres ?_ hz
        · obtain ⟨o, ho, hor⟩ := h1.get hk
          have hH : H id = hpAt hp id := hrd (id, hpAt hp id) (by simp [h3 id (List.mem_of_getElem? hk)])
          rw [hH]
          simpa [hpOf, ho] using hor
        · simp only [Bool.or_eq_true, Bool.and_eq_true] at hchk
          rcases hchk with hc | hc
          · left
            cases bor with
            | nil => rfl
            | cons => simp [isNil] at hc
          · exact .inr hc
      have hrb : ∀ p ∈ rd ++ bor, hpAt hp p.1 = p.2 := fun p hp => (List.mem_append.1 hp).elim (h2 p) (hb p)
      split at h
      · exact ⟨rd ++ bor, us, nw, _, res', hrb, n2, by omega, hC.1, key, h⟩
      · obtain ⟨pre, us', rfl, e2, e3, h⟩ := sameK_ok h
        refine ⟨rd ++ bor, us', nw, _, res', hrb, n2, by omega, hC.1, fun M τ H w zs hinv hrd hfr hz => ?_, h⟩
        have hids : ∀ k (p : Nat × HObj), (pre ++ us')[k]? = some p → (ρ ++ nw)[k]? = some p.1 := fun k p hk => by
          have hlt := (List.getElem?_eq_some_iff.1 hk).1
          rw [u3] at hlt
          obtain ⟨id, hid⟩ : ∃ id, (ρ ++ nw)[k]? = some id := ⟨_, List.getElem?_eq_getElem hlt⟩
          obtain ⟨o, ho⟩ : ∃ o, hout[k]? = some o := ⟨_, List.getElem?_eq_getElem (by rw [← u1]; exact hlt)⟩
          obtain ⟨o', _, h9⟩ := u2 k id o hid ho
          rw [h9] at hk
          cases hk
          exact hid
        have heq : updH H (pre ++ us') = updH H us' := by
          refine updH_pre (fun p hpm => ?_) (fun p hpm q hq => ?_)
          · obtain ⟨k, hk⟩ := List.mem_iff_getElem?.1 hpm
            have hkl := (List.getElem?_eq_some_iff.1 hk).1
            have := hids k p (by rw [List.getElem?_append_left hkl]; exact hk)
            rw [List.getElem?_append_left (by omega)] at this
            rw [e3 p hpm]
            exact hrd (p.1, hpAt hp p.1) (by simp [h3 p.1 (List.mem_of_getElem? this)])
          · intro e
            obtain ⟨k, hk⟩ := List.mem_iff_getElem?.1 hpm
            obtain ⟨j, hj⟩ := List.mem_iff_getElem?.1 hq
            have hkl := (List.getElem?_eq_some_iff.1 hk).1
            have hk1 := hids k p (by rw [List.getElem?_append_left hkl]; exact hk)
            have hj1 := hids (pre.length + j) q (by rw [List.getElem?_append_right (by omega)]; simpa using hj)
            have hk2 := (List.getElem?_eq_some_iff.1 hk1)
            have hj2 := (List.getElem?_eq_some_iff.1 hj1)
            exact List.pairwise_iff_getElem.1 hnd k (pre.length + j) hk2.1 hj2.1 (by omega) (by rw [hk2.2, hj2.2, e])
        have := key M τ H w zs hinv hrd hfr hz
        rw [heq] at this
        exact this
    · exact h.elim
  · exact h.elim

def Sound (P : Program) (fr : Fr) (hp : Hp) (nx : Nat) (op : Op) (K : OpK) : Prop :=
  ∃ (d : OpData) (nx' : Nat), (∀ p ∈ d.ins, EvOK fr p.1 p.2 ∧ p.1 ∈ op.operands.toList) ∧ (∀ p ∈ d.rd, hpAt hp p.1 = p.2) ∧ (∀ o : Oper, o.op = op → OpHolds P o d) ∧ (∀ id ∈ d.nw, nx ≤ id ∧ id < nx') ∧ nx ≤ nx' ∧ K d.v d.rd d.us d.nw nx'

theorem Sound.of {fr : Fr} {hp : Hp} {nx : Nat} {op : Op} {K : OpK} {ins : List (Operand × AV)} {rd us : Fp} {nw : List Nat} {v : AV} (hK : K v rd us nw (nx + nw.length)) (hins : ∀ p ∈ ins, EvOK fr p.1 p.2 ∧ p.1 ∈ op.operands.toList) (hrd : ∀ p ∈ rd, hpAt hp p.1 = p.2)
    (hnw : nw = [] ∨ nw = [nx]) (ho : ∀ o : Oper, o.op = op → OpHolds P o ⟨ins, rd, us, nw, v⟩) : Sound P fr hp nx op K :=
  ⟨⟨ins, rd, us, nw, v⟩, nx + nw.length, hins, hrd, ho, (by rcases hnw with rfl | rfl <;> simp), by omega, hK⟩

theorem All2.zip_mem {α β : Type} {R : α → β → Prop} : ∀ {xs : List α} {ys : List β}, All2 R xs ys → ∀ p ∈ xs.zip ys, R p.1 p.2 ∧ p.1 ∈ xs
  | [], [], _, p, h => by simp at h
  | x :: xs, y :: ys, ⟨h1, h2⟩, p, h => by
    simp only [List.zip_cons_cons, List.mem_cons] at h
    rcases h with rfl | h
    · exact ⟨h1, by simp⟩
    · have := All2.zip_mem h2 p h; exact ⟨this.1, by simp [this.2]⟩
  | [], _ :: _, h, _, _ => h.elim
  | _ :: _, [], h, _, _ => h.elim

theorem zip_rep {M : Mem} {τ : Tau} {H : HF} {ρ : Operand → Value} : ∀ {xs : List Operand} {vs : List AV}, xs.length = vs.length → (∀ p ∈ xs.zip vs, AVRep M τ H p.2 (ρ p.1)) → All2 (AVRep M τ H) vs (xs.map ρ)
  | [], [], _, _ => trivial
  | x :: xs, v :: vs, hl, h => ⟨h (x, v) (by simp), zip_rep (by simpa using hl) fun p hp => h p (by simp [hp])⟩
  | [], _ :: _, h, _ => by simp at h
  | _ :: _, [], h, _ => by simp at h

theorem cellsV_ok : ∀ {cs : List AC} {K : List AV → Prop}, aop.cellsVK cs K → K (cs.map .c)
  | [], _, h => h
  | _ :: cs, _, h => cellsV_ok (cs := cs) h

theorem map_c_rep {M : Mem} {τ : Tau} {H : HF} : ∀ {cs : List AC} {us : List Value}, All2 (ACRep M τ H) cs us → All2 (AVRep M τ H) (cs.map .c) us
  | [], [], _ => trivial
  | _ :: _, _ :: _, ⟨h1, h2⟩ => ⟨h1, map_c_rep h2⟩
  | [], _ :: _, h => h.elim
  | _ :: _, [], h => h.elim

theorem sound_call {mode : Nat} {fr : Fr} {hp : Hp} {nx : Nat} {f : FuncId} {x : Operand} {args : Array Operand} {types : Array TypeId} {vs : List AV} {caps : List AC} {K : OpK} (hx : EvOK fr x (.fn f caps)) (hvs : All2 (EvOK fr) args.toList vs)
    (h : callK P mode f (vs ++ caps.map .c) hp nx K) : Sound P fr hp nx (.call ⟨.value x, args, types⟩) K := by
  obtain ⟨rd, us, nw, nx', res, h1, h2, h3, h4, h5, h6⟩ := callK_ok h
  refine ⟨⟨(x, .fn f caps) :: args.toList.zip vs, rd, us, nw, res⟩, nx', fun p hp => ?_, h1, fun o ho M τ H w ρ hinv hins hrd hnew => ?_, h2, h3, h6⟩
  · cases hp with
    | head => exact ⟨hx, by simp [Op.operands, Call.operands]⟩
    | tail _ hp => have := hvs.zip_mem p hp; exact ⟨this.1, by simp [Op.operands, Call.operands]; exact .inr (by simpa using this.2)⟩
  · obtain ⟨us', hfn, hcaps⟩ := hins (x, .fn f caps) (by simp)
    simp only at hfn
    refine OpRun.call (run_call h4 ho hfn w) ?_
    have hz := (zip_rep (ρ := ρ) hvs.length fun p hp => hins p (by simp [hp])).append (map_c_rep hcaps)
    have := h5 M τ H w _ hinv hrd (fun id hid => (hnew id hid).1) hz
    have e : args.map ρ ++ us'.toArray = (args.toList.map ρ ++ us').toArray := by
      apply Array.ext'; simp
    rw [e]
    exact this

end sound
end Go.Cpl

namespace Go.Cpl
open Go
section sound
variable {P : Program}

theorem pt_of {o : HObj} (h1 : ¬ o = .gone) (h2 : ∀ a b c, ¬ o = .mp a b c) (h3 : ∀ a b, ¬ o = .brr a b) : o.pt = true := by
  cases o with
  | gone => exact absurd rfl h1
  | box => rfl
  | arr => rfl
  | mp a b c => exact absurd rfl (h2 a b c)
  | brr a b => exact absurd rfl (h3 a b)

theorem hp_box {hp : Hp} {id : Nat} {o : HObj} (h : hpAt hp id = o) : ∀ p ∈ [(id, o)], hpAt hp p.1 = p.2 := by simp [h]

theorem Sound.pure {fr : Fr} {hp : Hp} {nx : Nat} {op : Op} {K : OpK} {ins : List (Operand × AV)} {rd : Fp} {v : AV} (hK : K v rd [] [] nx) (hins : ∀ p ∈ ins, EvOK fr p.1 p.2 ∧ p.1 ∈ op.operands.toList) (hrd : ∀ p ∈ rd, hpAt hp p.1 = p.2)
    (ho : ∀ o : Oper, o.op = op → OpHolds P o ⟨ins, rd, [], [], v⟩) : Sound P fr hp nx op K := Sound.of (nw := []) hK hins hrd (.inl rfl) ho

theorem Sound.p1 {fr : Fr} {hp : Hp} {nx : Nat} {op : Op} {K : OpK} {x : Operand} {v r : AV} {rd : Fp} (hv : EvOK fr x v) (hm : x ∈ op.operands.toList) (hK : K r rd [] [] nx) (hrd : ∀ p ∈ rd, hpAt hp p.1 = p.2)
    (ho : ∀ o : Oper, o.op = op → OpHolds P o ⟨[(x, v)], rd, [], [], r⟩) : Sound P fr hp nx op K := Sound.pure hK (by simpa using ⟨hv, by simpa using hm⟩) hrd ho

theorem Sound.p2 {fr : Fr} {hp : Hp} {nx : Nat} {op : Op} {K : OpK} {x y : Operand} {v u r : AV} {rd : Fp} (hv : EvOK fr x v) (hu : EvOK fr y u) (hm : x ∈ op.operands.toList ∧ y ∈ op.operands.toList) (hK : K r rd [] [] nx) (hrd : ∀ p ∈ rd, hpAt hp p.1 = p.2)
    (ho : ∀ o : Oper, o.op = op → OpHolds P o ⟨[(x, v), (y, u)], rd, [], [], r⟩) : Sound P fr hp nx op K :=
  Sound.pure hK (fun p hp => by
    simp only [List.mem_cons, List.not_mem_nil, or_false] at hp
    rcases hp with rfl | rfl
    · exact ⟨hv, hm.1⟩
    · exact ⟨hu, hm.2⟩) hrd ho

theorem Sound.w2 {fr : Fr} {hp : Hp} {nx : Nat} {op : Op} {K : OpK} {x y : Operand} {v u r : AV} {rd us : Fp} {nw : List Nat} (hv : EvOK fr x v) (hu : EvOK fr y u) (hm : x ∈ op.operands.toList ∧ y ∈ op.operands.toList) (hK : K r rd us nw (nx + nw.length)) (hrd : ∀ p ∈ rd, hpAt hp p.1 = p.2) (hnw : nw = [] ∨ nw = [nx])
    (ho : ∀ o : Oper, o.op = op → OpHolds P o ⟨[(x, v), (y, u)], rd, us, nw, r⟩) : Sound P fr hp nx op K :=
  Sound.of hK (fun p hp => by
    simp only [List.mem_cons, List.not_mem_nil, or_false] at hp
    rcases hp with rfl | rfl
    · exact ⟨hv, hm.1⟩
    · exact ⟨hu, hm.2⟩) hrd hnw ho

theorem gives_ok {x : Int} {K : Int → Prop} (h : Gives x K) : K x := by
  obtain ⟨c, rfl, h⟩ := h; exact h

theorem aop_sound {T : Nat → TyI} (hT : TabOK P T) {fr : Fr} {hp : Hp} {nx : Nat} {op : Op} {K : OpK} (h : aop P T fr hp nx op K) : Sound P fr hp nx op K := by
  unfold aop at h
  split at h
  · -- move
    rename_i x
    replace h := ev_ok h
    obtain ⟨v, hv, h⟩ := h
    exact Sound.pure h (ins := [(x, v)]) (by simp [hv, Op.operands]) (by simp) fun o ho => ok_move (.inl ho)
  · -- assign
    rename_i x
    replace h := ev_ok h
    obtain ⟨v, hv, h⟩ := h
    exact Sound.pure h (ins := [(x, v)]) (by simp [hv, Op.operands]) (by simp) fun o ho => ok_move (.inr ho)
  · -- pick
    rename_i c a b
    replace h := ev_ok h
    obtain ⟨v, hv, h⟩ := h
    split at h
    · replace h := ev_ok h
      obtain ⟨u, hu, h⟩ := h
      exact Sound.pure h (ins := [(c, .c .tt), (a, u)]) (by simp [hv, hu, Op.operands]) (by simp) fun o ho => ok_pick (t := true) ho
    · replace h := ev_ok h
      obtain ⟨u, hu, h⟩ := h
      exact Sound.pure h (ins := [(c, .c .ff), (b, u)]) (by simp [hv, hu, Op.operands]) (by simp) fun o ho => ok_pick (t := false) ho
    · exact h.elim
  · -- alloc
    rename_i t
    have ht := hT t
    generalize T t = i at h ht
    obtain ⟨kind, ik, size, zero, offs, el⟩ := i
    simp only at h
    split at h
    · exact h.elim
    · rename_i hk
      exact Sound.of (nw := [nx]) (succ_ok h) (ins := []) (by simp) (by simp) (.inr rfl) fun o ho => ok_alloc ho ht hk
  · -- box
    rename_i t x
    replace h := ev_ok h
    obtain ⟨v, hv, h⟩ := h
    split at h
    · rename_i cs hc
      exact Sound.of (nw := [nx]) (succ_ok h) (ins := [(x, v)]) (by simp [hv, Op.operands]) (by simp) (.inr rfl) fun o ho => ok_box ho hc
    · exact h.elim
  · -- load
    rename_i t x
    have ht := hT t
    generalize T t = i at h ht
    obtain ⟨kind, ik, size, zero, offs, el⟩ := i
    simp only at h
    replace h := ev_ok h
    obtain ⟨v, hv, h⟩ := h
    split at h
    · rename_i cells
      split at h
      · exact h.elim
      · replace h := take_ok h
        obtain ⟨l, r, rfl, hl, h⟩ := h
        replace h := mapD_ok h
        exact Sound.p1 hv (by simp [Op.operands]) h (by simp) fun o ho => ok_load_rp_agg ho ht rfl hl
      · rename_i hk0 hk3
        replace h := nth_ok h
        obtain ⟨c, hc, h⟩ := h
        cases cells with
        | nil => simp at hc
        | cons c0 cells =>
          simp at hc; subst hc
          exact Sound.p1 hv (by simp [Op.operands]) h (by simp) fun o ho => ok_load_rp_cell ho ht hk0 hk3
    · rename_i id row col
      split at h
      · rename_i cells hb
        split at h
        · exact h.elim
        · replace h := drop_ok h
          obtain ⟨pre, l1, rfl, hp1, h⟩ := h
          replace h := take_ok h
          obtain ⟨l, r, rfl, hl, h⟩ := h
          exact Sound.p1 hv (by simp [Op.operands]) h (hp_box hb) fun o ho => ok_load_box_agg ho ht rfl hl hp1 rfl
        · rename_i hk0 hk3
          replace h := nth_ok h
          obtain ⟨c, hc, h⟩ := h
          exact Sound.p1 hv (by simp [Op.operands]) h (hp_box hb) fun o ho => ok_load_box_cell ho ht hk0 hk3 hc
      · rename_i e rows hb
        obtain ⟨r, hr, h⟩ := h
        split at h
        · exact h.elim
        · replace h := drop_ok h
          obtain ⟨pre, l1, rfl, hp1, h⟩ := h
          replace h := take_ok h
          obtain ⟨l, r, rfl, hl, h⟩ := h
          replace h := mapD_ok h
          exact Sound.p1 hv (by simp [Op.operands]) h (hp_box hb) fun o ho => ok_load_arr_agg ho ht rfl hl hp1 hr
        · rename_i hk0 hk3
          replace h := nth_ok h
          obtain ⟨c, hc, h⟩ := h
          exact Sound.p1 hv (by simp [Op.operands]) h (hp_box hb) fun o ho => ok_load_arr_cell ho ht hk0 hk3 hr hc
      · exact h.elim
    · exact h.elim
  · -- store
    rename_i t x y
    have ht := hT t
    generalize T t = i at h ht
    obtain ⟨kind, ik, size, zero, offs, el⟩ := i
    simp only at h
    split at h
    · exact h.elim
    · rename_i hk0
      replace h := ev_ok h
      obtain ⟨v, hv, h⟩ := h
      replace h := ev_ok h
      obtain ⟨u, hu, h⟩ := h
      split at h
      · rename_i id row col ys hc
        split at h
        · rename_i hl
          have hl := Nat.eq_of_beq_eq_true hl
          have hpos : 0 < size := by
            rcases ht with ht | ⟨_, _, _, ht, _⟩
            · exact absurd ht hk0
            · exact ht
          split at h
          · rename_i cells hb
            rcases put_ok h with ⟨e, _⟩ | ⟨A, old, B, rfl, hA, hold, h⟩
            · rw [e] at hl; simp at hl; omega
            · exact Sound.w2 (nw := []) hv hu (by simp [Op.operands]) h (hp_box hb) (.inl rfl) fun o ho => ok_store_box ho ht hk0 hc hl rfl hA hold
          · rename_i e rows hb
            obtain ⟨r, hr, h⟩ := h
            replace h := scals_ok h
            obtain ⟨ds, h, hs1, hs2, hs3⟩ := h
            rcases put_ok h with ⟨e, _⟩ | ⟨A, old, B, rfl, hA, hold, h⟩
            · rw [e] at hs2; simp at hs2; omega
            · exact Sound.w2 (nw := []) hv hu (by simp [Op.operands]) h (hp_box hb) (.inl rfl) fun o ho => ok_store_arr ho ht hk0 hc hs3 hs1 hs2 hl hr hA hold
          · exact h.elim
        · exact h.elim
      · exact h.elim
  · -- nilCheck
    rename_i x
    replace h := ev_ok h
    obtain ⟨v, hv, h⟩ := h
    split at h
    · split at h
      · exact h.elim
      · exact h.elim
      · exact h.elim
      · rename_i hb1 hb2 hb3
        exact Sound.p1 hv (by simp [Op.operands]) h (by simp) fun o ho => ok_nilCheck_ptr ho (pt_of hb1 hb2 hb3)
    · exact Sound.p1 hv (by simp [Op.operands]) h (by simp) fun o ho => ok_nilCheck_rp ho
    · exact h.elim
  · -- binOp
    rename_i op t x y t'
    have ht := hT t
    generalize T t = i at h ht
    obtain ⟨kind, ik, size, zero, offs, el⟩ := i
    simp only at h
    replace h := ev_ok h
    obtain ⟨v, hv, h⟩ := h
    replace h := ev_ok h
    obtain ⟨u, hu, h⟩ := h
    unfold abin at h
    split at h
    · rename_i k a k' b
      split at h
      · have h2 := gives_ok h.2
        exact Sound.p2 hv hu (by simp [Op.operands]) h2 (by simp) fun o ho => ok_binInt ho (fun w => by simp [binOp, Op.shift, show ¬ b < 0 by omega]) (fun M τ H => int_rep M τ H _ _)
      · have h2 := gives_ok h.2
        exact Sound.p2 hv hu (by simp [Op.operands]) h2 (by simp) fun o ho => ok_binInt ho (fun w => by simp [binOp, Op.shift, show ¬ b < 0 by omega]) (fun M τ H => int_rep M τ H _ _)
      · split at h
        · rename_i hkk
          have := ikEq_eq hkk
          subst this
          obtain ⟨r, _, h2, h3⟩ := abinInt_ok (P := P) (t := t) (t' := t') (x := x) (y := y) h
          exact Sound.p2 hv hu (by simp [Op.operands]) h2 (by simp) h3
        · exact h.elim
    · split at h
      · split at h
        · rename_i a b ha hb
          split at h
          · exact Sound.p2 hv hu (by simp [Op.operands]) h (by simp) fun o ho => ok_binBool (op := .eql) ho ht rfl ha hb (.inl rfl)
          · exact Sound.p2 hv hu (by simp [Op.operands]) h (by simp) fun o ho => ok_binBool (op := .neq) ho ht rfl ha hb (.inr rfl)
          · exact h.elim
        · exact h.elim
      · exact h.elim
  · -- not
    rename_i t x
    replace h := ev_ok h
    obtain ⟨v, hv, h⟩ := h
    split at h
    · exact Sound.p1 hv (by simp [Op.operands]) h (by simp) fun o ho => ok_not (b := true) ho rfl (fun _ _ _ => rfl)
    · exact Sound.p1 hv (by simp [Op.operands]) h (by simp) fun o ho => ok_not (b := false) ho rfl (fun _ _ _ => rfl)
    · exact Sound.p1 hv (by simp [Op.operands]) h (by simp) fun o ho => ok_not ho rfl (fun M τ H => bool_rep M τ H _)
    · exact h.elim
  · -- neg
    rename_i t x
    replace h := ev_ok h
    obtain ⟨v, hv, h⟩ := h
    split at h
    · exact Sound.p1 hv (by simp [Op.operands]) (gives_ok h) (by simp) fun o ho => ok_neg ho
    · exact h.elim
  · -- convert
    rename_i s t x
    have hs := hT s
    have ht := hT t
    generalize T s = i at h hs
    generalize T t = j at h ht
    obtain ⟨kind', ik', size', zero', offs', el'⟩ := i
    obtain ⟨kind, ik, size, zero, offs, el⟩ := j
    simp only at h
    replace h := ev_ok h
    obtain ⟨v, hv, h⟩ := h
    split at h
    · split at h
      · obtain ⟨d, hd, _⟩ := hs.und (by simp)
        exact Sound.p1 hv (by simp [Op.operands]) (gives_ok h) (by simp) fun o ho => ok_convert ho ht rfl hd
      · exact h.elim
    · exact h.elim
  · -- fieldAddr
    rename_i t x f
    have ht := hT t
    generalize T t = i at h ht
    obtain ⟨kind, ik, size, zero, offs, el⟩ := i
    simp only at h
    split at h
    · replace h := ev_ok h
      obtain ⟨v, hv, h⟩ := h
      replace h := nth_ok h
      obtain ⟨⟨off, sz, ag⟩, hf, h⟩ := h
      simp only at h
      split at h
      · split at h
        · exact h.elim
        · exact h.elim
        · exact h.elim
        · rename_i hb1 hb2 hb3
          exact Sound.p1 hv (by simp [Op.operands]) (add_ok h) (by simp) fun o ho => ok_fieldAddr_ptr ho ht rfl hf (pt_of hb1 hb2 hb3)
      · replace h := drop_ok h
        obtain ⟨pre, l, rfl, hp1, h⟩ := h
        exact Sound.p1 hv (by simp [Op.operands]) h (by simp) fun o ho => ok_fieldAddr_rp ho ht rfl hf hp1
      · exact h.elim
    · exact h.elim
  · -- field
    rename_i t x f
    have ht := hT t
    generalize T t = i at h ht
    obtain ⟨kind, ik, size, zero, offs, el⟩ := i
    simp only at h
    split at h
    · replace h := ev_ok h
      obtain ⟨v, hv, h⟩ := h
      replace h := nth_ok h
      obtain ⟨⟨off, sz, ag⟩, hf, h⟩ := h
      simp only at h
      split at h
      · replace h := drop_ok h
        obtain ⟨pre, l1, rfl, hp1, h⟩ := h
        split at h
        · replace h := take_ok h
          obtain ⟨l, r, rfl, hl, h⟩ := h
          exact Sound.p1 hv (by simp [Op.operands]) h (by simp) fun o ho => ok_field_agg ho ht rfl hf rfl hp1 hl
        · replace h := nth_ok h
          obtain ⟨c, hc, h⟩ := h
          exact Sound.p1 hv (by simp [Op.operands]) h (by simp) fun o ho => ok_field_cell ho ht rfl hf (by rw [List.getElem?_append_right (by omega), hp1]; simpa using hc)
      · exact h.elim
    · exact h.elim
  · -- indexAddr
    rename_i t x y
    have ht := hT t
    generalize T t = i at h ht
    obtain ⟨kind, ik, size, zero, offs, el⟩ := i
    simp only at h
    split at h
    · have hj := hT el
      generalize T el = j at h hj
      obtain ⟨kind', ik', size', zero', offs', el'⟩ := j
      simp only at h
      split at h
      · exact h.elim
      · rename_i hk
        replace h := ev_ok h
        obtain ⟨v, hv, h⟩ := h
        replace h := ev_ok h
        obtain ⟨u, hu, h⟩ := h
        split at h
        · split at h
          · obtain ⟨h0, r, hr, h⟩ := h
            split at h
            · rename_i hl
              exact Sound.p2 hv hu (by simp [Op.operands]) h (by simp) fun o ho => ok_index_sl ho ht rfl hj hk h0 hr (Nat.eq_of_beq_eq_true hl)
            · exact h.elim
          · split at h
            · rename_i e rows hb
              split at h
              · rename_i he
                have := Nat.eq_of_beq_eq_true he
                subst this
                exact Sound.p2 hv hu (by simp [Op.operands]) h.2.2 (hp_box hb) fun o ho => ok_index_gs ho ht rfl hj hk h.1 h.2.1
              · exact h.elim
            · exact h.elim
          · exact h.elim
        · exact h.elim
    · exact h.elim
  · -- build
    rename_i t parts
    have ht := hT t
    generalize T t = i at h ht
    obtain ⟨kind, ik, size, zero, offs, el⟩ := i
    simp only at h
    split at h
    · have hz : offs.all (fun f => f.2.1 != 0) = true := by
        rcases ht with ht | ⟨_, _, _, _, ht⟩
        · simp at ht
        · exact ht.2
      obtain ⟨ins, res, h1, h2⟩ := fill_ok h hz
      refine Sound.pure h2 (ins := ins) (fun p hp => ?_) (by simp) fun o ho => ok_build ho ht rfl h1
      have : ∀ {ins : List (Operand × AV)} {cells res : List AC} {ps : List (Nat × Operand)}, Filled fr offs ins cells ps res → ∀ p ∈ ins, EvOK fr p.1 p.2 ∧ p.1 ∈ ps.map (·.2) := by
        intro ins cells res ps h
        induction h with
        | nil => simp
        | cons _ hev _ _ _ _ _ ih =>
          intro p hp
          cases hp with
          | head => exact ⟨hev, by simp⟩
          | tail _ hp => have := ih p hp; exact ⟨this.1, by simp only [List.map_cons, List.mem_cons]; exact .inr this.2⟩
      have h3 := this h1 p hp
      exact ⟨h3.1, by simpa [Op.operands] using h3.2⟩
    · exact h.elim
  · -- buildSlice
    rename_i t len parts
    have ht := hT t
    generalize T t = i at h ht
    obtain ⟨kind, ik, size, zero, offs, el⟩ := i
    simp only at h
    split at h
    · have hj := hT el
      generalize T el = j at h hj
      obtain ⟨kind', ik', size', zero', offs', el'⟩ := j
      simp only at h
      split at h
      · exact h.elim
      · rename_i hk
        split at h
        · rename_i hl hs
          replace h := elems_ok h
          obtain ⟨ins, rows, h1, h2⟩ := h
          refine Sound.of (nw := [nx]) (succ_ok h2) (ins := ins) (fun p hp => ?_) (by simp) (.inr rfl) fun o ho => ok_buildSlice ho ht rfl hj hk (Nat.eq_of_beq_eq_true hl) (Nat.le_of_ble_eq_true hs) h1
          have : ∀ {ins : List (Operand × AV)} {k : Nat} {rows : List (List D)} {ps : List (Nat × Operand)}, Elems fr size' ins k ps rows → ∀ p ∈ ins, EvOK fr p.1 p.2 ∧ p.1 ∈ ps.map (·.2) := by
            intro ins k rows ps h
            induction h with
            | nil => simp
            | cons hev _ _ _ _ _ _ ih =>
              intro p hp
              cases hp with
              | head => exact ⟨hev, by simp⟩
              | tail _ hp => have := ih p hp; exact ⟨this.1, by simp only [List.map_cons, List.mem_cons]; exact .inr this.2⟩
          have h3 := this h1 p hp
          exact ⟨h3.1, by simpa [Op.operands] using h3.2⟩
        · exact h.elim
    · exact h.elim
  · -- makeSlice
    rename_i t l c
    have ht := hT t
    generalize T t = i at h ht
    obtain ⟨kind, ik, size, zero, offs, el⟩ := i
    simp only at h
    split at h
    · have hj := hT el
      generalize T el = j at h hj
      obtain ⟨kind', ik', size', zero', offs', el'⟩ := j
      simp only at h
      split at h
      · exact h.elim
      · rename_i hk
        replace h := ev_ok h
        obtain ⟨v, hv, h⟩ := h
        replace h := ev_ok h
        obtain ⟨u, hu, h⟩ := h
        split at h
        · obtain ⟨h0, h1, h2, h⟩ := h
          replace h := scals_ok h
          obtain ⟨ds, h, hs1, hs2, hs3⟩ := h
          exact Sound.w2 (nw := [nx]) hv hu (by simp [Op.operands]) (succ_ok h) (by simp) (.inr rfl) fun o ho => ok_makeSlice ho ht rfl hj hk h0 h1 h2 hs1 hs2 hs3
        · exact h.elim
    · exact h.elim
  · -- slice
    rename_i t x lo hi mx
    have ht := hT t
    generalize T t = i at h ht
    obtain ⟨kind, ik, size, zero, offs, el⟩ := i
    simp only at h
    split at h
    · have hj := hT el
      generalize T el = j at h hj
      obtain ⟨kind', ik', size', zero', offs', el'⟩ := j
      simp only at h
      split at h
      · exact h.elim
      · rename_i hk
        replace h := ev_ok h
        obtain ⟨v, hv, h⟩ := h
        split at h
        · rename_i rows
          obtain ⟨hsz, h⟩ := h
          have h1 : ∃ (hh : Nat) (ins : List (Operand × AV)), (∀ p ∈ ins, EvOK fr p.1 p.2 ∧ p.1 ∈ hi.toList) ∧ (∀ M τ H (ρ : Operand → Value), (∀ p ∈ ins, AVRep M τ H p.2 (ρ p.1)) → BdOK ρ hi hh rows.length) ∧ hh ≤ rows.length ∧
              (match lo with
                | none => fun (K : Nat → Prop) => K 0
                | some l => fun K => evK fr l fun l => match l with
                  | .c (.d (.int _ n)) => 0 ≤ n ∧ n.toNat ≤ hh ∧ K n.toNat
                  | _ => False) fun l => K (.c (.d (.sl ((rows.take hh).drop l)))) [] [] [] nx := by
            cases hi with
            | none => exact ⟨_, [], by simp, fun _ _ _ _ _ => rfl, Nat.le_refl _, h⟩
            | some hi =>
              replace h := ev_ok h
              obtain ⟨u, hu, h⟩ := h
              split at h
              · rename_i k n
                exact ⟨_, [(hi, .c (.d (.int k n)))], by simp [hu], fun M τ H ρ hr => ⟨k, n, rep_int (hr _ (List.mem_singleton.2 rfl)), h.1, rfl⟩, h.2.1, h.2.2⟩
              · exact h.elim
          obtain ⟨hh, ins, hi1, hi2, hi3, h⟩ := h1
          have h2 : ∃ (l : Nat) (ins' : List (Operand × AV)), (∀ p ∈ ins', EvOK fr p.1 p.2 ∧ p.1 ∈ lo.toList) ∧ (∀ M τ H (ρ : Operand → Value), (∀ p ∈ ins', AVRep M τ H p.2 (ρ p.1)) → BdOK ρ lo l 0) ∧ l ≤ hh ∧ K (.c (.d (.sl ((rows.take hh).drop l)))) [] [] [] nx := by
            cases lo with
            | none => exact ⟨_, [], by simp, fun _ _ _ _ _ => rfl, Nat.zero_le _, h⟩
            | some lo =>
              replace h := ev_ok h
              obtain ⟨u, hu, h⟩ := h
              split at h
              · rename_i k n
                exact ⟨_, [(lo, .c (.d (.int k n)))], by simp [hu], fun M τ H ρ hr => ⟨k, n, rep_int (hr _ (List.mem_singleton.2 rfl)), h.1, rfl⟩, h.2.1, h.2.2⟩
              · exact h.elim
          obtain ⟨l, ins', hl1, hl2, hl3, h⟩ := h2
          refine Sound.pure h (ins := (x, _) :: (ins ++ ins')) (fun p hp => ?_) (by simp) fun o ho => ok_slice_sl ho ht rfl hj hk hsz (fun M τ H ρ hr => hi2 M τ H ρ fun p hp => hr p (by simp [hp])) (fun M τ H ρ hr => hl2 M τ H ρ fun p hp => hr p (by simp [hp])) hl3 hi3
          simp only [List.mem_cons, List.mem_append] at hp
          rcases hp with rfl | hp | hp
          · exact ⟨hv, by simp [Op.operands]⟩
          · have := hi1 p hp; exact ⟨this.1, by cases hi <;> simp_all [Op.operands]⟩
          · have := hl1 p hp; exact ⟨this.1, by cases lo <;> simp_all [Op.operands]⟩
        · exact h.elim
    · exact h.elim
  · -- extract
    rename_i x n
    replace h := ev_ok h
    obtain ⟨v, hv, h⟩ := h
    split at h
    · replace h := nth_ok h
      obtain ⟨c, hc, h⟩ := h
      split at h
      · exact Sound.p1 hv (by simp [Op.operands]) h (by simp) fun o ho => ok_extract_c ho hc
      · exact Sound.p1 hv (by simp [Op.operands]) h (by simp) fun o ho => ok_extract_agg ho hc
    · exact h.elim
  · -- call
    rename_i c
    obtain ⟨callee, args, types⟩ := c
    simp only at h
    replace h := evs_ok h
    obtain ⟨vs, hvs, h⟩ := h
    split at h
    · -- len
      split at h
      · rename_i t x hty
        have ht := hT t
        generalize T t = i at h ht
        obtain ⟨kind, ik, size, zero, offs, el⟩ := i
        simp only at h
        split at h
        · have et : types = #[t] := by apply Array.ext'; simpa using hty
          obtain ⟨ar, har⟩ : ∃ ar, args = #[ar] := by
            have := hvs.length
            match hm : args.toList, this with
            | [a], _ => exact ⟨a, by apply Array.ext'; simpa using hm⟩
            | [], h => simp at h
            | _ :: _ :: _, h => simp at h
          subst har
          subst et
          have hev : EvOK fr ar (.c x) := hvs.1
          unfold lenK at h
          replace h := rows_ok h
          obtain ⟨rows, fp, hr, hf, h⟩ := h
          rcases hr with ⟨rfl, rfl⟩ | ⟨rfl, rfl, rfl⟩ | ⟨id, e, rfl, rfl⟩ | ⟨id, e, lo, n, all, rfl, rfl, rfl⟩
          · exact Sound.p1 hev (by simp [Op.operands, Call.operands]) h (by simp) fun o ho => ok_len_sl ho rfl ht rfl
          · exact Sound.p1 hev (by simp [Op.operands, Call.operands]) h (by simp) fun o ho => ok_len_ns ho ht rfl
          · exact Sound.p1 hev (by simp [Op.operands, Call.operands]) h hf fun o ho => ok_len_gs ho ht rfl
          · exact Sound.p1 hev (by simp [Op.operands, Call.operands]) h hf fun o ho => ok_len_gv' ho ht rfl
        · exact h.elim
      · exact h.elim
    · -- append
      split at h
      · rename_i t t' x y hty
        split at h
        · rename_i heq hTt
          have e1 := Nat.eq_of_beq_eq_true heq
          subst e1
          have ht := hT t
          rw [hTt] at ht
          split at h
          · rename_i el _
            have hj := hT el
            generalize T el = j at h hj
            obtain ⟨kind', ik', size', zero', offs', el'⟩ := j
            simp only at h
            split at h
            · exact h.elim
            · rename_i hk
              have et : types = #[t, t] := by apply Array.ext'; simpa using hty
              obtain ⟨a1, a2, har⟩ : ∃ a1 a2, args = #[a1, a2] := by
                have := hvs.length
                match hm : args.toList, this with
                | [a, b], _ => exact ⟨a, b, by apply Array.ext'; simpa using hm⟩
                | [], h => simp at h
                | [_], h => simp at h
                | _ :: _ :: _ :: _, h => simp at h
              subst har
              subst et
              have hev1 : EvOK fr a1 (.c x) := hvs.1
              have hev2 : EvOK fr a2 (.c y) := hvs.2.1
              replace h := rows_ok h
              obtain ⟨rows, fp, hr, hf, hs, h⟩ := h
              split at h
              · exact Sound.w2 (nw := [nx]) hev1 hev2 (by simp [Op.operands, Call.operands]) (succ_ok h.2) hf (.inr rfl) fun o ho => ok_append_ns ho ht rfl hj hk hr hs h.1
              · split at h
                · rename_i id e old hb
                  split at h
                  · rename_i he
                    have := Nat.eq_of_beq_eq_true he
                    subst this
                    refine Sound.w2 (nw := [nx]) hev1 hev2 (by simp [Op.operands, Call.operands]) (succ_ok h.2) (fun p hp => ?_) (.inr rfl) fun o ho => ok_append_gs ho ht rfl hj hk hr hs h.1
                    cases hp with
                    | head => exact hb
                    | tail _ hp => exact hf p hp
                  · exact h.elim
                · exact h.elim
              · exact h.elim
          · exact h.elim
        · exact h.elim
      · exact h.elim
    · -- max
      split at h
      · rename_i k a k' b
        split at h
        · rename_i hkk
          have := ikEq_eq hkk
          subst this
          obtain ⟨a1, a2, har⟩ : ∃ a1 a2, args = #[a1, a2] := by
            have := hvs.length
            match hm : args.toList, this with
            | [a, b], _ => exact ⟨a, b, by apply Array.ext'; simpa using hm⟩
            | [], h => simp at h
            | [_], h => simp at h
            | _ :: _ :: _ :: _, h => simp at h
          subst har
          have hev1 := hvs.1
          have hev2 := hvs.2.1
          exact Sound.p2 hev1 hev2 (by simp [Op.operands, Call.operands]) h (by simp) fun o ho => ok_max ho
        · exact h.elim
      · exact h.elim
    · -- min
      split at h
      · rename_i k a k' b
        split at h
        · rename_i hkk
          have := ikEq_eq hkk
          subst this
          obtain ⟨a1, a2, har⟩ : ∃ a1 a2, args = #[a1, a2] := by
            have := hvs.length
            match hm : args.toList, this with
            | [a, b], _ => exact ⟨a, b, by apply Array.ext'; simpa using hm⟩
            | [], h => simp at h
            | [_], h => simp at h
            | _ :: _ :: _ :: _, h => simp at h
          subst har
          have hev1 := hvs.1
          have hev2 := hvs.2.1
          exact Sound.p2 hev1 hev2 (by simp [Op.operands, Call.operands]) h (by simp) fun o ho => ok_min ho
        · exact h.elim
      · exact h.elim
    · -- a function value
      rename_i f
      replace h := ev_ok h
      obtain ⟨v, hv, h⟩ := h
      split at h
      · split at h
        · exact sound_call (caps := []) hv hvs (by simpa using h)
        · exact sound_call hv hvs (app_ok (cellsV_ok h))
      · exact h.elim
    · exact h.elim
  · exact h.elim

end sound
section more
variable {P : Program} {o : Oper}

theorem updH_gone {H : HF} : ∀ {zs : List Nat} {j : Nat}, updH H (zs.map fun i => (i, .gone)) j = if j ∈ zs then .gone else H j
  | [], j => by simp [updH]
  | i :: r, j => by
    simp only [List.map_cons, updH, List.mem_cons]
    by_cases h : i = j
    · simp [h]
    · rw [if_neg h, updH_gone]
      by_cases hj : j ∈ r <;> simp [hj, Ne.symm h]

/-- owned slices become immutable -/
theorem Nx.freeze {M : Mem} {τ : Tau} {H : HF} {w : World} (h : Inv P M τ H w) (fp : Fp) : Nx P M τ H w (updH H ((fp.map (·.1)).map fun i => (i, .gone))) (memWith M τ H w fp) τ w [] := by
  have hMw : ∀ b o, M b = some o → memWith M τ H w fp b = some o := fun b o hb => by
    unfold memWith
    split
    · exact h.mem b o hb
    · exact hb
  have hkeep : ∀ j, KeepId M τ H (memWith M τ H w fp) τ (updH H ((fp.map (·.1)).map fun i => (i, .gone))) j := fun j => by
    by_cases hj : j ∈ fp.map (·.1)
    · have e : updH H ((fp.map (·.1)).map fun i => (i, HObj.gone)) j = .gone := by rw [updH_gone, if_pos hj]
      exact KeepId.gone e
    · exact KeepId.refl (by rw [updH_gone, if_neg hj]) rfl
  have hblk : ∀ j b, blkOf τ (updH H ((fp.map (·.1)).map fun i => (i, .gone))) j = some b → blkOf τ H j = some b ∧ j ∉ fp.map (·.1) := fun j b hb => by
    by_cases hj : j ∈ fp.map (·.1)
    · have e : updH H ((fp.map (·.1)).map fun i => (i, HObj.gone)) j = .gone := by rw [updH_gone, if_pos hj]
      simp only [blkOf, e] at hb; cases hb
    · exact ⟨by rwa [blkOf_congr (H := H) (τ := τ) (by rw [updH_gone, if_neg hj]) rfl] at hb, hj⟩
  refine ⟨⟨fun b o' hb => ?_, fun j => ?_, fun j b hb => ?_, fun i j b hi hj => h.inj i j b (hblk i b hi).1 (hblk j b hj).1⟩, hMw, fun b o' hb => ?_, fun j _ => hkeep j, fun j b hb => .inr ⟨j, (hblk j b hb).1⟩, fun _ _ _ => rfl, Nat.le_refl _, rfl, rfl, .refl _⟩
  · unfold memWith at hb
    split at hb
    · exact hb
    · exact h.mem b o' hb
  · by_cases hj : j ∈ fp.map (·.1)
    · rw [updH_gone, if_pos hj]; trivial
    · have e : updH H ((fp.map (·.1)).map fun i => (i, HObj.gone)) j = H j := by rw [updH_gone, if_neg hj]
      rw [e]
      exact ObjRep.keep (h.obj j) hMw rfl (fun _ _ => rfl) rfl (fun i _ => hkeep i)
  · obtain ⟨h1, h2⟩ := hblk j b hb
    unfold memWith
    rw [if_neg]
    · exact h.dis j b h1
    · intro ha
      obtain ⟨p, hp, he⟩ := List.any_eq_true.1 ha
      have := h.inj j p.1 b h1 (by simpa using he)
      exact h2 (by rw [this]; exact List.mem_map.2 ⟨p, hp, rfl⟩)
  · unfold memWith at hb
    split at hb
    · rename_i ha
      obtain ⟨p, hp, he⟩ := List.any_eq_true.1 ha
      exact .inr (.inr ⟨p.1, by simpa using he⟩)
    · exact .inl hb

/-- a new block of immutable memory -/
theorem Nx.newMem {M : Mem} {τ : Tau} {H : HF} {w w' : World} (h : Inv P M τ H w) (hs : WSame w w' fun _ => False) {b : Nat} {ob : Obj} (hb : w'.heap[b]? = some ob) (hn : w.heap.size ≤ b) :
    Nx P M τ H w H (fun j => if j = b then some ob else M j) τ w' [] := by
  have hMb : M b = none := by
    cases hm : M b with
    | none => rfl
    | some o' => exact absurd (mem_lt h hm) (by omega)
  have hMw : ∀ c o', M c = some o' → (if c = b then some ob else M c) = some o' := fun c o' hc => by
    by_cases e : c = b
    · subst e; rw [hMb] at hc; cases hc
    · rw [if_neg e]; exact hc
  refine ⟨⟨fun c o' hc => ?_, fun j => ?_, fun j c hc => ?_, h.inj⟩, hMw, fun c o' hc => ?_, fun j _ => KeepId.refl rfl rfl, fun j c hc => .inr ⟨j, hc⟩, fun c hc _ => hs.block c hc (fun h => h), hs.size, hs.os, hs.tape, hs.output⟩
  · by_cases e : c = b
    · subst e; rw [if_pos rfl] at hc; rw [hb]; exact hc
    · rw [if_neg e] at hc
      rw [hs.block c (mem_lt h hc) (fun h => h)]; exact h.mem c o' hc
  · exact ObjRep.keep (h.obj j) hMw rfl (fun c hc => hs.block c (blk_lt h hc) (fun h => h)) rfl (fun i _ => KeepId.refl rfl rfl)
  · have := blk_lt h hc
    rw [if_neg (by omega)]; exact h.dis j c hc
  · by_cases e : c = b
    · subst e; exact .inr (.inl hn)
    · rw [if_neg e] at hc; exact .inl hc

inductive ElD (fr : Fr) : List (Operand × AV) → Nat → List (Nat × Operand) → List (List (List D)) → Fp → Prop
  | nil (k : Nat) : ElD fr [] k [] [] []
  | cons {ins : List (Operand × AV)} {k : Nat} {x : Operand} {a : AC} {r : List (Nat × Operand)} {rows : List (List D)} {l : List (List (List D))} {fp0 fp : Fp} (hev : EvOK fr x (.c a)) (hr : RowsOf fp0 a rows) (h : ElD fr ins (k + 1) r l fp) :
      ElD fr ((x, .c a) :: ins) k ((k, x) :: r) (rows :: l) (fp0 ++ fp)

theorem elemsD_ok {fr : Fr} {hp : Hp} : ∀ {parts : List (Nat × Operand)} {k : Nat} {K : List (List D) → Fp → List Nat → Prop}, elemsDK fr hp k parts K → ∃ ins l fp, ElD fr ins k parts l fp ∧ (∀ p ∈ fp, hpAt hp p.1 = p.2) ∧ K (l.map fun rows => [.sl rows]) fp (fp.map (·.1))
  | [], k, K, h => ⟨[], [], [], .nil k, by simp, h⟩
  | (i, x) :: r, k, K, h => by
    rw [elemsDK] at h
    split at h
    · rename_i hb
      have := Nat.eq_of_beq_eq_true hb
      subst this
      obtain ⟨v, hev, h⟩ := ev_ok h
      split at h
      · obtain ⟨ins, l, fp, h1, h2, h3⟩ := elemsD_ok h
        exact ⟨_, _, _, .cons hev (.inl ⟨rfl, rfl⟩) h1, by simpa using h2, h3⟩
      · obtain ⟨ins, l, fp, h1, h2, h3⟩ := elemsD_ok h
        exact ⟨_, _, _, .cons hev (.inr (.inl ⟨rfl, rfl, rfl⟩)) h1, by simpa using h2, h3⟩
      · rename_i id
        split at h
        · rename_i e rows he
          obtain ⟨ins, l, fp, h1, h2, h3⟩ := elemsD_ok h
          exact ⟨_, _, _, .cons hev (.inr (.inr (.inl ⟨id, e, rfl, rfl⟩))) h1, by
            intro p hp
            simp only [List.singleton_append, List.mem_cons] at hp
            rcases hp with rfl | hp
            · exact he
            · exact h2 p hp, h3⟩
        · exact h.elim
      · exact h.elim
    · exact h.elim

theorem gone_ok : ∀ {zs : List Nat} {K : Fp → Prop}, goneK zs K → K (zs.map fun i => (i, .gone))
  | [], _, h => h
  | _ :: zs, _, h => gone_ok (zs := zs) h

theorem RowsOf.rep {M : Mem} {τ : Tau} {H : HF} {w : World} {fp0 fp : Fp} {a : AC} {rows : List (List D)} {v : Value} (hinv : Inv P M τ H w) (hr : RowsOf fp0 a rows) (hsub : ∀ p ∈ fp0, p ∈ fp) (hH : ∀ p ∈ fp0, H p.1 = p.2) (hv : ACRep M τ H a v) : DRep (memWith M τ H w fp) (.sl rows) v := by
  rcases hr with ⟨rfl, rfl⟩ | ⟨rfl, rfl, rfl⟩ | ⟨id, e, rfl, rfl⟩ | ⟨id, e, lo, n, all, rfl, rfl, rfl⟩
  · refine DRep.mono (fun b o hb => ?_) hv
    unfold memWith
    split
    · exact hinv.mem b o hb
    · exact hb
  · have hv : v = _ := hv; subst hv; exact .sl0 _ _
  · exact bor_rep hinv (hsub (id, .arr e rows) (by simp)) (hH (id, .arr e rows) (by simp)) hv
  · exact borv_rep hinv (hsub (id, .arr e all) (by simp)) (hH (id, .arr e all) (by simp)) hv

theorem ElD.len {fr : Fr} {ins : List (Operand × AV)} {k : Nat} {parts : List (Nat × Operand)} {l : List (List (List D))} {fp : Fp} (h : ElD fr ins k parts l fp) : l.length = parts.length := by
  induction h with
  | nil => rfl
  | cons _ _ _ ih => simp [ih]

theorem ElD.run {fr : Fr} {M : Mem} {τ : Tau} {H : HF} {w : World} {ρ : Operand → Value} {fpA : Fp} (hinv : Inv P M τ H w) {ins : List (Operand × AV)} {k : Nat} {parts : List (Nat × Operand)} {l : List (List (List D))} {fp : Fp} (h : ElD fr ins k parts l fp)
    (hins : ∀ p ∈ ins, AVRep M τ H p.2 (ρ p.1)) (hsub : ∀ p ∈ fp, p ∈ fpA) (hH : ∀ p ∈ fp, H p.1 = p.2) {A B : List Value} (hA : A.length = k) (hB : B.length = parts.length) :
    ∃ us : List Value, us.length = l.length ∧ (∀ (i : Nat) (rows : List (List D)) (u : Value), l[i]? = some rows → us[i]? = some u → DRep (memWith M τ H w fpA) (.sl rows) u) ∧
      Instr.fill (fun i => some (i * 1, 1)) (A ++ B).toArray (parts.map fun p => (p.1, ρ p.2)) = some (A ++ us).toArray := by
  induction h generalizing A B with
  | nil k => simp at hB; subst hB; exact ⟨[], rfl, by simp, by simp [Instr.fill]⟩
  | @cons ins k x a r rows l fp0 fp hev hr h ih =>
    have hv : ACRep M τ H a (ρ x) := hins (x, .c a) (by simp)
    have hone := ACRep.one hv
    have hrep := hr.rep (P := P) (fp := fpA) hinv (fun p hp => hsub p (by simp [hp])) (fun p hp => hH p (by simp [hp])) hv
    have hz : (ρ x).cells = [ρ x].toArray := by
      rcases drep_sl hrep with ⟨_, _, _, hv'⟩ | ⟨_, _, _, _, _, _, _, _, hv', _⟩ <;> rw [hv'] <;> rfl
    obtain ⟨b0, B', rfl⟩ : ∃ b0 B', B = b0 :: B' := by
      cases B with
      | nil => simp at hB
      | cons b0 B' => exact ⟨b0, B', rfl⟩
    obtain ⟨us, h1, h2, h3⟩ := ih (fun p hp => hins p (by simp [hp])) (fun p hp => hsub p (by simp [hp])) (fun p hp => hH p (by simp [hp])) (A := A ++ [ρ x]) (B := B') (by simp [hA]) (by simpa using hB)
    refine ⟨ρ x :: us, by simp [h1], fun i rows' u hi hu => ?_, ?_⟩
    · cases i with
      | zero => simp at hi hu; subst hi; subst hu; exact hrep
      | succ i => exact h2 i rows' u (by simpa using hi) (by simpa using hu)
    · rw [List.map_cons]
      have e : A ++ b0 :: B' = A ++ ([b0] ++ B') := rfl
      rw [e, fill_step (place := fun i => some (i * 1, 1)) (i := k) (off := k) (size := 1) (by simp) hz rfl rfl hA]
      rw [← List.append_assoc A [ρ x] B', h3]
      simp

theorem ok_buildSliceD {t : TypeId} {len : Nat} {parts : Array (Nat × Operand)} {i j : TyI} {fr : Fr} {ins : List (Operand × AV)} {l : List (List (List D))} {fp : Fp} (ho : o.op = .buildSlice t len parts) (ht : TyOK P t i) (hk : i.kind = 2) (hj : TyOK P i.el j) (hjk : j.kind = 2)
    (hlen : parts.toList.length = len) (hsmall : len ≤ 16777216) (h : ElD fr ins 0 parts.toList l fp) :
    OpHolds P o ⟨ins, fp, (fp.map (·.1)).map fun i => (i, .gone), [], .c (.d (.sl (l.map fun rows => [.sl rows])))⟩ := by
  intro M τ H w ρ hinv hins hrd hnew
  obtain ⟨inf, z, i1, i2, i3, i4, i5, i6, i7, i8⟩ := hj.info (by omega)
  have hj1 : j.size = 1 := by
    rcases hj with hj | ⟨_, _, _, _, hj⟩
    · omega
    · rw [hjk] at hj; exact hj.2
  have hs1 : inf.size = 1 := by omega
  have hbs : (List.map (fun x => z.cells[x % z.cells.size]!) (List.range (len * inf.size))).length = parts.toList.length := by simp [hlen, hs1]
  obtain ⟨us, u1, u2, hrun⟩ := h.run (P := P) (w := w) (ρ := ρ) (fpA := fp) (A := []) (B := List.map (fun x => z.cells[x % z.cells.size]!) (List.range (len * inf.size))) hinv hins (fun p hp => hp) hrd (by simp) hbs
  have hll : l.length = len := by rw [h.len, hlen]
  refine OpRun.value (v := .slice (some ⟨w.heap.size, 0, none⟩) len len) (w' := w.alloc (.cells us.toArray i.el)) ?_ ⟨fun c => if c = w.heap.size then some (.cells us.toArray i.el (0, 0)) else memWith M τ H w fp c, τ, ?_, ?_⟩
  · have hc : (Array.range (len * inf.size)).map (fun x => z.cells[x % z.cells.size]!) = (List.map (fun x => z.cells[x % z.cells.size]!) (List.range (len * inf.size))).toArray := by
      apply Array.ext'
      simp
    have e : (parts.map fun x => match x with | (i, x) => (i, ρ x)).toList = parts.toList.map fun p => (p.1, ρ p.2) := by simp
    simp only [List.nil_append] at hrun
    have hns : ¬ len * inf.size > 2 ^ 24 := by rw [hs1]; omega
    simp only [execOp, ho, Instr.buildSlice, Sem.run_bind, run_underlying (ht.slice hk), Result.andThen_ok, run_sizeOf i1]
    rw [if_neg hns]
    rw [← hs1] at hrun
    by_cases h0 : len * inf.size = 0
    · rw [h0] at hrun hc
      simp only [List.range_zero, List.map_nil] at hrun
      simp only [Sem.run_pure, h0, if_true, Sem.run_bind, Result.andThen_ok, e]
      have hc0 : ∀ f : Nat → Value, (Array.range 0).map f = [].toArray := fun f => by apply Array.ext'; simp
      rw [hc0, hrun]
      simp [newRow]
    · have hz : (zeroValue i.el).run P w = .ok z w := by simp [zeroValue, typeInfo, i1, i4]
      simp only [Sem.run_pure, h0, if_false, Sem.run_bind, Result.andThen_ok, e, hz, hc, hrun]
      simp [newRow]
  · have n1 := Nx.freeze hinv fp
    have n2 := Nx.newMem n1.inv (WSame.alloc w (.cells us.toArray i.el) _) (alloc_new w _) (Nat.le_refl _)
    exact n1.trans n2
  · show DRep _ _ _
    have hr := DRep.sl (M := fun c => if c = w.heap.size then some (.cells us.toArray i.el (0, 0)) else memWith M τ H w fp c) (l.map fun rows => [.sl rows]) w.heap.size 0 len us.toArray i.el (0, 0) 1 (fun i _ => (us[i]?).getD Go.undef) (by simp) (by simp [hll]) (fun r hr => by
      obtain ⟨rows, _, rfl⟩ := List.mem_map.1 hr; rfl) (fun q j r y hq hy => by
        rw [List.getElem?_map, Option.map_eq_some_iff] at hq
        obtain ⟨rows, hq, rfl⟩ := hq
        have hj0 : j = 0 := by
          have := (List.getElem?_eq_some_iff.1 hy).1
          simp at this; exact this
        subst hj0
        have hlt : q < us.length := by rw [u1]; exact (List.getElem?_eq_some_iff.1 hq).1
        simp [hlt]) (fun q j r y hq hy => by
        rw [List.getElem?_map, Option.map_eq_some_iff] at hq
        obtain ⟨rows, hq, rfl⟩ := hq
        have hj0 : j = 0 := by
          have := (List.getElem?_eq_some_iff.1 hy).1
          simp at this; exact this
        subst hj0
        simp at hy; subst hy
        have hlt : q < us.length := by rw [u1]; exact (List.getElem?_eq_some_iff.1 hq).1
        have h3 := u2 q rows us[q] hq (by simp [hlt])
        simp only [List.getElem?_eq_getElem hlt, Option.getD_some]
        refine DRep.mono (fun b o' hb => ?_) h3
        have := mem_lt (Nx.freeze hinv fp).inv hb
        rw [if_neg (by omega)]; exact hb)
    simpa [hll] using hr

theorem ok_makeFunc {g : Nat} {first captured : Array Operand} {cs : List AC} (ho : o.op = .makeFunc (.func g) first captured) (hf : first.toList = []) (hl : captured.toList.length = cs.length) :
    OpHolds P o ⟨captured.toList.zip (cs.map .c), [], [], [], .fn g cs⟩ :=
  OpHolds.pure fun M τ H w ρ _ hins _ => by
    have hz := zip_rep (M := M) (τ := τ) (H := H) (ρ := ρ) (xs := captured.toList) (vs := cs.map .c) (by simpa using hl) (fun p hp => hins p hp)
    have e1 : first = #[] := by apply Array.ext'; simpa using hf
    refine ⟨.func (.func g) #[] (captured.map ρ), by simp [execOp, ho, Instr.makeFunc, e1], captured.toList.map ρ, ?_, ?_⟩
    · congr 1
      apply Array.ext'; simp
    · have : ∀ {cs : List AC} {us : List Value}, All2 (AVRep M τ H) (cs.map .c) us → All2 (ACRep M τ H) cs us := by
        intro cs
        induction cs with
        | nil => intro us h; cases us with
          | nil => trivial
          | cons => exact h.elim
        | cons c cs ih => intro us h; cases us with
          | nil => exact h.elim
          | cons u us => exact ⟨h.1, ih h.2⟩
      exact this hz

theorem caps_ok : ∀ {vs : List AV} {K : List AC → Prop}, capsK vs K → ∃ cs, vs = cs.map .c ∧ K cs
  | [], _, h => ⟨[], rfl, h⟩
  | v :: r, K, h => by
    cases v <;> simp only [capsK] at h
    obtain ⟨cs, rfl, h'⟩ := caps_ok h
    exact ⟨_ :: cs, rfl, h'⟩

/-! structs compared -/

theorem eqFs_run {w : World} {d : Nat} : ∀ {fs : List Field} {i : Nat} {a b : List D} {pa pb : List D}, pa.length = i → pb.length = i → eqFs P i fs a = true → eqKinds a b = true → (∀ x ∈ a, x.scalar = true) → (∀ x ∈ b, x.scalar = true) →
    (Op.eqFields (d + 1) ((pa ++ a).map D.val).toArray ((pb ++ b).map D.val).toArray fs).run P w = .ok (eqB a b) w
  | [], i, a, b, pa, pb, _, _, hf, hk, _, _ => by
    cases a with
    | nil => cases b with
      | nil => simp [Op.eqFields, eqB]
      | cons => simp [eqKinds] at hk
    | cons => simp [eqFs] at hf
  | f :: fs, i, [], b, pa, pb, _, _, hf, hk, _, _ => by simp [eqFs] at hf
  | f :: fs, i, x :: a, [], pa, pb, _, _, hf, hk, _, _ => by cases x <;> simp [eqKinds] at hk
  | f :: fs, i, x :: a, y :: b, pa, pb, h1, h2, hf, hk, hsa, hsb => by
    simp only [eqFs, Bool.and_eq_true, bne_iff_ne, ne_eq] at hf
    obtain ⟨⟨⟨hn, hoff⟩, hty⟩, hrest⟩ := hf
    have hoff := Nat.eq_of_beq_eq_true hoff
    have ih := eqFs_run (w := w) (d := d) (fs := fs) (i := i + 1) (a := a) (b := b) (pa := pa ++ [x]) (pb := pb ++ [y]) (by simp [h1]) (by simp [h2]) hrest
    have ea : pa ++ [x] ++ a = pa ++ x :: a := by simp
    have eb : pb ++ [y] ++ b = pb ++ y :: b := by simp
    rw [ea, eb] at ih
    have ga : ((pa ++ x :: a).map D.val).toArray[f.offset]? = some x.val := by simp [hoff, ← h1]
    have gb : ((pb ++ y :: b).map D.val).toArray[f.offset]? = some y.val := by simp [hoff, ← h2]
    have hpart : ∀ (cs : Array Value) (v : Value) (dd : TypeDesc), P.underlying f.type = some dd → aggB dd = false → cs[f.offset]? = some v → (part f.type cs f.offset).run P w = .ok v w := fun cs v dd hu ha hc => by
      simp [part, run_isAgg hu, ha, hc]
    cases x with
    | int k n =>
      cases y with
      | int k' n' =>
        simp only [eqKinds] at hk
        split at hk
        · rename_i hkk
          have := ikEq_eq hkk
          subst this
          split at hty
          · rename_i q _ _ hx hu
            have := ih hk (fun z hz => hsa z (by simp [hz])) (fun z hz => hsb z (by simp [hz]))
            simp only [Op.eqFields, hn, ne_eq, not_false_eq_true, if_true, Sem.run_bind, hpart _ _ _ hx rfl ga, hpart _ _ _ hx rfl gb, Result.andThen_ok]
            have he := run_equalIn_int (P := P) w d f.type k q n n' hx
            simp only [D.val, he, Result.andThen_ok, eqB]
            cases hnn : (n == n')
            · simp
            · simp only [Bool.not_true, Bool.false_eq_true, if_false, Bool.true_and]; exact this
          · rename_i hu; cases hu
          · cases hty
        · cases hk
      | bool => simp [eqKinds] at hk
      | nilp => simp [eqKinds] at hk
      | nilm => simp [eqKinds] at hk
      | str => simp [eqKinds] at hk
      | sl => simp [eqKinds] at hk
    | bool n =>
      cases y with
      | bool n' =>
        simp only [eqKinds] at hk
        split at hty
        · rename_i hu; cases hu
        · rename_i hx hu
          have := ih hk (fun z hz => hsa z (by simp [hz])) (fun z hz => hsb z (by simp [hz]))
          simp only [Op.eqFields, hn, ne_eq, not_false_eq_true, if_true, Sem.run_bind, hpart _ _ _ hx rfl ga, hpart _ _ _ hx rfl gb, Result.andThen_ok]
          have he := run_equalIn_bool' (P := P) w d f.type n n' hx
          simp only [D.val, he, Result.andThen_ok, eqB]
          cases hnn : (n == n')
          · simp
          · simp only [Bool.not_true, Bool.false_eq_true, if_false, Bool.true_and]; exact this
        · cases hty
      | int => simp [eqKinds] at hk
      | nilp => simp [eqKinds] at hk
      | nilm => simp [eqKinds] at hk
      | str => simp [eqKinds] at hk
      | sl => simp [eqKinds] at hk
    | nilp => cases y <;> simp [eqKinds] at hk
    | nilm => cases y <;> simp [eqKinds] at hk
    | str => cases y <;> simp [eqKinds] at hk
    | sl => cases y <;> simp [eqKinds] at hk

theorem eqFsN_run {w : World} {d : Nat} : ∀ {fs : List Field} {i : Nat} {a b : List D} {pa pb : List D}, pa.length = i → pb.length = i → eqFsN P i fs a = true → eqKinds a b = true → (∀ x ∈ a, x.scalar = true) → (∀ x ∈ b, x.scalar = true) →
    (Op.eqFields (d + 2) ((pa ++ a).map D.val).toArray ((pb ++ b).map D.val).toArray fs).run P w = .ok (eqB a b) w
  | [], i, a, b, pa, pb, _, _, hf, _, _, _ => by simp [eqFsN] at hf
  | [f], i, a, b, pa, pb, h1, h2, hf, hk, hsa, hsb => by
    simp only [eqFsN, Bool.and_eq_true, bne_iff_ne, ne_eq] at hf
    obtain ⟨⟨hn, hoff⟩, hst⟩ := hf
    have hoff := Nat.eq_of_beq_eq_true hoff
    split at hst
    · rename_i gs inf hu hi
      simp only [Bool.and_eq_true, Bool.not_eq_true'] at hst
      obtain ⟨⟨hs, hfs⟩, hsz⟩ := hst
      have hsz := Nat.eq_of_beq_eq_true hsz
      have hlen : a.length = b.length := by
        have : ∀ {a b : List D}, eqKinds a b = true → a.length = b.length := by
          intro a
          induction a with
          | nil => intro b h; cases b with
            | nil => rfl
            | cons => simp [eqKinds] at h
          | cons x a ih => intro b h; cases b with
            | nil => cases x <;> simp [eqKinds] at h
            | cons y b =>
              have : eqKinds a b = true := by
                cases x <;> cases y <;> simp only [eqKinds] at h <;> first | exact h | (split at h <;> first | exact h | cases h) | cases h
              simp [ih this]
        exact this hk
      have hfo : P.fieldsOf f.type = gs := by simp [Program.fieldsOf, hu]
      have hpart : ∀ (pre l : List D), pre.length = i → l.length = inf.size → (part f.type ((pre ++ l).map D.val).toArray f.offset).run P w = .ok (.agg (l.map D.val).toArray) w := fun pre l hp hl => by
        have e : ((pre ++ l).map D.val).toArray.extract f.offset (f.offset + inf.size) = (l.map D.val).toArray := by
          apply Array.ext'
          rw [hoff, ← hp, ← hl]
          simp
          exact List.take_of_length_le (by simp)
        simp only [part, Sem.run_bind, run_isAgg hu, aggB, Result.andThen_ok, if_true, run_sizeOf hi, Sem.run_pure, e]
      have hrun := run_equalIn_struct (P := P) w (d + 1) f.type (a.map D.val).toArray (b.map D.val).toArray (by rw [hfo]; exact hu) hs
      have h3 := eqFs_run (P := P) (w := w) (d := d) (pa := []) (pb := []) rfl rfl hfs hk hsa hsb
      rw [hfo] at hrun
      simp only [List.nil_append] at h3
      rw [h3] at hrun
      simp only [Op.eqFields, hn, ne_eq, not_false_eq_true, if_true, Sem.run_bind, hpart pa a h1 hsz.symm, hpart pb b h2 (by omega), Result.andThen_ok, hrun]
      cases eqB a b <;> simp
    · cases hst
  | f :: f' :: fs, i, [], b, pa, pb, _, _, hf, hk, _, _ => by simp [eqFsN] at hf
  | f :: f' :: fs, i, x :: a, [], pa, pb, _, _, hf, hk, _, _ => by cases x <;> simp [eqKinds] at hk
  | f :: f' :: fs, i, x :: a, y :: b, pa, pb, h1, h2, hf, hk, hsa, hsb => by
    have hf' : ((f.name != "_") && Nat.beq f.offset i && scalF P f x && eqFsN P (i + 1) (f' :: fs) a) = true := hf
    simp only [Bool.and_eq_true, bne_iff_ne, ne_eq] at hf'
    obtain ⟨⟨⟨hn, hoff⟩, hty⟩, hrest⟩ := hf'
    unfold scalF at hty
    have hoff := Nat.eq_of_beq_eq_true hoff
    have ih := eqFsN_run (w := w) (d := d) (fs := f' :: fs) (i := i + 1) (a := a) (b := b) (pa := pa ++ [x]) (pb := pb ++ [y]) (by simp [h1]) (by simp [h2]) hrest
    have ea : pa ++ [x] ++ a = pa ++ x :: a := by simp
    have eb : pb ++ [y] ++ b = pb ++ y :: b := by simp
    rw [ea, eb] at ih
    have ga : ((pa ++ x :: a).map D.val).toArray[f.offset]? = some x.val := by simp [hoff, ← h1]
    have gb : ((pb ++ y :: b).map D.val).toArray[f.offset]? = some y.val := by simp [hoff, ← h2]
    have hpart : ∀ (cs : Array Value) (v : Value) (dd : TypeDesc), P.underlying f.type = some dd → aggB dd = false → cs[f.offset]? = some v → (part f.type cs f.offset).run P w = .ok v w := fun cs v dd hu ha hc => by
      simp [part, run_isAgg hu, ha, hc]
    rw [Op.eqFields]
    cases x with
    | int k n =>
      cases y with
      | int k' n' =>
        simp only [eqKinds] at hk
        split at hk
        · rename_i hkk
          have := ikEq_eq hkk
          subst this
          split at hty
          · rename_i q _ _ hx hu
            have := ih hk (fun z hz => hsa z (by simp [hz])) (fun z hz => hsb z (by simp [hz]))
            simp only [hn, ne_eq, not_false_eq_true, if_true, Sem.run_bind, hpart _ _ _ hx rfl ga, hpart _ _ _ hx rfl gb, Result.andThen_ok]
            have he := run_equalIn_int (P := P) w (d + 1) f.type k q n n' hx
            simp only [D.val, he, Result.andThen_ok, eqB]
            cases hnn : (n == n')
            · simp
            · simp only [Bool.not_true, Bool.false_eq_true, if_false, Bool.true_and]; exact this
          · rename_i hu; cases hu
          · cases hty
        · cases hk
      | bool => simp [eqKinds] at hk
      | nilp => simp [eqKinds] at hk
      | nilm => simp [eqKinds] at hk
      | str => simp [eqKinds] at hk
      | sl => simp [eqKinds] at hk
    | bool n =>
      cases y with
      | bool n' =>
        simp only [eqKinds] at hk
        split at hty
        · rename_i hu; cases hu
        · rename_i hx hu
          have := ih hk (fun z hz => hsa z (by simp [hz])) (fun z hz => hsb z (by simp [hz]))
          simp only [hn, ne_eq, not_false_eq_true, if_true, Sem.run_bind, hpart _ _ _ hx rfl ga, hpart _ _ _ hx rfl gb, Result.andThen_ok]
          have he := run_equalIn_bool' (P := P) w (d + 1) f.type n n' hx
          simp only [D.val, he, Result.andThen_ok, eqB]
          cases hnn : (n == n')
          · simp
          · simp only [Bool.not_true, Bool.false_eq_true, if_false, Bool.true_and]; exact this
        · cases hty
      | int => simp [eqKinds] at hk
      | nilp => simp [eqKinds] at hk
      | nilm => simp [eqKinds] at hk
      | str => simp [eqKinds] at hk
      | sl => simp [eqKinds] at hk
    | nilp => cases y <;> simp [eqKinds] at hk
    | nilm => cases y <;> simp [eqKinds] at hk
    | str => cases y <;> simp [eqKinds] at hk
    | sl => cases y <;> simp [eqKinds] at hk

theorem ok_eqAgg {op : BinOp} {t t' : TypeId} {x y : Operand} {xs ys : List AC} {a b : List D} (ho : o.op = .binOp op t x y t') (hop : op = .eql ∨ op = .neq) (hf : eqFactN P t a = true) (hk : eqKinds a b = true) (ha : ∀ d ∈ a, d.scalar = true) (hb : ∀ d ∈ b, d.scalar = true)
    (hxa : ∀ M τ H us, All2 (ACRep M τ H) xs us → us = a.map D.val) (hyb : ∀ M τ H us, All2 (ACRep M τ H) ys us → us = b.map D.val) :
    OpHolds P o ⟨[(x, .agg xs), (y, .agg ys)], [], [], [], .c (.d (.bool (if op = .eql then eqB a b else !eqB a b)))⟩ :=
  OpHolds.pure fun M τ H w ρ _ hins _ => by
    obtain ⟨us, h1, h1'⟩ := hins (x, .agg xs) (by simp)
    obtain ⟨vs, h2, h2'⟩ := hins (y, .agg ys) (by simp)
    simp only at h1 h2
    have e1 := hxa _ _ _ _ h1'
    have e2 := hyb _ _ _ _ h2'
    subst e1
    subst e2
    refine ⟨_, ?_, bool_rep M τ H _⟩
    unfold eqFactN at hf
    split at hf
    · rename_i fs hu
      simp only [Bool.and_eq_true, Bool.not_eq_true', Bool.or_eq_true] at hf
      obtain ⟨⟨hs, hg⟩, hfs⟩ := hf
      have hfo : P.fieldsOf t = fs := by simp [Program.fieldsOf, hu]
      have hrun := run_equalIn_struct (P := P) w 9999 t (a.map D.val).toArray (b.map D.val).toArray (by rw [hfo]; exact hu) hs
      have h3 : (Op.eqFields 9999 (a.map D.val).toArray (b.map D.val).toArray fs.toList).run P w = .ok (eqB a b) w := by
        rcases hfs with hfs | hfs
        · have h3 := eqFs_run (P := P) (w := w) (d := 9998) (pa := []) (pb := []) rfl rfl hfs hk ha hb
          simpa only [List.nil_append] using h3
        · have h3 := eqFsN_run (P := P) (w := w) (d := 9997) (pa := []) (pb := []) rfl rfl hfs hk ha hb
          simpa only [List.nil_append] using h3
      rw [hfo] at hrun
      rw [h3] at hrun
      have hgd := run_eqGuard_agg (P := P) w op t x y (a.map D.val).toArray (b.map D.val).toArray hg
      rcases hop with rfl | rfl
      · simp only [execOp, ho, h1, h2, Sem.run_bind, hgd, Result.andThen_ok, run_eql_struct, hrun]
        simp
      · simp only [execOp, ho, h1, h2, Sem.run_bind, hgd, Result.andThen_ok, run_neq_struct, hrun]
        simp
    · cases hf

theorem ok_slNil {t t' : TypeId} {x y : Operand} {i : TyI} {rows : List (List D)} (ho : o.op = .binOp .eql t x y t') (ht : TyOK P t i) (hk : i.kind = 2) (hr : rows ≠ []) :
    OpHolds P o ⟨[(x, .c (.d (.sl rows))), (y, .c .ns)], [], [], [], .c (.d (.bool false))⟩ :=
  OpHolds.pure fun M τ H w ρ _ hins _ => by
    have h1 := hins (x, .c (.d (.sl rows))) (by simp)
    have h2 : ρ y = .slice none 0 0 := hins (y, .c .ns) (by simp)
    simp only at h1
    rcases drep_sl h1 with ⟨h, _⟩ | ⟨b, off, cap, cs, e, fz, s, vs, hv, _⟩
    · exact absurd h hr
    · have hrun := Lib.run_eql_slice_nil (P := P) w t _ (some ⟨b, off, none⟩) rows.length cap 0 0 (ht.slice hk)
      have hgd : (eqGuard .eql t x y (.slice (some ⟨b, off, none⟩) rows.length cap) (.slice none 0 0)).run P w = .ok () w := by simp [eqGuard]
      refine ⟨.bool false, ?_, bool_rep M τ H false⟩
      simp only [execOp, ho, hv, h2, Sem.run_bind, hgd, Result.andThen_ok, hrun]
      simp

theorem ok_nsNil {t t' : TypeId} {x y : Operand} {i : TyI} (ho : o.op = .binOp .eql t x y t') (ht : TyOK P t i) (hk : i.kind = 2) :
    OpHolds P o ⟨[(x, .c .ns), (y, .c .ns)], [], [], [], .c (.d (.bool true))⟩ :=
  OpHolds.pure fun M τ H w ρ _ hins _ => by
    have h1 : ρ x = .slice none 0 0 := hins (x, .c .ns) (by simp)
    have h2 : ρ y = .slice none 0 0 := hins (y, .c .ns) (by simp)
    have hrun := Lib.run_eql_slice_nil (P := P) w t _ none 0 0 0 0 (ht.slice hk)
    have hgd : (eqGuard .eql t x y (.slice none 0 0) (.slice none 0 0)).run P w = .ok () w := by simp [eqGuard]
    refine ⟨.bool true, ?_, bool_rep M τ H true⟩
    simp only [execOp, ho, h1, h2, Sem.run_bind, hgd, Result.andThen_ok, hrun]
    simp

theorem ok_slice_ns {t : TypeId} {x h : Operand} {i j : TyI} {k : IntKind} {n : Int} (ho : o.op = .slice t x none (some h) none) (ht : TyOK P t i) (hk : i.kind = 2) (hj : TyOK P i.el j) (hjk : j.kind ≠ 0) (hn : n = 0) :
    OpHolds P o ⟨[(x, .c .ns), (h, .c (.d (.int k n)))], [], [], [], .c .ns⟩ :=
  OpHolds.pure fun M τ H w ρ _ hins _ => by
    have h1 : ρ x = .slice none 0 0 := hins (x, .c .ns) (by simp)
    have h2 := rep_int (hins (h, .c (.d (.int k n))) (by simp))
    simp only at h2
    obtain ⟨inf, z, i1, i2, _⟩ := hj.info hjk
    subst hn
    have := run_slice_sl (P := P) (a := none) (cap := 0) (len := 0) (l := 0) (h := 0) (lo := none) (hi' := some h) (ρ := ρ) (ht.slice hk) i1 ⟨k, 0, h2, Int.le_refl _, rfl⟩ rfl (Nat.le_refl _) (Nat.le_refl _) (Nat.zero_le _) w
    refine ⟨.slice none 0 0, ?_, rfl⟩
    simp only [execOp, ho, h1, Sem.run_bind, Option.map_none]
    simp only [Option.map_none] at this
    rw [this]
    simp

theorem ok_slice_gs {t : TypeId} {x h : Operand} {i j : TyI} {k : IntKind} {n : Int} {id m : Nat} {rows : List (List D)} (ho : o.op = .slice t x none (some h) none) (ht : TyOK P t i) (hk : i.kind = 2) (hj : TyOK P i.el j) (hjk : j.kind ≠ 0) (h0 : 0 ≤ n) (hn : n.toNat ≤ rows.length) :
    OpHolds P o ⟨[(x, .c (.gs id)), (h, .c (.d (.int k n)))], [(id, .arr i.el rows)], [(m, .arr i.el (rows.take n.toNat)), (id, .gone)], [m], .c (.gs m)⟩ := by
  intro M τ H w ρ hinv hins hrd hnew
  obtain ⟨inf, z, i1, i2, i3, i4, i5, i6, i7, i8⟩ := hj.info hjk
  obtain ⟨hf, hid⟩ := hnew m (by simp)
  have hne : m ≠ id := by
    have := hid (x, .c (.gs id)) (by simp)
    simpa [AV.ids, AC.ids] using this
  have hH := hrd (id, .arr i.el rows) (by simp)
  simp only at hH
  have h1 := hins (x, .c (.gs id)) (by simp)
  have h2 := rep_int (hins (h, .c (.d (.int k n))) (by simp))
  simp only at h1 h2
  have hob := hinv.obj id
  rw [hH] at hob
  obtain ⟨o1, o2, o3⟩ := hob
  simp only [AVRep, ACRep, hH] at h1
  have hupd : updH H [(m, .arr i.el (rows.take n.toNat)), (id, .gone)] = updF (updF H id .gone) m (.arr i.el (rows.take n.toNat)) := by
    funext q; simp [updH, updF]
  simp only [hupd]
  have hlen : (rows.take n.toNat).length = n.toNat := by simp; omega
  cases hnil : (τ id).nil with
  | true =>
    have e1 := (owns_nil o3 hnil).1
    have hr := List.length_eq_zero_iff.1 e1
    subst hr
    have hn0 : n.toNat = 0 := by simpa using hn
    simp [Loc.slice, hnil] at h1
    have := run_slice_sl (P := P) (a := none) (cap := 0) (len := 0) (l := 0) (h := 0) (lo := none) (hi' := some h) (ρ := ρ) (ht.slice hk) i1 ⟨k, n, h2, h0, hn0⟩ rfl (Nat.le_refl _) (Nat.le_refl _) (Nat.zero_le _) w
    refine OpRun.value (v := .slice none 0 0) (w' := w) (by
      simp only [execOp, ho, h1, Sem.run_bind, Option.map_none]
      simp only [Option.map_none] at this
      rw [this]
      simp) ⟨M, updF τ m ⟨0, 0, inf.size, true⟩, ?_, ?_⟩
    · refine Nx.reown hinv hf hne _ _ (WSame.refl _ _) (fun b hb => by simp [blkOf, updF] at hb) ⟨by simp [updF, Program.cellsOf, i1], by simp, ?_⟩
      simp only [updF, if_true]
      exact ⟨by simp [flat], .inl ⟨by simp [Loc.slice], by simp⟩⟩
    · simp [AVRep, ACRep, Loc.slice, updF]
  | false =>
    obtain ⟨cur, a1, a2, a3, a4, a5⟩ := owns_block o3 hnil
    simp [Loc.slice, hnil] at h1
    have := run_slice_sl (P := P) (a := some ⟨(τ id).b, 0, none⟩) (cap := (τ id).cap) (len := rows.length) (l := 0) (h := n.toNat) (lo := none) (hi' := some h) (ρ := ρ) (ht.slice hk) i1 ⟨k, n, h2, h0, rfl⟩ rfl (Nat.zero_le _) hn a2 w
    have hadd : (if (τ id).cap = 0 then some (⟨(τ id).b, 0, none⟩ : Addr) else (some (⟨(τ id).b, 0, none⟩ : Addr)).map (·.add (0 * inf.size))) = some ⟨(τ id).b, 0, none⟩ := by
      split
      · rfl
      · simp [add_addr]
    rw [hadd] at this
    refine OpRun.value (v := .slice (some ⟨(τ id).b, 0, none⟩) n.toNat (τ id).cap) (w' := w) (by
      simp only [execOp, ho, h1, Sem.run_bind, Option.map_none]
      simp only [Option.map_none] at this
      rw [this]
      simp) ⟨M, updF τ m (τ id), ?_, ?_⟩
    · have hbk : blkOf τ H id = some (τ id).b := by simp [blkOf, hH, hnil]
      refine Nx.reown hinv hf hne _ _ (WSame.refl _ _) (fun b hb => .inr ?_) ⟨by simp only [updF, if_true]; exact o1, fun r hr => by simp only [updF, if_true]; exact o2 r (List.mem_of_mem_take hr), ?_⟩
      · simp [blkOf, updF, hnil] at hb; rw [← hb]; exact hbk
      · simp only [updF, if_true]
        have hfl := flat_length (rows := rows.take n.toNat) (s := (τ id).s) (fun r hr => (o2 r (List.mem_of_mem_take hr)).1)
        refine owns_of_block hnil hfl a1 (by rw [hlen]; omega) a3 a4 ?_
        have hsp : rows = rows.take n.toNat ++ rows.drop n.toNat := (List.take_append_drop _ _).symm
        have h5 : (cur.toList.take (rows.length * (τ id).s)).take ((rows.take n.toNat).length * (τ id).s) = flat (rows.take n.toNat) := by
          rw [a5]
          conv => lhs; rw [hsp, flat_append]
          have e2 : (rows.take n.toNat ++ rows.drop n.toNat).take n.toNat = rows.take n.toNat := by rw [← hsp]
          rw [e2]
          exact List.take_left' hfl
        rw [List.take_take] at h5
        rwa [Nat.min_eq_left (Nat.mul_le_mul_right _ (by rw [hlen]; exact hn))] at h5
    · simp [AVRep, ACRep, Loc.slice, updF, hnil, hn]

theorem ok_cap_ns {t : TypeId} {x : Operand} {i : TyI} (ho : o.op = .call ⟨.builtin .cap, #[x], #[t]⟩) (ht : TyOK P t i) (hk : i.kind = 2) : OpHolds P o ⟨[(x, .c .ns)], [], [], [], .c (.d (.int .i64 0))⟩ :=
  OpHolds.pure fun M τ H w ρ _ hins _ => by
    have h1 : ρ x = .slice none 0 0 := hins (x, .c .ns) (by simp)
    refine ⟨.int .i64 0, ?_, int_rep ..⟩
    simp [execOp, ho, resolve, invoke, builtin, Builtin.cap_, run_underlying (ht.slice hk), h1, goInt]

theorem run_append_zeros {t t' ty e : TypeId} {i : TypeInfo} {z : Value} (ht : P.underlying t = some (.slice e)) (ht' : P.underlying t' = some (.int .i64)) (hi : P.info? e = some i) (hz : i.zero = some z) (w : World) (n : Int) (h0 : 0 < n) (hs : 0 < i.size) (hw : n ≤ 1073741824) (hb : i.bytes ≤ 65536)
    (hfit : Builtin.nextslicecap n.toNat 0 * i.bytes ≤ 281474976710656) :
    (Builtin.append_ #[t, t'] ty #[.slice none 0 0, .int .i64 n]).run P w =
      .ok (.slice (some ⟨w.heap.size, 0, none⟩) n.toNat (grownCap w n.toNat 0 e))
        (w.drew.alloc (.cells (Builtin.zeroCells z.cells n.toNat ++ Builtin.zeroCells z.cells (grownCap w n.toNat 0 e - n.toNat)) e)) := by
  have hn : ¬ (n.toNat ≤ 0) := by omega
  have hn' : ¬ (n.toNat = 0) := by omega
  have hns : ¬ (n.toNat * i.size = 0) := by
    intro h
    rcases Nat.mul_eq_zero.1 h with h | h <;> omega
  have hwr : IntKind.i64.wrap n = n := by simp [IntKind.wrap, IntKind.signed, IntKind.bits]; omega
  have h2 : ¬ (n < 0) := by omega
  have h3 : ¬ (281474976710656 < n * (i.bytes : Int)) := by
    have h4 : n * (i.bytes : Int) ≤ 1073741824 * 65536 := Int.mul_le_mul hw (by omega) (by omega) (by omega)
    omega
  have h63' : ¬ (9223372036854775807 < (max n 0 : Int)) := by omega
  have h48' : ¬ (281474976710656 < Builtin.nextslicecap n.toNat 0 * i.bytes) := by omega
  have hns1 : ¬ (n ≤ 0) := by omega
  have hns2 : ¬ (i.size = 0) := by omega
  simp [Builtin.append_, run_underlying ht, run_underlying ht', sizeOf, typeInfo, zeroValue, hi, hz, asInt, asIntOf, hwr, h2, h3, h63', h48', Question.forced, newRow, grownCap, Builtin.firstCells, hns1]
  exact fun h => absurd h hns

theorem ok_append_zeros {x y : Operand} {t t' : TypeId} {i i' j : TyI} {a : Int} {zs : List D} {n : Nat} (ho : o.op = .call ⟨.builtin .append, #[x, y], #[t, t']⟩) (ht : TyOK P t i) (hk : i.kind = 2) (ht' : TyOK P t' i') (hk' : i'.kind = 1) (hik : i'.ik = .i64) (hj : TyOK P i.el j) (hjk : j.kind ≠ 0)
    (h0 : 0 < a) (hfit : Fits a.toNat) (hsc : ∀ d ∈ zs, d.scalar = true) (hzl : zs.length = j.zero.length) (hz : ∀ M τ H us, All2 (ACRep M τ H) j.zero us → us = zs.map D.val) :
    OpHolds P o ⟨[(x, .c .ns), (y, .c (.d (.int .i64 a)))], [], [(n, .arr i.el (List.replicate a.toNat zs))], [n], .c (.gs n)⟩ := by
  intro M τ H w ρ hinv hins hrd hnew
  obtain ⟨inf, z, i1, i2, i3, i4, i5, i6, i7, i8⟩ := hj.info hjk
  obtain ⟨hf, hid⟩ := hnew n (by simp)
  have h1 : ρ x = .slice none 0 0 := hins (x, .c .ns) (by simp)
  have h2 := rep_int (hins (y, .c (.d (.int .i64 a))) (by simp))
  simp only at h2
  replace hfit := hfit.le
  have hu' : P.underlying t' = some (.int .i64) := by
    rcases ht' with ht' | ⟨_, _, _, _, ht'⟩
    · omega
    · rw [hk'] at ht'; rw [← hik]; exact ht'.1
  have hzs : z.cells.size = inf.size := by rw [i5, i2, ← i7]; simp
  have hzc := hz M τ H _ (acConsts_rep M τ H _ i6)
  rw [hzc] at i5
  have hzl' : (zs.map D.val).length = inf.size := by simp [hzl, i7, i2]
  have hb : a.toNat * inf.bytes ≤ 140737488355328 := by
    have := Nat.mul_le_mul (show a.toNat ≤ 1073741824 from hfit) (show inf.bytes ≤ 65536 from i3)
    omega
  have hrun := run_append_zeros (P := P) (ty := o.type) (ht.slice hk) hu' i1 i4 w a h0 (by omega) (by omega) i3 (growslice_fits (by omega) hb)
  have hall : ∀ r ∈ List.replicate a.toNat zs, r.length = inf.size ∧ ∀ d ∈ r, d.scalar = true := fun r hr => by
    have := List.eq_of_mem_replicate hr
    subst this
    exact ⟨by rw [hzl, i7, i2], hsc⟩
  have hflat : Builtin.zeroCells z.cells a.toNat = (flat (List.replicate a.toNat zs)).toArray := by
    have h3 := made_take (z := zs.map D.val) (by omega) a.toNat a.toNat (Nat.le_refl _)
    rw [flat_replicate, ← h3]
    apply Array.ext'
    have e : Builtin.zeroCells z.cells a.toNat = madeCells (zs.map D.val).toArray (a.toNat * (zs.map D.val).length) := by
      unfold Builtin.zeroCells madeCells
      rw [i5]
      simp
    rw [e]
    simp only
    rw [List.take_of_length_le]
    simp [size_madeCells]
  refine OpRun.value (v := .slice (some ⟨w.heap.size, 0, none⟩) a.toNat (grownCap w a.toNat 0 i.el)) (w' := _) (by
    simp only [execOp, ho, resolve, invoke, builtin, List.map_toArray, List.map_cons, List.map_nil, h1, h2, Sem.run_bind, Sem.run_pure, Result.andThen_ok, hrun]; rfl) ⟨M, updF τ n ⟨w.heap.size, grownCap w a.toNat 0 i.el, inf.size, false⟩, ?_, ?_⟩
  · refine Nx.push hinv hf (.arr i.el (List.replicate a.toNat zs)) _ ((WSame.drew w _).trans (WSame.alloc _ _ _)) (.inr (Nat.le_refl _)) (grown_rep i1 hzs hall (by rw [List.length_replicate]; exact grownCap_ge _ _ _ _) (grownCap_le_maxLen _ _ _ _ (by unfold maxLen; omega)) ?_)
    have := alloc_new w.drew (.cells (Builtin.zeroCells z.cells a.toNat ++ Builtin.zeroCells z.cells (grownCap w a.toNat 0 i.el - a.toNat)) i.el)
    rw [List.length_replicate, ← hflat]
    exact this
  · simp [AVRep, ACRep, updH, Loc.slice, updF]

/-! arrays -/

theorem zeroIs_ok : ∀ {vs : List Value} {zs : List AC}, arrOKB.zeroIs vs zs = true → vs = zs.map acVal
  | [], [], _ => rfl
  | [], z :: _, h => by simp [arrOKB.zeroIs] at h
  | v :: vs, [], h => by cases v <;> simp [arrOKB.zeroIs] at h
  | v :: vs, z :: zs, h => by
    unfold arrOKB.zeroIs at h
    split at h
    · rename_i e1 e2; cases e1
    · rename_i k n r k' n' s e1 e2
      split at h
      · rename_i hk
        have := ikEq_eq hk
        subst this
        simp only [List.cons.injEq] at e1 e2
        obtain ⟨rfl, rfl⟩ := e1
        obtain ⟨rfl, rfl⟩ := e2
        simp only [Bool.and_eq_true, decide_eq_true_eq] at h
        have := zeroIs_ok h.2
        simp [acVal, D.val, h.1.2, this]
      · cases h
    · rename_i b r s e1 e2
      simp only [List.cons.injEq] at e1 e2
      obtain ⟨rfl, rfl⟩ := e1
      obtain ⟨rfl, rfl⟩ := e2
      simp only [Bool.and_eq_true, Bool.not_eq_true'] at h
      have := zeroIs_ok h.2
      simp [acVal, h.1, this]
    · cases h

theorem acOne_const {x : AC} (h : arrOKB.acOne x = true) : acConst x = true := by
  unfold arrOKB.acOne at h
  split at h <;> first | rfl | cases h

structure ArrOK (P : Program) (t : TypeId) (size : Nat) (zero : List AC) (n s : Nat) (el : TypeId) : Prop where
  und : P.underlying t = some (.array n el)
  sz : size = n * s
  pos : 0 < s
  two : 1 < n
  con : zero.all acConst = true
  len : zero.length = size
  inf : ∃ inf z, P.info? t = some inf ∧ inf.size = size ∧ inf.bytes ≤ 65536 ∧ inf.zero = some z ∧ z.cells = (zero.map acVal).toArray
  elt : ∃ inf, P.info? el = some inf ∧ inf.size = s

theorem arrOK_ok {t : TypeId} {size : Nat} {zero : List AC} {n s : Nat} {el : TypeId} (h : arrOKB P t size zero n s el = true) : ArrOK P t size zero n s el := by
  simp only [arrOKB, Bool.and_eq_true] at h
  obtain ⟨⟨⟨⟨⟨⟨⟨h1, h2⟩, h3⟩, h4⟩, h5⟩, h6⟩, h7⟩, h8⟩ := h
  have h2 := Nat.eq_of_beq_eq_true h2
  have h4 : 0 < s := by simpa using h4
  refine ⟨?_, Nat.eq_of_beq_eq_true h3, h4, by simpa using h5, ?_, Nat.eq_of_beq_eq_true h7, ?_, ?_⟩
  · split at h1
    · rename_i n' e hu
      simp only [Bool.and_eq_true] at h1
      rw [hu, Nat.eq_of_beq_eq_true h1.1, Nat.eq_of_beq_eq_true h1.2]
    · cases h1
  · rw [List.all_eq_true] at h6 ⊢
    exact fun x hx => acOne_const (h6 x hx)
  · split at h8
    · rename_i i hi
      simp only [Bool.and_eq_true] at h8
      obtain ⟨⟨g1, g2⟩, g3⟩ := h8
      split at g3
      · rename_i z hz
        refine ⟨i, z, hi, Nat.eq_of_beq_eq_true g1, Nat.le_of_ble_eq_true g2, hz, ?_⟩
        apply Array.ext'
        simp [zeroIs_ok g3]
      · cases g3
    · cases h8
  · unfold Program.cellsOf at h2
    cases hi : P.info? el with
    | none => rw [hi] at h2; simp at h2; omega
    | some i => rw [hi] at h2; exact ⟨i, rfl, by simpa using h2⟩

theorem ok_allocA {t : TypeId} {size : Nat} {zero : List AC} {k s : Nat} {el : TypeId} {n : Nat} (ho : o.op = .alloc t) (ha : ArrOK P t size zero k s el) : OpHolds P o ⟨[], [], [(n, .box zero)], [n], .c (.ptr n 0 0)⟩ := by
  intro M τ H w ρ hinv hins hrd hnew
  obtain ⟨inf, z, h1, h2, h3, h4, h5⟩ := ha.inf
  obtain ⟨hf, hid⟩ := hnew n (by simp)
  refine OpRun.value (v := .pointer (some ⟨w.heap.size, 0, none⟩)) (w' := w.alloc (.cells (zero.map acVal).toArray t)) ?_ ⟨M, updF τ n ⟨w.heap.size, 0, 0, false⟩, ?_, ?_⟩
  · simp [execOp, ho, Instr.alloc, zeroValue, typeInfo, h1, h4, newVar, newRow, h5]
  · have := Nx.newBox (w' := w.alloc (.cells (zero.map acVal).toArray t)) hinv hf zero (zero.map acVal) t (WSame.alloc _ _ _) (by rw [acConsts_ids _ ha.con]; simp) (Nat.le_refl _) (alloc_new _ _) (acConsts_rep _ _ _ _ ha.con)
    exact this
  · simp [AVRep, ACRep, updH, updF]

theorem ok_storeA {t : TypeId} {x y : Operand} {size : Nat} {zero : List AC} {k s : Nat} {el : TypeId} {id row col : Nat} {u : AV} {ys cells pre old r : List AC} (ho : o.op = .store t x y) (ha : ArrOK P t size zero k s el)
    (hy : cellsOf u = some ys) (hl : ys.length = size) (hc : cells = pre ++ (old ++ r)) (hp : pre.length = col) (hlo : old.length = ys.length) :
    OpHolds P o ⟨[(x, .c (.ptr id row col)), (y, u)], [(id, .box cells)], [(id, .box (pre ++ (ys ++ r)))], [], .undef⟩ := by
  intro M τ H w ρ hinv hins hrd _
  have hH := hrd (id, _) (List.mem_cons_self ..)
  have hv := hins (x, _) (List.mem_cons_self ..)
  have hu := hins (y, u) (by simp)
  simp only [AVRep, ACRep, hH] at hv
  obtain ⟨us, e, h1, h2⟩ := box_at hinv hH
  obtain ⟨zs, h3, h4⟩ := cells_rep hu hy
  obtain ⟨inf, z, i1, i2, _⟩ := ha.inf
  have hlen := h2.length
  have hz := h4.length
  have hfit : col + 0 + zs.length ≤ us.toArray.size := by
    simp only [List.size_toArray, ← hlen, hc, List.length_append]; omega
  have hst := run_storeCells_at P (τ id).b col e zs 0 us.toArray w h1 hfit (one_all h4)
  have hnew : us.take col ++ zs ++ us.drop (col + zs.length) = us.take col ++ (zs ++ us.drop (col + zs.length)) := by simp
  simp only [Nat.add_zero] at hst
  refine OpRun.skip (w' := w.setRow (τ id).b (us.take col ++ zs ++ us.drop (col + zs.length)).toArray) ?_ ⟨M, τ, ?_, rfl⟩
  · simp only [execOp, ho, hv.2, Instr.storeAt, Instr.sureAddr, storeVar, h3, Sem.run_bind, Sem.run_pure, Result.andThen_ok, run_sizeOf i1]
    rw [if_neg (by simp [i2, ← hl, hz])]
    simp [hst]
  · have hkeep : ∀ j, KeepId M τ H M τ (updF H id (.box (pre ++ (ys ++ r)))) j := fun j => by
      by_cases hj : j = id
      · subst hj
        exact KeepId.box (a := cells) (b := pre ++ (ys ++ r)) hH (by simp [updF])
      · exact KeepId.refl (by simp [updF, Ne.symm hj]) rfl
    refine Nx.store (b := (τ id).b) hinv (by simp [blkOf, hH]) (.box (pre ++ (ys ++ r))) (WSame.setRow h1) (by simp [blkOf, updF]) (hkeep id) ⟨_, e, setRow_heap w (τ id).b us.toArray _ e _ h1, ?_⟩
    rw [hnew]
    have a1 := h2.take col
    have a3 := h2.drop (col + zs.length)
    rw [hc, List.take_left' hp] at a1
    rw [hc, ← List.append_assoc, List.drop_left' (by simp; omega)] at a3
    exact cells_keep (fun _ _ h => h) (fun j _ => hkeep j) (a1.append (h4.append a3))

theorem ok_indexA {t : TypeId} {x y : Operand} {size : Nat} {zero : List AC} {n s : Nat} {el : TypeId} {id row col : Nat} {cells : List AC} {q : IntKind} {k : Int} (ho : o.op = .indexAddr t x y) (ha : ArrOK P t size zero n s el) (h0 : 0 ≤ k) (hk : k.toNat < n) :
    OpHolds P o ⟨[(x, .c (.ptr id row col)), (y, .c (.d (.int q k)))], [(id, .box cells)], [], [], .c (.ptr id row (col + k.toNat * s))⟩ :=
  OpHolds.pure fun M τ H w ρ _ hins hrd => by
    have hH := hrd (id, .box cells) (by simp)
    have hv := hins (x, .c (.ptr id row col)) (by simp)
    have h2 := rep_int (hins (y, .c (.d (.int q k))) (by simp))
    simp only at hH h2
    simp only [AVRep, ACRep, hH] at hv
    obtain ⟨inf, i1, i2⟩ := ha.elt
    have hlt : k < (n : Int) := by omega
    refine ⟨.pointer (some ⟨(τ id).b, col + k.toNat * s, none⟩), ?_, by simp [AVRep, ACRep, hH, hv.1]⟩
    have := ha.two
    simp [execOp, ho, hv.2, h2, Instr.indexAt, asIntOf, run_underlying ha.und, Instr.sureAddr, h0, hlt, run_sizeOf i1, i2, add_addr]

theorem offs_get (s : Nat) : ∀ (n k i : Nat) {x : Nat × Nat × Bool}, (offsOf s n k)[i]? = some x → x.1 = k + i * s ∧ x.2.1 = s
  | 0, k, i, x, h => by simp [offsOf] at h
  | n + 1, k, 0, x, h => by simp [offsOf] at h; subst h; simp
  | n + 1, k, i + 1, x, h => by
    have := offs_get s n (k + s) i (x := x) (by simpa [offsOf] using h)
    refine ⟨?_, this.2⟩
    rw [this.1, Nat.add_mul]; omega

theorem offs_all {s : Nat} (hs : 0 < s) : ∀ n k, (offsOf s n k).all (fun f => f.2.1 != 0) = true
  | 0, _ => rfl
  | n + 1, k => by simp [offsOf, offs_all hs n, Nat.ne_of_gt hs]

theorem Filled.runA {fr : Fr} {n s : Nat} {M : Mem} {τ : Tau} {H : HF} {ρ : Operand → Value}
    {ins : List (Operand × AV)} {cells res : List AC} {parts : List (Nat × Operand)} (h : Filled fr (offsOf s n 0) ins cells parts res) (hins : ∀ p ∈ ins, AVRep M τ H p.2 (ρ p.1)) {us : List Value} (hus : All2 (ACRep M τ H) cells us) :
    ∃ us', Instr.fill (fun k => some (k * s, s)) us.toArray (parts.map fun p => (p.1, ρ p.2)) = some us'.toArray ∧ All2 (ACRep M τ H) res us' := by
  induction h generalizing us with
  | nil cells => exact ⟨us, by simp [Instr.fill], hus⟩
  | @cons ins A old B cs res f off sz ag x v r hf hev hc hl hA ho h ih =>
    have hv := hins (x, v) (by simp)
    obtain ⟨zs, hz1, hz2⟩ := cells_rep hv hc
    have hzl := hz2.length
    have hul := hus.length
    have hA' := (hus.take A.length)
    rw [List.take_left' rfl] at hA'
    have hB' := (hus.drop (A.length + old.length))
    rw [← List.append_assoc, List.drop_left' (by simp)] at hB'
    have hsplit : us = us.take A.length ++ ((us.drop A.length).take old.length ++ us.drop (A.length + old.length)) := by
      rw [← List.drop_drop, List.take_append_drop, List.take_append_drop]
    obtain ⟨us', h1, h2⟩ := ih (fun p hp => hins p (by simp [hp])) (hA'.append (hz2.append hB'))
    refine ⟨us', ?_, h2⟩
    rw [List.map_cons, hsplit]
    simp only [List.length_append] at hul
    obtain ⟨o1, o2⟩ := offs_get s n 0 f hf
    simp only [Nat.zero_add] at o1 o2
    rw [fill_step (place := fun k => some (k * s, s)) (off := off) (size := sz) (by simp [o1, o2]) hz1 (by omega) (by simp; omega) (by simp; omega)]
    exact h1

theorem ok_buildA {t : TypeId} {parts : Array (Nat × Operand)} {size : Nat} {zero : List AC} {n s : Nat} {el : TypeId} {fr : Fr} {ins : List (Operand × AV)} {res : List AC} (ho : o.op = .build t parts) (ha : ArrOK P t size zero n s el) (h : Filled fr (offsOf s n 0) ins zero parts.toList res) :
    OpHolds P o ⟨ins, [], [], [], .agg res⟩ :=
  OpHolds.pure fun M τ H w ρ _ hins _ => by
    obtain ⟨inf, z, i1, i2, i3, i4, i5⟩ := ha.inf
    obtain ⟨infe, e1, e2⟩ := ha.elt
    obtain ⟨us', h1, h2⟩ := h.runA hins (acConsts_rep M τ H _ ha.con)
    refine ⟨.agg us'.toArray, ?_, us', rfl, h2⟩
    have hz : (zeroValue t).run P w = .ok z w := by simp [zeroValue, typeInfo, i1, i4]
    have e : (parts.map fun x => match x with | (i, x) => (i, ρ x)).toList = parts.toList.map fun p => (p.1, ρ p.2) := by simp
    simp only [execOp, ho, Instr.build, Sem.run_bind, hz, Result.andThen_ok, run_underlying ha.und, run_sizeOf e1, e2]
    rw [e, i5, h1]
    simp

theorem filled_ins {fr : Fr} {offs : List (Nat × Nat × Bool)} {ins : List (Operand × AV)} {cells res : List AC} {ps : List (Nat × Operand)} (h : Filled fr offs ins cells ps res) : ∀ p ∈ ins, EvOK fr p.1 p.2 ∧ p.1 ∈ ps.map (·.2) := by
  induction h with
  | nil => simp
  | cons _ hev _ _ _ _ _ ih =>
    intro p hp
    cases hp with
    | head => exact ⟨hev, by simp⟩
    | tail _ hp => have := ih p hp; exact ⟨this.1, by simp only [List.map_cons, List.mem_cons]; exact .inr this.2⟩

theorem eld_ins {fr : Fr} {ins : List (Operand × AV)} {k : Nat} {ps : List (Nat × Operand)} {l : List (List (List D))} {fp : Fp} (h : ElD fr ins k ps l fp) : ∀ p ∈ ins, EvOK fr p.1 p.2 ∧ p.1 ∈ ps.map (·.2) := by
  induction h with
  | nil => simp
  | cons hev _ _ ih =>
    intro p hp
    cases hp with
    | head => exact ⟨hev, by simp⟩
    | tail _ hp => have := ih p hp; exact ⟨this.1, by simp only [List.map_cons, List.mem_cons]; exact .inr this.2⟩

theorem aop2_sound {T : Nat → TyI} (hT : TabOK P T) {fr : Fr} {hp : Hp} {nx : Nat} {op : Op} {K : OpK} (h : aop2 P T fr hp nx op K) : Sound P fr hp nx op K := by
  unfold aop2 at h
  split at h
  · -- makeFunc
    rename_i fn first captured
    split at h
    · rename_i g hf
      replace h := evs_ok h
      obtain ⟨vs, hvs, h⟩ := h
      replace h := caps_ok h
      obtain ⟨cs, rfl, h⟩ := h
      refine Sound.pure h (ins := captured.toList.zip (cs.map .c)) (fun p hp => ?_) (by simp) fun o ho => ok_makeFunc ho hf (by simpa using hvs.length)
      have := hvs.zip_mem p hp
      exact ⟨this.1, by simp [Op.operands]; exact .inr (by simpa using this.2)⟩
    · exact h.elim
  · -- binOp
    rename_i op t x y t'
    replace h := ev_ok h
    obtain ⟨v, hv, h⟩ := h
    replace h := ev_ok h
    obtain ⟨u, hu, h⟩ := h
    split at h
    · replace h := scals_ok h
      obtain ⟨a, h, a1, a2, a3⟩ := h
      replace h := scals_ok h
      obtain ⟨b, h, b1, b2, b3⟩ := h
      split at h
      · rename_i hk
        split at h
        · exact Sound.p2 hv hu (by simp [Op.operands]) h.2 (by simp) fun o ho => ok_eqAgg (op := .eql) ho (.inl rfl) h.1 hk a1 b1 a3 b3
        · exact Sound.p2 hv hu (by simp [Op.operands]) h.2 (by simp) fun o ho => ok_eqAgg (op := .neq) ho (.inr rfl) h.1 hk a1 b1 a3 b3
        · exact h.elim
      · exact h.elim
    · rename_i rows
      split at h
      · rename_i hTt
        split at h
        · have ht := hT t
          rw [hTt] at ht
          exact Sound.p2 hv hu (by simp [Op.operands]) h.2 (by simp) fun o ho => ok_slNil ho ht rfl h.1
        · exact h.elim
      · exact h.elim
    · split at h
      · rename_i hTt
        split at h
        · have ht := hT t
          rw [hTt] at ht
          exact Sound.p2 hv hu (by simp [Op.operands]) h (by simp) fun o ho => ok_nsNil ho ht rfl
        · exact h.elim
      · exact h.elim
    · exact aop_sound hT h
  · -- alloc
    split at h
    · exact Sound.of (nw := [nx]) (succ_ok h.2) (ins := []) (by simp) (by simp) (.inr rfl) fun o ho => ok_allocA ho (arrOK_ok h.1)
    · exact aop_sound hT h
  · -- store
    split at h
    · obtain ⟨ha, h⟩ := h
      have ha := arrOK_ok ha
      replace h := ev_ok h
      obtain ⟨v, hv, h⟩ := h
      replace h := ev_ok h
      obtain ⟨u, hu, h⟩ := h
      split at h
      · rename_i id row col ys hc
        split at h
        · rename_i hl
          have hl := Nat.eq_of_beq_eq_true hl
          split at h
          · rename_i cells hb
            rcases put_ok h with ⟨e, _⟩ | ⟨A, old, B, rfl, hA, hold, h⟩
            · exfalso
              rw [e] at hl
              have h1 := ha.sz
              have h2 := ha.pos
              have h3 := ha.two
              have : 0 < _ * _ := Nat.mul_pos (Nat.lt_trans Nat.zero_lt_one h3) h2
              simp at hl
              omega
            · exact Sound.w2 (nw := []) hv hu (by simp [Op.operands]) h (hp_box hb) (.inl rfl) fun o ho => ok_storeA ho ha hc hl rfl hA hold
          · exact h.elim
        · exact h.elim
      · exact h.elim
    · exact aop_sound hT h
  · -- build
    rename_i t parts
    split at h
    · obtain ⟨ha, h⟩ := h
      have ha := arrOK_ok ha
      obtain ⟨ins, res, h1, h2⟩ := fill_ok h (offs_all ha.pos _ _)
      refine Sound.pure h2 (ins := ins) (fun p hp => ?_) (by simp) fun o ho => ok_buildA ho ha h1
      have h3 := filled_ins h1 p hp
      exact ⟨h3.1, by simpa [Op.operands] using h3.2⟩
    · exact aop_sound hT h
  · -- indexAddr
    split at h
    · obtain ⟨ha, h⟩ := h
      have ha := arrOK_ok ha
      replace h := ev_ok h
      obtain ⟨v, hv, h⟩ := h
      replace h := ev_ok h
      obtain ⟨u, hu, h⟩ := h
      split at h
      · split at h
        · rename_i cells hb
          exact Sound.p2 hv hu (by simp [Op.operands]) (add_ok h.2.2) (hp_box hb) fun o ho => ok_indexA ho ha h.1 h.2.1
        · exact h.elim
      · exact h.elim
    · exact aop_sound hT h
  · -- buildSlice
    rename_i t len parts
    split at h
    · rename_i ik size zero offs el hTt
      have ht := hT t
      rw [hTt] at ht
      split at h
      · rename_i ik' size' zero' offs' el' hTe
        have hj := hT el
        rw [hTe] at hj
        split at h
        · rename_i hl hs
          obtain ⟨ins, l, fp, h1, h2, h3⟩ := elemsD_ok h
          have h3 := gone_ok h3
          refine ⟨⟨ins, fp, (fp.map (·.1)).map fun i => (i, .gone), [], .c (.d (.sl (l.map fun rows => [.sl rows])))⟩, nx, fun p hp => ?_, h2, fun o ho => ok_buildSliceD ho ht rfl hj rfl (Nat.eq_of_beq_eq_true hl) (Nat.le_of_ble_eq_true hs) h1, by simp, Nat.le_refl _, h3⟩
          have h4 := eld_ins h1 p hp
          exact ⟨h4.1, by simpa [Op.operands] using h4.2⟩
        · exact h.elim
      · exact aop_sound hT h
    · exact aop_sound hT h
  · -- slice
    rename_i t x lo hi mx
    replace h := ev_ok h
    obtain ⟨v, hv, h'⟩ := h
    split at h'
    · split at h'
      · rename_i ik size zero offs el hTt
        have ht := hT t
        rw [hTt] at ht
        have hj := hT el
        generalize T el = j at h' hj
        obtain ⟨kind', ik', size', zero', offs', el'⟩ := j
        simp only at h'
        split at h'
        · exact h'.elim
        · rename_i hk
          split at h'
          · replace h' := ev_ok h'
            obtain ⟨u, hu, h'⟩ := h'
            split at h'
            · exact Sound.p2 hv hu (by simp [Op.operands]) h'.2 (by simp) fun o ho => ok_slice_ns ho ht rfl hj hk h'.1
            · exact h'.elim
          · exact h'.elim
      · exact h'.elim
    · rename_i id
      split at h'
      · rename_i ik size zero offs el hTt
        have ht := hT t
        rw [hTt] at ht
        have hj := hT el
        generalize T el = j at h' hj
        obtain ⟨kind', ik', size', zero', offs', el'⟩ := j
        simp only at h'
        split at h'
        · exact h'.elim
        · rename_i hk
          split at h'
          · rename_i e rows hb
            split at h'
            · rename_i he
              have := Nat.eq_of_beq_eq_true he
              subst this
              split at h'
              · replace h' := ev_ok h'
                obtain ⟨u, hu, h'⟩ := h'
                split at h'
                · exact Sound.w2 (nw := [nx]) hv hu (by simp [Op.operands]) (succ_ok h'.2.2) (hp_box hb) (.inr rfl) fun o ho => ok_slice_gs ho ht rfl hj hk h'.1 h'.2.1
                · exact h'.elim
              · exact h'.elim
            · exact h'.elim
          · exact h'.elim
      · exact h'.elim
    · exact aop_sound hT h'
  · -- call
    rename_i c
    obtain ⟨callee, args, types⟩ := c
    simp only at h
    split at h
    · -- cap
      replace h := evs_ok h
      obtain ⟨vs, hvs, h⟩ := h
      split at h
      · rename_i t hty
        split at h
        · rename_i ik size zero offs el hTt
          have ht := hT t
          rw [hTt] at ht
          have et : types = #[t] := by apply Array.ext'; simpa using hty
          obtain ⟨ar, har⟩ : ∃ ar, args = #[ar] := by
            have := hvs.length
            match hm : args.toList, this with
            | [a], _ => exact ⟨a, by apply Array.ext'; simpa using hm⟩
            | [], h => simp at h
            | _ :: _ :: _, h => simp at h
          subst har
          subst et
          have hev : EvOK fr ar (.c .ns) := hvs.1
          exact Sound.p1 hev (by simp [Op.operands, Call.operands]) h (by simp) fun o ho => ok_cap_ns ho ht rfl
        · exact h.elim
      · exact h.elim
    · -- append
      split at h
      · rename_i t t' hty
        split at h
        · exact aop_sound hT h
        · replace h := evs_ok h
          obtain ⟨vs, hvs, h⟩ := h
          split at h
          · rename_i n
            split at h
            · rename_i ik size zero offs el size' zero' offs' el' hTt hTt'
              have ht := hT t
              rw [hTt] at ht
              have ht' := hT t'
              rw [hTt'] at ht'
              have hj := hT el
              generalize T el = j at h hj
              obtain ⟨kind'', ik'', size'', zero'', offs'', el''⟩ := j
              simp only at h
              split at h
              · exact h.elim
              · rename_i hk
                obtain ⟨h0, hfit, h⟩ := h
                replace h := scals_ok h
                obtain ⟨ds, h, hs1, hs2, hs3⟩ := h
                have et : types = #[t, t'] := by apply Array.ext'; simpa using hty
                obtain ⟨a1, a2, har⟩ : ∃ a1 a2, args = #[a1, a2] := by
                  have := hvs.length
                  match hm : args.toList, this with
                  | [a, b], _ => exact ⟨a, b, by apply Array.ext'; simpa using hm⟩
                  | [], h => simp at h
                  | [_], h => simp at h
                  | _ :: _ :: _ :: _, h => simp at h
                subst har
                subst et
                have hev1 : EvOK fr a1 (.c .ns) := hvs.1
                have hev2 := hvs.2.1
                exact Sound.w2 (nw := [nx]) hev1 hev2 (by simp [Op.operands, Call.operands]) (succ_ok h) (by simp) (.inr rfl) fun o ho => ok_append_zeros ho ht rfl ht' rfl rfl hj hk h0 hfit hs1 hs2 hs3
            · exact h.elim
          · exact h.elim
      · exact h.elim
    · -- a function value
      rename_i f
      replace h := ev_ok h
      obtain ⟨v, hv, h⟩ := h
      split at h
      · split at h
        · exact aop_sound hT h
        · replace h := evs_ok h
          obtain ⟨vs, hvs, h⟩ := h
          split at h
          · exact sound_call (caps := []) hv hvs (by simpa using h)
          · exact sound_call hv hvs (app_ok (cellsV_ok h))
      · exact h.elim
    · exact aop_sound hT h
  · exact aop_sound hT h
/-! ### views and copies -/

theorem ok_view_gs {t : TypeId} {x : Operand} {lo hi : Option Operand} {i j : TyI} {id : Nat} {rows : List (List D)} {l h : Nat} {ins : List (Operand × AV)} (ho : o.op = .slice t x lo hi none) (ht : TyOK P t i) (hk : i.kind = 2) (hj : TyOK P i.el j) (hjk : j.kind ≠ 0)
    (hh : ∀ M τ H (ρ : Operand → Value), (∀ p ∈ ins, AVRep M τ H p.2 (ρ p.1)) → BdOK ρ hi h rows.length) (hl : ∀ M τ H (ρ : Operand → Value), (∀ p ∈ ins, AVRep M τ H p.2 (ρ p.1)) → BdOK ρ lo l 0) (h1 : l ≤ h) (h2 : h ≤ rows.length) :
    OpHolds P o ⟨(x, .c (.gs id)) :: ins, [(id, .arr i.el rows)], [], [], .c (.gv id (0 + l) (h - l))⟩ :=
  OpHolds.pure fun M τ H w ρ hinv hins hrd => by
    have hH := hrd (id, _) (List.mem_cons_self ..)
    have hx := hins (x, .c (.gs id)) (by simp)
    have hins' : ∀ p ∈ ins, AVRep M τ H p.2 (ρ p.1) := fun p hp => hins p (by simp [hp])
    simp only at hx hH
    simp only [AVRep, ACRep, hH] at hx
    obtain ⟨inf, z, i1, i2, _⟩ := hj.info hjk
    have hob := hinv.obj id
    rw [hH] at hob
    obtain ⟨o1, o2, o3⟩ := hob
    have es : (τ id).s = inf.size := by rw [o1]; simp [Program.cellsOf, i1]
    have hHb := hh M τ H ρ hins'
    have hLb := hl M τ H ρ hins'
    cases hn : (τ id).nil with
    | true =>
      have e1 := (owns_nil o3 hn).1
      rw [e1] at hHb
      have eh : h = 0 := by omega
      have el : l = 0 := by omega
      subst eh; subst el
      simp [Loc.slice, hn] at hx
      have := run_slice_sl (P := P) (a := none) (cap := 0) (len := 0) (ht.slice hk) i1 hHb hLb (Nat.le_refl _) (Nat.le_refl _) (Nat.zero_le _) w
      refine ⟨_, by simp only [execOp, ho, hx, Sem.run_bind, Option.map_none]; rw [this]; rfl, ?_⟩
      simp only [AVRep, ACRep, hH]
      exact ⟨by omega, .inl ⟨hn, rfl, by simp⟩⟩
    | false =>
      obtain ⟨cur, a1, a2, a3, a4, a5⟩ := owns_block o3 hn
      simp [Loc.slice, hn] at hx
      have := run_slice_sl (P := P) (a := some ⟨(τ id).b, 0, none⟩) (cap := (τ id).cap) (len := rows.length) (ht.slice hk) i1 hHb hLb h1 h2 a2 w
      refine ⟨_, by simp only [execOp, ho, hx, Sem.run_bind, Option.map_none]; rw [this]; rfl, ?_⟩
      simp only [AVRep, ACRep, hH, Nat.zero_add]
      refine ⟨by omega, .inr ⟨hn, if (τ id).cap = l then ⟨(τ id).b, 0, none⟩ else ⟨(τ id).b, l * (τ id).s, none⟩, ?_, fun hlt => ?_⟩⟩
      · split <;> simp [add_addr, es]
      · split
        · rename_i hc
          have : l = 0 := by omega
          simp [this]
        · rfl

theorem ok_view_gv {t : TypeId} {x : Operand} {lo hi : Option Operand} {i j : TyI} {id base n : Nat} {rows : List (List D)} {l h : Nat} {ins : List (Operand × AV)} (ho : o.op = .slice t x lo hi none) (ht : TyOK P t i) (hk : i.kind = 2) (hj : TyOK P i.el j) (hjk : j.kind ≠ 0)
    (hh : ∀ M τ H (ρ : Operand → Value), (∀ p ∈ ins, AVRep M τ H p.2 (ρ p.1)) → BdOK ρ hi h n) (hl : ∀ M τ H (ρ : Operand → Value), (∀ p ∈ ins, AVRep M τ H p.2 (ρ p.1)) → BdOK ρ lo l 0) (h1 : l ≤ h) (h2 : h ≤ n) :
    OpHolds P o ⟨(x, .c (.gv id base n)) :: ins, [(id, .arr i.el rows)], [], [], .c (.gv id (base + l) (h - l))⟩ :=
  OpHolds.pure fun M τ H w ρ hinv hins hrd => by
    have hH := hrd (id, _) (List.mem_cons_self ..)
    have hx := hins (x, .c (.gv id base n)) (by simp)
    have hins' : ∀ p ∈ ins, AVRep M τ H p.2 (ρ p.1) := fun p hp => hins p (by simp [hp])
    simp only at hx hH
    simp only [AVRep, ACRep, hH] at hx
    obtain ⟨inf, z, i1, i2, _⟩ := hj.info hjk
    have hob := hinv.obj id
    rw [hH] at hob
    obtain ⟨o1, o2, o3⟩ := hob
    have es : (τ id).s = inf.size := by rw [o1]; simp [Program.cellsOf, i1]
    have hHb := hh M τ H ρ hins'
    have hLb := hl M τ H ρ hins'
    obtain ⟨hlen, ⟨hn, rfl, hv⟩ | ⟨hn, ad, hv, hpos⟩⟩ := hx
    · have eh : h = 0 := by omega
      have el : l = 0 := by omega
      subst eh; subst el
      have := run_slice_sl (P := P) (a := none) (cap := 0) (len := 0) (ht.slice hk) i1 hHb hLb (Nat.le_refl _) (Nat.le_refl _) (Nat.zero_le _) w
      refine ⟨_, by simp only [execOp, ho, hv, Sem.run_bind, Option.map_none]; rw [this]; rfl, ?_⟩
      simp only [AVRep, ACRep, hH]
      exact ⟨by omega, .inl ⟨hn, rfl, by simp⟩⟩
    · obtain ⟨cur, a1, a2, a3, a4, a5⟩ := owns_block o3 hn
      have := run_slice_sl (P := P) (a := some ad) (cap := (τ id).cap - base) (len := n) (ht.slice hk) i1 hHb hLb h1 h2 (by omega) w
      refine ⟨_, by simp only [execOp, ho, hv, Sem.run_bind, Option.map_none]; rw [this]; rfl, ?_⟩
      simp only [AVRep, ACRep, hH]
      refine ⟨by omega, .inr ⟨hn, if (τ id).cap - base = l then ad else ad.add (l * inf.size), ?_, fun hlt => ?_⟩⟩
      · rw [Nat.sub_sub]; split <;> simp
      · split
        · have : base = 0 ∧ l = 0 := by omega
          obtain ⟨rfl, rfl⟩ := this
          rw [hpos (.inr rfl)]
        · rw [hpos (by omega), add_addr, es, Nat.add_mul]

theorem ok_index_gv {t : TypeId} {x y : Operand} {i j : TyI} {id lo m : Nat} {rows : List (List D)} {k : IntKind} {n : Int} (ho : o.op = .indexAddr t x y) (ht : TyOK P t i) (hk : i.kind = 2) (hj : TyOK P i.el j) (hjk : j.kind ≠ 0)
    (h0 : 0 ≤ n) (hlt : n.toNat < m) :
    OpHolds P o ⟨[(x, .c (.gv id lo m)), (y, .c (.d (.int k n)))], [(id, .arr i.el rows)], [], [], .c (.ptr id (lo + n.toNat) 0)⟩ :=
  OpHolds.pure fun M τ H w ρ hinv hins hrd => by
    have hH := hrd (id, _) (List.mem_cons_self ..)
    have h2 := rep_int (hins (y, .c (.d (.int k n))) (by simp))
    have h1 := hins (x, .c (.gv id lo m)) (by simp)
    simp only at h1 h2 hH
    simp only [AVRep, ACRep, hH] at h1
    obtain ⟨inf, z, i1, i2, _⟩ := hj.info hjk
    have hob := hinv.obj id
    rw [hH] at hob
    obtain ⟨o1, o2, o3⟩ := hob
    obtain ⟨hlen, ⟨_, rfl, _⟩ | ⟨hn, ad, hv, hpos⟩⟩ := h1
    · omega
    obtain ⟨cur, a1, a2, a3, a4, a5⟩ := owns_block o3 hn
    have hp := hpos (.inl (by omega))
    subst hp
    have hrun := run_indexAt (ht.slice hk) i1 (b := (τ id).b) (off := lo * (τ id).s) (cap := (τ id).cap - lo) (k := k) h0 (show n < m by omega) w
    refine ⟨_, by simp only [execOp, ho, hv, h2, Sem.run_bind, hrun]; rfl, ?_⟩
    have hs : inf.size = (τ id).s := by rw [o1]; simp [Program.cellsOf, i1]
    simp [AVRep, ACRep, hH, hs, Nat.add_mul]

def StoredAt (P : Program) (base : Option Addr) (cs : List Value) (w w' : World) : Prop := match base with
  | some b => (storeCells b cs).run P w = .ok () w'
  | none => w' = w

theorem run_copy {dT sT ty elem : TypeId} {inf : TypeInfo} {w w' : World} {base : Option Addr} {dLen dCap : Nat} {a : Option Addr} {sLen sCap : Nat} {cs : List Value} (hu : P.underlying dT = some (.slice elem)) (hi : P.info? elem = some inf)
    (hf : (Builtin.firstCells inf.size (Nat.min sLen dLen) (.slice a sLen sCap)).run P w = .ok cs.toArray w) (hst : StoredAt P base cs w w') :
    (Builtin.copy_ #[dT, sT] ty #[.slice base dLen dCap, .slice a sLen sCap]).run P w = .ok (goInt (Nat.min sLen dLen)) w' := by
  cases base with
  | none => simp only [StoredAt] at hst; subst hst; simp [Builtin.copy_, run_underlying hu, Builtin.lenOf, run_sizeOf hi, hf]
  | some b => simp only [StoredAt] at hst; simp [Builtin.copy_, run_underlying hu, Builtin.lenOf, run_sizeOf hi, hf, hst]

/-- the first rows of the operand whose elements are copied -/
theorem first_some {M : Mem} {τ : Tau} {H : HF} {w : World} {fp : Fp} {y : AC} {rows : List (List D)} {v : Value} (hinv : Inv P M τ H w) (hr : RowsOf fp y rows) (hfp : ∀ p ∈ fp, H p.1 = p.2) (hv : ACRep M τ H y v)
    (hs : ∀ r ∈ rows, r.length = 1 ∧ ∀ d ∈ r, d.scalar = true) {m : Nat} (hm : m ≤ rows.length) :
    ∃ a c, v = .slice a rows.length c ∧ (Builtin.firstCells 1 m v).run P w = .ok (flat (rows.take m)).toArray w := by
  obtain ⟨a, c, hv', hf⟩ := first_ok (size := 1) hinv hr hfp hv hs
  refine ⟨a, c, hv', ?_⟩
  have hs' : ∀ r ∈ rows.take m, r.length = 1 := fun r hr => (hs r (List.mem_of_mem_take hr)).1
  rcases Nat.eq_zero_or_pos m with h0 | h0
  · subst h0
    rw [hv']
    cases a with
    | none => simp [Builtin.firstCells, flat]
    | some a => simp [Builtin.firstCells, flat, loadCells, loadCellsFrom]
  -- the cells one by one
  have hcell : ∃ b off, a = some ⟨b, off, none⟩ ∧ ∀ (i : Nat) (r : List D) (x : D), rows[i]? = some r → r[0]? = some x → w.cell? ⟨b, off + i, none⟩ = some x.val := by
    have hs1 : ∀ {i j : Nat} {r : List D} {x : D}, rows[i]? = some r → r[j]? = some x → j = 0 := fun {i j r x} hr hx => by
      have := (List.getElem?_eq_some_iff.1 hx).1
      have := (hs r (List.mem_of_getElem? hr)).1
      omega
    rcases hr with ⟨rfl, rfl⟩ | ⟨rfl, rfl, rfl⟩ | ⟨id, e, rfl, rfl⟩ | ⟨id, e, lo, n, all, rfl, rfl, rfl⟩
    · rcases drep_sl hv with ⟨rfl, a', cap, rfl⟩ | ⟨b, off, cap, cs, e, fz, s, vs, rfl, hM, hcap, hs', hc, hd⟩
      · simp at hm; omega
      · simp at hv'
        refine ⟨b, off, hv'.1.symm, fun i r x hr hx => ?_⟩
        have hb := hinv.mem _ _ hM
        have e1 : s = 1 := by rw [← hs' r (List.mem_of_getElem? hr)]; exact (hs r (List.mem_of_getElem? hr)).1
        have h3 := hc i 0 r x hr hx
        rw [e1] at h3
        rw [cell_of hb]
        simp only [Nat.mul_one, Nat.add_zero] at h3
        rw [h3, drep_scal (hd i 0 r x hr hx) ((hs r (List.mem_of_getElem? hr)).2 x (List.mem_of_getElem? hx))]
    · simp at hm; omega
    · have hH := hfp (id, .arr e rows) (by simp)
      simp only at hH
      simp only [ACRep, hH] at hv
      have hob := hinv.obj id
      rw [hH] at hob
      obtain ⟨o1, o2, o3⟩ := hob
      cases hn : (τ id).nil with
      | true => have := (owns_nil o3 hn).1; omega
      | false =>
        simp [Loc.slice, hn] at hv
        rw [hv] at hv'
        simp at hv'
        refine ⟨(τ id).b, 0, hv'.1.symm, fun i r x hr hx => ?_⟩
        have e1 : (τ id).s = 1 := by rw [← (o2 r (List.mem_of_getElem? hr)).1]; exact (hs r (List.mem_of_getElem? hr)).1
        have := (arr_at hinv hH hr hx).1
        rw [e1] at this
        simpa using this
    · have hH := hfp (id, .arr e all) (by simp)
      simp only at hH
      simp only [ACRep, hH] at hv
      have hob := hinv.obj id
      rw [hH] at hob
      obtain ⟨o1, o2, o3⟩ := hob
      obtain ⟨hlen, ⟨_, rfl, rfl⟩ | ⟨hn, ad, rfl, hpos⟩⟩ := hv
      · simp at hm; omega
      · obtain ⟨cur, a1, a2, a3, a4, a5⟩ := owns_block o3 hn
        have hn0 : 0 < n := by
          rcases Nat.eq_zero_or_pos n with h | h
          · subst h; simp at hm; omega
          · exact h
        have hp := hpos (.inl (by omega))
        subst hp
        simp at hv'
        refine ⟨(τ id).b, lo * (τ id).s, hv'.1.symm, fun i r x hr hx => ?_⟩
        have hr' : all[lo + i]? = some r := by have := take_get hr; rwa [List.getElem?_drop] at this
        have e1 : (τ id).s = 1 := by rw [← (o2 r (List.mem_of_getElem? hr')).1]; exact (hs r (List.mem_of_getElem? hr)).1
        have := (arr_at hinv hH hr' hx).1
        rw [e1] at this ⊢
        simpa using this
  obtain ⟨b, off, rfl, hc⟩ := hcell
  rw [hv']
  refine run_firstCells_some (P := P) w 1 m ⟨b, off, none⟩ rows.length c (flat (rows.take m)) ?_ (fun k u hk => ?_)
  · rw [flat_length hs']; simp; omega
  · obtain ⟨i, j, r, x, rfl, h1, h2, rfl⟩ := flat_inv hs' hk
    have hj : j = 0 := by
      have := (List.getElem?_eq_some_iff.1 h2).1
      have := hs' r (List.mem_of_getElem? h1)
      omega
    subst hj
    rw [add_addr]
    have := hc i r x (take_get h1) h2
    simpa using this

theorem flat_take1 {rows : List (List D)} (hs : ∀ r ∈ rows, r.length = 1) (n : Nat) : flat (rows.take n) = (flat rows).take n := by
  induction rows generalizing n with
  | nil => simp [flat]
  | cons r rows ih =>
    cases n with
    | zero => simp [flat]
    | succ n =>
      have h1 := hs r (by simp)
      rw [List.take_succ_cons, flat_cons, flat_cons, ih (fun q hq => hs q (by simp [hq]))]
      match r, h1 with
      | [x], _ => simp

theorem flat_drop1 {rows : List (List D)} (hs : ∀ r ∈ rows, r.length = 1) (n : Nat) : flat (rows.drop n) = (flat rows).drop n := by
  induction rows generalizing n with
  | nil => simp [flat]
  | cons r rows ih =>
    cases n with
    | zero => simp [flat]
    | succ n =>
      have h1 := hs r (by simp)
      rw [List.drop_succ_cons, flat_cons, ih (fun q hq => hs q (by simp [hq]))]
      match r, h1 with
      | [x], _ => simp

theorem list_copy {α : Type} (C F : List α) {N lo m : Nat} (hF : F.length = m) (h : lo + m ≤ N) (hN : N ≤ C.length) :
    (C.take lo ++ F ++ C.drop (lo + F.length)).take N = (C.take N).take lo ++ (F ++ (C.take N).drop (lo + m)) := by
  have hA : (C.take N).length = N := by rw [List.length_take]; omega
  have e1 : C.take lo = (C.take N).take lo := by rw [List.take_take, Nat.min_eq_left (by omega)]
  have e2 : C.drop (lo + m) = (C.take N).drop (lo + m) ++ C.drop N := by
    conv => lhs; rw [← List.take_append_drop N C]
    rw [List.drop_append_of_le_length (by omega)]
  rw [hF, e1, e2, ← List.append_assoc, List.take_left' ?_]
  · simp
  · simp only [List.length_append, List.length_take, List.length_drop, hF]; omega

/-- a copy over a part of an owned slice of elements of one cell -/
theorem ok_copy {x y : Operand} {t t' : TypeId} {i j : TyI} {id lo n : Nat} {X a : AC} {rows src : List (List D)} {fp : Fp} (ho : o.op = .call ⟨.builtin .copy, #[x, y], #[t, t']⟩) (ht : TyOK P t i) (hk : i.kind = 2) (hj : TyOK P i.el j) (hjk : j.kind ≠ 0) (hj1 : j.size = 1)
    (hX : X = .gs id ∧ lo = 0 ∧ n = rows.length ∨ X = .gv id lo n) (hr : RowsOf fp a src) (hs : ∀ r ∈ src, r.length = 1 ∧ ∀ d ∈ r, d.scalar = true) :
    OpHolds P o ⟨[(x, .c X), (y, .c a)], (id, .arr i.el rows) :: fp, [(id, .arr i.el (copyRows rows lo n src))], [], .c (.d (.int .i64 (min n src.length : Nat)))⟩ := by
  intro M τ H w ρ hinv hins hrd _
  obtain ⟨inf, z, i1, i2, i3, i4, i5, i6, i7, i8⟩ := hj.info hjk
  have hH := hrd (id, .arr i.el rows) (by simp)
  simp only at hH
  have h1 := hins (x, .c X) (by simp)
  have h2 := hins (y, .c a) (by simp)
  simp only at h1 h2
  have hob := hinv.obj id
  rw [hH] at hob
  obtain ⟨o1, o2, o3⟩ := hob
  have es : (τ id).s = 1 := by rw [o1]; simp [Program.cellsOf, i1, i2, hj1]
  rw [es] at o2 o3
  have hinf : inf.size = 1 := by rw [i2, hj1]
  have hm : min n src.length ≤ src.length := Nat.min_le_right _ _
  obtain ⟨ad, c, hv, hfirst⟩ := first_some hinv hr (fun p hp => hrd p (by simp [hp])) h2 hs hm
  rw [hv] at hfirst
  -- the destination's value
  have hdst : ∃ base cap, ρ x = .slice base n cap ∧ lo + n ≤ rows.length ∧ (0 < min n src.length → (τ id).nil = false ∧ base = some ⟨(τ id).b, lo, none⟩) := by
    rcases hX with ⟨rfl, rfl, rfl⟩ | rfl
    · simp only [AVRep, ACRep, hH] at h1
      cases hn : (τ id).nil with
      | true =>
        have e1 := (owns_nil o3 hn).1
        simp [Loc.slice, hn] at h1
        exact ⟨none, 0, by rw [h1, e1], by omega, fun h => by omega⟩
      | false =>
        simp [Loc.slice, hn] at h1
        exact ⟨_, _, h1, by omega, fun _ => ⟨rfl, rfl⟩⟩
    · simp only [AVRep, ACRep, hH] at h1
      obtain ⟨hlen, ⟨hn, rfl, hv0⟩ | ⟨hn, ad0, hv0, hpos⟩⟩ := h1
      · exact ⟨none, 0, hv0, hlen, fun h => by omega⟩
      · obtain ⟨cur, a1, a2, a3, a4, a5⟩ := owns_block o3 hn
        exact ⟨_, _, hv0, hlen, fun h => ⟨hn, by rw [hpos (.inl (by omega)), es]; simp⟩⟩
  obtain ⟨base, cap, hx, hlen, hpos⟩ := hdst
  have hupd : updH H [(id, .arr i.el (copyRows rows lo n src))] = updF H id (.arr i.el (copyRows rows lo n src)) := by
    funext q; simp [updH, updF]
  have hcl : (copyRows rows lo n src).length = rows.length := by
    unfold copyRows; simp; omega
  have hmn : Nat.min src.length n = min n src.length := by show min src.length n = _; omega
  rcases Nat.eq_zero_or_pos (min n src.length) with h0 | h0
  · -- nothing is copied
    have hcr : copyRows rows lo n src = rows := by
      unfold copyRows
      have : src.take n = [] := by
        rw [List.take_eq_nil_iff]
        rcases Nat.eq_zero_or_pos n with h | h
        · exact .inl h
        · right; exact List.length_eq_zero_iff.1 (by omega)
      rw [this, h0]; simp
    have hst : StoredAt P base [] w w := by cases base <;> simp [StoredAt, storeCells]
    have hrun := run_copy (P := P) (ty := o.type) (sT := t') (w := w) (w' := w) (base := base) (dLen := n) (dCap := cap) (a := ad) (sLen := src.length) (sCap := c) (cs := []) (ht.slice hk) i1 (by rw [hinf, hmn, h0]; rw [h0] at hfirst; simpa [flat] using hfirst) hst
    refine OpRun.value (v := goInt (Int.ofNat (min n src.length))) (w' := w) (by
      simp only [execOp, ho, resolve, invoke, builtin, List.map_toArray, List.map_cons, List.map_nil, hx, hv, Sem.run_bind, Sem.run_pure, Result.andThen_ok, hrun, hmn]; rfl) ⟨M, τ, ?_, ?_⟩
    · rw [hupd, hcr]
      have hHid : updF H id (.arr i.el rows) = H := by funext q; simp only [updF]; split <;> simp_all
      rw [hHid]
      exact Nx.still hinv (WSame.refl _ _)
    · exact int_rep ..
  · obtain ⟨hn, rfl⟩ := hpos h0
    obtain ⟨cur, a1, a2, a3, a4, a5⟩ := owns_block o3 hn
    simp only [Nat.mul_one] at a4 a5
    have hs' : ∀ r ∈ src.take (min n src.length), r.length = 1 := fun r hr => (hs r (List.mem_of_mem_take hr)).1
    have hsl := flat_length hs'
    simp only [List.length_take, Nat.mul_one] at hsl
    have hone : ∀ u ∈ flat (src.take (min n src.length)), u.oneCell' = true := flat_one fun r hr => (hs r (List.mem_of_mem_take hr)).2
    have hfit : lo + 0 + (flat (src.take (min n src.length))).length ≤ cur.size := by rw [hsl, a4]; omega
    have hst := run_storeCells_at P (τ id).b lo i.el (flat (src.take (min n src.length))) 0 cur w a1 hfit hone
    simp only [Nat.add_zero] at hst
    have hrun := run_copy (P := P) (ty := o.type) (sT := t') (w := w) (base := some ⟨(τ id).b, lo, none⟩) (dLen := n) (dCap := cap) (a := ad) (sLen := src.length) (sCap := c) (ht.slice hk) i1 (by rw [hinf, hmn]; exact hfirst) hst
    refine OpRun.value (v := goInt (Int.ofNat (min n src.length))) (by
      simp only [execOp, ho, resolve, invoke, builtin, List.map_toArray, List.map_cons, List.map_nil, hx, hv, Sem.run_bind, Sem.run_pure, Result.andThen_ok, hrun, hmn]; rfl) ⟨M, τ, ?_, ?_⟩
    · rw [hupd]
      have hro : ∀ r ∈ copyRows rows lo n src, r.length = 1 ∧ ∀ d ∈ r, d.scalar = true := fun r hr => by
        unfold copyRows at hr
        simp only [List.mem_append] at hr
        rcases hr with hr | hr | hr
        · exact o2 r (List.mem_of_mem_take hr)
        · exact hs r (List.mem_of_mem_take hr)
        · exact o2 r (List.mem_of_mem_drop hr)
      have hflat : flat (copyRows rows lo n src) = (flat rows).take lo ++ (flat (src.take (min n src.length)) ++ (flat rows).drop (lo + min n src.length)) := by
        unfold copyRows
        rw [flat_append, flat_append, flat_take1 fun r hr => (o2 r hr).1, flat_drop1 fun r hr => (o2 r hr).1]
        congr 3
        rcases Nat.le_total n src.length with h | h
        · rw [Nat.min_eq_left h]
        · rw [Nat.min_eq_right h, List.take_of_length_le h, List.take_of_length_le (Nat.le_refl _)]
      refine Nx.store (b := (τ id).b) hinv (by simp [blkOf, hH, hn]) _ (WSame.setRow a1) (by simp [blkOf, updF, hn]) (KeepId.arr (e := i.el) (e' := i.el) (a := rows) (b := copyRows rows lo n src) hH (by simp [updF]) hcl) ⟨o1, by rw [es]; exact hro, ?_⟩
      rw [es]
      refine owns_of_block hn (by rw [flat_length fun r hr => (hro r hr).1]) (setRow_heap w (τ id).b cur _ i.el _ a1) (by rw [hcl]; exact a2) a3 ?_ ?_
      · simp only [List.size_toArray, List.length_append, List.length_take, List.length_drop, Array.length_toList, hsl]; omega
      · rw [hcl, hflat, Nat.mul_one]
        have hfl := flat_length (s := 1) fun r hr => (o2 r hr).1
        rw [Nat.mul_one] at hfl
        rw [← a5]
        have hm1 : min (min n src.length) src.length = min n src.length := Nat.min_eq_left hm
        rw [hm1] at hsl
        have h9 : rows.length ≤ cur.toList.length := by
          have h8 : cur.toList.length = cur.size := by simp
          rw [h8, a4]; exact a2
        exact list_copy cur.toList _ hsl (by omega) h9
    · exact int_rep ..

theorem run_clear {t ty elem : TypeId} {z : Value} {inf : TypeInfo} {w w' : World} {base : Option Addr} {n cap : Nat} (hu : P.underlying t = some (.slice elem)) (hi : P.info? elem = some inf) (hz : inf.zero = some z)
    (hst : StoredAt P base (Builtin.zeroCells z.cells n).toList w w') (h0 : n = 0 ∨ base ≠ none) (hw : n = 0 → w' = w) : (Builtin.clear_ #[t] ty #[.slice base n cap]).run P w = .ok (.tuple #[]) w' := by
  have hzv : (zeroValue elem).run P w = .ok z w := by simp [zeroValue, typeInfo, hi, hz]
  cases base with
  | none =>
    have : n = 0 := by simpa using h0
    rw [hw this]
    simp [Builtin.clear_, run_underlying hu]
  | some b =>
    simp only [StoredAt] at hst
    cases n with
    | zero => rw [hw rfl]; simp [Builtin.clear_, run_underlying hu]
    | succ n => simp [Builtin.clear_, run_underlying hu, hzv, hst]

/-- a part of an owned slice of elements of one cell is set to zero -/
theorem ok_clear {x : Operand} {t : TypeId} {i j : TyI} {id lo n : Nat} {rows : List (List D)} {zs : List D} (ho : o.op = .call ⟨.builtin .clear, #[x], #[t]⟩) (ht : TyOK P t i) (hk : i.kind = 2) (hj : TyOK P i.el j) (hjk : j.kind ≠ 0) (hj1 : j.size = 1)
    (hsc : ∀ d ∈ zs, d.scalar = true) (hzl : zs.length = j.zero.length) (hz : ∀ M τ H us, All2 (ACRep M τ H) j.zero us → us = zs.map D.val) :
    OpHolds P o ⟨[(x, .c (.gv id lo n))], [(id, .arr i.el rows)], [(id, .arr i.el (copyRows rows lo n (List.replicate n zs)))], [], .tup []⟩ := by
  intro M τ H w ρ hinv hins hrd _
  obtain ⟨inf, z, i1, i2, i3, i4, i5, i6, i7, i8⟩ := hj.info hjk
  have hH := hrd (id, .arr i.el rows) (by simp)
  simp only at hH
  have h1 := hins (x, .c (.gv id lo n)) (by simp)
  simp only at h1
  have hob := hinv.obj id
  rw [hH] at hob
  obtain ⟨o1, o2, o3⟩ := hob
  have es : (τ id).s = 1 := by rw [o1]; simp [Program.cellsOf, i1, i2, hj1]
  rw [es] at o2 o3
  have hinf : inf.size = 1 := by rw [i2, hj1]
  have hs : ∀ r ∈ List.replicate n zs, r.length = 1 ∧ ∀ d ∈ r, d.scalar = true := fun r hr => by
    have := List.eq_of_mem_replicate hr
    subst this
    exact ⟨by rw [hzl, i7, hj1], hsc⟩
  have hzc := hz M τ H _ (acConsts_rep M τ H _ i6)
  rw [hzc] at i5
  have hzl' : (zs.map D.val).length = inf.size := by simp [hzl, i7, i2]
  have hflat0 : (Builtin.zeroCells z.cells n).toList = flat (List.replicate n zs) := by
    have h3 := made_take (z := zs.map D.val) (by omega) n n (Nat.le_refl _)
    rw [flat_replicate, ← h3]
    have e : Builtin.zeroCells z.cells n = madeCells (zs.map D.val).toArray (n * (zs.map D.val).length) := by
      unfold Builtin.zeroCells madeCells
      rw [i5]
      simp
    rw [e, List.take_of_length_le]
    simp [size_madeCells]
  have hdst : ∃ base cap, ρ x = .slice base n cap ∧ lo + n ≤ rows.length ∧ (0 < n → (τ id).nil = false ∧ base = some ⟨(τ id).b, lo, none⟩) := by
    simp only [AVRep, ACRep, hH] at h1
    obtain ⟨hlen, ⟨hn, rfl, hv0⟩ | ⟨hn, ad0, hv0, hpos⟩⟩ := h1
    · exact ⟨none, 0, hv0, hlen, fun h => by omega⟩
    · obtain ⟨cur, a1, a2, a3, a4, a5⟩ := owns_block o3 hn
      exact ⟨_, _, hv0, hlen, fun h => ⟨hn, by rw [hpos (.inl (by omega)), es]; simp⟩⟩
  obtain ⟨base, cap, hx, hlen, hpos⟩ := hdst
  have hupd : updH H [(id, .arr i.el (copyRows rows lo n (List.replicate n zs)))] = updF H id (.arr i.el (copyRows rows lo n (List.replicate n zs))) := by
    funext q; simp [updH, updF]
  have hcl : (copyRows rows lo n (List.replicate n zs)).length = rows.length := by
    unfold copyRows; simp; omega
  rcases Nat.eq_zero_or_pos n with h0 | h0
  · have hcr : copyRows rows lo n (List.replicate n zs) = rows := by
      subst h0; unfold copyRows; simp
    have hst : StoredAt P base (Builtin.zeroCells z.cells n).toList w w := by
      rw [hflat0, h0]; cases base <;> simp [StoredAt, storeCells, flat]
    have hrun := run_clear (P := P) (ty := o.type) (w := w) (w' := w) (base := base) (cap := cap) (ht.slice hk) i1 i4 hst (.inl h0) (fun _ => rfl)
    refine OpRun.value (v := .tuple #[]) (w' := w) (by
      simp only [execOp, ho, resolve, invoke, builtin, List.map_toArray, List.map_cons, List.map_nil, hx, Sem.run_bind, Sem.run_pure, Result.andThen_ok, hrun]) ⟨M, τ, ?_, ?_⟩
    · rw [hupd, hcr]
      have hHid : updF H id (.arr i.el rows) = H := by funext q; simp only [updF]; split <;> simp_all
      rw [hHid]
      exact Nx.still hinv (WSame.refl _ _)
    · exact ⟨[], rfl, trivial⟩
  · obtain ⟨hn, rfl⟩ := hpos h0
    obtain ⟨cur, a1, a2, a3, a4, a5⟩ := owns_block o3 hn
    simp only [Nat.mul_one] at a4 a5
    have hsl := flat_length (s := 1) fun r hr => (hs r hr).1
    simp only [List.length_replicate, Nat.mul_one] at hsl
    have hone : ∀ u ∈ flat (List.replicate n zs), u.oneCell' = true := flat_one fun r hr => (hs r hr).2
    have hfit : lo + 0 + (flat (List.replicate n zs)).length ≤ cur.size := by rw [hsl, a4]; omega
    have hst := run_storeCells_at P (τ id).b lo i.el (flat (List.replicate n zs)) 0 cur w a1 hfit hone
    simp only [Nat.add_zero] at hst
    have hrun := run_clear (P := P) (ty := o.type) (w := w) (base := some ⟨(τ id).b, lo, none⟩) (n := n) (cap := cap) (ht.slice hk) i1 i4 (by rw [hflat0]; exact hst) (.inr (by simp)) (fun h => by omega)
    refine OpRun.value (v := .tuple #[]) (by
      simp only [execOp, ho, resolve, invoke, builtin, List.map_toArray, List.map_cons, List.map_nil, hx, Sem.run_bind, Sem.run_pure, Result.andThen_ok, hrun]; rfl) ⟨M, τ, ?_, ?_⟩
    · rw [hupd]
      have hro : ∀ r ∈ copyRows rows lo n (List.replicate n zs), r.length = 1 ∧ ∀ d ∈ r, d.scalar = true := fun r hr => by
        unfold copyRows at hr
        simp only [List.mem_append] at hr
        rcases hr with hr | hr | hr
        · exact o2 r (List.mem_of_mem_take hr)
        · exact hs r (List.mem_of_mem_take hr)
        · exact o2 r (List.mem_of_mem_drop hr)
      have hflat : flat (copyRows rows lo n (List.replicate n zs)) = (flat rows).take lo ++ (flat (List.replicate n zs) ++ (flat rows).drop (lo + n)) := by
        unfold copyRows
        rw [flat_append, flat_append, flat_take1 fun r hr => (o2 r hr).1, flat_drop1 fun r hr => (o2 r hr).1]
        simp
      refine Nx.store (b := (τ id).b) hinv (by simp [blkOf, hH, hn]) _ (WSame.setRow a1) (by simp [blkOf, updF, hn]) (KeepId.arr (e := i.el) (e' := i.el) (a := rows) (b := copyRows rows lo n (List.replicate n zs)) hH (by simp [updF]) hcl) ⟨o1, by rw [es]; exact hro, ?_⟩
      rw [es]
      refine owns_of_block hn (by rw [flat_length fun r hr => (hro r hr).1]) (setRow_heap w (τ id).b cur _ i.el _ a1) (by rw [hcl]; exact a2) a3 ?_ ?_
      · simp only [List.size_toArray, List.length_append, List.length_take, List.length_drop, Array.length_toList, hsl]; omega
      · rw [hcl, hflat, Nat.mul_one]
        rw [← a5]
        have h9 : rows.length ≤ cur.toList.length := by
          have h8 : cur.toList.length = cur.size := by simp
          rw [h8, a4]; exact a2
        exact list_copy cur.toList _ hsl (by omega) h9
    · exact ⟨[], rfl, trivial⟩

theorem view_zero {l : Loc} {k : Nat} {v : Value} (h : l.view 0 k v) : v = l.slice k := by
  rcases h with ⟨h1, rfl, rfl⟩ | ⟨h1, ad, rfl, h2⟩
  · simp [Loc.slice, h1]
  · rw [h2 (.inr rfl)]; simp [Loc.slice, h1]

/-- an append to the first rows of an owned slice: the rest is given up -/
theorem ok_append_gv {x y : Operand} {t : TypeId} {i j : TyI} {a : AC} {fp : Fp} {id k : Nat} {old rows : List (List D)} {n : Nat} (ho : o.op = .call ⟨.builtin .append, #[x, y], #[t, t]⟩) (ht : TyOK P t i) (hk : i.kind = 2) (hj : TyOK P i.el j) (hjk : j.kind ≠ 0)
    (hr : RowsOf fp a rows) (hs : ∀ r ∈ rows, r.length = j.size ∧ ∀ d ∈ r, d.scalar = true) (hfit : Fits (k + rows.length)) :
    OpHolds P o ⟨[(x, .c (.gv id 0 k)), (y, .c a)], (id, .arr i.el old) :: fp, [(n, .arr i.el (old.take k ++ rows)), (id, .gone)], [n], .c (.gs n)⟩ := by
  intro M τ H w ρ hinv hins hrd hnew
  obtain ⟨inf, z, i1, i2, i3, i4, i5, i6, i7, i8⟩ := hj.info hjk
  obtain ⟨hf, hid⟩ := hnew n (by simp)
  have hne : n ≠ id := by
    have := hid (x, .c (.gv id 0 k)) (by simp)
    simpa [AV.ids, AC.ids] using this
  have hH := hrd (id, .arr i.el old) (by simp)
  simp only at hH
  have h1 := hins (x, .c (.gv id 0 k)) (by simp)
  simp only at h1
  have h2 := hins (y, .c a) (by simp)
  simp only at h2
  obtain ⟨ad, c, hv, hfirst⟩ := first_ok (size := inf.size) hinv hr (fun p hp => hrd p (by simp [hp])) h2 (by rw [i2]; exact hs)
  have hob := hinv.obj id
  rw [hH] at hob
  obtain ⟨o1, o2, o3⟩ := hob
  have es : (τ id).s = inf.size := by rw [o1]; simp [Program.cellsOf, i1]
  rw [es] at o2 o3
  obtain ⟨ad0, c0, hv0, hfirst0⟩ := first_ok (fp := [(id, .arr i.el old)]) (rows := (old.drop 0).take k) (size := inf.size) hinv (.inr (.inr (.inr ⟨id, i.el, 0, k, old, rfl, rfl, rfl⟩))) (by simpa using hH) h1 (fun r hr => o2 r (List.mem_of_mem_drop (List.mem_of_mem_take hr)))
  simp only [AVRep, ACRep, hH] at h1
  simp only [List.drop_zero] at hfirst0 hv0
  rw [hv] at hfirst
  replace hfit := hfit.le
  obtain ⟨hlen, h1⟩ := h1
  have h1 := view_zero h1
  simp only [Nat.zero_add] at hlen
  have hkl : (old.take k).length = k := by simp; omega
  have hzs : z.cells.size = inf.size := by rw [i5, i2, ← i7]; simp
  have hupd : updH H [(n, .arr i.el (old.take k ++ rows)), (id, .gone)] = updF (updF H id .gone) n (.arr i.el (old.take k ++ rows)) := by
    funext q; simp [updH, updF]
  have hsall : ∀ r ∈ old.take k ++ rows, r.length = inf.size ∧ ∀ d ∈ r, d.scalar = true := fun r hr => by
    rcases List.mem_append.1 hr with hr | hr
    · exact o2 r (List.mem_of_mem_take hr)
    · rw [i2]; exact hs r hr
  have hflr := flat_length (rows := rows) (s := inf.size) (fun r hr => by rw [i2]; exact (hs r hr).1)
  have hflo := flat_length (rows := old.take k) (s := inf.size) (fun r hr => (o2 r (List.mem_of_mem_take hr)).1)
  simp only [hupd]
  rw [hkl] at hfirst0 hv0
  by_cases hroom : k + rows.length ≤ (τ id).cap ∧ (τ id).nil = false
  · obtain ⟨hroom, hn⟩ := hroom
    obtain ⟨cur, a1, a2, a3, a4, a5⟩ := owns_block o3 hn
    simp [Loc.slice, hn] at h1
    have hm : (k + rows.length) * inf.size ≤ (τ id).cap * inf.size := Nat.mul_le_mul_right _ hroom
    rw [Nat.add_mul] at hm
    have hrun := run_append_room' (ty := o.type) (ht.slice hk) i1 w (τ id).b k (τ id).cap cur a1 ad rows.length c (flat rows) (hfirst w rfl) (flat_one fun r hr => (hs r hr).2) hroom (by rw [a4, hflr]; omega)
    refine OpRun.value (v := .slice (some ⟨(τ id).b, 0, none⟩) (k + rows.length) (τ id).cap) (w' := _) (by
      simp only [execOp, ho, resolve, invoke, builtin, List.map_toArray, List.map_cons, List.map_nil, h1, hv, Sem.run_bind, Sem.run_pure, Result.andThen_ok, hrun]; rfl) ⟨M, updF τ n ⟨(τ id).b, (τ id).cap, inf.size, false⟩, ?_, ?_⟩
    · have hbk : blkOf τ H id = some (τ id).b := by simp [blkOf, hH, hn]
      have hws := WSame.setRow (new := (cur.toList.take (k * inf.size) ++ flat rows ++ cur.toList.drop (k * inf.size + (flat rows).length)).toArray) a1
      refine Nx.reown hinv hf hne _ _ ⟨hws.os, hws.tape, hws.output, hws.size, fun b hb hn' => hws.block b hb (fun he => hn' (by rw [he]; exact hbk))⟩ (fun b hb => .inr ?_) ⟨by simp [updF, Program.cellsOf, i1], by simpa [updF] using hsall, ?_⟩
      · simp [blkOf, updF] at hb; rw [← hb]; exact hbk
      · simp only [updF, if_true]
        refine owns_of_block rfl (by rw [flat_length fun r hr => (hsall r hr).1]) (setRow_heap w (τ id).b cur _ i.el _ a1) (by simp only [List.length_append, hkl]; exact hroom) a3 ?_ ?_
        · simp only [List.size_toArray, List.length_append, List.length_take, List.length_drop, Array.length_toList, hflr]; omega
        · have hck : cur.toList.take (k * inf.size) = flat (old.take k) := by
            have hle : k * inf.size ≤ old.length * inf.size := Nat.mul_le_mul_right _ (by omega)
            have e1 : cur.toList.take (k * inf.size) = (cur.toList.take (old.length * inf.size)).take (k * inf.size) := by rw [List.take_take, Nat.min_eq_left hle]
            rw [e1, a5]
            conv => lhs; rw [← List.take_append_drop k old, flat_append]
            exact List.take_left' (by rw [hflo, hkl])
          have := take_flat_room (cur := cur.toList) (old := old.take k) (rows := rows) (s := inf.size) (by rw [hkl]; exact hck) hflr hflo
          rw [hkl] at this
          exact this
    · simp [AVRep, ACRep, Loc.slice, updF, hlen]
  · by_cases hz0 : (τ id).nil = true ∧ rows = []
    · obtain ⟨hn, rfl⟩ := hz0
      have e1 := (owns_nil o3 hn).1
      have hk0 : k = 0 := by omega
      subst hk0
      simp [Loc.slice, hn] at h1
      have hrun := run_append_nils (ty := o.type) (ht.slice hk) i1 w ad c (by simpa [flat] using hfirst w rfl)
      simp only [List.length_nil] at hv
      refine OpRun.value (v := .slice none 0 0) (w' := w) (by
        simp only [execOp, ho, resolve, invoke, builtin, List.map_toArray, List.map_cons, List.map_nil, h1, hv, Sem.run_bind, Sem.run_pure, Result.andThen_ok, hrun]) ⟨M, updF τ n ⟨0, 0, inf.size, true⟩, ?_, ?_⟩
      · simp only [List.take_zero, List.nil_append]
        refine Nx.reown hinv hf hne _ _ (WSame.refl _ _) (fun b hb => by simp [blkOf, updF] at hb) ⟨by simp [updF, Program.cellsOf, i1], by simp, ?_⟩
        simp only [updF, if_true]
        exact ⟨by simp [flat], .inl ⟨by simp [Loc.slice], rfl⟩⟩
      · simp [AVRep, ACRep, Loc.slice, updF]
    · -- it grows
      have hsl : ∃ sCap, ρ x = .slice (if (τ id).nil then none else some ⟨(τ id).b, 0, none⟩) k sCap ∧ sCap < k + rows.length := by
        cases hn : (τ id).nil with
        | true =>
          have e1 := (owns_nil o3 hn).1
          simp [Loc.slice, hn] at h1
          refine ⟨0, by rw [h1, show k = 0 by omega]; simp, ?_⟩
          rcases Nat.eq_zero_or_pos rows.length with h0 | h0
          · exact absurd ⟨hn, List.length_eq_zero_iff.1 h0⟩ hz0
          · omega
        | false =>
          simp [Loc.slice, hn] at h1
          refine ⟨(τ id).cap, by simp [h1], ?_⟩
          rcases Nat.lt_or_ge (τ id).cap (k + rows.length) with h' | h'
          · exact h'
          · exact absurd ⟨h', hn⟩ hroom
      obtain ⟨sCap, hvx, hlt⟩ := hsl
      have hb : (k + rows.length) * inf.bytes ≤ 140737488355328 := by
        have := Nat.mul_le_mul (show k + rows.length ≤ 1073741824 from hfit) (show inf.bytes ≤ 65536 from i3)
        omega
      rw [hvx] at hfirst0
      have hrun := run_append_grow' (ty := o.type) (ht.slice hk) i1 i4 w _ k sCap (flat (old.take k)) ad rows.length c (flat rows) (hfirst0 w.drew rfl) (hfirst w.drew rfl) hlt (by omega) (growslice_fits hlt hb)
      refine OpRun.value (v := .slice (some ⟨w.heap.size, 0, none⟩) (k + rows.length) (grownCap w (k + rows.length) sCap i.el)) (w' := _) (by
        simp only [execOp, ho, resolve, invoke, builtin, List.map_toArray, List.map_cons, List.map_nil, hvx, hv, Sem.run_bind, Sem.run_pure, Result.andThen_ok, hrun]; rfl) ⟨M, updF τ n ⟨w.heap.size, grownCap w (k + rows.length) sCap i.el, inf.size, false⟩, ?_, ?_⟩
      · have hla : (old.take k ++ rows).length = k + rows.length := by rw [List.length_append, hkl]
        refine Nx.reown hinv hf hne _ _ ((WSame.drew w _).trans (WSame.alloc _ _ _)) (fun b hb => .inl ?_) (grown_rep i1 hzs hsall (by rw [hla]; exact grownCap_ge _ _ _ _) (grownCap_le_maxLen _ _ _ _ (by unfold maxLen; omega)) ?_)
        · simp [blkOf, updF] at hb; omega
        · have := alloc_new w.drew (.cells ((flat (old.take k)).toArray ++ (flat rows).toArray ++ Builtin.zeroCells z.cells (grownCap w (k + rows.length) sCap i.el - (k + rows.length))) i.el)
          rw [flat_append, hla]
          simpa using this
      · simp [AVRep, ACRep, Loc.slice, updF, hlen]

theorem hi_ok {fr : Fr} {len : Nat} {hi : Option Operand} {K : Nat → Prop} (h : hiK fr len hi K) : ∃ (hh : Nat) (ins : List (Operand × AV)), (∀ p ∈ ins, EvOK fr p.1 p.2 ∧ p.1 ∈ hi.toList) ∧ (∀ M τ H (ρ : Operand → Value), (∀ p ∈ ins, AVRep M τ H p.2 (ρ p.1)) → BdOK ρ hi hh len) ∧ hh ≤ len ∧ K hh := by
  unfold hiK at h
  cases hi with
  | none => exact ⟨_, [], by simp, fun _ _ _ _ _ => rfl, Nat.le_refl _, h⟩
  | some hi =>
    replace h := ev_ok h
    obtain ⟨u, hu, h⟩ := h
    split at h
    · rename_i k n
      exact ⟨_, [(hi, .c (.d (.int k n)))], by simp [hu], fun M τ H ρ hr => ⟨k, n, rep_int (hr _ (List.mem_singleton.2 rfl)), h.1, rfl⟩, h.2.1, h.2.2⟩
    · exact h.elim

theorem lo_ok {fr : Fr} {hh : Nat} {lo : Option Operand} {K : Nat → Prop} (h : loK fr hh lo K) : ∃ (l : Nat) (ins : List (Operand × AV)), (∀ p ∈ ins, EvOK fr p.1 p.2 ∧ p.1 ∈ lo.toList) ∧ (∀ M τ H (ρ : Operand → Value), (∀ p ∈ ins, AVRep M τ H p.2 (ρ p.1)) → BdOK ρ lo l 0) ∧ l ≤ hh ∧ K l := by
  unfold loK at h
  cases lo with
  | none => exact ⟨_, [], by simp, fun _ _ _ _ _ => rfl, Nat.zero_le _, h⟩
  | some lo =>
    replace h := ev_ok h
    obtain ⟨u, hu, h⟩ := h
    split at h
    · rename_i k n
      exact ⟨_, [(lo, .c (.d (.int k n)))], by simp [hu], fun M τ H ρ hr => ⟨k, n, rep_int (hr _ (List.mem_singleton.2 rfl)), h.1, rfl⟩, h.2.1, h.2.2⟩
    · exact h.elim

theorem view_sound {T : Nat → TyI} (hT : TabOK P T) {fr : Fr} {hp : Hp} {nx : Nat} {t id base : Nat} {len : Option Nat} {x : Operand} {lo hi : Option Operand} {K : OpK} {v : AV} (hv : EvOK fr x v)
    (hvv : v = .c (.gs id) ∧ base = 0 ∧ len = none ∨ ∃ n, v = .c (.gv id base n) ∧ len = some n) (h : viewK T fr hp nx t id base len lo hi K) : Sound P fr hp nx (.slice t x lo hi none) K := by
  unfold viewK at h
  have ht := hT t
  generalize T t = i at h ht
  obtain ⟨kind, ik, size, zero, offs, el⟩ := i
  simp only at h
  split at h
  · have hj := hT el
    generalize T el = j at h hj
    obtain ⟨kind', ik', size', zero', offs', el'⟩ := j
    simp only at h
    split at h
    · exact h.elim
    · rename_i hk
      split at h
      · rename_i e rows hb
        split at h
        · rename_i he
          have := Nat.eq_of_beq_eq_true he
          subst this
          have hmem : ∀ {ins ins' : List (Operand × AV)}, (∀ p ∈ ins, EvOK fr p.1 p.2 ∧ p.1 ∈ hi.toList) → (∀ p ∈ ins', EvOK fr p.1 p.2 ∧ p.1 ∈ lo.toList) → ∀ p ∈ (x, v) :: (ins ++ ins'), EvOK fr p.1 p.2 ∧ p.1 ∈ (Op.slice t x lo hi none).operands.toList := by
            intro ins ins' hi1 hl1 p hp
            simp only [List.mem_cons, List.mem_append] at hp
            rcases hp with rfl | hp | hp
            · exact ⟨hv, by simp [Op.operands]⟩
            · have := hi1 p hp; exact ⟨this.1, by cases hi <;> simp_all [Op.operands]⟩
            · have := hl1 p hp; exact ⟨this.1, by cases lo <;> simp_all [Op.operands]⟩
          rcases hvv with ⟨rfl, rfl, rfl⟩ | ⟨n, rfl, rfl⟩
          · simp only at h
            obtain ⟨hh, ins, hi1, hi2, hi3, h⟩ := hi_ok h
            obtain ⟨l, ins', hl1, hl2, hl3, h⟩ := lo_ok h
            exact Sound.pure (add_ok h) (ins := (x, _) :: (ins ++ ins')) (hmem hi1 hl1) (hp_box hb) fun o ho => ok_view_gs ho ht rfl hj hk (fun M τ H ρ hr => hi2 M τ H ρ fun p hp => hr p (by simp [hp])) (fun M τ H ρ hr => hl2 M τ H ρ fun p hp => hr p (by simp [hp])) hl3 hi3
          · simp only at h
            obtain ⟨hh, ins, hi1, hi2, hi3, h⟩ := hi_ok h
            obtain ⟨l, ins', hl1, hl2, hl3, h⟩ := lo_ok h
            exact Sound.pure (add_ok h) (ins := (x, _) :: (ins ++ ins')) (hmem hi1 hl1) (hp_box hb) fun o ho => ok_view_gv ho ht rfl hj hk (fun M τ H ρ hr => hi2 M τ H ρ fun p hp => hr p (by simp [hp])) (fun M τ H ρ hr => hl2 M τ H ρ fun p hp => hr p (by simp [hp])) hl3 hi3
        · exact h.elim
      · exact h.elim
  · exact h.elim

theorem two_args {fr : Fr} {args : Array Operand} {a b : AV} (h : All2 (EvOK fr) args.toList [a, b]) : ∃ x y, args = #[x, y] ∧ EvOK fr x a ∧ EvOK fr y b := by
  match hm : args.toList, h with
  | [x, y], h => exact ⟨x, y, by apply Array.ext'; simpa using hm, h.1, h.2.1⟩
  | [], h => exact h.elim
  | [_], h => exact h.2.elim
  | _ :: _ :: _ :: _, h => exact h.2.2.elim

theorem one_arg {fr : Fr} {args : Array Operand} {a : AV} (h : All2 (EvOK fr) args.toList [a]) : ∃ x, args = #[x] ∧ EvOK fr x a := by
  match hm : args.toList, h with
  | [x], h => exact ⟨x, by apply Array.ext'; simpa using hm, h.1⟩
  | [], h => exact h.elim
  | _ :: _ :: _, h => exact h.2.elim

theorem aop3_sound {T : Nat → TyI} (hT : TabOK P T) {fr : Fr} {hp : Hp} {nx : Nat} {op : Op} {K : OpK} (h : aop3 P T fr hp nx op K) : Sound P fr hp nx op K := by
  unfold aop3 at h
  split at h
  · -- slice
    rename_i t x lo hi mx
    replace h := ev_ok h
    obtain ⟨v, hv, h⟩ := h
    split at h
    · split at h
      · split at h
        · split at h
          · exact view_sound hT hv (.inl ⟨rfl, rfl, rfl⟩) h
          · exact aop2_sound hT h
        · exact view_sound hT hv (.inl ⟨rfl, rfl, rfl⟩) h
      · exact h.elim
    · split at h
      · exact view_sound hT hv (.inr ⟨_, rfl, rfl⟩) h
      · exact h.elim
    · exact aop2_sound hT h
  · -- indexAddr
    rename_i t x i
    replace h := ev_ok h
    obtain ⟨v, hv, h⟩ := h
    split at h
    · rename_i id lo n
      have ht := hT t
      generalize T t = ti at h ht
      obtain ⟨kind, ik, size, zero, offs, el⟩ := ti
      simp only at h
      split at h
      · have hj := hT el
        generalize T el = j at h hj
        obtain ⟨kind', ik', size', zero', offs', el'⟩ := j
        simp only at h
        split at h
        · exact h.elim
        · rename_i hk
          replace h := ev_ok h
          obtain ⟨u, hu, h⟩ := h
          split at h
          · split at h
            · rename_i e rows hb
              split at h
              · rename_i he
                have := Nat.eq_of_beq_eq_true he
                subst this
                obtain ⟨h0, h1, h⟩ := h
                exact Sound.p2 hv hu (by simp [Op.operands]) (add_ok h) (hp_box hb) fun o ho => ok_index_gv ho ht rfl hj hk h0 h1
              · exact h.elim
            · exact h.elim
          · exact h.elim
      · exact h.elim
    · exact aop2_sound hT h
  · -- call
    rename_i c
    obtain ⟨callee, args, types⟩ := c
    simp only at h
    split at h
    · -- len
      have h0 := h
      replace h := evs_ok h
      obtain ⟨vs, hvs, h⟩ := h
      split at h
      · rename_i id lo n
        split at h
        · rename_i t hty
          have ht := hT t
          generalize T t = ti at h ht
          obtain ⟨kind, ik, size, zero, offs, el⟩ := ti
          simp only at h
          split at h
          · split at h
            · rename_i e rows hb
              have et : types = #[t] := by apply Array.ext'; simpa using hty
              obtain ⟨ar, rfl, hev⟩ := one_arg hvs
              subst et
              exact Sound.p1 hev (by simp [Op.operands, Call.operands]) h (hp_box hb) fun o ho => ok_len_gv ho ht rfl
            · exact h.elim
          · exact h.elim
        · exact h.elim
      · exact aop2_sound hT h
    · -- append
      replace h := evs_ok h
      obtain ⟨vs, hvs, h⟩ := h
      split at h
      · rename_i id lo n y
        split at h
        · rename_i t t' hty
          split at h
          · rename_i kd ik size zero offs el htt hlo hTt
            have e1 := Nat.eq_of_beq_eq_true htt
            have e2 := Nat.eq_of_beq_eq_true hlo
            subst e1; subst e2
            have ht := hT t
            rw [hTt] at ht
            split at h
            · have hj := hT el
              generalize T el = j at h hj
              obtain ⟨kind', ik', size', zero', offs', el'⟩ := j
              simp only at h
              split at h
              · exact h.elim
              · rename_i hk
                replace h := rows_ok h
                obtain ⟨rows, fp, hr, hfp, hs, h⟩ := h
                split at h
                · rename_i e old hb
                  split at h
                  · rename_i he
                    have := Nat.eq_of_beq_eq_true he
                    subst this
                    obtain ⟨hfit, h⟩ := h
                    have et : types = #[t, t] := by apply Array.ext'; simpa using hty
                    obtain ⟨ar, br, rfl, hev, hev2⟩ := two_args hvs
                    subst et
                    exact Sound.w2 (nw := [nx]) hev hev2 (by simp [Op.operands, Call.operands]) (succ_ok h) (fun p hp => by
                      rcases List.mem_cons.1 hp with rfl | hp
                      · exact hb
                      · exact hfp p hp) (.inr rfl) fun o ho => ok_append_gv ho ht rfl hj hk hr hs hfit
                  · exact h.elim
                · exact h.elim
            · exact h.elim
          · exact h.elim
        · exact h.elim
      · exact aop2_sound hT h
    · -- clear
      replace h := evs_ok h
      obtain ⟨vs, hvs, h⟩ := h
      split at h
      · rename_i id lo n
        split at h
        · rename_i t hty
          have ht := hT t
          generalize T t = ti at h ht
          obtain ⟨kind, ik, size, zero, offs, el⟩ := ti
          simp only at h
          split at h
          · have hj := hT el
            generalize T el = j at h hj
            obtain ⟨kind', ik', size', zero', offs', el'⟩ := j
            simp only at h
            split at h
            · exact h.elim
            · rename_i hk hsz
              have hsz := Nat.eq_of_beq_eq_true hsz
              replace h := scals_ok h
              obtain ⟨ds, h, hs1, hs2, hs3⟩ := h
              have et : types = #[t] := by apply Array.ext'; simpa using hty
              obtain ⟨ar, rfl, hev⟩ := one_arg hvs
              subst et
              split at h
              · rename_i e rows hb
                split at h
                · rename_i he
                  have := Nat.eq_of_beq_eq_true he
                  subst this
                  exact Sound.of (nw := []) (ins := [(ar, .c (.gv id lo n))]) h (by simpa using ⟨hev, by simp [Op.operands, Call.operands]⟩) (fun p hp => by
                    have := List.mem_singleton.1 hp
                    subst this
                    exact hb) (.inl rfl) fun o ho => ok_clear ho ht rfl hj hk hsz hs1 hs2 hs3
                · exact h.elim
              · exact h.elim
            · exact h.elim
          · exact h.elim
        · exact h.elim
      · exact h.elim
    · -- copy
      replace h := evs_ok h
      obtain ⟨vs, hvs, h⟩ := h
      split at h
      · rename_i X y
        split at h
        · rename_i t t' hty
          have ht := hT t
          generalize T t = ti at h ht
          obtain ⟨kind, ik, size, zero, offs, el⟩ := ti
          simp only at h
          split at h
          · have hj := hT el
            generalize T el = j at h hj
            obtain ⟨kind', ik', size', zero', offs', el'⟩ := j
            simp only at h
            split at h
            · exact h.elim
            · rename_i hk hsz
              have hsz := Nat.eq_of_beq_eq_true hsz
              replace h := rows_ok h
              obtain ⟨src, fp, hr, hfp, hs, h⟩ := h
              have et : types = #[t, t'] := by apply Array.ext'; simpa using hty
              obtain ⟨ar, br, rfl, hev, hev2⟩ := two_args hvs
              subst et
              split at h
              · split at h
                · rename_i e rows hb
                  split at h
                  · rename_i he
                    have := Nat.eq_of_beq_eq_true he
                    subst this
                    exact Sound.w2 (nw := []) hev hev2 (by simp [Op.operands, Call.operands]) h (fun p hp => by
                      rcases List.mem_cons.1 hp with rfl | hp
                      · exact hb
                      · exact hfp p hp) (.inl rfl) fun o ho => ok_copy ho ht rfl hj hk hsz (.inl ⟨rfl, rfl, rfl⟩) hr hs
                  · exact h.elim
                · exact h.elim
              · split at h
                · rename_i e rows hb
                  split at h
                  · rename_i he
                    have := Nat.eq_of_beq_eq_true he
                    subst this
                    exact Sound.w2 (nw := []) hev hev2 (by simp [Op.operands, Call.operands]) h (fun p hp => by
                      rcases List.mem_cons.1 hp with rfl | hp
                      · exact hb
                      · exact hfp p hp) (.inl rfl) fun o ho => ok_copy ho ht rfl hj hk hsz (.inr rfl) hr hs
                  · exact h.elim
                · exact h.elim
              · exact h.elim
            · exact h.elim
          · exact h.elim
        · exact h.elim
      · exact h.elim
    · exact aop2_sound hT h
  · exact aop2_sound hT h

end more
end Go.Cpl

namespace Go.Cpl
open Go
section maps
variable {P : Program} {o : Oper}

theorem boolEq_eq {a b : Bool} (h : boolEq a b = true) : a = b := by
  cases a <;> cases b <;> simp_all [boolEq]

theorem eqB_eq : ∀ {a b : List D}, eqKinds a b = true → eqB a b = true → a = b
  | [], [], _, _ => rfl
  | .int k n :: a, .int k' n' :: b, hk, h => by
    simp only [eqKinds, eqB, Bool.and_eq_true, beq_iff_eq] at hk h
    split at hk
    · rename_i hkk
      rw [ikEq_eq hkk, h.1, eqB_eq hk h.2]
    · cases hk
  | .bool x :: a, .bool y :: b, hk, h => by
    simp only [eqKinds, eqB, Bool.and_eq_true, beq_iff_eq] at hk h
    rw [h.1, eqB_eq hk h.2]
  | [], _ :: _, hk, _ => by simp [eqKinds] at hk
  | x :: _, [], hk, _ => by cases x <;> simp [eqKinds] at hk

theorem eqKinds_len : ∀ {a b : List D}, eqKinds a b = true → a.length = b.length
  | [], [], _ => rfl
  | x :: a, y :: b, hk => by
    have : eqKinds a b = true := by
      cases x <;> cases y <;> simp only [eqKinds] at hk <;> first | exact hk | (split at hk <;> first | exact hk | cases hk) | cases hk
    simp [eqKinds_len this]
  | [], _ :: _, hk => by simp [eqKinds] at hk
  | x :: _, [], hk => by cases x <;> simp [eqKinds] at hk

theorem ints1 {l : List D} (h : intsB 1 l = true) : ∃ k a, l = [.int k a] := by
  match l, h with
  | [.int k a], _ => exact ⟨k, a, rfl⟩

theorem ints2 {l : List D} (h : intsB 2 l = true) : ∃ k a k' b, l = [.int k a, .int k' b] := by
  match l, h with
  | [.int k a, .int k' b], _ => exact ⟨k, a, k', b, rfl⟩

theorem kinds_int {k : IntKind} {a : Int} {y : D} {r s : List D} (h : eqKinds (.int k a :: r) (y :: s) = true) : ∃ b, y = .int k b ∧ eqKinds r s = true := by
  cases y with
  | int k' b =>
    simp only [eqKinds] at h
    split at h
    · rename_i hk; exact ⟨_, by rw [ikEq_eq hk], h⟩
    · cases h
  | bool b => simp [eqKinds] at h
  | nilp => simp [eqKinds] at h
  | nilm => simp [eqKinds] at h
  | str => simp [eqKinds] at h
  | sl r => simp [eqKinds] at h

theorem kinds1 {k : IntKind} {a : Int} {l : List D} (h : eqKinds [.int k a] l = true) : ∃ b, l = [.int k b] := by
  have hl := eqKinds_len h
  match l, h, hl with
  | [y], h, _ => obtain ⟨b, rfl, _⟩ := kinds_int h; exact ⟨b, rfl⟩

theorem kinds2 {k k' : IntKind} {a a' : Int} {l : List D} (h : eqKinds [.int k a, .int k' a'] l = true) : ∃ b b', l = [.int k b, .int k' b'] := by
  have hl := eqKinds_len h
  match l, h, hl with
  | [y, z], h, _ =>
    obtain ⟨b, rfl, h2⟩ := kinds_int h
    obtain ⟨b', rfl, _⟩ := kinds_int h2
    exact ⟨b, b', rfl⟩

/-- what is known of a key's type -/
theorem keyTy_cases {kt : TypeId} {n : Nat} {ka : Bool} (h : keyTy P kt n ka = true) :
    (ka = false ∧ n = 1 ∧ ∃ q, P.underlying kt = some (.int q)) ∨
    (ka = true ∧ n = 2 ∧ ∃ e q i, P.underlying kt = some (.array 2 e) ∧ P.underlying e = some (.int q) ∧ P.info? e = some i ∧ i.size = 1) := by
  unfold keyTy at h
  split at h
  · rename_i q hu
    simp only [Bool.and_eq_true, Bool.not_eq_true'] at h
    exact .inl ⟨h.1, Nat.eq_of_beq_eq_true h.2, q, hu⟩
  · rename_i m e hu
    simp only [Bool.and_eq_true] at h
    obtain ⟨⟨⟨h1, h2⟩, h3⟩, h4⟩ := h
    split at h4
    · rename_i q i he hi
      have h2 := Nat.eq_of_beq_eq_true h2
      subst h2
      exact .inr ⟨h1, Nat.eq_of_beq_eq_true h3, e, q, i, hu, he, hi, Nat.eq_of_beq_eq_true h4⟩
    · cases h4
  · cases h

theorem run_part1 {e : TypeId} {q : IntKind} (he : P.underlying e = some (.int q)) (w : World) {cs : Array Value} {j : Nat} {v : Value} (hj : cs[j]? = some v) : (part e cs j).run P w = .ok v w := by
  simp [part, run_isAgg he, aggB, hj]

theorem check_runD (d : Nat) {kt : TypeId} {n : Nat} {ka : Bool} (h : keyTy P kt n ka = true) {key : List D} (hk : intsB n key = true) (em : Bool) (w : World) :
    (Instr.checkKey em (d + 2) kt (packV ka key)).run P w = .ok () w := by
  rcases keyTy_cases h with ⟨rfl, rfl, q, hu⟩ | ⟨rfl, rfl, e, q, i, hu, he, hi, hs⟩
  · obtain ⟨k, a, rfl⟩ := ints1 hk
    simp [packV, D.val, Instr.checkKey, run_underlying hu]
  · obtain ⟨k, a, k', b, rfl⟩ := ints2 hk
    have hsz : (sizeOf e).run P w = .ok 1 w := by rw [Go.Cpl.run_sizeOf hi, hs]
    have p0 := run_part1 he w (cs := #[Value.int k a, Value.int k' b]) (j := 0) (v := .int k a) rfl
    have p1 := run_part1 he w (cs := #[Value.int k a, Value.int k' b]) (j := 1) (v := .int k' b) rfl
    have hc : ∀ (k : IntKind) (a : Int), (Instr.checkKey em (d + 1) e (.int k a)).run P w = .ok () w := fun k a => by simp [Instr.checkKey, run_underlying he]
    simp only [packV, D.val, if_true, List.map_cons, List.map_nil]
    rw [Instr.checkKey]
    simp only [Sem.run_bind, run_underlying hu, Result.andThen_ok]
    simp only [Std.Legacy.Range.forIn_eq_forIn_range', Std.Legacy.Range.size, Nat.sub_zero, Nat.add_one_sub_one, Nat.div_one]
    simp only [List.range', List.forIn_cons, List.forIn_nil, Sem.run_bind, hsz, Result.andThen_ok, Nat.zero_mul, Nat.one_mul, Nat.zero_add, p0, p1, hc, Sem.run_pure]

theorem check_run {kt : TypeId} {n : Nat} {ka : Bool} (h : keyTy P kt n ka = true) {key : List D} (hk : intsB n key = true) (em : Bool) (w : World) :
    (Instr.checkKey em 10000 kt (packV ka key)).run P w = .ok () w := check_runD 9998 h hk em w

theorem equal_runD (d : Nat) {kt : TypeId} {n : Nat} {ka : Bool} (h : keyTy P kt n ka = true) {key k2 : List D} (hk : intsB n key = true) (hkk : eqKinds key k2 = true) (w : World) :
    (Op.equalIn (d + 2) kt (packV ka key) (packV ka k2)).run P w = .ok (eqB key k2) w := by
  rcases keyTy_cases h with ⟨rfl, rfl, q, hu⟩ | ⟨rfl, rfl, e, q, i, hu, he, hi, hs⟩
  · obtain ⟨k, a, rfl⟩ := ints1 hk
    obtain ⟨b, rfl⟩ := kinds1 hkk
    have := run_equalIn_int (P := P) w (d + 1) kt k q a b hu
    simp only [eqB, Bool.and_true]
    exact this
  · obtain ⟨k, a, k', b, rfl⟩ := ints2 hk
    obtain ⟨c, f, rfl⟩ := kinds2 hkk
    have hrun := run_equalIn_array (P := P) w (d + 1) #[Value.int k a, Value.int k' b] #[Value.int k c, Value.int k' f] hu hi
    have hc : P.cellsOf e = 1 := by simp [Program.cellsOf, hi, hs]
    have e1 := run_equalIn_int (P := P) w d e k q a c he
    have e2 := run_equalIn_int (P := P) w d e k' q b f he
    have p0 := run_part1 he w (cs := #[Value.int k a, Value.int k' b]) (j := 0) (v := .int k a) rfl
    have p1 := run_part1 he w (cs := #[Value.int k a, Value.int k' b]) (j := 1) (v := .int k' b) rfl
    have q0 := run_part1 he w (cs := #[Value.int k c, Value.int k' f]) (j := 0) (v := .int k c) rfl
    have q1 := run_part1 he w (cs := #[Value.int k c, Value.int k' f]) (j := 1) (v := .int k' f) rfl
    simp only [packV, D.val, eqB, if_true, List.map_cons, List.map_nil, Bool.and_true]
    rw [hrun, hc]
    have hr : List.range 2 = [0, 1] := rfl
    rw [hr]
    simp only [Op.eqItems, Sem.run_bind, Nat.zero_mul, Nat.one_mul, p0, q0, Result.andThen_ok, e1]
    cases hac : (a == c)
    · simp
    · simp only [Bool.not_true, Bool.false_eq_true, if_false, Sem.run_bind, p1, q1, Result.andThen_ok, e2, Bool.true_and]
      cases (b == f) <;> simp

theorem equal_run {kt : TypeId} {n : Nat} {ka : Bool} (h : keyTy P kt n ka = true) {key k2 : List D} (hk : intsB n key = true) (hkk : eqKinds key k2 = true) (w : World) :
    (Op.equal kt (packV ka key) (packV ka k2)).run P w = .ok (eqB key k2) w := equal_runD 9998 h hk hkk w

def EntRep (ka ea : Bool) (p : List D × List D) (x : MapEntry) : Prop := x.key = packV ka p.1 ∧ x.val = packV ea p.2 ∧ (∀ d ∈ p.1, d.scalar = true) ∧ ∀ d ∈ p.2, d.scalar = true

/-- what a search comes to -/
def FindR (ka ea : Bool) (key : List D) (ents : List (List D × List D)) (es : List MapEntry) (i : Nat) (r : Option (Nat × Value)) : Prop :=
  (findE key ents = none ∧ r = none ∧ ∀ val, setE key val ents = ents ++ [(key, val)]) ∨
  ∃ j e v, findE key ents = some v ∧ es[j]? = some e ∧ r = some (i + j, e.val) ∧ e.val = packV ea v ∧ e.key = packV ka key ∧ (∀ d ∈ v, d.scalar = true) ∧ ∀ val, setE key val ents = ents.set j (key, val)

theorem ask_run {kt : TypeId} {n : Nat} {ka ea : Bool} (h : keyTy P kt n ka = true) {key : List D} (hk : intsB n key = true) (w : World) : ∀ {ents : List (List D × List D)} {es : List MapEntry} (i : Nat), (∀ p ∈ ents, eqKinds key p.1 = true) → All2 (EntRep ka ea) ents es →
    ∃ r, (Instr.findAsking kt (packV ka key) es i).run P w = .ok r w ∧ FindR ka ea key ents es i r
  | [], [], i, _, _ => ⟨none, by simp [Instr.findAsking], .inl ⟨rfl, rfl, fun _ => rfl⟩⟩
  | p :: ents, x :: es, i, hkk, ⟨h1, h2⟩ => by
    obtain ⟨k2, v⟩ := p
    obtain ⟨a1, a2, a3, a4⟩ := h1
    have he := equal_run h hk (hkk (k2, v) (by simp)) w
    simp only at a1 a2
    rw [Instr.findAsking]
    simp only [Sem.run_bind, a1, he, Result.andThen_ok]
    cases hq : eqB key k2 with
    | true =>
      refine ⟨some (i, x.val), by simp, .inr ⟨0, x, v, by simp [findE, hq], rfl, rfl, a2, ?_, a4, fun val => by simp [setE, hq]⟩⟩
      have e0 : key = k2 := eqB_eq (hkk (k2, v) (by simp)) hq
      rw [a1, e0]
    | false =>
      obtain ⟨r, hr, hf⟩ := ask_run h hk w (ents := ents) (es := es) (i + 1) (fun p hp => hkk p (by simp [hp])) h2
      refine ⟨r, by simpa using hr, ?_⟩
      rcases hf with ⟨f1, f2, f3⟩ | ⟨j, e, v', f1, f2, f3, f4, f5, f6, f7⟩
      · exact .inl ⟨by simp [findE, hq, f1], f2, fun val => by simp [setE, hq, f3]⟩
      · exact .inr ⟨j + 1, e, v', by simp [findE, hq, f1], by simpa using f2, by rw [f3]; congr 2; omega, f4, f5, f6, fun val => by simp [setE, hq, f7]⟩
  | [], _ :: _, _, _, h => h.elim
  | _ :: _, [], _, _, h => h.elim

theorem now_run {q : IntKind} {ea : Bool} {key : List D} (hk : intsB 1 key = true) : ∀ {ents : List (List D × List D)} {es : List MapEntry} (i : Nat), (∀ p ∈ ents, eqKinds key p.1 = true) → All2 (EntRep false ea) ents es →
    ∃ r, Instr.findNow (.int q) (packV false key) es i = some r ∧ FindR false ea key ents es i r
  | [], [], i, _, _ => ⟨none, rfl, .inl ⟨rfl, rfl, fun _ => rfl⟩⟩
  | p :: ents, x :: es, i, hkk, ⟨h1, h2⟩ => by
    obtain ⟨k2, v⟩ := p
    obtain ⟨a1, a2, a3, a4⟩ := h1
    simp only at a1 a2
    obtain ⟨k, a, rfl⟩ := ints1 hk
    obtain ⟨b, rfl⟩ := kinds1 (hkk (k2, v) (by simp))
    have hs : Instr.sameNow (.int q) (packV false [.int k a]) x.key = some (a == b) := by rw [a1]; simp [packV, D.val, Instr.sameNow]
    have hq : eqB [.int k a] [.int k b] = (a == b) := by simp [eqB]
    rw [Instr.findNow, hs]
    cases hab : (a == b) with
    | true =>
      refine ⟨some (i, x.val), rfl, .inr ⟨0, x, v, by simp [findE, hq, hab], rfl, rfl, a2, ?_, a4, fun val => by simp [setE, hq, hab]⟩⟩
      rw [a1]
      simp at hab
      rw [hab]
    | false =>
      obtain ⟨r, hr, hf⟩ := now_run (q := q) hk (ents := ents) (es := es) (i + 1) (fun p hp => hkk p (by simp [hp])) h2
      refine ⟨r, hr, ?_⟩
      rcases hf with ⟨f1, f2, f3⟩ | ⟨j, e, v', f1, f2, f3, f4, f5, f6, f7⟩
      · exact .inl ⟨by simp [findE, hq, hab, f1], f2, fun val => by simp [setE, hq, hab, f3]⟩
      · exact .inr ⟨j + 1, e, v', by simp [findE, hq, hab, f1], by simpa using f2, by rw [f3]; congr 2; omega, f4, f5, f6, fun val => by simp [setE, hq, hab, f7]⟩
  | [], _ :: _, _, _, h => h.elim
  | _ :: _, [], _, _, h => h.elim

theorem find_run {kt : TypeId} {n : Nat} {ka ea : Bool} (h : keyTy P kt n ka = true) {key : List D} (hk : intsB n key = true) (w : World) {ents : List (List D × List D)} {es : List MapEntry} (hkk : ∀ p ∈ ents, eqKinds key p.1 = true) (he : All2 (EntRep ka ea) ents es) :
    ∃ r, (Instr.findKey kt (packV ka key) es).run P w = .ok r w ∧ FindR ka ea key ents es 0 r := by
  rcases keyTy_cases h with ⟨rfl, rfl, q, hu⟩ | ⟨rfl, rfl, e, q, i, hu, hue, hi, hs⟩
  · obtain ⟨r, h1, h2⟩ := now_run (q := q) hk 0 hkk he
    exact ⟨r, by simp [Instr.findKey, run_underlying hu, h1], h2⟩
  · obtain ⟨r, h1, h2⟩ := ask_run h hk w 0 hkk he
    refine ⟨r, ?_, h2⟩
    cases es with
    | nil =>
      simp only [Instr.findAsking, Sem.run_pure, Result.ok.injEq] at h1
      obtain ⟨rfl, _⟩ := h1
      simp [Instr.findKey, run_underlying hu, Instr.findNow]
    | cons x es =>
      obtain ⟨k, a, k', b, rfl⟩ := ints2 hk
      have : Instr.findNow (.array 2 e) (packV true [.int k a, .int k' b]) (x :: es) 0 = none := by
        simp [Instr.findNow, Instr.sameNow]
      simp only [Instr.findKey, Sem.run_bind, run_underlying hu, Result.andThen_ok, this]
      exact h1

theorem same_runD (d : Nat) {ka : Bool} {n : Nat} {key : List D} (hk : intsB n key = true) (hn : (ka = false ∧ n = 1) ∨ (ka = true ∧ n = 2)) : Instr.sameBits (d + 2) (packV ka key) (packV ka key) = true := by
  rcases hn with ⟨rfl, rfl⟩ | ⟨rfl, rfl⟩
  · obtain ⟨k, a, rfl⟩ := ints1 hk
    simp [packV, D.val, Instr.sameBits]
  · obtain ⟨k, a, k', b, rfl⟩ := ints2 hk
    simp [packV, D.val, Instr.sameBits]

theorem stays_run {ka : Bool} {n : Nat} {key : List D} (hk : intsB n key = true) (hn : (ka = false ∧ n = 1) ∨ (ka = true ∧ n = 2)) (w : World) : (Instr.keyThatStays (packV ka key) (packV ka key)).run P w = .ok (packV ka key) w := by
  have : Instr.sameBits 10000 (packV ka key) (packV ka key) = true := same_runD 9998 hk hn
  simp only [Instr.keyThatStays, this, if_true, Sem.run_pure]

/-! ### the operations -/

theorem TyOK.map {t : TypeId} {i : TyI} (ht : TyOK P t i) (hk : i.kind = 6) {kt n : Nat} {ka : Bool} (ho : i.offs = [(kt, n, ka)]) : P.underlying t = some (.map kt i.el) ∧ keyTy P kt n ka = true ∧ elZero P i.el = true := by
  rcases ht with h | ⟨_, _, _, _, h⟩
  · omega
  · rw [hk] at h
    have h := h.1
    unfold mapFact at h
    split at h
    · rename_i kt' et kt'' n' ka' hu ho'
      rw [ho] at ho'
      simp only [List.cons.injEq, Prod.mk.injEq, and_true] at ho'
      obtain ⟨rfl, rfl, rfl⟩ := ho'
      simp only [Bool.and_eq_true] at h
      obtain ⟨⟨⟨h1, h2⟩, h3⟩, h4⟩ := h
      have h1 := Nat.eq_of_beq_eq_true h1
      have h2 := Nat.eq_of_beq_eq_true h2
      subst h1; subst h2
      exact ⟨hu, h3, h4⟩
    · cases h

theorem ok_makeMap {t : TypeId} {ka ea : Bool} {n : Nat} (ho : o.op = .makeMap t none) :
    OpHolds P o ⟨[], [], [(n, .mp ka ea [])], [n], .c (.mp n)⟩ := by
  intro M τ H w ρ hinv hins hrd hnew
  obtain ⟨hf, hid⟩ := hnew n (by simp)
  refine OpRun.value (v := .map (some w.heap.size)) (w' := w.alloc (.map #[] 0)) ?_ ⟨M, updF τ n ⟨w.heap.size, 0, 0, false⟩, ?_, ?_⟩
  · simp [execOp, ho, Instr.makeMap]
  · have := Nx.push (w' := w.alloc (.map #[] 0)) hinv hf (.mp ka ea []) ⟨w.heap.size, 0, 0, false⟩ (WSame.alloc _ _ _) (.inr (Nat.le_refl _)) ⟨#[], 0, by simpa [updF] using alloc_new w _, trivial⟩
    exact this
  · simp [AVRep, ACRep, updH, updF]

theorem mp_at {M : Mem} {τ : Tau} {H : HF} {w : World} {id : Nat} {ka ea : Bool} {ents : List (List D × List D)} (hinv : Inv P M τ H w) (h : H id = .mp ka ea ents) :
    ∃ (es : Array MapEntry) (clock : Nat), w.heap[(τ id).b]? = some (.map es clock) ∧ All2 (EntRep ka ea) ents es.toList := by
  have := hinv.obj id
  rw [h] at this
  exact this

theorem key_ok {ka : Bool} {n : Nat} {v : AV} {K : List D → Prop} (h : keyK ka n v K) : ∃ key, K key ∧ intsB n key = true ∧ (∀ d ∈ key, d.scalar = true) ∧ ∀ M τ H u, AVRep M τ H v u → u = packV ka key := by
  unfold keyK at h
  split at h
  · rename_i cs
    obtain ⟨ds, h1, h2, h3, h4⟩ := scals_ok h
    split at h1
    · rename_i hi
      refine ⟨ds, h1, hi, h2, fun M τ H u hu => ?_⟩
      obtain ⟨us, rfl, hu⟩ := hu
      rw [h4 _ _ _ _ hu]
      simp [packV]
    · exact h1.elim
  · obtain ⟨d, h1, h2, _, h4⟩ := scal_ok h
    split at h1
    · rename_i hi
      exact ⟨[d], h1, hi, by simpa using h2, fun M τ H u hu => by rw [h4 _ _ _ _ hu]; rfl⟩
    · exact h1.elim
  · exact h.elim

theorem val_ok {ea : Bool} {v : AV} {K : List D → Prop} (h : valK ea v K) : ∃ val, K val ∧ (∀ d ∈ val, d.scalar = true) ∧ ∀ M τ H u, AVRep M τ H v u → u = packV ea val := by
  unfold valK at h
  split at h
  · obtain ⟨ds, h1, h2, h3, h4⟩ := scals_ok h
    refine ⟨ds, h1, h2, fun M τ H u hu => ?_⟩
    obtain ⟨us, rfl, hu⟩ := hu
    rw [h4 _ _ _ _ hu]
    simp [packV]
  · obtain ⟨d, h1, h2, _, h4⟩ := scal_ok h
    exact ⟨[d], h1, by simpa using h2, fun M τ H u hu => by rw [h4 _ _ _ _ hu]; rfl⟩
  · exact h.elim

/-- what a lookup returns -/
def lookV (ok : Bool) (x : AC ⊕ List AC) (f : AC) : AV := match ok with
  | true => .tup [x, .inl f]
  | false => match x with
    | .inl c => .c c
    | .inr cs => .agg cs

theorem look_ok {ok : Bool} {x : AC ⊕ List AC} {f : AC} {K : AV → Prop} (h : lookRes ok x f K) : K (lookV ok x f) := by
  unfold lookRes at h
  unfold lookV
  cases ok with
  | true => exact h
  | false => cases x <;> exact h

theorem look_rep {M : Mem} {τ : Tau} {H : HF} {ok : Bool} {x : AC ⊕ List AC} {f : AC} {v : Value} {b : Bool} (hx : TupRep M τ H x v) (hf : ACRep M τ H f (.bool b)) :
    AVRep M τ H (lookV ok x f) (if ok then .tuple #[v, .bool b] else v) := by
  cases ok with
  | true => exact ⟨[v, .bool b], rfl, hx, hf, trivial⟩
  | false =>
    cases x with
    | inl c => exact hx
    | inr cs => exact hx

theorem ok_lookup {t : TypeId} {x i : Operand} {ok : Bool} {ti : TyI} {kt n : Nat} {ka ea : Bool} {u : AV} {id : Nat} {ents : List (List D × List D)} {key : List D} {res : AC ⊕ List AC} {b : Bool} (ho : o.op = .lookup t x i ok) (ht : TyOK P t ti) (hk : ti.kind = 6) (hof : ti.offs = [(kt, n, ka)])
    (hkey : intsB n key = true) (hu : ∀ M τ H v, AVRep M τ H u v → v = packV ka key) (hkk : ∀ p ∈ ents, eqKinds key p.1 = true)
    (hres : ∀ M τ H, (∃ v, findE key ents = some v ∧ b = true ∧ ((∀ d ∈ v, d.scalar = true) → TupRep M τ H res (packV ea v))) ∨ (findE key ents = none ∧ b = false ∧ ∀ w, ∃ z, (zeroValue ti.el).run P w = .ok z w ∧ TupRep M τ H res z)) :
    OpHolds P o ⟨[(x, .c (.mp id)), (i, u)], [(id, .mp ka ea ents)], [], [], lookV ok res (if b then .tt else .ff)⟩ :=
  OpHolds.pure fun M τ H w ρ hinv hins hrd => by
    obtain ⟨m1, m2, m3⟩ := ht.map hk hof
    have hH := hrd (id, _) (List.mem_cons_self ..)
    have hv := hins (x, _) (List.mem_cons_self ..)
    have hi := hu _ _ _ _ (hins (i, u) (by simp))
    simp only [AVRep, ACRep, hH] at hv
    obtain ⟨es, clock, h1, h2⟩ := mp_at hinv hH
    obtain ⟨r, f1, f2⟩ := find_run m2 hkey w hkk h2
    have hch := check_run m2 hkey es.isEmpty w
    have hget := Go.MapKept.run_getObj_map (P := P) h1
    simp only at hi
    rcases f2 with ⟨g1, rfl, _⟩ | ⟨j, e, v, g1, g2, rfl, g4, _, g6, _⟩
    · rcases hres M τ H with ⟨v, q, _⟩ | ⟨_, rfl, hz⟩
      · rw [g1] at q; cases q
      · obtain ⟨z, z1, z2⟩ := hz w
        refine ⟨_, ?_, look_rep (ok := ok) (b := false) z2 rfl⟩
        simp only [execOp, ho, hv, hi, Instr.lookup, Sem.run_bind, run_underlying m1, Result.andThen_ok, hget, Sem.run_pure, hch, f1, z1]
    · rcases hres M τ H with ⟨v', q, rfl, hz⟩ | ⟨q, _⟩
      · rw [g1] at q; cases q
        refine ⟨_, ?_, look_rep (ok := ok) (b := true) (hz g6) rfl⟩
        simp only [execOp, ho, hv, hi, Instr.lookup, Sem.run_bind, run_underlying m1, Result.andThen_ok, hget, Sem.run_pure, hch, f1, g4]
      · rw [g1] at q; cases q

theorem All2.push {α β : Type} {R : α → β → Prop} {xs : List α} {ys : List β} {x : α} {y : β} (h : All2 R xs ys) (hxy : R x y) : All2 R (xs ++ [x]) (ys ++ [y]) := h.append ⟨hxy, trivial⟩

theorem ok_mapUpdate {t : TypeId} {m k x : Operand} {ti : TyI} {kt n : Nat} {ka ea : Bool} {u y : AV} {id : Nat} {ents : List (List D × List D)} {key val : List D} (ho : o.op = .mapUpdate t m k x ∨ o.op = .insert t m k x) (ht : TyOK P t ti) (hk : ti.kind = 6) (hof : ti.offs = [(kt, n, ka)])
    (hkey : intsB n key = true) (hks : ∀ d ∈ key, d.scalar = true) (hu : ∀ M τ H v, AVRep M τ H u v → v = packV ka key) (hvs : ∀ d ∈ val, d.scalar = true) (hy : ∀ M τ H v, AVRep M τ H y v → v = packV ea val) (hkk : ∀ p ∈ ents, eqKinds key p.1 = true) :
    OpHolds P o ⟨[(m, .c (.mp id)), (k, u), (x, y)], [(id, .mp ka ea ents)], [(id, .mp ka ea (setE key val ents))], [], .undef⟩ := by
  intro M τ H w ρ hinv hins hrd _
  obtain ⟨m1, m2, m3⟩ := ht.map hk hof
  have hH := hrd (id, _) (List.mem_cons_self ..)
  have hv := hins (m, _) (List.mem_cons_self ..)
  have hi := hu _ _ _ _ (hins (k, u) (by simp))
  have hx := hy _ _ _ _ (hins (x, y) (by simp))
  simp only [AVRep, ACRep, hH] at hv
  simp only at hi hx hH
  obtain ⟨es, clock, h1, h2⟩ := mp_at hinv hH
  obtain ⟨r, f1, f2⟩ := find_run m2 hkey w hkk h2
  have hch := check_run m2 hkey false w
  have hget := Go.MapKept.run_getObj_map (P := P) h1
  have hset := fun o' => Go.MapKept.run_setObj_map (P := P) o' h1
  have hlt := (Array.getElem?_eq_some_iff.1 h1).1
  have hn : (ka = false ∧ n = 1) ∨ (ka = true ∧ n = 2) := by
    rcases keyTy_cases m2 with ⟨a, b, _⟩ | ⟨a, b, _⟩
    · exact .inl ⟨a, b⟩
    · exact .inr ⟨a, b⟩
  have hex : ∀ w', (Instr.mapUpdate t (ρ m) (ρ k) (ρ x)).run P w = .ok () w' → (execOp ρ o).run P w = .ok .skip w' := fun w' h => by
    rcases ho with ho | ho <;> simp [execOp, ho, h]
  have hupd : updH H [(id, .mp ka ea (setE key val ents))] = updF H id (.mp ka ea (setE key val ents)) := by
    funext q; simp [updH, updF]
  have hfin : ∀ (es' : Array MapEntry) (clock' : Nat), All2 (EntRep ka ea) (setE key val ents) es'.toList → Nx P M τ H w (updF H id (.mp ka ea (setE key val ents))) M τ { w with heap := w.heap.setIfInBounds (τ id).b (.map es' clock') } [] := fun es' clock' he => by
    refine Nx.store (b := (τ id).b) hinv (by simp [blkOf, hH]) _ ⟨rfl, rfl, ⟨rfl, Nat.le_refl _⟩, by simp, fun b hb hne => ?_⟩ (by simp [blkOf, updF]) (KeepId.mp (ka' := ka) (ea' := ea) (b := setE key val ents) hH (by simp [updF])) ⟨es', clock', ?_, he⟩
    · simp only [Array.getElem?_setIfInBounds]
      rw [if_neg (Ne.symm hne)]
    · simp only [Array.getElem?_setIfInBounds]
      rw [if_pos trivial, if_pos hlt]
  rw [hupd]
  rcases f2 with ⟨g1, rfl, g3⟩ | ⟨j, e, v, g1, g2, rfl, g4, g5, g6, g7⟩
  · refine OpRun.skip (hex _ ?_) ⟨M, τ, hfin (es.push { key := packV ka key, val := packV ea val, born := clock }) (clock + 1) ?_, rfl⟩
    · simp only [hv, hi, hx, Instr.mapUpdate, Sem.run_bind, run_underlying m1, Result.andThen_ok, hget, hch, f1, hset]
    · rw [g3, Array.toList_push]
      exact h2.push ⟨rfl, rfl, hks, hvs⟩
  · refine OpRun.skip (hex _ ?_) ⟨M, τ, hfin (es.modify j fun e => { e with key := packV ka key, val := packV ea val }) clock ?_, rfl⟩
    · have hj : es[j]? = some e := by simpa using g2
      have hst := stays_run (P := P) hkey hn w
      simp only [hv, hi, hx, Instr.mapUpdate, Sem.run_bind, run_underlying m1, Result.andThen_ok, hget, hch, f1, Nat.zero_add, hj, Option.map_some, Option.getD_some, g5, hst, hset]
    · rw [g7, Array.toList_modify]
      have he : es.toList.modify j (fun e => { e with key := packV ka key, val := packV ea val }) = es.toList.set j { e with key := packV ka key, val := packV ea val } := by
        rw [List.modify_eq_set, g2]; rfl
      rw [he]
      exact h2.set ⟨rfl, rfl, hks, hvs⟩

theorem ok_loadA {t : TypeId} {x : Operand} {size : Nat} {zero : List AC} {k s : Nat} {el : TypeId} {id row col : Nat} {cells pre l r : List AC} (ho : o.op = .load t x) (ha : ArrOK P t size zero k s el) (hl : l.length = size) (hp : pre.length = col) (hc : cells = pre ++ (l ++ r)) :
    OpHolds P o ⟨[(x, .c (.ptr id row col))], [(id, .box cells)], [], [], .agg l⟩ :=
  OpHolds.pure fun M τ H w ρ hinv hins hrd => by
    have hH := hrd (id, _) (List.mem_cons_self ..)
    have hv := hins (x, _) (List.mem_cons_self ..)
    simp only [AVRep, ACRep, hH] at hv
    obtain ⟨us, e, h1, h2⟩ := box_at hinv hH
    obtain ⟨inf, z, i1, i2, i3, i4, i5⟩ := ha.inf
    have a2 := h2.drop col
    rw [hc, List.drop_left' hp] at a2
    have a3 := a2.take l.length
    rw [List.take_left] at a3
    have hlen := a3.length
    refine ⟨.agg ((us.drop col).take l.length).toArray, ?_, _, rfl, a3⟩
    have hrun := run_load_agg (P := P) (d := .array k el) ha.und rfl i1 (w := w) (b := (τ id).b) (off := col) (us := (us.drop col).take l.length) (by rw [i2, ← hl, ← hlen]) (fun j v hj => by
      have := take_get hj
      rw [List.getElem?_drop] at this
      rw [cell_of h1]
      simpa using this)
    simp only [execOp, ho, hv.2, Sem.run_bind, hrun]
    simp

theorem TyOK.ptr {t : TypeId} {i : TyI} (ht : TyOK P t i) (hk : i.kind = 7) : P.underlying t = some (.pointer (P.pointee t)) := by
  rcases ht with h | ⟨_, _, _, _, h⟩
  · omega
  · rw [hk] at h
    have h := h.1
    simp [Program.pointee, h]

theorem ok_nilEq {op : BinOp} {t t' : TypeId} {x y : Operand} {i : TyI} {u : AV} {rd : Fp} {b : Bool} (ho : o.op = .binOp op t x y t') (hop : op = .eql ∨ op = .neq) (ht : TyOK P t i) (hk : i.kind = 7)
    (hu : ∀ M τ (H : HF) v, (∀ p ∈ rd, H p.1 = p.2) → AVRep M τ H u v → ∃ p, v = .pointer p ∧ p.isNone = b) :
    OpHolds P o ⟨[(x, u), (y, .c (.d .nilp))], rd, [], [], .c (.d (.bool (if op = .eql then b else !b)))⟩ :=
  OpHolds.pure fun M τ H w ρ _ hins hrd => by
    have h1 := hins (x, u) (by simp)
    have h2 := hins (y, .c (.d .nilp)) (by simp)
    obtain ⟨p, hp, hb⟩ := hu M τ H _ hrd h1
    have h2 : ρ y = .pointer none := by
      simp only at h2
      generalize ρ y = q at h2
      cases h2
      rfl
    simp only at hp
    refine ⟨_, ?_, bool_rep M τ H _⟩
    have hgd : (eqGuard op t x y (.pointer p) (.pointer none)).run P w = .ok () w := by
      rcases hop with rfl | rfl <;> simp [eqGuard]
    rcases hop with rfl | rfl
    · simp only [execOp, ho, hp, h2, Sem.run_bind, hgd, Result.andThen_ok, run_eql_pointer_nil w t p (ht.ptr hk)]
      simp [hb]
    · simp only [execOp, ho, hp, h2, Sem.run_bind, hgd, Result.andThen_ok, run_neq_pointer_nil w t p (ht.ptr hk)]
      simp [hb]

theorem data_ok {x : AC} {K : D → Prop} (h : dataK x K) : ∃ d, K d ∧ x.ids = [] ∧ ∀ M τ H v, ACRep M τ H x v → DRep M d v := by
  unfold dataK at h
  split at h
  · exact ⟨_, h, rfl, fun M τ H v hv => hv⟩
  · exact ⟨_, h, rfl, fun M τ H v hv => by have hv : v = _ := hv; subst hv; exact .scal (.bool true) rfl⟩
  · exact ⟨_, h, rfl, fun M τ H v hv => by have hv : v = _ := hv; subst hv; exact .scal (.bool false) rfl⟩
  · exact ⟨_, h, rfl, fun M τ H v hv => by have hv : v = _ := hv; subst hv; exact .sl0 _ _⟩
  · exact h.elim

theorem datas_ok : ∀ {xs : List AC} {K : List D → Prop}, datasK xs K → ∃ ds, K ds ∧ ds.length = xs.length ∧ ∀ M τ H us, All2 (ACRep M τ H) xs us → All2 (DRep M) ds us
  | [], K, h => ⟨[], h, rfl, fun M τ H us hu => by cases us <;> first | trivial | exact hu.elim⟩
  | x :: r, K, h => by
    obtain ⟨d, h1, _, h4⟩ := data_ok h
    obtain ⟨ds, g1, g3, g4⟩ := datas_ok h1
    refine ⟨d :: ds, g1, by simp [g3], fun M τ H us hu => ?_⟩
    cases us with
    | nil => exact hu.elim
    | cons u us => exact ⟨h4 _ _ _ _ hu.1, g4 _ _ _ _ hu.2⟩

inductive ElA (fr : Fr) (size : Nat) : List (Operand × AV) → Nat → List (Nat × Operand) → List (List D) → Prop
  | nil (k : Nat) : ElA fr size [] k [] []
  | cons {ins : List (Operand × AV)} {k : Nat} {x : Operand} {cs : List AC} {ds : List D} {r : List (Nat × Operand)} {l : List (List D)} (hev : EvOK fr x (.agg cs)) (hl : cs.length = size) (hdl : ds.length = cs.length)
      (hds : ∀ M τ H us, All2 (ACRep M τ H) cs us → All2 (DRep M) ds us) (h : ElA fr size ins (k + 1) r l) : ElA fr size ((x, .agg cs) :: ins) k ((k, x) :: r) (ds :: l)

theorem elemsA_ok {fr : Fr} {size : Nat} : ∀ {parts : List (Nat × Operand)} {k : Nat} {K : List (List D) → Prop}, elemsAK fr size k parts K → ∃ ins rows, ElA fr size ins k parts rows ∧ K rows
  | [], k, K, h => ⟨[], [], .nil k, h⟩
  | (i, x) :: r, k, K, h => by
    rw [elemsAK] at h
    split at h
    · rename_i hb
      have := Nat.eq_of_beq_eq_true hb
      subst this
      obtain ⟨v, hev, h⟩ := ev_ok h
      split at h
      · split at h
        · rename_i hb
          have hl := Nat.eq_of_beq_eq_true hb
          obtain ⟨ds, h1, h2, h3⟩ := datas_ok h
          obtain ⟨ins, rows, h5, h6⟩ := elemsA_ok h1
          exact ⟨_, _, .cons hev hl h2 h3 h5, h6⟩
        · exact h.elim
      · exact h.elim
    · exact h.elim

theorem ElA.sizes {fr : Fr} {size : Nat} {ins : List (Operand × AV)} {k : Nat} {parts : List (Nat × Operand)} {rows : List (List D)} (h : ElA fr size ins k parts rows) : rows.length = parts.length ∧ ∀ r ∈ rows, r.length = size := by
  induction h with
  | nil => simp
  | cons hev hl hdl hds h ih =>
    refine ⟨by simp [ih.1], fun r hr => ?_⟩
    cases hr with
    | head => omega
    | tail _ hr => exact ih.2 r hr

theorem ElA.run {fr : Fr} {size : Nat} {M : Mem} {τ : Tau} {H : HF} {ρ : Operand → Value} {ins : List (Operand × AV)} {k : Nat} {parts : List (Nat × Operand)} {rows : List (List D)} (h : ElA fr size ins k parts rows)
    (hins : ∀ p ∈ ins, AVRep M τ H p.2 (ρ p.1)) {A B : List Value} (hA : A.length = k * size) (hB : B.length = parts.length * size) :
    ∃ us : List Value, All2 (DRep M) rows.flatten us ∧ Instr.fill (fun i => some (i * size, size)) (A ++ B).toArray (parts.map fun p => (p.1, ρ p.2)) = some (A ++ us).toArray := by
  induction h generalizing A B with
  | nil k => simp at hB; subst hB; exact ⟨[], trivial, by simp [Instr.fill]⟩
  | @cons ins k x cs ds r l hev hl hdl hds h ih =>
    have hv := hins (x, .agg cs) (by simp)
    obtain ⟨zs, hz1, hz2⟩ := hv
    have hz := hds _ _ _ _ hz2
    have hzl : zs.length = size := by rw [← hz.length]; omega
    simp only [List.length_cons, Nat.add_mul] at hB
    have hsplit : B = B.take size ++ B.drop size := by simp
    obtain ⟨us, u1, u2⟩ := ih (fun p hp => hins p (by simp [hp])) (A := A ++ zs) (B := B.drop size) (by simp [hA, hzl, Nat.add_mul]) (by simp; omega)
    refine ⟨zs ++ us, by simpa using hz.append u1, ?_⟩
    rw [List.map_cons, hsplit]
    rw [fill_step (place := fun i => some (i * size, size)) (i := k) (off := k * size) rfl (show (ρ x).cells = zs.toArray by simp only at hz1; rw [hz1]; rfl) hzl (by simp; omega) hA, ← List.append_assoc A zs]
    rw [u2]
    simp

theorem ok_buildSliceA {t : TypeId} {len : Nat} {parts : Array (Nat × Operand)} {i j : TyI} {fr : Fr} {ins : List (Operand × AV)} {rows : List (List D)} (ho : o.op = .buildSlice t len parts) (ht : TyOK P t i) (hk : i.kind = 2) (hj : TyOK P i.el j) (hjk : j.kind ≠ 0)
    (hlen : parts.toList.length = len) (hsmall : len * j.size ≤ 16777216) (h : ElA fr j.size ins 0 parts.toList rows) :
    OpHolds P o ⟨ins, [], [], [], .c (.d (.sl rows))⟩ := by
  intro M τ H w ρ hinv hins hrd hnew
  obtain ⟨inf, z, i1, i2, i3, i4, i5, i6, i7, i8⟩ := hj.info hjk
  obtain ⟨hs1, hs2⟩ := h.sizes
  have hbs : (List.map (fun x => z.cells[x % z.cells.size]!) (List.range (len * inf.size))).length = parts.toList.length * j.size := by simp [hlen, i2]
  obtain ⟨us, u1, hrun⟩ := h.run (M := M) (τ := τ) (H := H) (ρ := ρ) (A := []) (B := List.map (fun x => z.cells[x % z.cells.size]!) (List.range (len * inf.size))) hins (by simp) hbs
  refine OpRun.value (v := .slice (some ⟨w.heap.size, 0, none⟩) len len) (w' := w.alloc (.cells us.toArray i.el)) ?_ ⟨fun c => if c = w.heap.size then some (.cells us.toArray i.el (0, 0)) else M c, τ, ?_, ?_⟩
  · have hc : (Array.range (len * inf.size)).map (fun x => z.cells[x % z.cells.size]!) = (List.map (fun x => z.cells[x % z.cells.size]!) (List.range (len * inf.size))).toArray := by
      apply Array.ext'
      simp
    have e : (parts.map fun x => match x with | (i, x) => (i, ρ x)).toList = parts.toList.map fun p => (p.1, ρ p.2) := by simp
    simp only [List.nil_append] at hrun
    rw [← i2] at hrun
    have hns : ¬ len * inf.size > 2 ^ 24 := by rw [i2]; omega
    simp only [execOp, ho, Instr.buildSlice, Sem.run_bind, run_underlying (ht.slice hk), Result.andThen_ok, Go.Cpl.run_sizeOf i1]
    rw [if_neg hns]
    by_cases h0 : len * inf.size = 0
    · rw [h0] at hrun hc
      simp only [List.range_zero, List.map_nil] at hrun
      simp only [Sem.run_pure, h0, if_true, Sem.run_bind, Result.andThen_ok, e]
      have hc0 : ∀ f : Nat → Value, (Array.range 0).map f = [].toArray := fun f => by apply Array.ext'; simp
      rw [hc0, hrun]
      simp [newRow]
    · have hz : (zeroValue i.el).run P w = .ok z w := by simp [zeroValue, typeInfo, i1, i4]
      simp only [Sem.run_pure, h0, if_false, Sem.run_bind, Result.andThen_ok, e, hz, hc, hrun]
      simp [newRow]
  · exact Nx.newMem hinv (WSame.alloc w (.cells us.toArray i.el) _) (alloc_new w _) (Nat.le_refl _)
  · have hR : RowsRep M j.size rows us := ⟨hs2, u1⟩
    have hM : ∀ b o', M b = some o' → (if b = w.heap.size then some (Obj.cells us.toArray i.el (0, 0)) else M b) = some o' := fun b o' hb => by
      have := mem_lt hinv hb
      rw [if_neg (by omega)]; exact hb
    show DRep _ _ _
    have hr := DRep.sl (M := fun c => if c = w.heap.size then some (.cells us.toArray i.el (0, 0)) else M c) rows w.heap.size 0 len us.toArray i.el (0, 0) j.size (fun a b => (us[a * j.size + b]?).getD Go.undef) (by simp) (by omega) hs2 (fun q p r y hq hy => by
      obtain ⟨v, hv, _⟩ := hR.get hq hy
      simp [hv]) (fun q p r y hq hy => by
      obtain ⟨v, hv, hd⟩ := hR.get hq hy
      simp only [hv, Option.getD_some]
      exact DRep.mono hM hd)
    have hl2 : rows.length = len := by omega
    simpa [hl2] using hr

/-! ### appends to slices of slices -/

theorem drep_first {M : Mem} {τ : Tau} {H : HF} {w : World} {rows : List (List D)} {v : Value} {size : Nat} (hinv : Inv P M τ H w) (hs : ∀ r ∈ rows, r.length = size) (h : DRep M (.sl rows) v) :
    ∃ ad c vs, v = .slice ad rows.length c ∧ RowsRep M size rows vs ∧ ∀ w' : World, w'.heap = w.heap → (Builtin.firstCells size rows.length (.slice ad rows.length c)).run P w' = .ok vs.toArray w' := by
  rcases drep_sl h with ⟨rfl, a, cap, rfl⟩ | ⟨b, off, cap, cs, e, fz, s, vs, rfl, hM, hcap, hs', hc, hd⟩
  · refine ⟨a, cap, [], by simp, ⟨by simp, trivial⟩, fun w' hw' => ?_⟩
    cases a <;> simp [Builtin.firstCells, loadCells, loadCellsFrom]
  · have hb := hinv.mem _ _ hM
    have key : ∀ (rows' : List (List D)) (k : Nat), (∀ (i j : Nat) (r : List D) (x : D), rows'[i]? = some r → r[j]? = some x → rows[k + i]? = some r) → (∀ r ∈ rows', r.length = size) →
        ∃ us : List Value, All2 (DRep M) rows'.flatten us ∧ ∀ j v, us[j]? = some v → cs[off + k * size + j]? = some v := by
      intro rows'
      induction rows' with
      | nil => intro k _ _; exact ⟨[], trivial, by simp⟩
      | cons r rest ih =>
        intro k hk hsz
        have hrl := hsz r (by simp)
        obtain ⟨us, u1, u2⟩ := ih (k + 1) (fun i j r' x h1 h2 => by
          have := hk (i + 1) j r' x (by simpa using h1) h2
          rwa [← Nat.add_assoc, Nat.add_right_comm] at this) (fun r hr => hsz r (by simp [hr]))
        have hrow : ∃ zs : List Value, All2 (DRep M) r zs ∧ ∀ j v, zs[j]? = some v → cs[off + k * size + j]? = some v := by
          by_cases h0 : r = []
          · subst h0; exact ⟨[], trivial, by simp⟩
          · obtain ⟨y, ys, rfl⟩ := List.exists_cons_of_ne_nil h0
            have hkr := hk 0 0 (y :: ys) y (by simp) (by simp)
            simp only [Nat.add_zero] at hkr
            have es : s = size := by rw [← hs' _ (List.mem_of_getElem? hkr), hrl]
            subst es
            have : ∀ (l : List D) (j0 : Nat), (∀ j x, l[j]? = some x → (y :: ys)[j0 + j]? = some x) → ∃ zs : List Value, All2 (DRep M) l zs ∧ ∀ j v, zs[j]? = some v → cs[off + k * s + (j0 + j)]? = some v := by
              intro l
              induction l with
              | nil => intro j0 _; exact ⟨[], trivial, by simp⟩
              | cons x l ihl =>
                intro j0 hl
                obtain ⟨zs, z1, z2⟩ := ihl (j0 + 1) (fun j x' h => by have := hl (j + 1) x' (by simpa using h); rwa [← Nat.add_assoc, Nat.add_right_comm] at this)
                have hx := hl 0 x (by simp)
                simp only [Nat.add_zero] at hx
                refine ⟨vs k j0 :: zs, ⟨hd k j0 _ x hkr hx, z1⟩, fun j v hj => ?_⟩
                cases j with
                | zero => simp at hj; subst hj; simpa using hc k j0 _ x hkr hx
                | succ j =>
                  have := z2 j v (by simpa using hj)
                  rw [← this]
                  congr 1
                  omega
            obtain ⟨zs, z1, z2⟩ := this (y :: ys) 0 (fun j x h => by simpa using h)
            exact ⟨zs, z1, fun j v hj => by simpa using z2 j v hj⟩
        obtain ⟨zs, z1, z2⟩ := hrow
        have hzl : zs.length = size := by rw [← z1.length, hrl]
        refine ⟨zs ++ us, by simpa using z1.append u1, fun j v hj => ?_⟩
        by_cases hlt : j < zs.length
        · rw [List.getElem?_append_left hlt] at hj; exact z2 j v hj
        · rw [List.getElem?_append_right (by omega)] at hj
          have := u2 _ v hj
          rw [Nat.add_mul, Nat.one_mul, hzl] at this
          rw [← this]
          congr 1
          omega
    obtain ⟨us, u1, u2⟩ := key rows 0 (fun i j r x h1 _ => by simpa using h1) hs
    have hR : RowsRep M size rows us := ⟨hs, u1⟩
    have hlen := hR.length
    refine ⟨some ⟨b, off, none⟩, cap, us, rfl, hR, fun w' hw' => ?_⟩
    have hb' : w'.heap[b]? = some (.cells cs e fz) := by rw [hw']; exact hb
    refine run_firstCells_some (P := P) w' size rows.length ⟨b, off, none⟩ rows.length cap us hlen (fun j v hj => ?_)
    rw [add_addr, cell_of hb']
    simpa using u2 j v hj

theorem grown_repb {M : Mem} {τ : Tau} {H : HF} {w' : World} {e : TypeId} {inf : TypeInfo} {z : Value} (hi : P.info? e = some inf) (hz : z.cells.size = inf.size) {n : Nat} {all : List (List D)} {vs : List Value} (hR : RowsRep M inf.size all vs) {b cap : Nat}
    (hcap : all.length ≤ cap) (hmax : cap ≤ maxLen) (hb : w'.heap[b]? = some (.cells (vs.toArray ++ Builtin.zeroCells z.cells (cap - all.length)) e (0, 0))) :
    ObjRep P M (updF τ n ⟨b, cap, inf.size, false⟩) H w' n (.brr e all) := by
  have hfl := hR.length
  refine ⟨by simp [updF, Program.cellsOf, hi], vs, by simpa [updF] using hR, ?_⟩
  simp only [updF, if_true]
  refine owns_of_block rfl hfl hb hcap hmax ?_ ?_
  · simp only [Array.size_append, size_zeroCells, hz, List.size_toArray, hfl, ← Nat.add_mul]
    congr 1
    show _ = cap
    omega
  · rw [← hfl]
    simp

theorem ok_appendb_ns {x y : Operand} {t : TypeId} {i j : TyI} {rows : List (List D)} {n : Nat} (ho : o.op = .call ⟨.builtin .append, #[x, y], #[t, t]⟩) (ht : TyOK P t i) (hk : i.kind = 2) (hj : TyOK P i.el j) (hjk : j.kind ≠ 0)
    (hs : ∀ r ∈ rows, r.length = j.size) (hfit : Fits rows.length) :
    OpHolds P o ⟨[(x, .c .ns), (y, .c (.d (.sl rows)))], [], [(n, .brr i.el rows)], [n], .c (.gs n)⟩ := by
  intro M τ H w ρ hinv hins hrd hnew
  obtain ⟨inf, z, i1, i2, i3, i4, i5, i6, i7, i8⟩ := hj.info hjk
  obtain ⟨hf, hid⟩ := hnew n (by simp)
  have h1 : ρ x = .slice none 0 0 := hins (x, .c .ns) (by simp)
  have h2 := hins (y, .c (.d (.sl rows))) (by simp)
  simp only at h2
  obtain ⟨ad, c, vs, hv, hR, hfirst⟩ := drep_first (size := inf.size) hinv (by rw [i2]; exact hs) h2
  replace hfit := hfit.le
  have hzs : z.cells.size = inf.size := by rw [i5, i2, ← i7]; simp
  have hexec : ∀ r, (Builtin.append_ #[t, t] o.type #[.slice none 0 0, .slice ad rows.length c]).run P w = r → (execOp ρ o).run P w = r.andThen fun v w' => .ok (.value v) w' := fun r hr => by
    simp [execOp, ho, resolve, invoke, builtin, h1, hv, hr]
  rcases Nat.eq_zero_or_pos rows.length with h0 | h0
  · have := List.length_eq_zero_iff.1 h0
    subst this
    have hvs : vs = [] := List.length_eq_zero_iff.1 (by rw [hR.length]; simp)
    subst hvs
    have hrun := run_append_nils (ty := o.type) (ht.slice hk) i1 w ad c (by simpa using hfirst w rfl)
    refine OpRun.value (hexec _ hrun) ⟨M, updF τ n ⟨0, 0, inf.size, true⟩, ?_, ?_⟩
    · refine Nx.push hinv hf (.brr i.el []) ⟨0, 0, inf.size, true⟩ (WSame.refl _ _) (.inl (by simp [blkOf, updF])) ⟨by simp [updF, Program.cellsOf, i1], [], ⟨by simp, trivial⟩, ?_⟩
      simp only [updF, if_true]
      exact ⟨by simp, .inl ⟨by simp [Loc.slice], rfl⟩⟩
    · simp [AVRep, ACRep, updH, Loc.slice, updF]
  · have hb : rows.length * inf.bytes ≤ 140737488355328 := by
      have := Nat.mul_le_mul (show rows.length ≤ 1073741824 from hfit) (show inf.bytes ≤ 65536 from i3)
      omega
    have hrun := run_append_grow' (ty := o.type) (ht.slice hk) i1 i4 w none 0 0 [] ad rows.length c vs (by simp [Builtin.firstCells]) (hfirst w.drew rfl) (by omega) (by omega) (growslice_fits (by omega) (by simpa using hb))
    simp only [Nat.zero_add] at hrun
    refine OpRun.value (hexec _ hrun) ⟨M, updF τ n ⟨w.heap.size, grownCap w rows.length 0 i.el, inf.size, false⟩, ?_, ?_⟩
    · refine Nx.push hinv hf (.brr i.el rows) _ ((WSame.drew w _).trans (WSame.alloc _ _ _)) (.inr (Nat.le_refl _)) (grown_repb i1 hzs hR (grownCap_ge _ _ _ _) (grownCap_le_maxLen _ _ _ _ (by unfold maxLen; omega)) ?_)
      have := alloc_new w.drew (.cells (([] : List Value).toArray ++ vs.toArray ++ Builtin.zeroCells z.cells (grownCap w rows.length 0 i.el - rows.length)) i.el)
      simpa using this
    · simp [AVRep, ACRep, updH, Loc.slice, updF]

theorem ok_appendb_gs {x y : Operand} {t : TypeId} {i j : TyI} {id : Nat} {old rows : List (List D)} {n : Nat} (ho : o.op = .call ⟨.builtin .append, #[x, y], #[t, t]⟩) (ht : TyOK P t i) (hk : i.kind = 2) (hj : TyOK P i.el j) (hjk : j.kind ≠ 0)
    (hs : ∀ r ∈ rows, r.length = j.size) (hfit : Fits (old.length + rows.length)) :
    OpHolds P o ⟨[(x, .c (.gs id)), (y, .c (.d (.sl rows)))], [(id, .brr i.el old)], [(n, .brr i.el (old ++ rows)), (id, .gone)], [n], .c (.gs n)⟩ := by
  intro M τ H w ρ hinv hins hrd hnew
  obtain ⟨inf, z, i1, i2, i3, i4, i5, i6, i7, i8⟩ := hj.info hjk
  obtain ⟨hf, hid⟩ := hnew n (by simp)
  have hne : n ≠ id := by
    have := hid (x, .c (.gs id)) (by simp)
    simpa [AV.ids, AC.ids] using this
  have hH := hrd (id, .brr i.el old) (by simp)
  simp only at hH
  have h1 := hins (x, .c (.gs id)) (by simp)
  simp only at h1
  have h2 := hins (y, .c (.d (.sl rows))) (by simp)
  simp only at h2
  obtain ⟨ad, c, vs, hv, hR, hfirst⟩ := drep_first (size := inf.size) hinv (by rw [i2]; exact hs) h2
  have hob := hinv.obj id
  rw [hH] at hob
  obtain ⟨o1, us, o2, o3⟩ := hob
  have es : (τ id).s = inf.size := by rw [o1]; simp [Program.cellsOf, i1]
  rw [es] at o2 o3
  simp only [AVRep, ACRep, hH] at h1
  replace hfit := hfit.le
  have hzs : z.cells.size = inf.size := by rw [i5, i2, ← i7]; simp
  have hupd : updH H [(n, .brr i.el (old ++ rows)), (id, .gone)] = updF (updF H id .gone) n (.brr i.el (old ++ rows)) := by
    funext q; simp [updH, updF]
  have hRall : RowsRep M inf.size (old ++ rows) (us ++ vs) := o2.append hR
  have hflr := hR.length
  have hflo := o2.length
  simp only [hupd]
  by_cases hroom : old.length + rows.length ≤ (τ id).cap ∧ (τ id).nil = false
  · obtain ⟨hroom, hn⟩ := hroom
    obtain ⟨cur, a1, a2, a3, a4, a5⟩ := owns_block o3 hn
    simp [Loc.slice, hn] at h1
    have hm : (old.length + rows.length) * inf.size ≤ (τ id).cap * inf.size := Nat.mul_le_mul_right _ hroom
    rw [Nat.add_mul] at hm
    have hrun := run_append_room' (ty := o.type) (ht.slice hk) i1 w (τ id).b old.length (τ id).cap cur a1 ad rows.length c vs (hfirst w rfl) hR.one hroom (by rw [a4, hflr]; omega)
    refine OpRun.value (v := .slice (some ⟨(τ id).b, 0, none⟩) (old.length + rows.length) (τ id).cap) (w' := _) (by
      simp only [execOp, ho, resolve, invoke, builtin, List.map_toArray, List.map_cons, List.map_nil, h1, hv, Sem.run_bind, Sem.run_pure, Result.andThen_ok, hrun]; rfl) ⟨M, updF τ n ⟨(τ id).b, (τ id).cap, inf.size, false⟩, ?_, ?_⟩
    · have hbk : blkOf τ H id = some (τ id).b := by simp [blkOf, hH, hn]
      have hws := WSame.setRow (new := (cur.toList.take (old.length * inf.size) ++ vs ++ cur.toList.drop (old.length * inf.size + vs.length)).toArray) a1
      refine Nx.reown hinv hf hne _ _ ⟨hws.os, hws.tape, hws.output, hws.size, fun b hb hn' => hws.block b hb (fun he => hn' (by rw [he]; exact hbk))⟩ (fun b hb => .inr ?_) ⟨by simp [updF, Program.cellsOf, i1], us ++ vs, by simpa [updF] using hRall, ?_⟩
      · simp [blkOf, updF] at hb; rw [← hb]; exact hbk
      · simp only [updF, if_true]
        refine owns_of_block rfl hRall.length (setRow_heap w (τ id).b cur _ i.el _ a1) (by simpa using hroom) a3 ?_ ?_
        · simp only [List.size_toArray, List.length_append, List.length_take, List.length_drop, Array.length_toList, hflr]; omega
        · rw [a5]
          refine List.take_left' ?_
          simp [hflo, hflr, Nat.add_mul]
    · simp [AVRep, ACRep, Loc.slice, updF]
  · by_cases hz0 : (τ id).nil = true ∧ rows = []
    · obtain ⟨hn, rfl⟩ := hz0
      have e1 := (owns_nil o3 hn).1
      have := List.length_eq_zero_iff.1 e1
      subst this
      simp [Loc.slice, hn] at h1
      have hvs : vs = [] := List.length_eq_zero_iff.1 (by rw [hR.length]; simp)
      subst hvs
      have hrun := run_append_nils (ty := o.type) (ht.slice hk) i1 w ad c (by simpa using hfirst w rfl)
      simp only [List.length_nil] at hv
      refine OpRun.value (v := .slice none 0 0) (w' := w) (by
        simp only [execOp, ho, resolve, invoke, builtin, List.map_toArray, List.map_cons, List.map_nil, h1, hv, Sem.run_bind, Sem.run_pure, Result.andThen_ok, hrun]) ⟨M, updF τ n ⟨0, 0, inf.size, true⟩, ?_, ?_⟩
      · refine Nx.reown hinv hf hne _ _ (WSame.refl _ _) (fun b hb => by simp [blkOf, updF] at hb) ⟨by simp [updF, Program.cellsOf, i1], [], ⟨by simp, trivial⟩, ?_⟩
        simp only [updF, if_true]
        exact ⟨by simp, .inl ⟨by simp [Loc.slice], rfl⟩⟩
      · simp [AVRep, ACRep, Loc.slice, updF]
    · -- it grows
      have hsl : ∃ sCap, ρ x = .slice (if (τ id).nil then none else some ⟨(τ id).b, 0, none⟩) old.length sCap ∧ sCap < old.length + rows.length := by
        cases hn : (τ id).nil with
        | true =>
          have e1 := (owns_nil o3 hn).1
          simp [Loc.slice, hn] at h1
          refine ⟨0, by rw [h1, e1]; simp, ?_⟩
          rcases Nat.eq_zero_or_pos rows.length with h0 | h0
          · exact absurd ⟨hn, List.length_eq_zero_iff.1 h0⟩ hz0
          · omega
        | false =>
          simp [Loc.slice, hn] at h1
          refine ⟨(τ id).cap, by simp [h1], ?_⟩
          rcases Nat.lt_or_ge (τ id).cap (old.length + rows.length) with h' | h'
          · exact h'
          · exact absurd ⟨h', hn⟩ hroom
      obtain ⟨sCap, hvx, hlt⟩ := hsl
      have hfirst0 : ∀ w' : World, w'.heap = w.heap → (Builtin.firstCells inf.size old.length (.slice (if (τ id).nil then none else some ⟨(τ id).b, 0, none⟩) old.length sCap)).run P w' = .ok us.toArray w' := fun w' hw' => by
        cases hn : (τ id).nil with
        | true =>
          obtain ⟨e1, e2⟩ := owns_nil o3 hn
          subst e2
          simp [Builtin.firstCells, e1]
        | false =>
          obtain ⟨cur, a1, a2, a3, a4, a5⟩ := owns_block o3 hn
          have hb' : w'.heap[(τ id).b]? = some (.cells cur i.el (0, 0)) := by rw [hw']; exact a1
          simp only [Bool.false_eq_true, if_false]
          refine run_firstCells_some (P := P) w' inf.size old.length ⟨(τ id).b, 0, none⟩ old.length sCap us hflo (fun j v hj => ?_)
          rw [add_addr, cell_of hb']
          rw [← a5] at hj
          simpa using take_get hj
      have hb : (old.length + rows.length) * inf.bytes ≤ 140737488355328 := by
        have := Nat.mul_le_mul (show old.length + rows.length ≤ 1073741824 from hfit) (show inf.bytes ≤ 65536 from i3)
        omega
      have hrun := run_append_grow' (ty := o.type) (ht.slice hk) i1 i4 w _ old.length sCap us ad rows.length c vs (hfirst0 w.drew rfl) (hfirst w.drew rfl) hlt (by omega) (growslice_fits hlt hb)
      refine OpRun.value (v := .slice (some ⟨w.heap.size, 0, none⟩) (old.length + rows.length) (grownCap w (old.length + rows.length) sCap i.el)) (w' := _) (by
        simp only [execOp, ho, resolve, invoke, builtin, List.map_toArray, List.map_cons, List.map_nil, hvx, hv, Sem.run_bind, Sem.run_pure, Result.andThen_ok, hrun]; rfl) ⟨M, updF τ n ⟨w.heap.size, grownCap w (old.length + rows.length) sCap i.el, inf.size, false⟩, ?_, ?_⟩
      · refine Nx.reown hinv hf hne _ _ ((WSame.drew w _).trans (WSame.alloc _ _ _)) (fun b hb => .inl ?_) (grown_repb i1 hzs hRall (by simpa using grownCap_ge _ _ _ _) (grownCap_le_maxLen _ _ _ _ (by unfold maxLen; omega)) ?_)
        · simp [blkOf, updF] at hb; omega
        · have := alloc_new w.drew (.cells (us.toArray ++ vs.toArray ++ Builtin.zeroCells z.cells (grownCap w (old.length + rows.length) sCap i.el - (old.length + rows.length))) i.el)
          simpa using this
      · simp [AVRep, ACRep, Loc.slice, updF]

theorem three_ins {fr : Fr} {x y z : Operand} {a b c : AV} (h1 : EvOK fr x a) (h2 : EvOK fr y b) (h3 : EvOK fr z c) {l : List Operand} (hx : x ∈ l) (hy : y ∈ l) (hz : z ∈ l) : ∀ p ∈ [(x, a), (y, b), (z, c)], EvOK fr p.1 p.2 ∧ p.1 ∈ l := fun p hp => by
  simp only [List.mem_cons, List.not_mem_nil, or_false] at hp
  rcases hp with rfl | rfl | rfl
  · exact ⟨h1, hx⟩
  · exact ⟨h2, hy⟩
  · exact ⟨h3, hz⟩

theorem ea_zero {el : TypeId} {j : TyI} (hj : TyOK P el j) (hjk : j.kind ≠ 0) (hz : elZero P el = true) (M : Mem) (τ : Tau) (H : HF) (w : World) :
    ∃ z, (zeroValue el).run P w = .ok z w ∧ ((j.kind = 3 ∧ TupRep M τ H (.inr j.zero) z) ∨ (j.kind ≠ 3 ∧ ∀ c, j.zero[0]? = some c → TupRep M τ H (.inl c) z)) := by
  obtain ⟨inf, z, i1, i2, i3, i4, i5, i6, i7, i8⟩ := hj.info hjk
  obtain ⟨d, d1, d2, d3⟩ := hj.und hjk
  refine ⟨z, by simp [zeroValue, typeInfo, i1, i4], ?_⟩
  have hrep := acConsts_rep M τ H _ i6
  unfold elZero at hz
  rw [d1, i1] at hz
  simp only [Option.bind_some, i4] at hz
  by_cases hk : j.kind = 3
  · refine .inl ⟨hk, ?_⟩
    have ha := d2.2 hk
    cases z <;> simp only [ha, Bool.not_true, Bool.false_and] at hz <;> first | cases hz | skip
    rename_i cs
    refine ⟨cs.toList, rfl, ?_⟩
    have : cs = (j.zero.map acVal).toArray := by simpa [Value.cells] using i5
    rw [this]
    exact hrep
  · refine .inr ⟨hk, fun c hc => ?_⟩
    have ha : aggB d = false := by
      cases h : aggB d with
      | false => rfl
      | true => exact absurd (d2.1 h) hk
    have hone : z.cells = #[z] := by
      cases z <;> simp only [ha, Bool.not_false, Bool.true_and] at hz <;> first | rfl | cases hz
    have hl : j.zero.length = 1 := by rw [i7, d3 hk]
    match hq : j.zero, hl, hc with
    | [c'], _, hc =>
      simp at hc
      subst hc
      rw [hq] at hrep i5
      rw [hone] at i5
      have : z = acVal c' := by simpa using i5
      rw [this]
      exact hrep.1

theorem elA_ins {fr : Fr} {size : Nat} {ins : List (Operand × AV)} {k : Nat} {ps : List (Nat × Operand)} {l : List (List D)} (h : ElA fr size ins k ps l) : ∀ p ∈ ins, EvOK fr p.1 p.2 ∧ p.1 ∈ ps.map (·.2) := by
  induction h with
  | nil => simp
  | cons hev hl hdl hds h ih =>
    intro p hp
    rcases List.mem_cons.1 hp with rfl | hp
    · exact ⟨hev, by simp⟩
    · exact ⟨(ih p hp).1, by simp [(ih p hp).2]⟩

theorem upd_sound {T : Nat → TyI} (hT : TabOK P T) {fr : Fr} {hp : Hp} {nx : Nat} {op : Op} {t : TypeId} {m k x : Operand} {K : OpK} (hop : op = .mapUpdate t m k x ∨ op = .insert t m k x) (h : mapUpdK T fr hp nx t m k x K) : Sound P fr hp nx op K := by
  unfold mapUpdK at h
  have ht := hT t
  generalize T t = ti at h ht
  obtain ⟨kind, ik, size, zero, offs, el⟩ := ti
  simp only at h
  split at h
  · split at h
    · rename_i kt n ka
      generalize T el = j at h
      obtain ⟨ekind, ik', size', zero', offs', el'⟩ := j
      simp only at h
      split at h
      · exact h.elim
      · obtain ⟨v, hv, h⟩ := ev_ok h
        obtain ⟨u, hu, h⟩ := ev_ok h
        obtain ⟨y, hy, h⟩ := ev_ok h
        obtain ⟨key, h, k1, k2, k3⟩ := key_ok h
        split at h
        · rename_i id
          split at h
          · rename_i ka' ea ents hb
            split at h
            · rename_i hb1 hb2
              have hb1 := boolEq_eq hb1
              subst hb1
              obtain ⟨val, h, v1, v2⟩ := val_ok h
              obtain ⟨hkk, h⟩ := h
              have hm : m ∈ op.operands.toList ∧ k ∈ op.operands.toList ∧ x ∈ op.operands.toList := by
                rcases hop with rfl | rfl <;> simp [Op.operands]
              exact Sound.of (nw := []) h (three_ins hv hu hy hm.1 hm.2.1 hm.2.2) (hp_box hb) (.inl rfl) fun o ho => ok_mapUpdate (by rcases hop with rfl | rfl; exact .inl ho; exact .inr ho) ht rfl rfl k1 k2 k3 v1 v2 hkk
            · exact h.elim
          · exact h.elim
        · exact h.elim
    · exact h.elim
  · exact h.elim

theorem slice_one {t : TypeId} {j : TyI} (hj : TyOK P t j) (hk : j.kind = 2) : j.size = 1 := by
  rcases hj with hj | ⟨_, _, _, _, hj⟩
  · omega
  · rw [hk] at hj; exact hj.2

theorem rep_str {M : Mem} {τ : Tau} {H : HF} {s : ByteArray} {v : Value} (h : AVRep M τ H (.c (.d (.str s))) v) : v = .string s := by
  cases h; rfl

theorem TyOK.str {t : TypeId} {i : TyI} (ht : TyOK P t i) (hk : i.kind = 8) : P.underlying t = some .string := by
  rcases ht with h | ⟨_, _, _, _, h⟩
  · omega
  · rw [hk] at h; exact h.1

theorem ok_indexS {t : TypeId} {x y : Operand} {i : TyI} {s : ByteArray} {k : IntKind} {n : Int} {b : UInt8} (ho : o.op = .index t x y) (ht : TyOK P t i) (hk : i.kind = 8) (h0 : 0 ≤ n) (hb : s[n.toNat]? = some b) :
    OpHolds P o ⟨[(x, .c (.d (.str s))), (y, .c (.d (.int k n)))], [], [], [], .c (.d (.int .u8 b.toNat))⟩ :=
  OpHolds.pure fun M τ H w ρ _ hins _ => by
    have h1 := rep_str (hins (x, .c (.d (.str s))) (by simp))
    have h2 := rep_int (hins (y, .c (.d (.int k n))) (by simp))
    simp only at h1 h2
    refine ⟨_, ?_, int_rep M τ H .u8 _⟩
    simp only [execOp, ho, h1, h2, Instr.index, Sem.run_bind]
    simp [asIntOf, run_underlying (ht.str hk), h0, hb]

theorem ok_lenS {x : Operand} {t : TypeId} {i : TyI} {s : ByteArray} (ho : o.op = .call ⟨.builtin .len, #[x], #[t]⟩) (ht : TyOK P t i) (hk : i.kind = 8) :
    OpHolds P o ⟨[(x, .c (.d (.str s)))], [], [], [], .c (.d (.int .i64 s.size))⟩ :=
  OpHolds.pure fun M τ H w ρ _ hins _ => by
    have h1 := rep_str (hins (x, .c (.d (.str s))) (by simp))
    simp only at h1
    refine ⟨_, ?_, int_rep M τ H .i64 _⟩
    simp [execOp, ho, resolve, invoke, builtin, h1, Builtin.len_, run_underlying (ht.str hk), goInt]

theorem aop4_sound {T : Nat → TyI} (hT : TabOK P T) {fr : Fr} {hp : Hp} {nx : Nat} {op : Op} {K : OpK} (h : aop4 P T fr hp nx op K) : Sound P fr hp nx op K := by
  unfold aop4 at h
  split at h
  · -- index
    rename_i t x i
    split at h
    · rename_i hTt
      have ht := hT t
      rw [hTt] at ht
      replace h := ev_ok h
      obtain ⟨v, hv, h⟩ := h
      replace h := ev_ok h
      obtain ⟨u, hu, h⟩ := h
      split at h
      · obtain ⟨h0, b, hb, h⟩ := h
        exact Sound.p2 hv hu (by simp [Op.operands]) h (by simp) fun o ho => ok_indexS ho ht rfl h0 hb
      · exact h.elim
    · exact h.elim
  · -- makeMap
    rename_i t r
    split at h
    · generalize T t = ti at h
      obtain ⟨kind, ik, size, zero, offs, el⟩ := ti
      simp only at h
      split at h
      · split at h
        · generalize T el = j at h
          obtain ⟨kind', ik', size', zero', offs', el'⟩ := j
          simp only at h
          split at h
          · exact h.elim
          · exact Sound.of (nw := [nx]) (succ_ok h) (ins := []) (by simp) (by simp) (.inr rfl) fun o ho => ok_makeMap ho
        · exact h.elim
      · exact h.elim
    · exact h.elim
  · -- lookup
    rename_i t x i ok
    unfold lookK at h
    have ht := hT t
    generalize T t = ti at h ht
    obtain ⟨kind, ik, size, zero, offs, el⟩ := ti
    simp only at h
    split at h
    · split at h
      · rename_i kt n ka
        have hj := hT el
        generalize T el = j at h hj
        obtain ⟨ekind, ik', size', zero', offs', el'⟩ := j
        simp only at h
        split at h
        · exact h.elim
        · rename_i hk0
          obtain ⟨v, hv, h⟩ := ev_ok h
          obtain ⟨u, hu, h⟩ := ev_ok h
          obtain ⟨key, h, k1, k2, k3⟩ := key_ok h
          split at h
          · rename_i id
            split at h
            · rename_i ka' ea ents hb
              split at h
              · rename_i hb1 hb2
                have hb1 := boolEq_eq hb1
                have hb2 := boolEq_eq hb2
                subst hb1
                obtain ⟨hkk, h⟩ := h
                obtain ⟨m1, m2, m3⟩ := ht.map rfl rfl
                have hek : ea = true ↔ ekind = 3 := by
                  rw [hb2]
                  exact ⟨Nat.eq_of_beq_eq_true, fun h => by rw [h]; rfl⟩
                rcases h with ⟨ds, hf, h⟩ | ⟨hf, h⟩
                · split at h
                  · refine Sound.p2 hv hu (by simp [Op.operands]) (look_ok (mapD_ok h)) (hp_box hb) fun o ho => ok_lookup (b := true) ho ht rfl rfl k1 k3 hkk fun M τ H => .inl ⟨ds, hf, rfl, fun hs => ⟨ds.map D.val, by simp [packV], mapD_rep (scals_rep hs)⟩⟩
                  · obtain ⟨d, hd, h⟩ := nth_ok h
                    refine Sound.p2 hv hu (by simp [Op.operands]) (look_ok h) (hp_box hb) fun o ho => ok_lookup (b := true) ho ht rfl rfl k1 k3 hkk fun M τ H => .inl ⟨ds, hf, rfl, fun hs => ?_⟩
                    cases ds with
                    | nil => simp at hd
                    | cons d' r =>
                      simp at hd
                      subst hd
                      exact DRep.scal d' (hs d' (by simp))
                · split at h
                  · refine Sound.p2 hv hu (by simp [Op.operands]) (look_ok h) (hp_box hb) fun o ho => ok_lookup (b := false) ho ht rfl rfl k1 k3 hkk fun M τ H => .inr ⟨hf, rfl, fun w => ?_⟩
                    obtain ⟨z, z1, z2⟩ := ea_zero hj hk0 m3 M τ H w
                    rcases z2 with ⟨_, z2⟩ | ⟨hne, _⟩
                    · exact ⟨z, z1, z2⟩
                    · exact absurd (hek.1 rfl) hne
                  · obtain ⟨d, hd, h⟩ := nth_ok h
                    refine Sound.p2 hv hu (by simp [Op.operands]) (look_ok h) (hp_box hb) fun o ho => ok_lookup (b := false) ho ht rfl rfl k1 k3 hkk fun M τ H => .inr ⟨hf, rfl, fun w => ?_⟩
                    obtain ⟨z, z1, z2⟩ := ea_zero hj hk0 m3 M τ H w
                    rcases z2 with ⟨he, _⟩ | ⟨_, z2⟩
                    · exact absurd (hek.2 he) (by simp)
                    · exact ⟨z, z1, z2 d hd⟩
              · exact h.elim
            · exact h.elim
          · exact h.elim
      · exact h.elim
    · exact h.elim
  · -- mapUpdate
    rename_i t m k x
    exact upd_sound hT (.inl rfl) h
  · rename_i t m k x
    exact upd_sound hT (.inr rfl) h
  · -- load
    rename_i t x
    split at h
    · rename_i ik size zero n s b el hTt
      obtain ⟨ha, h⟩ := h
      obtain ⟨v, hv, h⟩ := ev_ok h
      split at h
      · split at h
        · rename_i cells hb
          replace h := drop_ok h
          obtain ⟨pre, l1, h1, h2, h⟩ := h
          replace h := take_ok h
          obtain ⟨l, r, h3, h4, h⟩ := h
          subst h3
          exact Sound.p1 hv (by simp [Op.operands]) h (hp_box hb) fun o ho => ok_loadA ho (arrOK_ok ha) h4 h2 h1
        · exact h.elim
      · exact h.elim
    · exact aop3_sound hT h
  · -- binOp
    rename_i op t x y t'
    split at h
    · rename_i hTt
      have ht := hT t
      rw [hTt] at ht
      replace h := ev_ok h
      obtain ⟨v, hv, h⟩ := h
      replace h := ev_ok h
      obtain ⟨u, hu, h⟩ := h
      split at h
      · split at h
        · rename_i id row col
          split at h
          · rename_i cells hb
            have hp' : ∀ M τ (H : HF) v, (∀ p ∈ [(id, HObj.box cells)], H p.1 = p.2) → AVRep M τ H (.c (.ptr id row col)) v → ∃ p, v = .pointer p ∧ p.isNone = false := fun M τ H v hrd hr => by
              have hH := hrd (id, .box cells) (by simp)
              simp only at hH
              simp only [AVRep, ACRep, hH] at hr
              exact ⟨_, hr.2, rfl⟩
            split at h
            · exact Sound.p2 hv hu (by simp [Op.operands]) h (hp_box hb) fun o ho => ok_nilEq (op := .eql) ho (.inl rfl) ht rfl hp'
            · exact Sound.p2 hv hu (by simp [Op.operands]) h (hp_box hb) fun o ho => ok_nilEq (op := .neq) ho (.inr rfl) ht rfl hp'
            · exact h.elim
          · exact h.elim
        · have hp' : ∀ M τ (H : HF) v, (∀ p ∈ ([] : Fp), H p.1 = p.2) → AVRep M τ H (.c (.d .nilp)) v → ∃ p, v = .pointer p ∧ p.isNone = true := fun M τ H v hrd hr => by
            cases hr
            exact ⟨none, rfl, rfl⟩
          split at h
          · exact Sound.p2 hv hu (by simp [Op.operands]) h (by simp) fun o ho => ok_nilEq (op := .eql) ho (.inl rfl) ht rfl hp'
          · exact Sound.p2 hv hu (by simp [Op.operands]) h (by simp) fun o ho => ok_nilEq (op := .neq) ho (.inr rfl) ht rfl hp'
          · exact h.elim
        · exact h.elim
      · exact h.elim
    · exact aop3_sound hT h
  · -- buildSlice
    rename_i t len parts
    split at h
    · rename_i el hTt
      have ht := hT t
      rw [hTt] at ht
      split at h
      · rename_i size zero _ _ hTe
        have hj := hT el
        rw [hTe] at hj
        split at h
        · split at h
          · rename_i hl hs
            obtain ⟨ins, rows, h1, h2⟩ := elemsA_ok h
            refine Sound.pure h2 (ins := ins) (fun p hp => elA_ins h1 p hp) (by simp) fun o ho => ok_buildSliceA ho ht rfl hj (by simp) (Nat.eq_of_beq_eq_true hl) (Nat.le_of_ble_eq_true hs) h1
          · exact h.elim
        · exact aop3_sound hT h
      · exact aop3_sound hT h
    · exact aop3_sound hT h
  · -- call
    rename_i c
    obtain ⟨callee, args, types⟩ := c
    simp only at h
    split at h
    · split at h
      · rename_i t t' hty
        split at h
        · rename_i el hTt
          have ht := hT t
          rw [hTt] at ht
          split at h
          · rename_i hTe
            have hj := hT el
            rw [hTe] at hj
            split at h
            · rename_i htt
              have htt := Nat.eq_of_beq_eq_true htt
              subst htt
              replace h := evs_ok h
              obtain ⟨vs, hvs, h⟩ := h
              split at h
              · rename_i X rows
                replace h : appBK hp nx el X rows K := h
                unfold appBK at h
                obtain ⟨hs, h⟩ := h
                have et : types = #[t, t] := by apply Array.ext'; simpa using hty
                obtain ⟨ar, br, rfl, hev, hev2⟩ := two_args hvs
                subst et
                have hj1 := fun r hr => (hs r hr).trans (slice_one hj rfl).symm
                split at h
                · exact Sound.w2 (nw := [nx]) hev hev2 (by simp [Op.operands, Call.operands]) (succ_ok h.2) (by simp) (.inr rfl) fun o ho => ok_appendb_ns ho ht rfl hj (by simp) hj1 h.1
                · split at h
                  · rename_i e old hb
                    split at h
                    · rename_i he
                      have := Nat.eq_of_beq_eq_true he
                      subst this
                      exact Sound.w2 (nw := [nx]) hev hev2 (by simp [Op.operands, Call.operands]) (succ_ok h.2) (hp_box hb) (.inr rfl) fun o ho => ok_appendb_gs ho ht rfl hj (by simp) hj1 h.1
                    · exact h.elim
                  · exact h.elim
                · exact h.elim
              · exact h.elim
            · exact h.elim
          · exact aop3_sound hT h
        · exact aop3_sound hT h
      · exact aop3_sound hT h
    · split at h
      · rename_i t hty
        split at h
        · rename_i hTt
          have ht := hT t
          rw [hTt] at ht
          replace h := evs_ok h
          obtain ⟨vs, hvs, h⟩ := h
          split at h
          · have et : types = #[t] := by apply Array.ext'; simpa using hty
            obtain ⟨ar, rfl, hev⟩ := one_arg hvs
            subst et
            exact Sound.p1 hev (by simp [Op.operands, Call.operands]) h (by simp) fun o ho => ok_lenS ho ht rfl
          · exact h.elim
        · exact aop3_sound hT h
      · exact h.elim
    · exact aop3_sound hT h
  · exact aop3_sound hT h

end maps
end Go.Cpl

namespace Go.Cpl
open Go
section rel
variable {P : Program}

/-! ### calls that are told by a property -/

def OpHoldsQ (P : Program) (o : Oper) (ins : List (Operand × AV)) (rd : Fp) (nx : Nat) (R : AV → Fp → List Nat → Nat → Prop) : Prop :=
  ∀ (M : Mem) (τ : Tau) (H : HF) (w : World) (ρ : Operand → Value), Inv P M τ H w → (∀ p ∈ ins, AVRep M τ H p.2 (ρ p.1)) → (∀ p ∈ rd, H p.1 = p.2) →
    (∀ id, nx ≤ id → FreshH H id ∧ ∀ p ∈ ins, id ∉ p.2.ids) →
    OpRun P o ρ w fun v' w' => ∃ v us nw nx', R v us nw nx' ∧ (∀ id ∈ nw, nx ≤ id ∧ id < nx') ∧ nx ≤ nx' ∧ ∃ M' τ', Nx P M τ H w (updH H us) M' τ' w' nw ∧ AVRep M' τ' (updH H us) v v'

def SoundQ (P : Program) (fr : Fr) (hp : Hp) (nx : Nat) (op : Op) (K : OpK) : Prop :=
  ∃ (ins : List (Operand × AV)) (rd : Fp), (∀ p ∈ ins, EvOK fr p.1 p.2 ∧ p.1 ∈ op.operands.toList) ∧ (∀ p ∈ rd, hpAt hp p.1 = p.2) ∧
    ∀ o : Oper, o.op = op → OpHoldsQ P o ins rd nx fun v us nw nx' => K v rd us nw nx'

theorem OpRun.mono {o : Oper} {ρ : Operand → Value} {w : World} {R R' : Value → World → Prop} (h : OpRun P o ρ w R) (hr : ∀ v w', R v w' → R' v w') : OpRun P o ρ w R' :=
  fun a next Q hn => h a next Q fun v w' hv => hn v w' (hr v w' hv)

theorem Sound.q {fr : Fr} {hp : Hp} {nx : Nat} {op : Op} {K : OpK} (h : Sound P fr hp nx op K) : SoundQ P fr hp nx op K := by
  obtain ⟨d, nx', h1, h2, h3, h4, h5, h6⟩ := h
  refine ⟨d.ins, d.rd, h1, h2, fun o ho M τ H w ρ hinv hins hrd hnew => ?_⟩
  exact (h3 o ho M τ H w ρ hinv hins hrd fun id hid => hnew id (h4 id hid).1).mono fun v w' hv => ⟨d.v, d.us, d.nw, nx', h6, h4, h5, hv⟩

theorem callQ_ok {mode : Nat} {f : FuncId} {vs : List AV} {hp : Hp} {nx : Nat} {K : OpK} (h : callQ P mode f vs hp nx K) : ∃ (rd : Fp), (∀ p ∈ rd, hpAt hp p.1 = p.2) ∧ Callable P f ∧
    (∀ (M : Mem) (τ : Tau) (H : HF) (w : World) (zs : List Value), Inv P M τ H w → (∀ p ∈ rd, H p.1 = p.2) → (∀ id, nx ≤ id → FreshH H id) → All2 (AVRep M τ H) vs zs →
      Calls P f zs.toArray w fun e w' => ∃ v, e = .returned v ∧ ∃ res us nw nx', K res rd us nw nx' ∧ (∀ id ∈ nw, nx ≤ id ∧ id < nx') ∧ nx ≤ nx' ∧ ∃ M' τ', Nx P M τ H w (updH H us) M' τ' w' nw ∧ AVRep M' τ' (updH H us) res v) := by
  unfold callQ at h
  obtain ⟨cells, h⟩ := cellsAll_ok h
  obtain ⟨roots, h⟩ := roots_ok h
  obtain ⟨roots, h⟩ := inners_ok h
  obtain ⟨ρ, h⟩ := inners_ok h
  obtain ⟨args, bor, ha, hb, h⟩ := argVs_ok h
  obtain ⟨hin, rd, h1, h2, h3, h⟩ := hin_ok h
  split at h
  · exact h.elim
  rename_i hndρ
  have hndρ := nodupB_ok hndρ
  obtain ⟨Q, hC, h⟩ := h
  refine ⟨rd ++ bor, fun p hp => (List.mem_append.1 hp).elim (h2 p) (hb p), hC.1, fun M τ H w zs hinv hrd hfr hz => ?_⟩
  have hlen : ρ.length = hin.length := h1.length
  have hor : ∀ k id, ρ[k]? = some id → OR ρ (H id) (hpOf hin k) := fun k id hk => by
    obtain ⟨o, ho, hor⟩ := h1.get hk
    have hH : H id = hpAt hp id := hrd (id, hpAt hp id) (by simp [h3 id (List.mem_of_getElem? hk)])
    rw [hH]
    simpa [hpOf, ho] using hor
  obtain ⟨v1, v2⟩ := call_view (nw := []) hinv hlen hor ha (fun p hp => hrd p (by simp [hp])) ha.bors (by simpa using hndρ) hz
  refine (hC.run _ _ w zs v1 v2).mono ?_
  rintro e w' ⟨res, hout, hQ, hpost⟩
  have h := h res hout hQ
  split at h
  · rename_i hchk
    obtain ⟨hold, hnew, hd1, hd2, h⟩ := drop_ok h
    obtain ⟨nw, n1, n2, h⟩ := new_ok h
    have h := app_ok h
    split at h
    · rename_i hnd
      have hnd := nodupB_ok hnd
      obtain ⟨res', hres, h⟩ := renV_ok h
      obtain ⟨us, u1, u2, u3, h⟩ := renHs_ok h
      have h := app_ok h
      obtain ⟨v, he, hx⟩ := post_nx hinv hpost hlen hor hnd (fun id hid => hfr id (n2 id hid).1) u3 u1 u2 hres (by
        simp only [Bool.or_eq_true, Bool.and_eq_true] at hchk
        rcases hchk with hc | hc
        · left
          cases bor with
          | nil => rfl
          | cons => simp [isNil] at hc
        · exact .inr hc)
      exact ⟨v, he, res', us, nw, _, h, n2, by omega, hx⟩
    · exact h.elim
  · exact h.elim

theorem sound_callQ {mode : Nat} {fr : Fr} {hp : Hp} {nx : Nat} {f : FuncId} {x : Operand} {args : Array Operand} {types : Array TypeId} {vs : List AV} {caps : List AC} {K : OpK} (hx : EvOK fr x (.fn f caps)) (hvs : All2 (EvOK fr) args.toList vs)
    (h : callQ P mode f (vs ++ caps.map .c) hp nx K) : SoundQ P fr hp nx (.call ⟨.value x, args, types⟩) K := by
  obtain ⟨rd, h1, h4, h5⟩ := callQ_ok h
  refine ⟨(x, .fn f caps) :: args.toList.zip vs, rd, fun p hp => ?_, h1, fun o ho M τ H w ρ hinv hins hrd hnew => ?_⟩
  · cases hp with
    | head => exact ⟨hx, by simp [Op.operands, Call.operands]⟩
    | tail _ hp => have := hvs.zip_mem p hp; exact ⟨this.1, by simp [Op.operands, Call.operands]; exact .inr (by simpa using this.2)⟩
  · obtain ⟨us', hfn, hcaps⟩ := hins (x, .fn f caps) (by simp)
    simp only at hfn
    refine OpRun.call (run_call h4 ho hfn w) ?_
    have hz := (zip_rep (ρ := ρ) hvs.length fun p hp => hins p (by simp [hp])).append (map_c_rep hcaps)
    have := h5 M τ H w _ hinv hrd (fun id hid => (hnew id hid).1) hz
    have e : args.map ρ ++ us'.toArray = (args.toList.map ρ ++ us').toArray := by
      apply Array.ext'; simp
    rw [e]
    exact this

/-! ### an append to the last rows of an owned slice -/

theorem run_append_roomAt {t ty e : TypeId} {i : TypeInfo} (ht : P.underlying t = some (.slice e)) (hi : P.info? e = some i) (w : World)
    (g off sLen sCap : Nat) (cur : Array Value) (hg : w.heap[g]? = some (.cells cur e (0, 0)))
    (a : Option Addr) (m c : Nat) (news : List Value) (hf : (Builtin.firstCells i.size m (.slice a m c)).run P w = .ok news.toArray w) (h1 : ∀ u ∈ news, u.oneCell' = true)
    (hroom : sLen + m ≤ sCap) (hfit : off + sLen * i.size + news.length ≤ cur.size) :
    (Builtin.append_ #[t, t] ty #[.slice (some ⟨g, off, none⟩) sLen sCap, .slice a m c]).run P w =
      .ok (.slice (some ⟨g, off, none⟩) (sLen + m) sCap) (w.setRow g (cur.toList.take (off + sLen * i.size) ++ news ++ cur.toList.drop (off + sLen * i.size + news.length)).toArray) := by
  have hst := run_storeCells_at P g (off + sLen * i.size) e news 0 cur w hg (by simpa using hfit) h1
  simp only [Nat.add_zero] at hst
  have ha : (⟨g, off, none⟩ : Addr).add (sLen * i.size) = ⟨g, off + sLen * i.size, none⟩ := by
    unfold Addr.add
    split
    · rename_i h0; rw [h0, Nat.add_zero]
    · rfl
  simp [Builtin.append_, run_underlying ht, sizeOf, typeInfo, hi, Builtin.lenOf, hroom, hf, ha, hst]

theorem ok_append_tail {o : Oper} {x y : Operand} {t : TypeId} {i j : TyI} {a : AC} {fp : Fp} {id lo k nx : Nat} {old rows : List (List D)} (ho : o.op = .call ⟨.builtin .append, #[x, y], #[t, t]⟩) (ht : TyOK P t i) (hk : i.kind = 2) (hj : TyOK P i.el j) (hjk : j.kind ≠ 0)
    (hr : RowsOf fp a rows) (hs : ∀ r ∈ rows, r.length = j.size ∧ ∀ d ∈ r, d.scalar = true) (hrne : rows ≠ []) (hend : lo + k = old.length) (hfit : Fits (k + rows.length)) {R : AV → Fp → List Nat → Nat → Prop}
    (hR1 : R (.c (.gv nx lo (k + rows.length))) [(nx, .arr i.el (old ++ rows)), (id, .gone)] [nx] (nx + 1)) (hR2 : R (.c (.gv nx 0 (k + rows.length))) [(nx, .arr i.el (old.drop lo ++ rows)), (id, .gone)] [nx] (nx + 1)) :
    OpHoldsQ P o [(x, .c (.gv id lo k)), (y, .c a)] ((id, .arr i.el old) :: fp) nx R := by
  intro M τ H w ρ hinv hins hrd hfr
  obtain ⟨inf, z, i1, i2, i3, i4, i5, i6, i7, i8⟩ := hj.info hjk
  obtain ⟨hf, hid⟩ := hfr nx (Nat.le_refl _)
  have hne : nx ≠ id := by
    have := hid (x, .c (.gv id lo k)) (by simp)
    simpa [AV.ids, AC.ids] using this
  have hrl : 0 < rows.length := List.length_pos_iff.2 hrne
  have hH := hrd (id, .arr i.el old) (by simp)
  simp only at hH
  have h1 := hins (x, .c (.gv id lo k)) (by simp)
  simp only at h1
  have h2 := hins (y, .c a) (by simp)
  simp only at h2
  obtain ⟨ad, c, hv, hfirst⟩ := first_ok (size := inf.size) hinv hr (fun p hp => hrd p (by simp [hp])) h2 (by rw [i2]; exact hs)
  have hob := hinv.obj id
  rw [hH] at hob
  obtain ⟨o1, o2, o3⟩ := hob
  have es : (τ id).s = inf.size := by rw [o1]; simp [Program.cellsOf, i1]
  rw [es] at o2 o3
  have htk : (old.drop lo).take k = old.drop lo := List.take_of_length_le (by simp; omega)
  obtain ⟨ad0, c0, hv0, hfirst0⟩ := first_ok (fp := [(id, .arr i.el old)]) (rows := (old.drop lo).take k) (size := inf.size) hinv (.inr (.inr (.inr ⟨id, i.el, lo, k, old, rfl, rfl, rfl⟩))) (by simpa using hH) h1 (fun r hr => o2 r (List.mem_of_mem_drop (List.mem_of_mem_take hr)))
  rw [htk] at hv0 hfirst0
  simp only [AVRep, ACRep, hH] at h1
  rw [hv] at hfirst
  replace hfit := hfit.le
  obtain ⟨hlen, h1⟩ := h1
  have hkl : (old.drop lo).length = k := by simp; omega
  rw [hkl] at hv0 hfirst0
  have hzs : z.cells.size = inf.size := by rw [i5, i2, ← i7]; simp
  have hflr := flat_length (rows := rows) (s := inf.size) (fun r hr => by rw [i2]; exact (hs r hr).1)
  have hflo := flat_length (rows := old) (s := inf.size) (fun r hr => (o2 r hr).1)
  have grow : ∀ sCap, ρ x = .slice ad0 k sCap → sCap < k + rows.length → (Builtin.firstCells inf.size k (.slice ad0 k sCap)).run P w.drew = .ok (flat (old.drop lo)).toArray w.drew →
      OpRun P o ρ w fun v' w' => ∃ v us nw nx', R v us nw nx' ∧ (∀ id ∈ nw, nx ≤ id ∧ id < nx') ∧ nx ≤ nx' ∧ ∃ M' τ', Nx P M τ H w (updH H us) M' τ' w' nw ∧ AVRep M' τ' (updH H us) v v' := by
    intro sCap hvx hlt hfx
    have hsall : ∀ r ∈ old.drop lo ++ rows, r.length = inf.size ∧ ∀ d ∈ r, d.scalar = true := fun r hr => by
      rcases List.mem_append.1 hr with hr | hr
      · exact o2 r (List.mem_of_mem_drop hr)
      · rw [i2]; exact hs r hr
    have hupd : updH H [(nx, .arr i.el (old.drop lo ++ rows)), (id, .gone)] = updF (updF H id .gone) nx (.arr i.el (old.drop lo ++ rows)) := by
      funext q; simp [updH, updF]
    have hb : (k + rows.length) * inf.bytes ≤ 140737488355328 := by
      have := Nat.mul_le_mul (show k + rows.length ≤ 1073741824 from hfit) (show inf.bytes ≤ 65536 from i3)
      omega
    have hrun := run_append_grow' (ty := o.type) (ht.slice hk) i1 i4 w _ k sCap (flat (old.drop lo)) ad rows.length c (flat rows) hfx (hfirst w.drew rfl) hlt (by omega) (growslice_fits hlt hb)
    refine OpRun.value (v := .slice (some ⟨w.heap.size, 0, none⟩) (k + rows.length) (grownCap w (k + rows.length) sCap i.el)) (w' := _) (by
      simp only [execOp, ho, resolve, invoke, builtin, List.map_toArray, List.map_cons, List.map_nil, hvx, hv, Sem.run_bind, Sem.run_pure, Result.andThen_ok, hrun]; rfl) ⟨_, _, _, _, hR2, by simp, by omega, M, updF τ nx ⟨w.heap.size, grownCap w (k + rows.length) sCap i.el, inf.size, false⟩, ?_, ?_⟩
    · have hla : (old.drop lo ++ rows).length = k + rows.length := by rw [List.length_append, hkl]
      rw [hupd]
      refine Nx.reown hinv hf hne _ _ ((WSame.drew w _).trans (WSame.alloc _ _ _)) (fun b hb => .inl ?_) (grown_rep i1 hzs hsall (by rw [hla]; exact grownCap_ge _ _ _ _) (grownCap_le_maxLen _ _ _ _ (by unfold maxLen; omega)) ?_)
      · simp [blkOf, updF] at hb; omega
      · have := alloc_new w.drew (.cells ((flat (old.drop lo)).toArray ++ (flat rows).toArray ++ Builtin.zeroCells z.cells (grownCap w (k + rows.length) sCap i.el - (k + rows.length))) i.el)
        rw [flat_append, hla]
        simpa using this
    · rw [hupd]
      simp [AVRep, ACRep, Loc.view, updF, hkl]
  rcases h1 with ⟨hn, rfl, hv1⟩ | ⟨hn, ad1, hv1, hpos⟩
  · have hc0 : ad0 = none ∧ c0 = 0 := by rw [hv1] at hv0; simp at hv0; exact ⟨hv0.1.symm, hv0.2.symm⟩
    obtain ⟨rfl, rfl⟩ := hc0
    exact grow 0 hv1 (by omega) (by rw [← hv1]; exact hfirst0 w.drew rfl)
  · have hc0 : ad0 = some ad1 ∧ c0 = (τ id).cap - lo := by rw [hv1] at hv0; simp at hv0; exact ⟨hv0.1.symm, hv0.2.symm⟩
    obtain ⟨rfl, rfl⟩ := hc0
    by_cases hroom : k + rows.length ≤ (τ id).cap - lo
    · -- in place
      have had := hpos (.inl (by omega))
      subst had
      obtain ⟨cur, a1, a2, a3, a4, a5⟩ := owns_block o3 hn
      have hcap : old.length + rows.length ≤ (τ id).cap := by omega
      have hm : (old.length + rows.length) * inf.size ≤ (τ id).cap * inf.size := Nat.mul_le_mul_right _ hcap
      rw [Nat.add_mul] at hm
      have hoff : lo * (τ id).s + k * inf.size = old.length * inf.size := by rw [es, ← Nat.add_mul, hend]
      have hrun := run_append_roomAt (ty := o.type) (ht.slice hk) i1 w (τ id).b (lo * (τ id).s) k ((τ id).cap - lo) cur a1 ad rows.length c (flat rows) (hfirst w rfl) (flat_one fun r hr => (hs r hr).2) hroom (by rw [a4, hflr, hoff]; omega)
      rw [hoff] at hrun
      have hsall : ∀ r ∈ old ++ rows, r.length = inf.size ∧ ∀ d ∈ r, d.scalar = true := fun r hr => by
        rcases List.mem_append.1 hr with hr | hr
        · exact o2 r hr
        · rw [i2]; exact hs r hr
      have hupd : updH H [(nx, .arr i.el (old ++ rows)), (id, .gone)] = updF (updF H id .gone) nx (.arr i.el (old ++ rows)) := by
        funext q; simp [updH, updF]
      refine OpRun.value (v := .slice (some ⟨(τ id).b, lo * (τ id).s, none⟩) (k + rows.length) ((τ id).cap - lo)) (w' := _) (by
        simp only [execOp, ho, resolve, invoke, builtin, List.map_toArray, List.map_cons, List.map_nil, hv1, hv, Sem.run_bind, Sem.run_pure, Result.andThen_ok, hrun]; rfl) ⟨_, _, _, _, hR1, by simp, by omega, M, updF τ nx ⟨(τ id).b, (τ id).cap, inf.size, false⟩, ?_, ?_⟩
      · rw [hupd]
        have hbk : blkOf τ H id = some (τ id).b := by simp [blkOf, hH, hn]
        have hws := WSame.setRow (new := (cur.toList.take (old.length * inf.size) ++ flat rows ++ cur.toList.drop (old.length * inf.size + (flat rows).length)).toArray) a1
        refine Nx.reown hinv hf hne _ _ ⟨hws.os, hws.tape, hws.output, hws.size, fun b hb hn' => hws.block b hb (fun he => hn' (by rw [he]; exact hbk))⟩ (fun b hb => .inr ?_) ⟨by simp [updF, Program.cellsOf, i1], by simpa [updF] using hsall, ?_⟩
        · simp [blkOf, updF] at hb; rw [← hb]; exact hbk
        · simp only [updF, if_true]
          refine owns_of_block rfl (by rw [flat_length fun r hr => (hsall r hr).1]) (setRow_heap w (τ id).b cur _ i.el _ a1) (by simp only [List.length_append]; exact hcap) a3 ?_ ?_
          · simp only [List.size_toArray, List.length_append, List.length_take, List.length_drop, Array.length_toList, hflr]; omega
          · exact take_flat_room (cur := cur.toList) (old := old) (rows := rows) (s := inf.size) a5 hflr hflo
      · rw [hupd]
        simp only [AVRep, ACRep, updF, if_true, List.length_append]
        exact ⟨by omega, .inr ⟨rfl, _, rfl, fun _ => by rw [es]⟩⟩
    · exact grow _ hv1 (by omega) (by rw [← hv1]; exact hfirst0 w.drew rfl)

theorem appT_sound {T : Nat → TyI} (hT : TabOK P T) {fr : Fr} {hp : Hp} {nx : Nat} {args : Array Operand} {types : Array TypeId} {id lo n : Nat} {y : AC} {K : OpK} (hvs : All2 (EvOK fr) args.toList [.c (.gv id lo n), .c y]) (h : appTK T hp nx types.toList id lo n y K) : SoundQ P fr hp nx (.call ⟨.builtin .append, args, types⟩) K := by
  unfold appTK at h
  split at h
  · rename_i t t' hty
    split at h
    · rename_i kd ik size zero offs el htt hTt
      have e1 := Nat.eq_of_beq_eq_true htt
      subst e1
      have ht := hT t
      rw [hTt] at ht
      split at h
      · have hj := hT el
        generalize T el = j at h hj
        obtain ⟨kind', ik', size', zero', offs', el'⟩ := j
        simp only at h
        split at h
        · exact h.elim
        · rename_i hk
          replace h := rows_ok h
          obtain ⟨rows, fp, hr, hfp, hs, hrne, h⟩ := h
          split at h
          · rename_i e old hb
            split at h
            · rename_i he
              have := Nat.eq_of_beq_eq_true he
              subst this
              obtain ⟨hend, hfit, h⟩ := h
              replace h := add_ok (succ_ok h)
              have et : types = #[t, t] := by apply Array.ext'; simpa using hty
              obtain ⟨ar, br, rfl, hev, hev2⟩ := two_args hvs
              subst et
              refine ⟨[(ar, .c (.gv id lo n)), (br, .c y)], (id, .arr _ old) :: fp, fun p hp => ?_, fun p hp => ?_, fun o ho => ok_append_tail ho ht rfl hj hk hr hs hrne hend hfit h.1 h.2⟩
              · rcases List.mem_cons.1 hp with rfl | hp
                · exact ⟨hev, by simp [Op.operands, Call.operands]⟩
                · rw [List.mem_singleton.1 hp]; exact ⟨hev2, by simp [Op.operands, Call.operands]⟩
              · rcases List.mem_cons.1 hp with rfl | hp
                · exact hb
                · exact hfp p hp
            · exact h.elim
          · exact h.elim
      · exact h.elim
    · exact h.elim
  · exact h.elim

theorem aopQ_sound {T : Nat → TyI} (hT : TabOK P T) {fr : Fr} {hp : Hp} {nx : Nat} {op : Op} {K : OpK} (h : aopQ P T fr hp nx op K) : SoundQ P fr hp nx op K := by
  unfold aopQ at h
  split at h
  · rename_i c
    obtain ⟨callee, args, types⟩ := c
    simp only at h
    split at h
    · rename_i f
      replace h := ev_ok h
      obtain ⟨v, hv, h⟩ := h
      split at h
      · rename_i g caps
        split at h
        · replace h := evs_ok h
          obtain ⟨vs, hvs, h⟩ := h
          split at h
          · exact sound_callQ hv hvs (by simpa using h)
          · exact sound_callQ hv hvs (app_ok (cellsV_ok h))
        · exact (aop4_sound hT h).q
      · exact h.elim
    · split at h
      · replace h := evs_ok h
        obtain ⟨vs, hvs, h⟩ := h
        split at h
        · exact appT_sound hT hvs h
        · exact (aop4_sound hT h).q
      · exact (aop4_sound hT h).q
    · exact (aop4_sound hT h).q
  · exact (aop4_sound hT h).q

end rel
end Go.Cpl
