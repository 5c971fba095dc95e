/- More of the layer: arguments of any plain type; later parts. -/
import Derived.Test.YtncckpieemmmfaaGreatCplB
import Derived.Defers

namespace Go.Cpl
open Go Go.ChangeShapes Go.WideShapes Go.ChangeAt Go.RowKit

/-! ### arguments of any plain type, read from the heap -/

/-- values of this type are read as data of this form -/
def Rd (P : Program) {α : Type} (t : TypeId) (f : α → List D) : Prop :=
  ∀ (H : Type) (enc : TypeId × Value → H) (w : World) (base : Nat) (spare : Nat → Bool) (held : Bool) (n : Nat) (cs : List Value) (x : DataW H × List MemPlace),
    DataW.trod enc P w base spare held n t cs = some x → ∃ a, All2 (DRep (memOf w)) (f a) cs

theorem rd_int {P : Program} {t : TypeId} (ht : P.underlying t = some (.int .i64)) : Rd P t (fun a : Int => [.int .i64 a]) := fun _ _ _ _ _ _ _ _ _ h => trod_int1 ht h

theorem rd_slice {P : Program} {α : Type} {f : α → List D} {t e : TypeId} (ht : P.underlying t = some (.slice e)) {s : Nat} (hs : P.cellsOf e = s) (hs0 : 0 < s) (hf : ∀ a, (f a).length = s) (he : Rd P e f) : Rd P t (fun l : List α => [.sl (l.map f)]) :=
  fun _ _ _ _ _ _ _ _ _ h => by
    obtain ⟨l, v, rfl, hv⟩ := trod_rows f ht hs hs0 hf (fun n cs x h => he _ _ _ _ _ _ n cs x h) h
    exact ⟨l, hv, trivial⟩

def totS : List (TypeId × Nat × Nat) → Nat
  | [] => 0
  | p :: r => p.2.2 + totS r

/-- the fields from a place on -/
def RdF (P : Program) {α : Type} (L : List (TypeId × Nat × Nat)) (off : Nat) (f : α → List D) : Prop :=
  ∀ (H : Type) (enc : TypeId × Value → H) (w : World) (base : Nat) (spare : Nat → Bool) (held : Bool) (n : Nat) (cs : List Value), cs.length = off + totS L →
    (∀ p ∈ L, ∃ y, DataW.trod enc P w base spare held n p.1 ((cs.drop p.2.1).take p.2.2) = some y) → ∃ a, All2 (DRep (memOf w)) (f a) (cs.drop off)

theorem rdF_nil {P : Program} {off : Nat} : RdF P [] off (fun _ : Unit => []) := fun _ _ _ _ _ _ _ cs hl _ => by
  have : cs.drop off = [] := List.drop_eq_nil_of_le (by simp [totS] at hl; omega)
  rw [this]
  exact ⟨(), trivial⟩

theorem rdF_cons {P : Program} {α β : Type} {g : α → List D} {h : β → List D} {t : TypeId} {off s : Nat} {L : List (TypeId × Nat × Nat)} (ht : Rd P t g) (hL : RdF P L (off + s) h) : RdF P ((t, off, s) :: L) off (fun x : α × β => g x.1 ++ h x.2) :=
  fun H enc w base spare held n cs hl hp => by
    obtain ⟨y, hy⟩ := hp _ (List.mem_cons_self ..)
    obtain ⟨a, ha⟩ := ht _ _ _ _ _ _ _ _ _ hy
    obtain ⟨b, hb⟩ := hL H enc w base spare held n cs (by simp only [totS] at hl; omega) fun p hp' => hp p (List.mem_cons_of_mem _ hp')
    refine ⟨(a, b), ?_⟩
    have e : cs.drop off = (cs.drop off).take s ++ cs.drop (off + s) := by
      rw [← List.drop_drop]; exact (List.take_append_drop s _).symm
    rw [e]
    exact All2.append ha hb

theorem Rd.map {P : Program} {α β : Type} {t : TypeId} {f : α → List D} {f' : β → List D} (h : Rd P t f) (g : α → β) (hg : ∀ a, f a = f' (g a)) : Rd P t f' := fun H enc w base spare held n cs x hx => by
  obtain ⟨a, ha⟩ := h H enc w base spare held n cs x hx
  exact ⟨g a, by rw [← hg]; exact ha⟩

def stFact (P : Program) (t : TypeId) : Option (List (TypeId × Nat × Nat) × Nat) := match P.underlying t with
  | some (.struct fs) => some (fs.toList.map (fun f => (f.type, f.offset, P.cellsOf f.type)), P.cellsOf t)
  | _ => none

theorem rd_struct {P : Program} {α : Type} {f : α → List D} {t : TypeId} {L : List (TypeId × Nat × Nat)} {s : Nat} (ht : stFact P t = some (L, s)) (hs : totS L = s) (hL : RdF P L 0 f) : Rd P t f := fun H enc w base spare held n cs x h => by
  unfold stFact at ht
  split at ht
  · rename_i fs hu
    simp only [Option.some.injEq, Prod.mk.injEq] at ht
    obtain ⟨rfl, rfl⟩ := ht
    obtain ⟨xs, m, _, _, hl, hlen, hf⟩ := DataW.trod_struct hu h
    have := hL H enc w base spare held m cs (by rw [hl, hs]; omega) fun p hp => by
      obtain ⟨fl, hfl, rfl⟩ := List.mem_map.1 hp
      obtain ⟨i, hi⟩ := List.getElem?_of_mem hfl
      have hi' : fs[i]? = some fl := by simpa using hi
      have h1 := hf i fl hi'
      have h2 : i < xs.length := by rw [hlen]; exact (Array.getElem?_eq_some_iff.1 hi').1
      rw [List.getElem?_eq_getElem h2] at h1
      exact ⟨_, h1⟩
    simpa using this
  · cases ht

section
variable {H : Type} {enc : TypeId × Value → H} {P : Program} {w : World} {base : Nat} {spare : Nat → Bool} {held : Bool}

/-- a struct by value -/
theorem arg_agg {α : Type} {f : α → List D} {t : TypeId} {x : List (TypeId × Nat × Nat) × Nat} (ht : stFact P t = some x) (hr : Rd P t f) {b0 : Nat} {r : Reach} {v : Value} {d : DataW H} {ps : List MemPlace} (hval : Value.okWide P w r b0 t v) (hd : DataW.Trod enc P w base spare held t v d ps) (τ : Tau) (Hf : HF) :
    ∃ a, AVRep (memOf w) τ Hf (.agg ((f a).map .d)) v := by
  unfold stFact at ht
  split at ht
  · rename_i fs hu
    obtain ⟨cs, rfl, _⟩ := okWide_struct hu hval
    obtain ⟨fuel, h⟩ := hd
    obtain ⟨a, ha⟩ := hr _ _ _ _ _ _ _ _ _ h
    exact ⟨a, cs.toList, by simp, mapD_rep (by simpa [Value.cells] using ha)⟩
  · cases ht

end
end Go.Cpl

namespace Go.Cpl
open Go

/-- a result that is a new slice, taken for immutable data -/
theorem CallsH.frozen {P : Program} {f : FuncId} {args : List AV} {e : TypeId} {rows : List (List D)} (h : CallsH P f args [] (.c (.gs 0)) [.arr e rows]) : CallsH P f args [] (.c (.d (.sl rows))) [] := by
  refine ⟨h.can, fun M τ w vs hinv hargs => Calls.mono (h.run M τ w vs hinv hargs) ?_⟩
  rintro x w' ⟨v, M', τ', rfl, h1, h2, h3, h4, h5, h6, h7⟩
  refine ⟨v, memFz M' τ' (hpOf [.arr e rows]) w' (fun _ => True), τ', rfl, ⟨fun b o hb => ?_, fun id => by simp [hpOf, ObjRep], fun id b hb => by simp [hpOf, blkOf] at hb, fun i j b hb => by simp [hpOf, blkOf] at hb⟩,
    fz_rep h1 (id := 0) trivial rfl h2, fun b o hb => ?_, fun i hi => by simp at hi, fun i b hb => by simp [hpOf, blkOf] at hb, h6, h7⟩
  · unfold memFz at hb
    split at hb
    · exact hb
    · exact h1.mem b o hb
  · unfold memFz at hb
    split at hb
    · rename_i hz
      obtain ⟨id, _, hid⟩ := hz
      exact .inr (h5 id b hid)
    · exact h3 b o hb

end Go.Cpl

namespace Go.Cpl
open Go
section
variable {P : Program} {T : Nat → TyI}

/-- A LOOP that counts from 0: 'J' what holds at each turn, 'N' a bound of the turns. -/
theorem loopN (hT : TabOK P T) (hm : P.follows .mixedOrders = true) {nt n : Nat} {b : Code} (J : Nat → Prop) (N : Nat) (ov : Nat → Fr) (H : Nat → Hp) (nx' : Nat) {fr : Fr} {hp : Hp} {nx : Nat} {Q : Ex → Fr → Hp → Nat → Prop} (ρ0 : Ren) (hJ : J 0)
    (h : keepK (wrs b (fstL (ov 0))) fr [] fun kf => keepHK (H 0) hp [] fun kh => Head ρ0 (ov 0) kf (H 0) kh nx' n fr hp ∧ ∀ i, J i → appK (ov i) kf fun fr1 => appK (H i) kh fun hp1 => awpR P T nt n b fr1 hp1 nx' fun e fr hp nx => match e with
      | .normal => (i < N ∧ J (i + 1)) ∧ ∃ ρ, Head ρ (ov (i + 1)) kf (H (i + 1)) kh nx' n fr hp
      | .exit id => Q (.exit id) fr hp nx
      | .ret => Q .ret fr hp nx) : AWp P nt n (.loop b) fr hp nx Q := by
  rw [awpR_eq] at h
  obtain ⟨kf, h⟩ := keepK_ok h
  obtain ⟨kh, h0, hs⟩ := keepHK_ok h
  refine awp_loopA (ι := { i : Nat // J i }) (fun i => ⟨ov i.1 ++ kf, H i.1 ++ kh, nx'⟩) (fun i => N - i.1) ⟨0, hJ⟩ _ h0.match fun i => ?_
  have := appK_ok' (appK_ok' (hs i.1 i.2))
  refine (awp_sound hT hm nt n b this).mono ?_
  intro e fr hp nx
  cases e with
  | normal => rintro ⟨⟨h1, h2⟩, ρ, h3⟩; exact ⟨⟨i.1 + 1, h2⟩, _, h3.match, by show N - (i.1 + 1) < N - i.1; omega⟩
  | exit _ => exact fun h => h
  | ret => exact fun h => h
end
end Go.Cpl

namespace Go.Cpl
open Go

theorem cplAll_cons {H : Type} {enc : TypeId × Value → H} {P : Program} {w : World} {base : Nat} {spare : Nat → Bool} {held : Bool} {t : TypeId} {ts : List TypeId} {vs : List Value} {ds : List (DataW H)} {ps : List MemPlace}
    (h : DataW.TrodAll enc P w base spare held (t :: ts) vs ds ps) : ∃ v vs' d ds' p q, vs = v :: vs' ∧ ds = d :: ds' ∧ DataW.Trod enc P w base spare held t v d p ∧ DataW.TrodAll enc P w base spare held ts vs' ds' q := by
  match vs, ds, h with
  | v :: vs', d :: ds', ⟨p, q, h1, h2, _⟩ => exact ⟨v, vs', d, ds', p, q, rfl, rfl, h1, h2⟩
  | [], _, h => exact h.elim
  | _ :: _, [], h => exact h.elim

theorem cplAll_nil {H : Type} {enc : TypeId × Value → H} {P : Program} {w : World} {base : Nat} {spare : Nat → Bool} {held : Bool} {vs : List Value} {ds : List (DataW H)} {ps : List MemPlace}
    (h : DataW.TrodAll enc P w base spare held [] vs ds ps) : vs = [] ∧ ds = [] := by
  match vs, ds, h with
  | [], [], _ => exact ⟨rfl, rfl⟩
  | [], _ :: _, h => exact h.elim
  | _ :: _, _, h => exact h.elim

end Go.Cpl

namespace Go.Cpl
open Go
section
variable {P : Program} {T : Nat → TyI}

/-! ### a function with one deferred call of a closure -/

def seqs : List Code → Code → Code
  | [], k => k
  | c :: r, k => .seq c (seqs r k)

/-- what a function's return comes to -/
theorem ret_fin (hT : TabOK P T) {fn : Func} {hin : List HObj} {res : AV} {hout : List HObj} {M : Mem} {τ : Tau} {w : World} {fr : Fr} {hp : Hp} {a' : Act} {w' : World} {M1 : Mem} {τ1 : Tau} {new : List Nat}
    (hnx : Nx P M τ (hpOf hin) w (hpAt hp) M1 τ1 w' new) (hnew : ∀ id ∈ new, hin.length ≤ id) (hfr : ∀ t v, lk fr t = some v → AVRep M1 τ1 (hpAt hp) v (a'.eval (.tmp t)))
    (hret : RetOK T hin.length fn.results.toList res hout fr hp) : ∃ v, (results fn a'.tmps).run P w' = .ok v w' ∧ ∃ v' M' τ', Ending.returned v = .returned v' ∧ Inv P M' τ' (hpOf hout) w' ∧ AVRep M' τ' (hpOf hout) res v' ∧
      (∀ b o, M' b = some o → M b = some o ∨ w.heap.size ≤ b ∨ ∃ j, blkOf τ (hpOf hin) j = some b) ∧ (∀ i, i < hin.length → KeepId M τ (hpOf hin) M' τ' (hpOf hout) i) ∧
      (∀ i b, blkOf τ' (hpOf hout) i = some b → w.heap.size ≤ b ∨ ∃ j, blkOf τ (hpOf hin) j = some b) ∧
      (∀ b, b < w.heap.size → (∀ i, blkOf τ (hpOf hin) i ≠ some b) → w'.heap[b]? = w.heap[b]?) ∧ w.heap.size ≤ w'.heap.size ∧ w'.os = w.os ∧ w'.tape = w.tape ∧ w'.output = w.output := by
  let Γ : Cx := ⟨M, τ, hpOf hin, w, hin.length, []⟩
  obtain ⟨l, us, ⟨ρ, hwf2, hmv, hmh⟩, hu, hrun⟩ := res_ok hT hnx.inv hfr hret
  simp only [Bool.and_eq_true] at hwf2
  have hrel := hpRel_of hmh
  rw [hpL_eq] at hrel
  let Z : Nat → Prop := fun id => id ∉ renIds ρ
  have hZ : true = true → ∀ id, id ∉ renIds ρ → Z id := fun _ id hid => hid
  have hlive : ∀ k, hpOf hout k ≠ .gone → k < hout.length := fun k hk => by
    rcases Nat.lt_or_ge k hout.length with h | h
    · exact h
    · simp [hpOf, List.getElem?_eq_none h] at hk
  obtain ⟨new', hnx', hnew'⟩ := view_nx (Γ := Γ) (Z := Z) hrel (nodupB_ok hwf2.1) hnx hnew (fun k hk hkn => keepB_ok hwf2.2 (hpAt_mem (by rw [hpL_eq]; exact hk)) hkn) (nx := hout.length) hlive hZ (fun id hz => hz)
  have hval := mtV_rep (Z := Z) hrel hnx.inv hZ hmv (valOf_rep hu)
  refine ⟨_, ?_, _, _, _, rfl, hnx'.inv, hval, hnx'.mb, fun i hi => hnx'.keep i fun hm => ?_, hnx'.own, hnx'.frame, hnx'.size, hnx'.os, hnx'.tape, hnx'.output⟩
  · rw [results_eq, Array.mapM_eq_mapM_toList]
    simp only [Sem.run_bind, Sem.run_map]
    rw [hrun]
    simp
  · have := hnew' i hm
    simp only [Γ] at this
    omega

theorem args_sat {nt : Nat} {args : List AV} {vs : List Value} {M : Mem} {τ : Tau} {hp : Hp} {nx : Nat} {w : World} {n : Nat} (hinv : Inv P M τ (hpAt hp) w) (hvs : All2 (AVRep M τ (hpAt hp)) args vs) (hal : args.length ≤ nt) (hb : Bnd (lk (frOf 0 args)) (hpAt hp) n nx) :
    Sat P nt ⟨M, τ, hpAt hp, w, n, []⟩ (frOf 0 args) hp nx { tmps := vs.toArray ++ Array.replicate (nt - vs.toArray.size) Go.undef, defers := [] } w := by
  have hlen := hvs.length
  refine ⟨hb, rfl, by simp; omega, M, τ, [], Nx.still hinv (WSame.refl _ _), by simp, fun t v ht => ?_⟩
  obtain ⟨j, h1, h2⟩ := frOf_get ht
  obtain ⟨u, hu, hr⟩ := hvs.get h2
  have : t = j := by omega
  subst this
  have hlt := (List.getElem?_eq_some_iff.1 hu).1
  have e : ({ tmps := vs.toArray ++ Array.replicate (nt - vs.toArray.size) Go.undef, defers := [] } : Act).eval (.tmp t) = u := by
    simp [Act.eval, Array.getElem?_append_left, hlt, (List.getElem?_eq_some_iff.1 hu).2]
  rw [e]
  exact hr

end
end Go.Cpl

namespace Go.Cpl
open Go
section
variable {P : Program} {T : Nat → TyI}

/-! ### code that comes to one state: contracts whose result exists, and is told by a property -/

/-- no call is told by a property -/
def NoRel (T : Nat → TyI) : Prop := ∀ f, modeRel (modeOf T f) = false

/-- THE CONTRACT of a call: there is one result, of this property -/
def ExH (P : Program) (f : FuncId) (args : List AV) (hin : List HObj) (Q : AV → List HObj → Prop) : Prop := ∃ res hout, Q res hout ∧ CallsH P f args hin res hout

theorem aopQ_det (hT : TabOK P T) (h0 : NoRel T) {fr : Fr} {hp : Hp} {nx : Nat} {op : Op} {K : OpK} (h : aopQ P T fr hp nx op K) : Sound P fr hp nx op K := aopQ_det0 hT h0 h

theorem aops_one (hT : TabOK P T) (h0 : NoRel T) {nt n : Nat} {ops : Array Oper} {K : Fr → Hp → Nat → Prop} :
    ∀ (l : List Oper) (pre : List Oper) (k : Nat) (ms : List Mk) (fr : Fr) (hp : Hp) (nx : Nat), ops.toList = pre ++ l → aops P T nt ops.toList false k ms l fr hp nx K → Bnd (lk fr) (hpAt hp) n nx →
      ∃ fr' hp' nx', K fr' hp' nx' ∧ Bnd (lk fr') (hpAt hp') n nx' ∧ ∀ (Γ : Cx) (a : Act) (w : World) (R : Exit → Act → World → Prop), Γ.n = n → Sat P nt Γ fr hp nx a w → (∀ a w, Sat P nt Γ fr' hp' nx' a w → R .normal a w) →
        wpOps P ops R (List.range' pre.length l.length) a w
  | [], pre, k, ms, fr, hp, nx, _, h, hb => by
    refine ⟨fr, hp, nx, by simpa [aops] using h, hb, fun Γ a w R _ hs hR => ?_⟩
    simp only [List.length_nil, List.range'_zero, wpOps]
    exact hR a w hs
  | o :: l, pre, k, ms, fr, hp, nx, hl, h, hb => by
    have ho : ops[pre.length]? = some o := by
      rw [← Array.getElem?_toList, hl]; simp
    obtain ⟨dst, op, ty, ps, aft, guard⟩ := o
    rw [aops] at h
    obtain ⟨fr', b, hr, hg, h⟩ := guard_ok (Rfn.refl (lk fr)) h
    have hnext : ops.toList = (pre ++ [⟨dst, op, ty, ps, aft, guard⟩]) ++ l := by rw [hl]; simp
    have hlen : (pre ++ [(⟨dst, op, ty, ps, aft, guard⟩ : Oper)]).length = pre.length + 1 := by simp
    have hb' := hr.bnd hb
    cases b with
    | true =>
      simp only [if_true] at h
      obtain ⟨d, nx', hins, hrd, hd, hnw, hle, h⟩ := aopQ_det hT h0 h
      split at h
      · rename_i hb1 hb2
        obtain ⟨hdst, fr2, hfr2, h⟩ := putDst_ok h
        replace h := upds_ok h
        obtain ⟨fr3, hp3, nx3, hk, hb3, hw⟩ := aops_one hT h0 l _ 0 [] fr2 _ nx' hnext h (by rw [hfr2, hpAt_upds]; exact hb'.step hle hb1 hb2 dst)
        refine ⟨fr3, hp3, nx3, hk, hb3, fun Γ a w R hn hs hR => ?_⟩
        have hs' : Sat P nt Γ fr' hp nx a w := ⟨hr.bnd hs.1, hr.core hs.2⟩
        rw [List.length_cons, List.range'_succ, wpOps]
        simp only [ho]
        rw [wanted_of (o := ⟨dst, op, ty, ps, aft, guard⟩) hs.2 hg]
        simp only [if_true]
        left
        refine Core.step hs'.2 (hd ⟨dst, op, ty, ps, aft, guard⟩ rfl) (fun p hp => (Rfn.refl _).ev (hins p hp).1) hrd (fun id hid => hs'.1.fresh (hnw id hid).1) hdst fun a' w' hc => ?_
        have := hw Γ a' w' R hn ⟨by rw [hfr2, hpAt_upds]; exact hs'.1.step hle hb1 hb2 dst, by rw [hfr2, hpAt_upds]; exact hc⟩ hR
        rwa [hlen] at this
      · exact h.elim
    | false =>
      simp only [Bool.false_eq_true, if_false] at h
      obtain ⟨hdst, fr2, hfr2, h⟩ := putDst_ok h
      obtain ⟨fr3, hp3, nx3, hk, hb3, hw⟩ := aops_one hT h0 l _ 0 [] fr2 hp nx hnext h (by rw [hfr2]; exact hb'.step (v := .undef) (us := []) (Nat.le_refl _) rfl rfl dst)
      refine ⟨fr3, hp3, nx3, hk, hb3, fun Γ a w R hn hs hR => ?_⟩
      have hs' : Sat P nt Γ fr' hp nx a w := ⟨hr.bnd hs.1, hr.core hs.2⟩
      rw [List.length_cons, List.range'_succ, wpOps]
      simp only [ho]
      rw [wanted_of (o := ⟨dst, op, ty, ps, aft, guard⟩) hs.2 hg]
      simp only [Bool.false_eq_true, if_false]
      have hc := hs'.2.skip hdst
      have hb := hs'.1.step (v := .undef) (us := []) (Nat.le_refl _) rfl rfl dst
      have := hw Γ _ w R hn ⟨by rw [hfr2]; exact hb, by rw [hfr2]; exact hc⟩ hR
      rwa [hlen] at this

theorem region_one (hT : TabOK P T) (hm : P.follows .mixedOrders = true) {nt n : Nat} {id : Nat} {ops : Array Oper} (hok : drawOk ops.toList = true) {K : Fr → Hp → Nat → Prop} {fr : Fr} {hp : Hp} {nx : Nat}
    (h : aops P T nt ops.toList true 0 [] ops.toList fr hp nx K) (hb : Bnd (lk fr) (hpAt hp) n nx) :
    ∃ fr' hp' nx', K fr' hp' nx' ∧ Bnd (lk fr') (hpAt hp') n nx' ∧ ∀ (Γ : Cx) (a : Act) (w : World) (R : Exit → Act → World → Prop), Γ.n = n → Sat P nt Γ fr hp nx a w → (∀ a w, Sat P nt Γ fr' hp' nx' a w → R .normal a w) →
      (Code.region id ops true).wp P R a w := by
  have e0 : FS (dstOf ops.toList) (sdOf []) (lk fr) ops.toList.length (fun k => decide (k < 0)) = lk fr := FS_zero fun k => by simp
  have e1 : HS (sdOf []) (hpAt hp) ops.toList.length (fun k => decide (k < 0)) = hpAt hp := HS_zero fun k => by simp
  let Γ0 : Cx := ⟨fun _ => none, fun _ => ⟨0, 0, 0, true⟩, fun _ => .gone, default, n, []⟩
  obtain ⟨ds, nl, fr', hp', nx', W, hk, hr, hh, hb'⟩ := aops_walk (Γ := Γ0) (F := lk fr) (H := hpAt hp) (nx0 := nx) hT ops.toList [] [] [nx] fr hp nx (by simp) rfl rfl rfl rfl (by simp) (by simp only [List.length_nil]; rw [e0]; exact Rfn.refl _) (by simp only [List.length_nil]; rw [e1]) (by simp only [List.length_nil]; rw [e0]; exact hb) h
  refine ⟨fr', hp', nx', hk, hr.bnd hb', fun Γ a w R hn hs hR => ?_⟩
  subst hn
  refine wp_region_any hm (walk_any (Γ := Γ) W hok hs.1 (fun a w hc => hR a w ⟨hr.bnd hb', ?_⟩) ops.size (Array.replicate ops.size false) a _ (by simp) ⟨fun j hj => ?_, fun j hj => ?_⟩ ?_ ?_)
  · rw [hh]; exact hr.core hc
  · simp [Array.getElem?_replicate] at hj
    split at hj <;> simp at hj
  · simp [Array.getElem?_replicate] at hj
    split at hj <;> simp at hj
  · have : ∀ n, left (Array.replicate ops.size false) n ≤ n := fun n => by
      induction n with
      | zero => simp [left]
      | succ n ih => unfold left; split <;> omega
    exact this ops.size
  · have hz : ∀ k, (Array.replicate ops.size false).getD k false = false := fun k => by
      simp [Array.getElem?_replicate]
      split <;> simp
    rw [FS_zero hz, HS_zero hz]
    exact hs.2.drew

/-- one state -/
abbrev Is (e' : Ex) (fr' : Fr) (hp' : Hp) (nx' : Nat) : Ex → Fr → Hp → Nat → Prop := fun e f h x => e = e' ∧ f = fr' ∧ h = hp' ∧ x = nx'

/-- THE CODE, from every state of this form, comes to one state, and Q holds there. -/
structure DWp (P : Program) (nt n : Nat) (c : Code) (fr : Fr) (hp : Hp) (nx : Nat) (Q : Ex → Fr → Hp → Nat → Prop) : Prop where
  out : Bnd (lk fr) (hpAt hp) n nx → ∃ e' fr' hp' nx', Q e' fr' hp' nx' ∧ Bnd (lk fr') (hpAt hp') n nx' ∧ AWp P nt n c fr hp nx (Is e' fr' hp' nx')

noncomputable def dwpR (P : Program) (T : Nat → TyI) (nt n : Nat) (c : Code) : Fr → Hp → Nat → (Ex → Fr → Hp → Nat → Prop) → Prop :=
  Code.rec (motive := fun _ => Fr → Hp → Nat → (Ex → Fr → Hp → Nat → Prop) → Prop)
    (skip := fun fr hp nx Q => Q .normal fr hp nx)
    (seq := fun _ _ iha ihb fr hp nx Q => iha fr hp nx fun e fr hp nx => match e with
      | .normal => ihb fr hp nx Q
      | .exit id => Q (.exit id) fr hp nx
      | .ret => Q .ret fr hp nx)
    (region := fun _ ops draw fr hp nx Q => match draw with
      | false => aopsR P T nt ops.toList false ops.toList 0 [] fr hp nx fun fr hp nx => Q .normal fr hp nx
      | true => drawOk ops.toList = true ∧ aopsR P T nt ops.toList true ops.toList 0 [] fr hp nx fun fr hp nx => Q .normal fr hp nx)
    (cond := fun c _ _ iha ihb fr hp nx Q => evK fr c fun v => match v with
      | .c .tt => iha fr hp nx Q
      | .c .ff => ihb fr hp nx Q
      | .c (.d (.bool x)) => (x = true → iha fr hp nx Q) ∧ (x = false → ihb fr hp nx Q)
      | _ => False)
    (block := fun id _ ihb fr hp nx Q => ihb fr hp nx fun e fr hp nx => match e with
      | .normal => Q .normal fr hp nx
      | .exit id' => match Nat.beq id id' with
        | true => Q .normal fr hp nx
        | false => Q (.exit id') fr hp nx
      | .ret => Q .ret fr hp nx)
    (exit := fun id fr hp nx Q => Q (.exit id) fr hp nx)
    (ret := fun fr hp nx Q => Q .ret fr hp nx)
    (loop := fun b _ fr hp nx Q => DWp P nt n (.loop b) fr hp nx Q)
    (rangeFunc := fun _ _ _ _ _ _ _ _ _ _ => False)
    (scope := fun _ _ _ _ _ _ => False)
    (label := fun _ _ _ _ _ => False)
    (goto := fun _ _ _ _ _ => False)
    (refuse := fun _ _ _ _ _ => False) c

theorem dwp_sound (hT : TabOK P T) (hm : P.follows .mixedOrders = true) (h0 : NoRel T) (nt n : Nat) : ∀ (c : Code) {fr : Fr} {hp : Hp} {nx : Nat} {Q : Ex → Fr → Hp → Nat → Prop}, dwpR P T nt n c fr hp nx Q → DWp P nt n c fr hp nx Q := by
  intro c
  induction c with
  | skip => intro fr hp nx Q h; exact ⟨fun hb => ⟨.normal, fr, hp, nx, h, hb, ⟨fun Γ a w hn hs => wp_skip ⟨.normal, fr, hp, nx, rfl, ⟨rfl, rfl, rfl, rfl⟩, hs⟩⟩⟩⟩
  | seq x y ihx ihy =>
    intro fr hp nx Q h
    refine ⟨fun hb => ?_⟩
    obtain ⟨e1, fr1, hp1, nx1, hq, hb1, hw⟩ := (ihx (Q := fun e fr hp nx => match e with
      | .normal => dwpR P T nt n y fr hp nx Q
      | .exit id => Q (.exit id) fr hp nx
      | .ret => Q .ret fr hp nx) h).out hb
    cases e1 with
    | normal =>
      obtain ⟨e2, fr2, hp2, nx2, hq2, hb2, hw2⟩ := (ihy (Q := Q) hq).out hb1
      refine ⟨e2, fr2, hp2, nx2, hq2, hb2, ⟨fun Γ a w hn hs => wp_seq (wp_mono (hw.out Γ a w hn hs) ?_)⟩⟩
      rintro e a' w' ⟨e', fr', hp', nx', h1, ⟨rfl, rfl, rfl, rfl⟩, h3⟩
      cases e <;> simp only [exOf, Option.some.injEq, reduceCtorEq] at h1
      exact hw2.out Γ a' w' hn h3
    | exit id =>
      refine ⟨.exit id, fr1, hp1, nx1, hq, hb1, ⟨fun Γ a w hn hs => wp_seq (wp_mono (hw.out Γ a w hn hs) ?_)⟩⟩
      rintro e a' w' ⟨e', fr', hp', nx', h1, ⟨rfl, rfl, rfl, rfl⟩, h3⟩
      cases e <;> simp only [exOf, Option.some.injEq, reduceCtorEq] at h1
      cases h1
      exact ⟨_, _, _, _, rfl, ⟨rfl, rfl, rfl, rfl⟩, h3⟩
    | ret =>
      refine ⟨.ret, fr1, hp1, nx1, hq, hb1, ⟨fun Γ a w hn hs => wp_seq (wp_mono (hw.out Γ a w hn hs) ?_)⟩⟩
      rintro e a' w' ⟨e', fr', hp', nx', h1, ⟨rfl, rfl, rfl, rfl⟩, h3⟩
      cases e <;> simp only [exOf, Option.some.injEq, reduceCtorEq] at h1
      exact ⟨_, _, _, _, rfl, ⟨rfl, rfl, rfl, rfl⟩, h3⟩
  | region id ops draw =>
    intro fr hp nx Q h
    refine ⟨fun hb => ?_⟩
    cases draw with
    | false =>
      replace h : aopsR P T nt ops.toList false ops.toList 0 [] fr hp nx (fun fr hp nx => Q .normal fr hp nx) := h
      rw [aopsR_eq] at h
      obtain ⟨fr', hp', nx', hk, hb', hw⟩ := aops_one hT h0 (n := n) ops.toList [] 0 [] fr hp nx (by simp) h hb
      refine ⟨.normal, fr', hp', nx', hk, hb', ⟨fun Γ a w hn hs => wp_region ?_⟩⟩
      rw [List.range_eq_range']
      simpa using hw Γ a w _ hn hs fun a w hs => ⟨.normal, _, _, _, rfl, ⟨rfl, rfl, rfl, rfl⟩, hs⟩
    | true =>
      replace h : drawOk ops.toList = true ∧ aopsR P T nt ops.toList true ops.toList 0 [] fr hp nx (fun fr hp nx => Q .normal fr hp nx) := h
      rw [aopsR_eq] at h
      obtain ⟨fr', hp', nx', hk, hb', hw⟩ := region_one (id := id) hT hm (n := n) h.1 h.2 hb
      exact ⟨.normal, fr', hp', nx', hk, hb', ⟨fun Γ a w hn hs => hw Γ a w _ hn hs fun a w hs => ⟨.normal, _, _, _, rfl, ⟨rfl, rfl, rfl, rfl⟩, hs⟩⟩⟩
  | cond c x y ihx ihy =>
    intro fr hp nx Q h
    refine ⟨fun hb => ?_⟩
    replace h : evK fr c (fun v => match v with
      | .c .tt => dwpR P T nt n x fr hp nx Q
      | .c .ff => dwpR P T nt n y fr hp nx Q
      | .c (.d (.bool b)) => (b = true → dwpR P T nt n x fr hp nx Q) ∧ (b = false → dwpR P T nt n y fr hp nx Q)
      | _ => False) := h
    obtain ⟨v, hv, h⟩ := ev_ok h
    have rep : ∀ {Γ : Cx} {a : Act} {w : World}, Sat P nt Γ fr hp nx a w → ∃ M τ, AVRep M τ (hpAt hp) v (a.eval c) := fun hs => by
      obtain ⟨_, _, M, τ, new, _, _, hf⟩ := hs.2
      exact ⟨M, τ, ((Rfn.refl (lk fr)).ev hv).rep hf⟩
    split at h
    · obtain ⟨e', fr', hp', nx', h1, h2, h3⟩ := (ihx h).out hb
      refine ⟨e', fr', hp', nx', h1, h2, ⟨fun Γ a w hn hs => ?_⟩⟩
      obtain ⟨M, τ, hr⟩ := rep hs
      exact wp_cond_true hr (h3.out Γ a w hn hs)
    · obtain ⟨e', fr', hp', nx', h1, h2, h3⟩ := (ihy h).out hb
      refine ⟨e', fr', hp', nx', h1, h2, ⟨fun Γ a w hn hs => ?_⟩⟩
      obtain ⟨M, τ, hr⟩ := rep hs
      exact wp_cond_false hr (h3.out Γ a w hn hs)
    · rename_i b
      cases b with
      | true =>
        obtain ⟨e', fr', hp', nx', h1, h2, h3⟩ := (ihx (h.1 rfl)).out hb
        refine ⟨e', fr', hp', nx', h1, h2, ⟨fun Γ a w hn hs => ?_⟩⟩
        obtain ⟨M, τ, hr⟩ := rep hs
        exact wp_cond_split (rep_bool hr) (fun _ => h3.out Γ a w hn hs) (fun hb => by cases hb)
      | false =>
        obtain ⟨e', fr', hp', nx', h1, h2, h3⟩ := (ihy (h.2 rfl)).out hb
        refine ⟨e', fr', hp', nx', h1, h2, ⟨fun Γ a w hn hs => ?_⟩⟩
        obtain ⟨M, τ, hr⟩ := rep hs
        exact wp_cond_split (rep_bool hr) (fun hb => by cases hb) (fun _ => h3.out Γ a w hn hs)
    · exact h.elim
  | block id b ih =>
    intro fr hp nx Q h
    refine ⟨fun hb => ?_⟩
    obtain ⟨e1, fr1, hp1, nx1, hq, hb1, hw⟩ := (ih (Q := fun e fr hp nx => match e with
      | .normal => Q .normal fr hp nx
      | .exit id' => match Nat.beq id id' with
        | true => Q .normal fr hp nx
        | false => Q (.exit id') fr hp nx
      | .ret => Q .ret fr hp nx) h).out hb
    cases e1 with
    | normal =>
      refine ⟨.normal, fr1, hp1, nx1, hq, hb1, ⟨fun Γ a w hn hs => wp_block (wp_mono (hw.out Γ a w hn hs) ?_)⟩⟩
      rintro e a' w' ⟨e', fr', hp', nx', h1, ⟨rfl, rfl, rfl, rfl⟩, h3⟩
      cases e <;> simp only [exOf, Option.some.injEq, reduceCtorEq] at h1
      exact ⟨_, _, _, _, rfl, ⟨rfl, rfl, rfl, rfl⟩, h3⟩
    | ret =>
      refine ⟨.ret, fr1, hp1, nx1, hq, hb1, ⟨fun Γ a w hn hs => wp_block (wp_mono (hw.out Γ a w hn hs) ?_)⟩⟩
      rintro e a' w' ⟨e', fr', hp', nx', h1, ⟨rfl, rfl, rfl, rfl⟩, h3⟩
      cases e <;> simp only [exOf, Option.some.injEq, reduceCtorEq] at h1
      exact ⟨_, _, _, _, rfl, ⟨rfl, rfl, rfl, rfl⟩, h3⟩
    | exit id' =>
      simp only at hq
      split at hq
      · rename_i hbe
        refine ⟨.normal, fr1, hp1, nx1, hq, hb1, ⟨fun Γ a w hn hs => wp_block (wp_mono (hw.out Γ a w hn hs) ?_)⟩⟩
        rintro e a' w' ⟨e', fr', hp', nx', h1, ⟨rfl, rfl, rfl, rfl⟩, h3⟩
        cases e <;> simp only [exOf, Option.some.injEq, reduceCtorEq] at h1
        cases h1
        simp only [Exit.inBlock]
        rw [if_pos (Nat.eq_of_beq_eq_true hbe).symm]
        exact ⟨_, _, _, _, rfl, ⟨rfl, rfl, rfl, rfl⟩, h3⟩
      · rename_i hbe
        refine ⟨.exit id', fr1, hp1, nx1, hq, hb1, ⟨fun Γ a w hn hs => wp_block (wp_mono (hw.out Γ a w hn hs) ?_)⟩⟩
        rintro e a' w' ⟨e', fr', hp', nx', h1, ⟨rfl, rfl, rfl, rfl⟩, h3⟩
        cases e <;> simp only [exOf, Option.some.injEq, reduceCtorEq] at h1
        cases h1
        simp only [Exit.inBlock]
        rw [if_neg (Ne.symm (Nat.ne_of_beq_eq_false hbe))]
        exact ⟨_, _, _, _, rfl, ⟨rfl, rfl, rfl, rfl⟩, h3⟩
  | loop b ih => intro fr hp nx Q h; exact h
  | exit id => intro fr hp nx Q h; exact ⟨fun hb => ⟨.exit id, fr, hp, nx, h, hb, ⟨fun Γ a w hn hs => wp_exit ⟨_, _, _, _, rfl, ⟨rfl, rfl, rfl, rfl⟩, hs⟩⟩⟩⟩
  | ret => intro fr hp nx Q h; exact ⟨fun hb => ⟨.ret, fr, hp, nx, h, hb, ⟨fun Γ a w hn hs => wp_ret ⟨_, _, _, _, rfl, ⟨rfl, rfl, rfl, rfl⟩, hs⟩⟩⟩⟩
  | rangeFunc => intro fr hp nx Q h; exact h.elim
  | scope => intro fr hp nx Q h; exact h.elim
  | label => intro fr hp nx Q h; exact h.elim
  | goto => intro fr hp nx Q h; exact h.elim
  | refuse => intro fr hp nx Q h; exact h.elim

theorem Match.bnd {ρ : Ren} {s : St} {n : Nat} {fr : Fr} {hp : Hp} (hm : Match ρ s n fr hp) : Bnd (lk s.fr) (hpAt s.hp) n s.nx := by
  obtain ⟨hwf, _, _⟩ := hm
  simp only [wfSt, Bool.and_eq_true] at hwf
  obtain ⟨⟨⟨⟨w1, w2⟩, w3⟩, w4⟩, w5⟩ := hwf
  exact bnd_of (n := n) w1 w2 (Nat.le_of_ble_eq_true w5)

/-- how a loop comes to its end -/
inductive Orb (P : Program) (nt n : Nat) (b : Code) {ι : Type} (I : ι → St) (μ : ι → Nat) (e' : Ex) (fr' : Fr) (hp' : Hp) (nx' : Nat) : ι → Prop
  | stop (i : ι) (h : AWp P nt n b (I i).fr (I i).hp (I i).nx (Is e' fr' hp' nx')) (he : e' ≠ .normal) : Orb P nt n b I μ e' fr' hp' nx' i
  | turn (i j : ι) (fr1 : Fr) (hp1 : Hp) (nx1 : Nat) (ρ : Ren) (h : AWp P nt n b (I i).fr (I i).hp (I i).nx (Is .normal fr1 hp1 nx1)) (hm : Match ρ (I j) n fr1 hp1) (hlt : μ j < μ i) (ho : Orb P nt n b I μ e' fr' hp' nx' j) : Orb P nt n b I μ e' fr' hp' nx' i

theorem dwp_loopA {nt n : Nat} {b : Code} {ι : Type} (I : ι → St) (μ : ι → Nat) {fr : Fr} {hp : Hp} {nx : Nat} {Q : Ex → Fr → Hp → Nat → Prop} (i0 : ι) (ρ0 : Ren) (h0 : Match ρ0 (I i0) n fr hp)
    (hstep : ∀ i, DWp P nt n b (I i).fr (I i).hp (I i).nx fun e fr hp nx => match e with
      | .normal => ∃ i' ρ, Match ρ (I i') n fr hp ∧ μ i' < μ i
      | .exit id => Q (.exit id) fr hp nx
      | .ret => Q .ret fr hp nx) : DWp P nt n (.loop b) fr hp nx Q := by
  have key : ∀ (m : Nat) (i : ι), μ i = m → Bnd (lk (I i).fr) (hpAt (I i).hp) n (I i).nx → ∃ e' fr' hp' nx', Q e' fr' hp' nx' ∧ Bnd (lk fr') (hpAt hp') n nx' ∧ Orb P nt n b I μ e' fr' hp' nx' i := by
    intro m
    induction m using Nat.strongRecOn with
    | _ m ih =>
      intro i hi hb
      obtain ⟨e1, fr1, hp1, nx1, hq, hb1, hw⟩ := (hstep i).out hb
      cases e1 with
      | normal =>
        obtain ⟨j, ρ, hm, hlt⟩ := hq
        obtain ⟨e', fr', hp', nx', h1, h2, h3⟩ := ih (μ j) (by omega) j rfl hm.bnd
        exact ⟨e', fr', hp', nx', h1, h2, .turn i j fr1 hp1 nx1 ρ hw hm hlt h3⟩
      | exit id => exact ⟨_, _, _, _, hq, hb1, .stop i hw (by simp)⟩
      | ret => exact ⟨_, _, _, _, hq, hb1, .stop i hw (by simp)⟩
  refine ⟨fun _ => ?_⟩
  obtain ⟨e', fr', hp', nx', h1, h2, h3⟩ := key _ i0 rfl h0.bnd
  refine ⟨e', fr', hp', nx', h1, h2, ?_⟩
  refine awp_loopA (ι := { i // Orb P nt n b I μ e' fr' hp' nx' i }) (fun i => I i.1) (fun i => μ i.1) ⟨i0, h3⟩ ρ0 h0 ?_
  rintro ⟨i, hi⟩
  cases hi with
  | stop _ h he =>
    refine h.mono ?_
    rintro e f h x ⟨rfl, rfl, rfl, rfl⟩
    cases e with
    | normal => exact absurd rfl he
    | exit _ => exact ⟨rfl, rfl, rfl, rfl⟩
    | ret => exact ⟨rfl, rfl, rfl, rfl⟩
  | turn _ j fr1 hp1 nx1 ρ h hm hlt ho =>
    refine h.mono ?_
    rintro e f h x ⟨rfl, rfl, rfl, rfl⟩
    exact ⟨⟨j, ho⟩, ρ, hm, hlt⟩

theorem DWp.mono {nt n : Nat} {c : Code} {fr : Fr} {hp : Hp} {nx : Nat} {Q Q' : Ex → Fr → Hp → Nat → Prop} (h : DWp P nt n c fr hp nx Q) (hq : ∀ e fr hp nx, Q e fr hp nx → Q' e fr hp nx) : DWp P nt n c fr hp nx Q' :=
  ⟨fun hb => by
    obtain ⟨e', fr', hp', nx', h1, h2, h3⟩ := h.out hb
    exact ⟨e', fr', hp', nx', hq _ _ _ _ h1, h2, h3⟩⟩

/-- A LOOP -/
theorem loopE (hT : TabOK P T) (hm : P.follows .mixedOrders = true) (hN : NoRel T) {nt n : Nat} {b : Code} {ι : Type} (ov : ι → Fr) (H : ι → Hp) (nx' : Nat) (μ : ι → Nat) {fr : Fr} {hp : Hp} {nx : Nat} {Q : Ex → Fr → Hp → Nat → Prop} (i0 : ι) (ρ0 : Ren)
    (h : keepK (wrs b (fstL (ov i0))) fr [] fun kf => keepHK (H i0) hp [] fun kh => Head ρ0 (ov i0) kf (H i0) kh nx' n fr hp ∧ ∀ i, appK (ov i) kf fun fr1 => appK (H i) kh fun hp1 => dwpR P T nt n b fr1 hp1 nx' fun e fr hp nx => match e with
      | .normal => ∃ i' ρ, Head ρ (ov i') kf (H i') kh nx' n fr hp ∧ μ i' < μ i
      | .exit id => Q (.exit id) fr hp nx
      | .ret => Q .ret fr hp nx) : DWp P nt n (.loop b) fr hp nx Q := by
  obtain ⟨kf, h⟩ := keepK_ok h
  obtain ⟨kh, h0, hs⟩ := keepHK_ok h
  refine dwp_loopA (fun i => ⟨ov i ++ kf, H i ++ kh, nx'⟩) μ i0 _ h0.match fun i => ?_
  have := appK_ok' (appK_ok' (hs i))
  refine (dwp_sound hT hm hN nt n b this).mono ?_
  intro e fr hp nx
  cases e with
  | normal => rintro ⟨i', ρ, h1, h2⟩; exact ⟨i', _, h1.match, h2⟩
  | exit _ => exact fun h => h
  | ret => exact fun h => h

/-- A LOOP that counts from 0 -/
theorem loopEN (hT : TabOK P T) (hm : P.follows .mixedOrders = true) (hN : NoRel T) {nt n : Nat} {b : Code} (J : Nat → Prop) (N : Nat) (ov : Nat → Fr) (H : Nat → Hp) (nx' : Nat) {fr : Fr} {hp : Hp} {nx : Nat} {Q : Ex → Fr → Hp → Nat → Prop} (ρ0 : Ren) (hJ : J 0)
    (h : keepK (wrs b (fstL (ov 0))) fr [] fun kf => keepHK (H 0) hp [] fun kh => Head ρ0 (ov 0) kf (H 0) kh nx' n fr hp ∧ ∀ i, J i → appK (ov i) kf fun fr1 => appK (H i) kh fun hp1 => dwpR P T nt n b fr1 hp1 nx' fun e fr hp nx => match e with
      | .normal => (i < N ∧ J (i + 1)) ∧ ∃ ρ, Head ρ (ov (i + 1)) kf (H (i + 1)) kh nx' n fr hp
      | .exit id => Q (.exit id) fr hp nx
      | .ret => Q .ret fr hp nx) : DWp P nt n (.loop b) fr hp nx Q := by
  obtain ⟨kf, h⟩ := keepK_ok h
  obtain ⟨kh, h0, hs⟩ := keepHK_ok h
  refine dwp_loopA (ι := { i : Nat // J i }) (fun i => ⟨ov i.1 ++ kf, H i.1 ++ kh, nx'⟩) (fun i => N - i.1) ⟨0, hJ⟩ _ h0.match fun i => ?_
  have := appK_ok' (appK_ok' (hs i.1 i.2))
  refine (dwp_sound hT hm hN nt n b this).mono ?_
  intro e fr hp nx
  cases e with
  | normal => rintro ⟨⟨h1, h2⟩, ρ, h3⟩; exact ⟨⟨i.1 + 1, h2⟩, _, h3.match, by show N - (i.1 + 1) < N - i.1; omega⟩
  | exit _ => exact fun h => h
  | ret => exact fun h => h

/-- A CONTRACT whose result exists and is told by a property. -/
theorem callsD_of (hT : TabOK P T) {f : FuncId} {fn : Func} {c : Code} (hf : P.funcs[f]? = some fn) (hbody : fn.body = some c) (hname : (fn.name == "runtime.NumGoroutine") = false) {args : List AV} {hin : List HObj} {R : AV → List HObj → Prop}
    (hargs : Nat.ble args.length fn.ntmps = true) (hwf : (bndFr hin.length (frOf 0 args) && bndU hin.length (hpL 0 hin)) = true)
    (h : DWp P fn.ntmps hin.length c (frOf 0 args) (hpL 0 hin) hin.length fun e fr hp _ => match e with
      | .normal => ∃ res hout, R res hout ∧ RetOK T hin.length fn.results.toList res hout fr hp
      | .ret => ∃ res hout, R res hout ∧ RetOK T hin.length fn.results.toList res hout fr hp
      | .exit _ => False) : ExH P f args hin R := by
  simp only [Bool.and_eq_true] at hwf
  have hal := Nat.le_of_ble_eq_true hargs
  have hbn := bnd_of (s := ⟨frOf 0 args, hpL 0 hin, hin.length⟩) hwf.1 hwf.2 (Nat.le_refl _)
  obtain ⟨e1, fr1, hp1, nx1, hq, hb1, hw⟩ := h.out hbn
  have fin : e1 ≠ .exit 0 → (∃ res hout, R res hout ∧ RetOK T hin.length fn.results.toList res hout fr1 hp1) → (e1 = .normal ∨ e1 = .ret) → ExH P f args hin R := by
    rintro - ⟨res, hout, hR, hret⟩ he
    refine ⟨res, hout, hR, ⟨fn, hf, hname, by rw [hbody]; rfl⟩, fun M τ w vs hinv hvs => calls_of_wp hf hbody ?_⟩
    have hs0 := args_sat (P := P) (nt := fn.ntmps) (hp := hpL 0 hin) (nx := hin.length) (n := hin.length) (by rw [hpL_eq]; exact hinv) (by rw [hpL_eq]; exact hvs) hal hbn
    rw [hpL_eq] at hs0
    refine wp_mono (hw.out ⟨M, τ, hpOf hin, w, hin.length, []⟩ _ w rfl hs0) ?_
    rintro e a' w' ⟨e', fr, hp, nx, h1, ⟨rfl, rfl, rfl, rfl⟩, h3⟩
    have fin : a'.defers = [] ∧ ∃ v, (results fn a'.tmps).run P w' = .ok v w' ∧ PostH P M τ hin w res hout (.returned v) w' := by
      obtain ⟨hd, _, M1, τ1, new, hnx, hnew, hfr⟩ := h3.2
      obtain ⟨v, hv, x⟩ := ret_fin hT hnx hnew hfr hret
      exact ⟨hd, v, hv, x⟩
    cases e <;> simp only [exOf, Option.some.injEq] at h1
    case normal => exact fin
    case ret => exact fin
    case exit id => subst h1; rcases he with he | he <;> cases he
    all_goals cases h1
  cases e1 with
  | normal => exact fin (by simp) hq (.inl rfl)
  | ret => exact fin (by simp) hq (.inr rfl)
  | exit _ => exact hq.elim

/-- THE SAME, from the evaluator's word on the function's body. -/
theorem callsE_of (hT : TabOK P T) (hm : P.follows .mixedOrders = true) (hN : NoRel T) {f : FuncId} {fn : Func} {c : Code} (hf : P.funcs[f]? = some fn) (hbody : fn.body = some c) (hname : (fn.name == "runtime.NumGoroutine") = false) {args : List AV} {hin : List HObj} {R : AV → List HObj → Prop}
    (hargs : Nat.ble args.length fn.ntmps = true) (hwf : (bndFr hin.length (frOf 0 args) && bndU hin.length (hpL 0 hin)) = true)
    (h : dwpR P T fn.ntmps hin.length c (frOf 0 args) (hpL 0 hin) hin.length fun e fr hp _ => match e with
      | .normal => ∃ res hout, R res hout ∧ RetOK T hin.length fn.results.toList res hout fr hp
      | .ret => ∃ res hout, R res hout ∧ RetOK T hin.length fn.results.toList res hout fr hp
      | .exit _ => False) : ExH P f args hin R := callsD_of hT hf hbody hname hargs hwf (dwp_sound hT hm hN fn.ntmps hin.length c h)

/-! ### a cut: what follows is shown once, for all states of one form -/

noncomputable def takeC (m : Nat) : Code → List Code := Nat.rec (motive := fun _ => Code → List Code) (fun _ => []) (fun _ ih c => match c with
  | .seq a b => a :: ih b
  | _ => []) m

noncomputable def dropC (m : Nat) : Code → Code := Nat.rec (motive := fun _ => Code → Code) (fun c => c) (fun _ ih c => match c with
  | .seq _ b => ih b
  | c => c) m

theorem take_drop : ∀ (m : Nat) (c : Code), seqs (takeC m c) (dropC m c) = c
  | 0, c => rfl
  | m + 1, c => by
    cases c with
    | seq a b => show Code.seq a (seqs (takeC m b) (dropC m b)) = _; rw [take_drop m b]
    | _ => rfl

noncomputable def dwpL (P : Program) (T : Nat → TyI) (nt n : Nat) (pre : List Code) : Fr → Hp → Nat → (Ex → Fr → Hp → Nat → Prop) → Prop :=
  List.rec (motive := fun _ => Fr → Hp → Nat → (Ex → Fr → Hp → Nat → Prop) → Prop) (fun fr hp nx Q => Q .normal fr hp nx) (fun c _ ih fr hp nx Q => dwpR P T nt n c fr hp nx fun e fr hp nx => match e with
    | .normal => ih fr hp nx Q
    | .exit id => Q (.exit id) fr hp nx
    | .ret => Q .ret fr hp nx) pre

theorem DWp.seq {nt n : Nat} {x y : Code} {fr : Fr} {hp : Hp} {nx : Nat} {Q : Ex → Fr → Hp → Nat → Prop} (h : DWp P nt n x fr hp nx fun e fr hp nx => match e with
    | .normal => DWp P nt n y fr hp nx Q
    | .exit id => Q (.exit id) fr hp nx
    | .ret => Q .ret fr hp nx) : DWp P nt n (.seq x y) fr hp nx Q := by
  refine ⟨fun hb => ?_⟩
  obtain ⟨e1, fr1, hp1, nx1, hq, hb1, hw⟩ := h.out hb
  cases e1 with
  | normal =>
    obtain ⟨e2, fr2, hp2, nx2, hq2, hb2, hw2⟩ := hq.out hb1
    refine ⟨e2, fr2, hp2, nx2, hq2, hb2, ⟨fun Γ a w hn hs => wp_seq (wp_mono (hw.out Γ a w hn hs) ?_)⟩⟩
    rintro e a' w' ⟨e', fr', hp', nx', h1, ⟨rfl, rfl, rfl, rfl⟩, h3⟩
    cases e <;> simp only [exOf, Option.some.injEq, reduceCtorEq] at h1
    exact hw2.out Γ a' w' hn h3
  | exit id =>
    refine ⟨.exit id, fr1, hp1, nx1, hq, hb1, ⟨fun Γ a w hn hs => wp_seq (wp_mono (hw.out Γ a w hn hs) ?_)⟩⟩
    rintro e a' w' ⟨e', fr', hp', nx', h1, ⟨rfl, rfl, rfl, rfl⟩, h3⟩
    cases e <;> simp only [exOf, Option.some.injEq, reduceCtorEq] at h1
    cases h1
    exact ⟨_, _, _, _, rfl, ⟨rfl, rfl, rfl, rfl⟩, h3⟩
  | ret =>
    refine ⟨.ret, fr1, hp1, nx1, hq, hb1, ⟨fun Γ a w hn hs => wp_seq (wp_mono (hw.out Γ a w hn hs) ?_)⟩⟩
    rintro e a' w' ⟨e', fr', hp', nx', h1, ⟨rfl, rfl, rfl, rfl⟩, h3⟩
    cases e <;> simp only [exOf, Option.some.injEq, reduceCtorEq] at h1
    exact ⟨_, _, _, _, rfl, ⟨rfl, rfl, rfl, rfl⟩, h3⟩

theorem dwpL_mono (hT : TabOK P T) (hm : P.follows .mixedOrders = true) (hN : NoRel T) {nt n : Nat} {rest : Code} {Q R : Ex → Fr → Hp → Nat → Prop} (hn : ∀ fr hp nx, R .normal fr hp nx → DWp P nt n rest fr hp nx Q) (he : ∀ id fr hp nx, R (.exit id) fr hp nx → Q (.exit id) fr hp nx) (hr : ∀ fr hp nx, R .ret fr hp nx → Q .ret fr hp nx) :
    ∀ (pre : List Code) {fr : Fr} {hp : Hp} {nx : Nat}, dwpL P T nt n pre fr hp nx R → DWp P nt n (seqs pre rest) fr hp nx Q
  | [], _, _, _, h => hn _ _ _ h
  | c :: pre, fr, hp, nx, h => by
    refine DWp.seq ((dwp_sound hT hm hN nt n c h).mono ?_)
    intro e fr hp nx h
    cases e with
    | normal => exact dwpL_mono hT hm hN hn he hr pre h
    | exit _ => exact he _ _ _ _ h
    | ret => exact hr _ _ _ h

/-- A CUT behind the first m parts of the code: there all states come to one form. -/
theorem dwp_cut (hT : TabOK P T) (hm : P.follows .mixedOrders = true) (hN : NoRel T) {nt n : Nat} {c : Code} {fr : Fr} {hp : Hp} {nx : Nat} {Q : Ex → Fr → Hp → Nat → Prop} {κ : Type} (m : Nat) (ov : κ → Fr) (H : κ → Hp) (nxE : Nat)
    (h1 : dwpL P T nt n (takeC m c) fr hp nx fun e fr hp nx => match e with
      | .normal => ∃ k ρ, Match ρ ⟨ov k, H k, nxE⟩ n fr hp
      | .exit id => Q (.exit id) fr hp nx
      | .ret => Q .ret fr hp nx) (h2 : ∀ k, DWp P nt n (dropC m c) (ov k) (H k) nxE Q) : DWp P nt n c fr hp nx Q := by
  rw [← take_drop m c]
  refine dwpL_mono (R := fun e fr hp nx => match e with
      | .normal => ∃ k ρ, Match ρ ⟨ov k, H k, nxE⟩ n fr hp
      | .exit id => Q (.exit id) fr hp nx
      | .ret => Q .ret fr hp nx) hT hm hN (fun fr hp nx h => ?_) (fun id fr hp nx h => h) (fun fr hp nx h => h) _ h1
  obtain ⟨k, ρ, hh⟩ := h
  obtain ⟨e', fr', hp', nx', g1, g2, g3⟩ := (h2 k).out hh.bnd
  refine ⟨fun _ => ⟨e', fr', hp', nx', g1, g2, ⟨fun Γ a w hn hs => ?_⟩⟩⟩
  subst hn
  exact g3.out Γ a w rfl (hh.sat hs)

/-- the rest, evaluated -/
theorem dwp_fin (hT : TabOK P T) (hm : P.follows .mixedOrders = true) (hN : NoRel T) {nt n : Nat} {c : Code} {fr : Fr} {hp : Hp} {nx : Nat} {Q : Ex → Fr → Hp → Nat → Prop} (h : dwpR P T nt n c fr hp nx Q) : DWp P nt n c fr hp nx Q := dwp_sound hT hm hN nt n c h

theorem exN {f : FuncId} {args : List AV} {hin : List HObj} {hout : List HObj} {p : Int → Prop} {K : AV → List HObj → Prop} (h : ∃ v, p v ∧ CallsH P f args hin (.c (.d (.int .i64 v))) hout) (hk : ∀ v, p v → K (.c (.d (.int .i64 v))) hout) : ∃ res hout, CallsH P f args hin res hout ∧ K res hout := by
  obtain ⟨v, hv, hc⟩ := h
  exact ⟨_, _, hc, hk v hv⟩

theorem exK {f : FuncId} {args : List AV} {hin : List HObj} {Q : AV → List HObj → Prop} {K : AV → List HObj → Prop} (h : ExH P f args hin Q) (hk : ∀ res hout, Q res hout → K res hout) : ∃ res hout, CallsH P f args hin res hout ∧ K res hout := by
  obtain ⟨res, hout, hq, hc⟩ := h
  exact ⟨res, hout, hc, hk res hout hq⟩

theorem ExH.of {f : FuncId} {args : List AV} {hin : List HObj} {res : AV} {hout : List HObj} {Q : AV → List HObj → Prop} (h : CallsH P f args hin res hout) (hq : Q res hout) : ExH P f args hin Q := ⟨_, _, hq, h⟩

end
end Go.Cpl
