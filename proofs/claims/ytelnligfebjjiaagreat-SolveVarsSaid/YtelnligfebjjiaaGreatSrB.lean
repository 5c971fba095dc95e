/- Go's slices.SortFunc as a contract of the layer, at rows of one cell, of any length: by the shelf's theorem. Conditions: those ahead of each theorem. -/
import Derived.Test.YtelnligfebjjiaaGreatBase
import Derived.Shelf.SlSortCmp.Whole1
namespace Go.Proofs.YtelnligfebjjiaaGreat
open Go Go.Cpl Go.Sort Go.Shelf

section
variable {α : Type} [Inhabited α]

theorem sw_heap {enc : α → Value} {w : World} {blk m : Nat} {dk : Array α} {os : Array Obj} {b : Nat} (hb : b < w.heap.size) (hn : b ≠ blk) : (sortWorld enc w blk 0 m dk os).heap[b]? = w.heap[b]? := by
  unfold sortWorld
  rw [heap_grow_old _ _ (by simpa [putRow, mapBlock, Sort.ahead] using hb)]
  simp only [putRow, mapBlock, Sort.ahead, Array.getElem?_modify]
  rw [if_neg (fun he => hn he.symm)]

theorem sw_blk {enc : α → Value} {w : World} {blk m : Nat} {dk : Array α} {os : Array Obj} {cur : Array Value} {e : TypeId} {fz : Nat × Nat} (h : w.heap[blk]? = some (.cells cur e fz)) :
    (sortWorld enc w blk 0 m dk os).heap[blk]? = some (.cells (putCells enc 0 dk cur) e fz) := by
  have hb := (Array.getElem?_eq_some_iff.1 h).1
  unfold sortWorld
  rw [heap_grow_old _ _ (by simpa [putRow, mapBlock, Sort.ahead] using hb)]
  simp only [putRow, mapBlock, Sort.ahead, Array.getElem?_modify, h]
  simp [onCells]

theorem sw_size {enc : α → Value} {w : World} {blk m : Nat} {dk : Array α} {os : Array Obj} : w.heap.size ≤ (sortWorld enc w blk 0 m dk os).heap.size := by
  simp [sortWorld, putRow, mapBlock, Sort.ahead]

theorem sw_same {enc : α → Value} {w : World} {blk m : Nat} {dk : Array α} {os : Array Obj} : WSame w (sortWorld enc w blk 0 m dk os) (· = blk) :=
  ⟨rfl, rfl, ⟨rfl, Nat.le_add_right _ _⟩, sw_size, fun _ hb hn => sw_heap hb hn⟩
end

/-- what a call that owns nothing leaves of the world -/
theorem grown_of {w w' : World} (hf : ∀ b, b < w.heap.size → w'.heap[b]? = w.heap[b]?) (hs : w.heap.size ≤ w'.heap.size) (ho : w'.os = w.os) (ht : w'.tape = w.tape) (hd : OutD w w') :
    ∃ q os', w' = grow (w.drewN q) os' := by
  refine ⟨w'.drawn - w.drawn, w'.heap.extract w.heap.size w'.heap.size, ?_⟩
  obtain ⟨h', t', d', o', out'⟩ := w'
  obtain ⟨h, t, d, o, out⟩ := w
  obtain ⟨h1, h2⟩ := hd
  dsimp only at *
  subst ho ht h1
  simp only [grow, World.drewN, World.mk.injEq, and_true, true_and]
  refine ⟨?_, by omega⟩
  apply Array.ext_getElem?
  intro k
  rw [Array.getElem?_append]
  split
  · rename_i hk; exact hf k hk
  · rename_i hk
    rw [Array.getElem?_extract]
    split
    · rw [show h.size + (k - h.size) = k by omega]
    · rw [Array.getElem?_eq_none (by omega)]

section
variable {P : Program} {g : FuncId} {p : Int → Prop} {cf : Int → Int → Int} {cells : List D} [Inhabited { x : Int // p x }]

def encS (p : Int → Prop) (x : { x : Int // p x }) : Value := .int .i64 x.1

def cfS (p : Int → Prop) (cf : Int → Int → Int) (x y : { x : Int // p x }) : Int := cf x.1 y.1

theorem cmpLays_of (hc : ∀ a b, p a → p b → CallsH P g [I a, I b, .c (.rp cells)] [] (I (cf a b)) [])
    {M : Mem} {τ : Tau} {w : World} {e : TypeId} {l : List (List D)} (hinv : Inv P M τ (hpOf [.arr e l, .box (cells.map .d)]) w) (hn : (τ 0).nil = false) (n : Nat) :
    CmpLays1 P g #[.pointer (some ⟨(τ 1).b, 0, none⟩)] (encS p) (cfS p cf) (τ 0).b 0 n w := by
  intro m os dk hs x y
  obtain ⟨us, e', hb, hall⟩ : ∃ (us : List Value) (e : TypeId), w.heap[(τ 1).b]? = some (.cells us.toArray e (0, 0)) ∧ All2 (ACRep M τ (hpOf [.arr e l, .box (cells.map .d)])) (cells.map .d) us := by
    have h := hinv.obj 1
    obtain ⟨us, e', h1, h2⟩ := h
    exact ⟨us, e', h1, h2.mono fun z hz v hv => by
      obtain ⟨d, _, rfl⟩ := List.mem_map.1 hz
      exact hv⟩
  have b0 : blkOf τ (hpOf [.arr e l, .box (cells.map .d)]) 0 = some (τ 0).b := by simp [blkOf, hpOf, hn]
  have b1 : blkOf τ (hpOf [.arr e l, .box (cells.map .d)]) 1 = some (τ 1).b := by simp [blkOf, hpOf]
  have hne : (τ 1).b ≠ (τ 0).b := fun he => by
    have := hinv.inj 0 1 (τ 0).b b0 (by rw [b1, he])
    omega
  have hM1 : ∀ b o, M b = some o → (fun b => if b = (τ 1).b then some (.cells us.toArray e' (0, 0)) else M b) b = some o := fun b o h => by
    by_cases he : b = (τ 1).b
    · rw [he, hinv.dis 1 _ b1] at h; cases h
    · simp only [if_neg he]; exact h
  have hinv1 : Inv P (fun b => if b = (τ 1).b then some (.cells us.toArray e' (0, 0)) else M b) τ (hpOf []) (sortWorld (encS p) w (τ 0).b 0 m dk os) := by
    refine ⟨fun b o h => ?_, fun id => by simp [hpOf, ObjRep], fun id b h => by simp [hpOf, blkOf] at h, fun i j b h => by simp [hpOf, blkOf] at h⟩
    by_cases he : b = (τ 1).b
    · subst he
      simp only [if_true] at h
      rw [sw_heap (Array.getElem?_eq_some_iff.1 hb).1 hne, hb]; exact h
    · simp only [if_neg he] at h
      have h1 := hinv.mem b o h
      rw [sw_heap (Array.getElem?_eq_some_iff.1 h1).1 (fun h2 => by rw [h2, hinv.dis 0 _ b0] at h; cases h)]
      exact h1
  have hrun := (hc x.1 y.1 x.2 y.2).run _ τ _ [.int .i64 x.1, .int .i64 y.1, .pointer (some ⟨(τ 1).b, 0, none⟩)] hinv1
    ⟨.scal (.int .i64 x.1) rfl, .scal (.int .i64 y.1) rfl, ⟨(τ 1).b, 0, us.toArray, e', (0, 0), fun j => us.getD j Go.undef, rfl, by simp, fun j d hj => by
      obtain ⟨v, hv, hr⟩ := hall.get (i := j) (x := .d d) (by simp [hj])
      refine ⟨by simp [hv], ?_⟩
      show DRep _ d (us.getD j Go.undef)
      rw [List.getD_eq_getElem?_getD, hv]
      exact DRep.mono hM1 hr⟩, trivial⟩
  refine hrun.mono ?_
  rintro e9 w' ⟨v, M', τ', rfl, _, hv, _, _, _, hfr, hsz, hos, htp, hout⟩
  refine ⟨?_, grown_of (fun b hb9 => hfr b hb9 fun i => by simp [hpOf, blkOf]) hsz hos htp hout⟩
  have := rep_int hv
  rw [this]
  rfl

theorem flat_r1 (l : List Int) : flat (r1 l) = l.map (Value.int .i64) := by
  induction l with
  | nil => rfl
  | cons x r ih => simp [flat, r1, D.val] at *; exact ih

theorem sort_holds {w : World} {blk : Nat} {e : TypeId} {l : List Int} (hp : ∀ x ∈ l, p x) {cur : Array Value} (h2 : w.heap[blk]? = some (.cells cur e (0, 0)))
    (h6 : cur.toList.take (l.length * 1) = flat (r1 l)) : Holds (encS p) w blk 0 (l.pmap Subtype.mk hp).toArray := by
  intro j hj
  have hj' : j < l.length := by simpa using hj
  rw [flat_r1, Nat.mul_one] at h6
  have hc : cur[j]? = some (.int .i64 l[j]) := by
    have := congrArg (·[j]?) h6
    simp only [List.getElem?_take, List.getElem?_map] at this
    rw [if_pos hj'] at this
    rw [← Array.getElem?_toList, this, List.getElem?_eq_getElem hj']; rfl
  refine ⟨?_, ?_⟩
  · simp only [World.cell?, h2, Nat.zero_add, Option.isSome_none, Bool.false_eq_true, if_false, hc]
    rw [getElem!_pos _ j (by simpa using hj')]
    simp [encS]
  · simp [World.frozen?, h2]

set_option maxHeartbeats 1000000 in
theorem sort_c {ρ : Go.Shelf.Ren} (L : SlLaysF.n6 P ρ) (eg : ∀ args w, (callFunc g args).run P w = .ok (.enter g args) w) (can : Callable P (ρ.f 6))
    (hc : ∀ a b, p a → p b → CallsH P g [I a, I b, .c (.rp cells)] [] (I (cf a b)) []) (hO : SWO (ltOf (cfS p cf))) {e : TypeId} (l res : List Int) (hl : l.length < 4611686018427387904) (hne : l ≠ []) (hp : ∀ x ∈ l, p x)
    (hres : ∀ l' : List Int, l'.Perm l → l'.Pairwise (fun a b => ¬ cf b a < 0) → l' = res) :
    CallsH P (ρ.f 6) [.c (.gs 0), .fn g [.ptr 1 0 0]] [.arr e (r1 l), .box (cells.map .d)] (.tup []) [.arr e (r1 res), .box (cells.map .d)] := by
  refine ⟨can, fun M τ w vs hinv hall => ?_⟩
  obtain ⟨v0, v1, rfl, hv0, hv1⟩ : ∃ v0 v1, vs = [v0, v1] ∧ AVRep M τ (hpOf [.arr e (r1 l), .box (cells.map .d)]) (.c (.gs 0)) v0 ∧ AVRep M τ (hpOf [.arr e (r1 l), .box (cells.map .d)]) (.fn g [.ptr 1 0 0]) v1 := by
    match vs, hall with
    | [a, b], h => exact ⟨a, b, rfl, h.1, h.2.1⟩
  obtain ⟨us, rfl, hus⟩ := hv1
  obtain ⟨u, rfl, hu⟩ : ∃ u, us = [u] ∧ ACRep M τ (hpOf [.arr e (r1 l), .box (cells.map .d)]) (.ptr 1 0 0) u := by
    match us, hus with
    | [a], h => exact ⟨a, rfl, h.1⟩
  obtain ⟨-, rfl⟩ : 0 = 0 ∧ u = .pointer (some ⟨(τ 1).b, 0, none⟩) := hu
  have hv0' : v0 = (τ 0).slice (r1 l).length := hv0
  subst hv0'
  obtain ⟨o1, o2, o3⟩ : (τ 0).s = P.cellsOf e ∧ (∀ r ∈ r1 l, r.length = (τ 0).s ∧ ∀ x ∈ r, x.scalar = true) ∧ w.ownsRow 0 e (τ 0).s ((τ 0).slice (r1 l).length) (r1 l).length (flat (r1 l)) := hinv.obj 0
  have hlen := r1_len l
  have hs1 : (τ 0).s = 1 := by
    obtain ⟨x, r, rfl⟩ := List.exists_cons_of_ne_nil hne
    exact (o2 [i64 x] (by simp [r1])).1.symm
  have hn : (τ 0).nil = false := by
    cases h : (τ 0).nil with
    | false => rfl
    | true =>
      have := (owns_nil o3 h).1
      rw [hlen] at this
      exact absurd (List.length_eq_zero_iff.1 this) hne
  obtain ⟨cur, h2, h3, h4, h5, h6⟩ := owns_block o3 hn
  rw [hs1] at h5 h6
  rw [hlen] at h3 h6
  have hblk := (Array.getElem?_eq_some_iff.1 h2).1
  have hsl : (τ 0).slice (r1 l).length = .slice (some ⟨(τ 0).b, 0, none⟩) (l.pmap Subtype.mk hp).toArray.size (τ 0).cap := by simp [Loc.slice, hn, hlen]
  have hrun := Any.slices_SortFunc L (encS p) (fun _ => rfl) (cfS p cf) hO g #[.pointer (some ⟨(τ 1).b, 0, none⟩)] (τ 0).b 0 (τ 0).cap (l.pmap Subtype.mk hp).toArray w eg
    (cmpLays_of hc hinv hn _) (sort_holds hp h2 h6) hblk (by simpa using hl)
  rw [hsl]
  refine hrun.mono ?_
  rintro e9 w' ⟨rfl, d', n, os, hperm, hsort, rfl⟩
  obtain ⟨s1, -, s3⟩ := hperm
  have hsz : d'.size = l.length := by rw [s1]; simp
  have hP : (d'.toList.map (·.1)).Perm l := by
    have e1 : (d'.extract 0 (l.pmap Subtype.mk hp).toArray.size) = d' := by rw [← s1]; exact Array.extract_size
    have e2 : ((l.pmap Subtype.mk hp).toArray.extract 0 (l.pmap Subtype.mk hp).toArray.size) = (l.pmap Subtype.mk hp).toArray := Array.extract_size
    rw [e1, e2] at s3
    have := s3.map (·.1)
    simpa [List.map_pmap] using this
  have hS : (d'.toList.map (·.1)).Pairwise (fun a b => ¬ cf b a < 0) := by
    rw [List.pairwise_map, List.pairwise_iff_getElem]
    intro i j hi hj hij
    have hj' : j < d'.size := by simpa using hj
    have hi' : i < d'.size := by simpa using hi
    have h := hsort i j (Nat.zero_le _) hij (by rw [← s1]; exact hj')
    rw [getElem!_pos _ j hj', getElem!_pos _ i hi'] at h
    exact of_decide_eq_false h
  have hr := hres _ hP hS
  have hrl : res.length = l.length := by rw [← hr]; exact hP.length_eq
  have hobj : ObjRep P M τ (updF (hpOf [.arr e (r1 l), .box (cells.map .d)]) 0 (.arr e (r1 res))) (sortWorld (encS p) w (τ 0).b 0 n d' os) 0 (.arr e (r1 res)) := by
    refine ⟨o1, fun r hr => ?_, ?_⟩
    · rw [hs1]
      obtain ⟨x, _, rfl⟩ := List.mem_map.1 hr
      exact ⟨rfl, by simp [D.scalar]⟩
    · refine owns_of_block hn ?_ (sw_blk h2) (by rw [r1_len, hrl]; exact h3) h4 (by rw [hs1]; simpa [putCells] using h5) ?_
      · simp [flat_r1, r1_len, hs1]
      · rw [hs1, r1_len, flat_r1, ← hr, Nat.mul_one]
        apply List.ext_getElem?
        intro k
        rw [List.getElem?_take, List.getElem?_map, List.getElem?_map]
        by_cases hk : k < d'.size
        · have hk2 : k < cur.size := by omega
          rw [if_pos (by simpa using hk)]
          simp only [putCells, Array.getElem?_toList, Array.getElem?_mapIdx, Array.getElem?_eq_getElem hk2, Array.getElem?_eq_getElem hk, Option.map_some]
          rw [if_pos ⟨Nat.zero_le _, by omega⟩, Nat.sub_zero, getElem!_pos _ k hk]
          rfl
        · rw [if_neg (by simpa using hk), Array.getElem?_toList, Array.getElem?_eq_none (by omega)]
          rfl
  have hN := Nx.store (b := (τ 0).b) hinv (id := 0) (by simp [blkOf, hpOf, hn]) (.arr e (r1 res)) sw_same (by simp [blkOf, updF, hn]) (KeepId.arr (a := r1 l) (b := r1 res) (e := e) (e' := e) rfl (by simp [updF]) (by rw [r1_len, r1_len, hrl])) hobj
  have hH : updF (hpOf [.arr e (r1 l), .box (cells.map .d)]) 0 (.arr e (r1 res)) = hpOf [.arr e (r1 res), .box (cells.map .d)] := by
    funext i
    match i with
    | 0 => rfl
    | 1 => rfl
    | i + 2 => simp [updF, hpOf]
  rw [hH] at hN
  exact ⟨.tuple #[], M, τ, rfl, hN.inv, ⟨[], rfl, trivial⟩, hN.mb, fun i _ => hN.keep i (by simp), hN.own, hN.frame, hN.size, hN.os, hN.tape, hN.output⟩
end

end Go.Proofs.YtelnligfebjjiaaGreat
