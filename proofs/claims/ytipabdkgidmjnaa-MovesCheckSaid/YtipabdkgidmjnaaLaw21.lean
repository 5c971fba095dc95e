/- Contracts: laws of chapter 21 return true at every input. No conditions. -/
import Derived.Test.YtipabdkgidmjnaaMovesO
import Derived.Test.YtipabdkgidmjnaaArgs
namespace Go.Proofs.Ytipabdkgidmjnaa
open Go Go.Cpl

theorem Made.fit21 {c : Cfg} (hm : Made c) (more : List Int) : Fit c (pl more c c.tenants.length) := by
  have := hm.cells
  have := hm.zones
  have := hm.regions
  exact ⟨hm.valid5, pl_len more c _, pl_rng more c (by omega) _⟩

theorem Made.places21 {c : Cfg} (hm : Made c) (more : List Int) : CallsH Try.prog 18 [.c (.d (.sl (r1 more))), cfgV c] [] (plV (pl more c c.tenants.length)) [] := by
  have := hm.cells
  have := hm.zones
  have := hm.regions
  have := hm.tenants
  exact (mkPlaces_c more c hm.laid (by omega) (by omega)).frozen

set_option maxRecDepth 100000 in
theorem rd_re : Rd Try.prog 25 (fun a : Re => [i64 a.t, i64 a.h, i64 a.s]) :=
  (rd_struct (L := [(3, 0, 1), (3, 1, 1), (3, 2, 1)]) (by kernel_rfl) rfl (rdF_cons rd_i (rdF_cons rd_i (rdF_cons rd_i rdF_nil)))).map (fun x => ⟨x.1, x.2.1, x.2.2.1⟩) fun _ => rfl

set_option maxRecDepth 100000 in
theorem arg_re {H : Type} {enc : TypeId × Value → H} {w : World} {base : Nat} {spare : Nat → Bool} {held : Bool} {b0 : Nat} {r : Reach} {v : Value} {d : DataW H} {ps : List MemPlace} (hval : Value.okWide Try.prog w r b0 25 v) (hd : DataW.Trod enc Try.prog w base spare held 25 v d ps) :
    ∃ x : Re, AVRep (memOf w) (fun _ => ⟨0, 0, 0, false⟩) (hpOf []) (reV x) v :=
  arg_agg (x := ([(3, 0, 1), (3, 1, 1), (3, 2, 1)], 3)) (by kernel_rfl) rd_re hval hd _ _

set_option maxRecDepth 100000 in
theorem arg_res {H : Type} {enc : TypeId × Value → H} {w : World} {base : Nat} {spare : Nat → Bool} {held : Bool} {b0 : Nat} {r : Reach} {v : Value} {d : DataW H} {ps : List MemPlace} (hval : Value.okWide Try.prog w r b0 41 v) (hd : DataW.Trod enc Try.prog w base spare held 41 v d ps) :
    ∃ l : List Re, DRep (memOf w) (.sl (rR l)) v :=
  arg_rows (s := 3) Try.underlying41 (by kernel_rfl) (by decide) (fun _ => rfl) rd_re hval hd

def two21 : Cfg := ⟨2, [0, 1], [(0, 9), (1, 9)], [⟨5, 2, 0, 0, 3, 0, false⟩], [(0, 0)], [0], [0], 1, 5, 0⟩

theorem two21_c : CallsH Try.prog 55 [] [] (cfgV two21) [] := by
  refine callsR_of tab mixed Try.func55 rfl (by decide) rfl rfl ?_
  conv => whnf
  refine ⟨[], rfl, ?_⟩
  repeat' (first | exact trivial | rfl | refine And.intro ?_ ?_)
  all_goals (conv => whnf)
  repeat' (first | exact trivial | rfl | refine And.intro ?_ ?_)

def a21 : List (Int × Int) := [(0, 1)]

def b21 : List (Int × Int) := [(1, 0)]

def s21 (i : Nat) : OS := match i with
  | 0 => ([(0, 1)], [])
  | 1 => ([(0, -1)], [⟨0, 0, -1⟩])
  | 2 => ([(1, -1)], [⟨0, 0, -1⟩, ⟨0, 1, -1⟩])
  | _ => ([(1, 0)], [⟨0, 0, -1⟩, ⟨0, 1, -1⟩, ⟨0, 1, 0⟩])

theorem two_ok : valid5 two21 = 0 := by decide +kernel

theorem ord_inv {c : Cfg} {l to_ : List (Int × Int)} (hf : Fit c l) (hf2 : Fit c to_) {N : Nat} {s : Nat → OS} (h0 : s 0 = (l, [])) (hs : ∀ i, i < N → ordStep c to_ (s i) = some (s (i + 1))) (hl : ordStep c to_ (s N) = none) : OrdP c l to_ N s := by
  refine ⟨h0, hs, hl, fun i => ?_⟩
  induction i with
  | zero =>
    intro _
    rw [h0]
    exact ⟨hf, fun j y hj => absurd hj (Nat.not_lt_zero j), rfl, by simp, by simp, fun t a0 a b h0 h1 h2 => by
      simp only at h1
      rw [h0] at h1; simp at h1; subst h1; simp⟩
  | succ i ih => intro hi; exact (ord_next hf2 (ih (by omega)) (hs i (by omega))).1

theorem ord21 : OrdP two21 a21 b21 3 s21 := by
  refine ord_inv (by decide +kernel) (by decide +kernel) rfl (fun i hi => ?_) (by decide +kernel)
  match i, hi with
  | 0, _ => decide +kernel
  | 1, _ => decide +kernel
  | 2, _ => decide +kernel

theorem awake21_c : CallsH Try.prog 16 [] [] (B true) [] := by
  have e1 := order21_c two21 a21 b21 (by decide +kernel) (by decide +kernel) ord21
  have e2 := check_c two21 a21 (s21 3).2 (by decide) (by decide)
  rw [show check two21 a21 (s21 3).2 = ([(1, 0)], 3, true) by decide +kernel] at e2
  rw [show decide ((s21 3).1 = b21) = true by decide] at e1
  refine callsR_of tab mixed Try.func16 rfl (by decide) rfl rfl ?_
  conv => whnf
  refine ⟨_, _, two21_c, ?_⟩
  conv => whnf
  refine ⟨_, _, e1, ?_⟩
  conv => whnf
  refine ⟨_, _, two21_c, ?_⟩
  conv => whnf
  refine ⟨_, _, e2, ?_⟩
  conv => whnf
  refine ⟨fun _ => ?_, fun h => by cases h⟩
  conv => whnf
  refine spE (fun _ => ?_) (fun h => absurd rfl h)
  conv => whnf
  refine ⟨by decide, by decide, _, rfl, ?_⟩
  conv => whnf
  refine ⟨by kernel_rfl, ?_⟩
  conv => whnf
  refine ⟨fun _ => ?_, fun h => absurd h (by decide)⟩
  conv => whnf
  refine spE (fun _ => ?_) (fun h => absurd rfl h)
  conv => whnf
  refine ⟨fun _ => ?_, fun h => by cases h⟩
  conv => whnf
  refine ⟨_, _, samePlaces_c [(1, 0)] [(1, 0)] (by decide), ?_⟩
  conv => whnf
  exact ⟨[], rfl, by simp [mtV, Cpl.valOf, mtC, eqD], trivial⟩

/-- a result whose first part is a new slice, taken for immutable data -/
theorem frozenT {f : FuncId} {args : List AV} {e : TypeId} {rows : List (List D)} {rest : List (AC ⊕ List AC)} (hr : tupIds rest = []) (h : CallsH Try.prog f args [] (.tup (.inl (.gs 0) :: rest)) [.arr e rows]) :
    CallsH Try.prog f args [] (.tup (.inl (.d (.sl rows)) :: rest)) [] := by
  refine ⟨h.can, fun M τ w vs hinv hargs => Calls.mono (h.run M τ w vs hinv hargs) ?_⟩
  rintro x w' ⟨v, M', τ', rfl, h1, h2, h3, h4, h5, h6, h7⟩
  refine ⟨v, memFz M' τ' (hpOf [.arr e rows]) w' (fun _ => True), τ', rfl, ⟨fun b o hb => ?_, fun id => by simp [hpOf, ObjRep], fun id b hb => by simp [hpOf, blkOf] at hb, fun i j b hb => by simp [hpOf, blkOf] at hb⟩,
    ?_, fun b o hb => ?_, fun i hi => by simp at hi, fun i b hb => by simp [hpOf, blkOf] at hb, h6, h7⟩
  · unfold memFz at hb
    split at hb
    · exact hb
    · exact h1.mem b o hb
  · obtain ⟨us, rfl, hu⟩ := h2
    match us, hu with
    | u :: us, ⟨hu1, hu2⟩ => exact ⟨u :: us, rfl, fz_rep h1 (id := 0) trivial rfl hu1, tups_keep (memFz_mono h1) (fun id hid => by rw [hr] at hid; cases hid) hu2⟩
  · unfold memFz at hb
    split at hb
    · rename_i hz
      obtain ⟨id, _, hid⟩ := hz
      exact .inr (h5 id b hid)
    · exact h3 b o hb

theorem bneD (p : Prop) [Decidable p] {A C : Prop} (h : C) : ((!(decide p == decide p)) = true → A) ∧ ((!(decide p == decide p)) = false → C) := ⟨fun k => by simp at k, fun _ => h⟩

set_option maxRecDepth 100000 in
set_option maxHeartbeats 4000000 in
theorem movesFit_c (l a b : List Int) (raw : List (Int × Int)) (x : Re) : CallsH Try.prog 3 [.c (.d (.sl (r1 l))), .c (.d (.sl (r1 a))), .c (.d (.sl (r1 b))), plV raw, reV x] [] (B true) [] := by
  obtain ⟨c, hm, hconf⟩ := config_c l
  have hf := hm.fit21 a
  have hpl := hm.places21 a
  generalize pl a c c.tenants.length = from_ at hf hpl
  have hf2 := hm.fit21 b
  have hpl2 := hm.places21 b
  generalize pl b c c.tenants.length = to_ at hf2 hpl2
  have hg := good_of hf.val
  have hc : c.cells.length ≤ 20 := by have := hg.cells; omega
  have hT := hg.tenants
  have hlen := hf.len
  have hlr := r2_len raw
  have hlf := r2_len from_
  have hbl : ∀ k m, (blocked c k m).length ≤ 1000000 := fun k m => by
    unfold blocked
    split
    · rename_i h
      have := blk_len c k m k.length
      have := h.1.len
      omega
    · simp
  refine callsR_of tab mixed Try.func3 rfl (by decide) rfl rfl ?_
  conv => whnf
  refine ⟨_, _, light_c l, ?_⟩
  conv => whnf
  refine spN (fun h => ?_) (fun h => ?_) <;> conv => whnf
  · refine ⟨_, _, awake21_c, ?_⟩
    conv => whnf
    exact ⟨[], rfl, rfl, trivial⟩
  refine ⟨_, _, light_c a, ?_⟩
  conv => whnf
  refine spN (fun h => ?_) (fun h => ?_) <;> conv => whnf
  · refine ⟨_, _, awake21_c, ?_⟩
    conv => whnf
    exact ⟨[], rfl, rfl, trivial⟩
  refine ⟨_, _, light_c b, ?_⟩
  conv => whnf
  refine spN (fun h => ?_) (fun h => ?_) <;> conv => whnf
  · refine ⟨_, _, awake21_c, ?_⟩
    conv => whnf
    exact ⟨[], rfl, rfl, trivial⟩
  refine spD (fun h => ?_) (fun h => ?_) <;> conv => whnf
  · refine ⟨_, _, awake21_c, ?_⟩
    conv => whnf
    exact ⟨[], rfl, rfl, trivial⟩
  refine ⟨_, _, hconf, ?_⟩
  conv => whnf
  refine ⟨by kernel_rfl, ?_⟩
  conv => whnf
  refine ⟨_, _, hpl, ?_⟩
  conv => whnf
  refine ⟨_, _, hpl2, ?_⟩
  conv => whnf
  refine ⟨by kernel_rfl, ?_⟩
  conv => whnf
  refine ⟨_, _, between_c x.t (-1) 5 (by omega) (by omega) (by omega), ?_⟩
  conv => whnf
  refine ⟨_, _, between_c x.h (-1) 7 (by omega) (by omega) (by omega), ?_⟩
  conv => whnf
  refine ⟨_, _, between_c x.s (-1) 7 (by omega) (by omega) (by omega), ?_⟩
  conv => whnf
  generalize hy1 : -1 + x.t % (5 - -1 + 1) = y1
  generalize hy2 : -1 + x.h % (7 - -1 + 1) = y2
  generalize hy3 : -1 + x.s % (7 - -1 + 1) = y3
  refine ⟨by kernel_rfl, ?_⟩
  conv => whnf
  refine ⟨_, _, fits_c c from_ x hc, ?_⟩
  conv => whnf
  refine ⟨_, _, refFits_c c from_ x, ?_⟩
  conv => whnf
  refine bneD _ ?_
  conv => whnf
  refine ⟨_, _, fits_c c from_ ⟨y1, y2, y3⟩ hc, ?_⟩
  conv => whnf
  refine ⟨_, _, refFits_c c from_ ⟨y1, y2, y3⟩, ?_⟩
  conv => whnf
  refine bneD _ ?_
  conv => whnf
  refine ⟨_, _, fits_c c raw ⟨y1, y2, y3⟩ hc, ?_⟩
  conv => whnf
  refine ⟨_, _, refFits_c c raw ⟨y1, y2, y3⟩, ?_⟩
  conv => whnf
  refine bneD _ ?_
  conv => whnf
  refine spD (fun h1 => ?_) (fun h1 => ?_) <;> conv => whnf
  · refine spD (fun h2 => ?_) (fun h2 => ?_) <;> conv => whnf
    · obtain ⟨p, hp⟩ := get_of (l := from_) (i := y1.toNat) (by omega)
      refine ⟨by omega, _, r2_get hp, ?_⟩
      conv => whnf
      refine ⟨by kernel_rfl, ?_⟩
      conv => whnf
      refine ⟨_, _, fits_c c from_ ⟨y1, y2, p.2⟩ hc, ?_⟩
      conv => whnf
      refine ⟨_, _, refFits_c c from_ ⟨y1, y2, p.2⟩, ?_⟩
      conv => whnf
      refine bneD _ ?_
      conv => whnf
      refine ⟨by kernel_rfl, ?_⟩
      conv => whnf
      refine ⟨_, _, awake21_c, ?_⟩
      conv => whnf
      refine ⟨fun _ => ?_, fun h => by cases h⟩
      conv => whnf
      refine ⟨_, _, blocked_c c from_ to_ hc, ?_⟩
      conv => whnf
      refine ⟨_, _, refBlocked_c c from_ to_, ?_⟩
      conv => whnf
      refine ⟨_, _, sameRe_c _ _ (hbl _ _), ?_⟩
      conv => whnf
      refine ⟨fun _ => ?_, fun h => by simp at h⟩
      conv => whnf
      refine ⟨_, _, blocked_c c raw to_ hc, ?_⟩
      conv => whnf
      refine ⟨_, _, refBlocked_c c raw to_, ?_⟩
      conv => whnf
      refine ⟨_, _, sameRe_c _ _ (hbl _ _), ?_⟩
      conv => whnf
      refine ⟨fun _ => ?_, fun h => by simp at h⟩
      conv => whnf
      refine ⟨_, _, blocked_c c from_ raw hc, ?_⟩
      conv => whnf
      refine ⟨_, _, refBlocked_c c from_ raw, ?_⟩
      conv => whnf
      refine ⟨_, _, sameRe_c _ _ (hbl _ _), ?_⟩
      conv => whnf
      exact ⟨[], rfl, by simp [mtV, Cpl.valOf, mtC, eqD], trivial⟩
    · refine ⟨by kernel_rfl, ?_⟩
      conv => whnf
      refine ⟨_, _, awake21_c, ?_⟩
      conv => whnf
      refine ⟨fun _ => ?_, fun h => by cases h⟩
      conv => whnf
      refine ⟨_, _, blocked_c c from_ to_ hc, ?_⟩
      conv => whnf
      refine ⟨_, _, refBlocked_c c from_ to_, ?_⟩
      conv => whnf
      refine ⟨_, _, sameRe_c _ _ (hbl _ _), ?_⟩
      conv => whnf
      refine ⟨fun _ => ?_, fun h => by simp at h⟩
      conv => whnf
      refine ⟨_, _, blocked_c c raw to_ hc, ?_⟩
      conv => whnf
      refine ⟨_, _, refBlocked_c c raw to_, ?_⟩
      conv => whnf
      refine ⟨_, _, sameRe_c _ _ (hbl _ _), ?_⟩
      conv => whnf
      refine ⟨fun _ => ?_, fun h => by simp at h⟩
      conv => whnf
      refine ⟨_, _, blocked_c c from_ raw hc, ?_⟩
      conv => whnf
      refine ⟨_, _, refBlocked_c c from_ raw, ?_⟩
      conv => whnf
      refine ⟨_, _, sameRe_c _ _ (hbl _ _), ?_⟩
      conv => whnf
      exact ⟨[], rfl, by simp [mtV, Cpl.valOf, mtC, eqD], trivial⟩
  · refine ⟨by kernel_rfl, ?_⟩
    conv => whnf
    refine ⟨_, _, awake21_c, ?_⟩
    conv => whnf
    refine ⟨fun _ => ?_, fun h => by cases h⟩
    conv => whnf
    refine ⟨_, _, blocked_c c from_ to_ hc, ?_⟩
    conv => whnf
    refine ⟨_, _, refBlocked_c c from_ to_, ?_⟩
    conv => whnf
    refine ⟨_, _, sameRe_c _ _ (hbl _ _), ?_⟩
    conv => whnf
    refine ⟨fun _ => ?_, fun h => by simp at h⟩
    conv => whnf
    refine ⟨_, _, blocked_c c raw to_ hc, ?_⟩
    conv => whnf
    refine ⟨_, _, refBlocked_c c raw to_, ?_⟩
    conv => whnf
    refine ⟨_, _, sameRe_c _ _ (hbl _ _), ?_⟩
    conv => whnf
    refine ⟨fun _ => ?_, fun h => by simp at h⟩
    conv => whnf
    refine ⟨_, _, blocked_c c from_ raw hc, ?_⟩
    conv => whnf
    refine ⟨_, _, refBlocked_c c from_ raw, ?_⟩
    conv => whnf
    refine ⟨_, _, sameRe_c _ _ (hbl _ _), ?_⟩
    conv => whnf
    exact ⟨[], rfl, by simp [mtV, Cpl.valOf, mtC, eqD], trivial⟩

end Go.Proofs.Ytipabdkgidmjnaa
