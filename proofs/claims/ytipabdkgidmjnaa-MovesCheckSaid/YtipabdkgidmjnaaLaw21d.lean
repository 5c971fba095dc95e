/- Contract: MovesCheck returns true at every input. No conditions. -/
import Derived.Test.YtipabdkgidmjnaaLaw21
namespace Go.Proofs.Ytipabdkgidmjnaa
open Go Go.Cpl

/-- the state of the law's loop: the turn, the changes, and where they have led (none: nowhere yet) -/
structure MC (n : Nat) where
  i : Nat
  ys : List Re
  at_ : Option (List (Int × Int))
  hi : i ≤ n
  hy : ys.length = n
  ha : ∀ l, at_ = some l → l.length ≤ 1000

def mcSlot (from_ : List (Int × Int)) : Option (List (Int × Int)) → AV
  | none => plV from_
  | some _ => .c (.gs 50)

def mcObj : Option (List (Int × Int)) → Hp
  | none => []
  | some l => [(50, .arr 39 (r2 l))]

theorem rR_set (l : List Re) (i : Nat) (a b c : Int) : rR (l.set i ⟨a, b, c⟩) = (rR l).set i [i64 a, i64 b, i64 c] := by simp [rR, List.map_set]

theorem check_len {c : Cfg} {l : List (Int × Int)} {xs : List Re} : (check c l xs).1.length ≤ l.length := by
  unfold check
  split
  · have : ∀ (xs : List Re) (l : List (Int × Int)) (n : Nat), (chk c l xs n).1.length = l.length := by
      intro xs
      induction xs with
      | nil => intro l n; rfl
      | cons x r ih =>
        intro l n
        rw [chk]
        split
        · rw [ih, putP_len]
        · rfl
    rw [this]; exact Nat.le_refl _
  · simp

theorem check_nat {c : Cfg} {l : List (Int × Int)} {xs : List Re} : (check c l xs).2.1 ≤ xs.length := by
  unfold check
  split
  · have : ∀ (xs : List Re) (l : List (Int × Int)) (n : Nat), (chk c l xs n).2.1 ≤ n + xs.length := by
      intro xs
      induction xs with
      | nil => intro l n; simp [chk]
      | cons x r ih =>
        intro l n
        rw [chk]
        split
        · have := ih (putP l x) (n + 1); simp only [List.length_cons]; omega
        · simp
    have := this xs l 0; omega
  · simp

set_option maxRecDepth 100000 in
set_option maxHeartbeats 8000000 in
theorem movesCheck_c (l a : List Int) (raw : List (Int × Int)) (x : List Re) (near : Bool) : CallsH Try.prog 4 [.c (.d (.sl (r1 l))), .c (.d (.sl (r1 a))), plV raw, .c (.d (.sl (rR x))), B near] [] (B true) [] := by
  obtain ⟨c, hm, hconf⟩ := config_c l
  have hf := hm.fit21 a
  have hpl := hm.places21 a
  generalize pl a c c.tenants.length = from_ at hf hpl
  have hg := good_of hf.val
  have hc : c.cells.length ≤ 20 := by have := hg.cells; omega
  have hT := hg.tenants
  have hlen := hf.len
  have hlr := r2_len raw
  have hlf := r2_len from_
  have hlx := rR_len x
  refine callsR_of tab mixed Try.func4 rfl (by decide) rfl rfl ?_
  conv => whnf
  refine ⟨_, _, light_c l, ?_⟩
  conv => whnf
  refine spN (fun h => ?_) (fun h => ?_) <;> conv => whnf
  · refine ⟨_, _, awake21_c, ?_⟩
    conv => whnf
    exact ⟨[], rfl, rfl, trivial⟩
  refine ⟨_, _, light_c a, ?_⟩
  conv => whnf
  refine spN (fun h => ?_) (fun h => ?_) <;> conv => whnf
  · refine ⟨_, _, awake21_c, ?_⟩
    conv => whnf
    exact ⟨[], rfl, rfl, trivial⟩
  refine spD (fun h => ?_) (fun hx30 => ?_) <;> conv => whnf
  · refine ⟨_, _, awake21_c, ?_⟩
    conv => whnf
    exact ⟨[], rfl, rfl, trivial⟩
  refine spD (fun h => ?_) (fun hr40 => ?_) <;> conv => whnf
  · refine ⟨_, _, awake21_c, ?_⟩
    conv => whnf
    exact ⟨[], rfl, rfl, trivial⟩
  refine ⟨_, _, hconf, ?_⟩
  conv => whnf
  refine ⟨_, _, hpl, ?_⟩
  conv => whnf
  refine ⟨fun r hr => by obtain ⟨x, _, rfl⟩ := List.mem_map.1 hr; simp [D.scalar], ⟨by simp; omega⟩, ?_⟩
  conv => whnf
  refine loopRX tab mixed (ι := MC x.length) (κ := { ys : List Re // ys.length = x.length }) (fun s => [(15, I s.i), (14, mcSlot from_ s.at_), (56, .top)]) (fun s => (2, .arr 25 (rR s.ys)) :: mcObj s.at_) 51 (fun s => x.length - s.i) 0 (fun s => []) (fun s => [(2, .arr 25 (rR s.1))]) 91 ⟨0, x, none, by omega, rfl, by simp⟩ [(2, some 2)] ?_
  conv => whnf
  refine ⟨?_, ?_, ?_⟩
  · repeat' (first | exact trivial | rfl | refine And.intro ?_ ?_)
    all_goals (conv => whnf)
    repeat' (first | exact trivial | rfl | refine And.intro ?_ ?_)
  · rintro ⟨i, ys, at_, hi, hy, ha⟩
    have hly := rR_len ys
    cases at_ with
    | none =>
      dsimp only [mcSlot, mcObj]
      conv => whnf
      refine spD (fun h => ?_) (fun h => ?_) <;> conv => whnf
      · refine ⟨fun hnear => ?_, fun hnear => ?_⟩ <;> conv => whnf
        · have hi' : i < ys.length := by omega
          obtain ⟨y, hyx⟩ := get_of hi'
          refine ⟨by omega, by omega, ?_⟩
          conv => whnf
          refine ⟨_, rR_get hyx, ?_⟩
          conv => whnf
          refine ⟨_, _, between_c y.t (-1) 5 (by omega) (by omega) (by omega), ?_⟩
          conv => whnf
          generalize hy1 : -1 + y.t % (5 - -1 + 1) = y1
          refine ⟨by kernel_rfl, ?_⟩
          conv => whnf
          refine ⟨by omega, by omega, ?_⟩
          conv => whnf
          refine ⟨_, rR_get hyx, ?_⟩
          conv => whnf
          refine ⟨_, _, between_c y.h (-1) 7 (by omega) (by omega) (by omega), ?_⟩
          conv => whnf
          generalize hy2 : -1 + y.h % (7 - -1 + 1) = y2
          refine ⟨by omega, by omega, ?_⟩
          conv => whnf
          refine ⟨_, rR_get hyx, ?_⟩
          conv => whnf
          refine ⟨_, _, between_c y.s (-1) 7 (by omega) (by omega) (by omega), ?_⟩
          conv => whnf
          generalize hy3 : -1 + y.s % (7 - -1 + 1) = y3
          refine ⟨by omega, by omega, ?_⟩
          conv => whnf
          refine ⟨_, rR_get hyx, ?_⟩
          conv => whnf
          have hst : (rR ys).set (i : Int).toNat [i64 y1, i64 y2, i64 y3] = rR (ys.set i ⟨y1, y2, y3⟩) := by rw [rR_set]; rfl
          have hg1 : (ys.set i ⟨y1, y2, y3⟩)[i]? = some ⟨y1, y2, y3⟩ := List.getElem?_set_self hi'
          have hl1 : (ys.set i ⟨y1, y2, y3⟩).length = x.length := by rw [List.length_set]; exact hy
          have hr1 := rR_len (ys.set i ⟨y1, y2, y3⟩)
          rw [hst]
          refine spD (fun h1 => ?_) (fun h1 => ?_) <;> conv => whnf
          · refine spD (fun h2 => ?_) (fun h2 => ?_) <;> conv => whnf
            · obtain ⟨p, hp⟩ := get_of (l := from_) (i := y1.toNat) (by omega)
              refine ⟨by omega, by omega, ?_⟩
              conv => whnf
              refine ⟨_, rR_get hg1, ?_⟩
              conv => whnf
              refine ⟨by decide, gg ?_⟩
              conv => whnf
              refine spE (fun h3 => ?_) (fun h3 => ?_) <;> conv => whnf
              · refine ⟨by omega, _, r2_get hp, ?_⟩
                conv => whnf
                refine ⟨by omega, by omega, ?_⟩
                conv => whnf
                refine ⟨_, rR_get hg1, ?_⟩
                conv => whnf
                have hst2 : (rR (ys.set i ⟨y1, y2, y3⟩)).set (i : Int).toNat [i64 y1, i64 p.1, i64 y3] = rR (ys.set i ⟨y1, p.1, y3⟩) := by rw [show (i : Int).toNat = i from rfl, ← rR_set, List.set_set]
                have hl2 : (ys.set i ⟨y1, p.1, y3⟩).length = x.length := by rw [List.length_set]; exact hy
                have hr2 := rR_len (ys.set i ⟨y1, p.1, y3⟩)
                rw [hst2]
                refine ⟨by kernel_rfl, ?_⟩
                conv => whnf
                refine gv (by first | omega | (simp only []; omega) | (simp; omega)) (by first | omega | (simp only []; omega) | (simp; omega)) ?_
                conv => whnf
                refine ⟨by omega, by omega, by omega, by omega, ?_⟩
                conv => whnf
                have hv : ((rR (ys.set i ⟨y1, p.1, y3⟩)).drop i).take (Nat.sub ((i : Int) + 1).toNat (i : Int).toNat) = rR (((ys.set i ⟨y1, p.1, y3⟩).drop i).take 1) := by
                  rw [show Nat.sub ((i : Int) + 1).toNat (i : Int).toNat = 1 by show ((i : Int) + 1).toNat - (i : Int).toNat = 1; omega]
                  simp [rR, List.map_take, List.map_drop]
                have hv1 : (((ys.set i ⟨y1, p.1, y3⟩).drop i).take 1).length ≤ 1000 := by simp; omega
                have hcl := check_len (c := c) (l := from_) (xs := ((ys.set i ⟨y1, p.1, y3⟩).drop i).take 1)
                have ec := refCheck_c c from_ (((ys.set i ⟨y1, p.1, y3⟩).drop i).take 1) hv1
                rw [← hv] at ec
                refine ⟨_, _, ec, ?_⟩
                conv => whnf
                refine gv (by first | omega | (simp only []; omega) | (simp; omega)) (by first | omega | (simp only []; omega) | (simp; omega)) ?_
                conv => whnf
                refine ⟨⟨i + 1, ys.set i ⟨y1, p.1, y3⟩, some (check c from_ (((ys.set i ⟨y1, p.1, y3⟩).drop i).take 1)).1, by omega, hl2, fun l hl => by simp at hl; subst hl; omega⟩, [(2, some 2), (50, some 51)], ?_, by show x.length - (i + 1) < x.length - i; omega⟩
                repeat' (first | exact trivial | rfl | refine And.intro ?_ ?_)
                all_goals (conv => whnf)
                repeat' (first | exact trivial | rfl | refine And.intro ?_ ?_)
              · refine spD (fun _ => ?_) (fun h => absurd h1 h)
                conv => whnf
                refine spD (fun _ => ?_) (fun h => absurd h2 h)
                conv => whnf
                refine ⟨by omega, _, r2_get hp, ?_⟩
                conv => whnf
                refine ⟨by omega, by omega, ?_⟩
                conv => whnf
                refine ⟨_, rR_get hg1, ?_⟩
                conv => whnf
                have hst2 : (rR (ys.set i ⟨y1, y2, y3⟩)).set (i : Int).toNat [i64 y1, i64 y2, i64 p.2] = rR (ys.set i ⟨y1, y2, p.2⟩) := by rw [show (i : Int).toNat = i from rfl, ← rR_set, List.set_set]
                have hl2 : (ys.set i ⟨y1, y2, p.2⟩).length = x.length := by rw [List.length_set]; exact hy
                have hr2 := rR_len (ys.set i ⟨y1, y2, p.2⟩)
                rw [hst2]
                refine ⟨by kernel_rfl, ?_⟩
                conv => whnf
                refine gv (by first | omega | (simp only []; omega) | (simp; omega)) (by first | omega | (simp only []; omega) | (simp; omega)) ?_
                conv => whnf
                refine ⟨by omega, by omega, by omega, by omega, ?_⟩
                conv => whnf
                have hv : ((rR (ys.set i ⟨y1, y2, p.2⟩)).drop i).take (Nat.sub ((i : Int) + 1).toNat (i : Int).toNat) = rR (((ys.set i ⟨y1, y2, p.2⟩).drop i).take 1) := by
                  rw [show Nat.sub ((i : Int) + 1).toNat (i : Int).toNat = 1 by show ((i : Int) + 1).toNat - (i : Int).toNat = 1; omega]
                  simp [rR, List.map_take, List.map_drop]
                have hv1 : (((ys.set i ⟨y1, y2, p.2⟩).drop i).take 1).length ≤ 1000 := by simp; omega
                have hcl := check_len (c := c) (l := from_) (xs := ((ys.set i ⟨y1, y2, p.2⟩).drop i).take 1)
                have ec := refCheck_c c from_ (((ys.set i ⟨y1, y2, p.2⟩).drop i).take 1) hv1
                rw [← hv] at ec
                refine ⟨_, _, ec, ?_⟩
                conv => whnf
                refine gv (by first | omega | (simp only []; omega) | (simp; omega)) (by first | omega | (simp only []; omega) | (simp; omega)) ?_
                conv => whnf
                refine ⟨⟨i + 1, ys.set i ⟨y1, y2, p.2⟩, some (check c from_ (((ys.set i ⟨y1, y2, p.2⟩).drop i).take 1)).1, by omega, hl2, fun l hl => by simp at hl; subst hl; omega⟩, [(2, some 2), (50, some 51)], ?_, by show x.length - (i + 1) < x.length - i; omega⟩
                repeat' (first | exact trivial | rfl | refine And.intro ?_ ?_)
                all_goals (conv => whnf)
                repeat' (first | exact trivial | rfl | refine And.intro ?_ ?_)
            · refine spD (fun _ => ?_) (fun h => absurd h1 h)
              conv => whnf
              refine spD (fun h => absurd h h2) (fun _ => ?_)
              conv => whnf
              refine ⟨by kernel_rfl, ?_⟩
              conv => whnf
              refine gv (by first | omega | (simp only []; omega) | (simp; omega)) (by first | omega | (simp only []; omega) | (simp; omega)) ?_
              conv => whnf
              refine ⟨by omega, by omega, by omega, by omega, ?_⟩
              conv => whnf
              have hv : ((rR (ys.set i ⟨y1, y2, y3⟩)).drop i).take (Nat.sub ((i : Int) + 1).toNat (i : Int).toNat) = rR (((ys.set i ⟨y1, y2, y3⟩).drop i).take 1) := by
                rw [show Nat.sub ((i : Int) + 1).toNat (i : Int).toNat = 1 by show ((i : Int) + 1).toNat - (i : Int).toNat = 1; omega]
                simp [rR, List.map_take, List.map_drop]
              have hv1 : (((ys.set i ⟨y1, y2, y3⟩).drop i).take 1).length ≤ 1000 := by simp; omega
              have hcl := check_len (c := c) (l := from_) (xs := ((ys.set i ⟨y1, y2, y3⟩).drop i).take 1)
              have ec := refCheck_c c from_ (((ys.set i ⟨y1, y2, y3⟩).drop i).take 1) hv1
              rw [← hv] at ec
              refine ⟨_, _, ec, ?_⟩
              conv => whnf
              refine gv (by first | omega | (simp only []; omega) | (simp; omega)) (by first | omega | (simp only []; omega) | (simp; omega)) ?_
              conv => whnf
              refine ⟨⟨i + 1, ys.set i ⟨y1, y2, y3⟩, some (check c from_ (((ys.set i ⟨y1, y2, y3⟩).drop i).take 1)).1, by omega, hl1, fun l hl => by simp at hl; subst hl; omega⟩, [(2, some 2), (50, some 51)], ?_, by show x.length - (i + 1) < x.length - i; omega⟩
              repeat' (first | exact trivial | rfl | refine And.intro ?_ ?_)
              all_goals (conv => whnf)
              repeat' (first | exact trivial | rfl | refine And.intro ?_ ?_)
          · refine spD (fun h => absurd h h1) (fun _ => ?_)
            conv => whnf
            refine ⟨by kernel_rfl, ?_⟩
            conv => whnf
            refine gv (by first | omega | (simp only []; omega) | (simp; omega)) (by first | omega | (simp only []; omega) | (simp; omega)) ?_
            conv => whnf
            refine ⟨by omega, by omega, by omega, by omega, ?_⟩
            conv => whnf
            have hv : ((rR (ys.set i ⟨y1, y2, y3⟩)).drop i).take (Nat.sub ((i : Int) + 1).toNat (i : Int).toNat) = rR (((ys.set i ⟨y1, y2, y3⟩).drop i).take 1) := by
              rw [show Nat.sub ((i : Int) + 1).toNat (i : Int).toNat = 1 by show ((i : Int) + 1).toNat - (i : Int).toNat = 1; omega]
              simp [rR, List.map_take, List.map_drop]
            have hv1 : (((ys.set i ⟨y1, y2, y3⟩).drop i).take 1).length ≤ 1000 := by simp; omega
            have hcl := check_len (c := c) (l := from_) (xs := ((ys.set i ⟨y1, y2, y3⟩).drop i).take 1)
            have ec := refCheck_c c from_ (((ys.set i ⟨y1, y2, y3⟩).drop i).take 1) hv1
            rw [← hv] at ec
            refine ⟨_, _, ec, ?_⟩
            conv => whnf
            refine gv (by first | omega | (simp only []; omega) | (simp; omega)) (by first | omega | (simp only []; omega) | (simp; omega)) ?_
            conv => whnf
            refine ⟨⟨i + 1, ys.set i ⟨y1, y2, y3⟩, some (check c from_ (((ys.set i ⟨y1, y2, y3⟩).drop i).take 1)).1, by omega, hl1, fun l hl => by simp at hl; subst hl; omega⟩, [(2, some 2), (50, some 51)], ?_, by show x.length - (i + 1) < x.length - i; omega⟩
            repeat' (first | exact trivial | rfl | refine And.intro ?_ ?_)
            all_goals (conv => whnf)
            repeat' (first | exact trivial | rfl | refine And.intro ?_ ?_)
        · refine ⟨⟨ys, hy⟩, [(2, some 2)], ?_⟩
          repeat' (first | exact trivial | rfl | refine And.intro ?_ ?_)
          all_goals (conv => whnf)
          repeat' (first | exact trivial | rfl | refine And.intro ?_ ?_)
      · refine ⟨⟨ys, hy⟩, [(2, some 2)], ?_⟩
        repeat' (first | exact trivial | rfl | refine And.intro ?_ ?_)
        all_goals (conv => whnf)
        repeat' (first | exact trivial | rfl | refine And.intro ?_ ?_)
    | some at0 =>
      dsimp only [mcSlot, mcObj]
      conv => whnf
      have hal := ha at0 rfl
      have har := r2_len at0
      refine spD (fun h => ?_) (fun h => ?_) <;> conv => whnf
      · refine ⟨fun hnear => ?_, fun hnear => ?_⟩ <;> conv => whnf
        · have hi' : i < ys.length := by omega
          obtain ⟨y, hyx⟩ := get_of hi'
          refine ⟨by omega, by omega, ?_⟩
          conv => whnf
          refine ⟨_, rR_get hyx, ?_⟩
          conv => whnf
          refine ⟨_, _, between_c y.t (-1) 5 (by omega) (by omega) (by omega), ?_⟩
          conv => whnf
          generalize hy1 : -1 + y.t % (5 - -1 + 1) = y1
          refine ⟨by kernel_rfl, ?_⟩
          conv => whnf
          refine ⟨by omega, by omega, ?_⟩
          conv => whnf
          refine ⟨_, rR_get hyx, ?_⟩
          conv => whnf
          refine ⟨_, _, between_c y.h (-1) 7 (by omega) (by omega) (by omega), ?_⟩
          conv => whnf
          generalize hy2 : -1 + y.h % (7 - -1 + 1) = y2
          refine ⟨by omega, by omega, ?_⟩
          conv => whnf
          refine ⟨_, rR_get hyx, ?_⟩
          conv => whnf
          refine ⟨_, _, between_c y.s (-1) 7 (by omega) (by omega) (by omega), ?_⟩
          conv => whnf
          generalize hy3 : -1 + y.s % (7 - -1 + 1) = y3
          refine ⟨by omega, by omega, ?_⟩
          conv => whnf
          refine ⟨_, rR_get hyx, ?_⟩
          conv => whnf
          have hst : (rR ys).set (i : Int).toNat [i64 y1, i64 y2, i64 y3] = rR (ys.set i ⟨y1, y2, y3⟩) := by rw [rR_set]; rfl
          have hg1 : (ys.set i ⟨y1, y2, y3⟩)[i]? = some ⟨y1, y2, y3⟩ := List.getElem?_set_self hi'
          have hl1 : (ys.set i ⟨y1, y2, y3⟩).length = x.length := by rw [List.length_set]; exact hy
          have hr1 := rR_len (ys.set i ⟨y1, y2, y3⟩)
          rw [hst]
          refine spD (fun h1 => ?_) (fun h1 => ?_) <;> conv => whnf
          · refine spD (fun h2 => ?_) (fun h2 => ?_) <;> conv => whnf
            · obtain ⟨p, hp⟩ := get_of (l := at0) (i := y1.toNat) (by omega)
              refine ⟨by omega, by omega, ?_⟩
              conv => whnf
              refine ⟨_, rR_get hg1, ?_⟩
              conv => whnf
              refine ⟨by decide, gg ?_⟩
              conv => whnf
              refine spE (fun h3 => ?_) (fun h3 => ?_) <;> conv => whnf
              · refine ⟨by omega, by omega, ?_⟩
                conv => whnf
                refine ⟨_, r2_get hp, ?_⟩
                conv => whnf
                refine ⟨by omega, by omega, ?_⟩
                conv => whnf
                refine ⟨_, rR_get hg1, ?_⟩
                conv => whnf
                have hst2 : (rR (ys.set i ⟨y1, y2, y3⟩)).set (i : Int).toNat [i64 y1, i64 p.1, i64 y3] = rR (ys.set i ⟨y1, p.1, y3⟩) := by rw [show (i : Int).toNat = i from rfl, ← rR_set, List.set_set]
                have hl2 : (ys.set i ⟨y1, p.1, y3⟩).length = x.length := by rw [List.length_set]; exact hy
                have hr2 := rR_len (ys.set i ⟨y1, p.1, y3⟩)
                rw [hst2]
                refine ⟨by kernel_rfl, ?_⟩
                conv => whnf
                refine gv (by first | omega | (simp only []; omega) | (simp; omega)) (by first | omega | (simp only []; omega) | (simp; omega)) ?_
                conv => whnf
                refine ⟨by omega, by omega, by omega, by omega, ?_⟩
                conv => whnf
                have hv : ((rR (ys.set i ⟨y1, p.1, y3⟩)).drop i).take (Nat.sub ((i : Int) + 1).toNat (i : Int).toNat) = rR (((ys.set i ⟨y1, p.1, y3⟩).drop i).take 1) := by
                  rw [show Nat.sub ((i : Int) + 1).toNat (i : Int).toNat = 1 by show ((i : Int) + 1).toNat - (i : Int).toNat = 1; omega]
                  simp [rR, List.map_take, List.map_drop]
                have hv1 : (((ys.set i ⟨y1, p.1, y3⟩).drop i).take 1).length ≤ 1000 := by simp; omega
                have hcl := check_len (c := c) (l := at0) (xs := ((ys.set i ⟨y1, p.1, y3⟩).drop i).take 1)
                have ec := refCheck_c c at0 (((ys.set i ⟨y1, p.1, y3⟩).drop i).take 1) hv1
                rw [← hv] at ec
                refine ⟨_, _, ec, ?_⟩
                conv => whnf
                refine gv (by first | omega | (simp only []; omega) | (simp; omega)) (by first | omega | (simp only []; omega) | (simp; omega)) ?_
                conv => whnf
                refine ⟨⟨i + 1, ys.set i ⟨y1, p.1, y3⟩, some (check c at0 (((ys.set i ⟨y1, p.1, y3⟩).drop i).take 1)).1, by omega, hl2, fun l hl => by simp at hl; subst hl; omega⟩, [(2, some 2), (50, some 51)], ?_, by show x.length - (i + 1) < x.length - i; omega⟩
                repeat' (first | exact trivial | rfl | refine And.intro ?_ ?_)
                all_goals (conv => whnf)
                repeat' (first | exact trivial | rfl | refine And.intro ?_ ?_)
              · refine spD (fun _ => ?_) (fun h => absurd h1 h)
                conv => whnf
                refine spD (fun _ => ?_) (fun h => absurd h2 h)
                conv => whnf
                refine ⟨by omega, by omega, ?_⟩
                conv => whnf
                refine ⟨_, r2_get hp, ?_⟩
                conv => whnf
                refine ⟨by omega, by omega, ?_⟩
                conv => whnf
                refine ⟨_, rR_get hg1, ?_⟩
                conv => whnf
                have hst2 : (rR (ys.set i ⟨y1, y2, y3⟩)).set (i : Int).toNat [i64 y1, i64 y2, i64 p.2] = rR (ys.set i ⟨y1, y2, p.2⟩) := by rw [show (i : Int).toNat = i from rfl, ← rR_set, List.set_set]
                have hl2 : (ys.set i ⟨y1, y2, p.2⟩).length = x.length := by rw [List.length_set]; exact hy
                have hr2 := rR_len (ys.set i ⟨y1, y2, p.2⟩)
                rw [hst2]
                refine ⟨by kernel_rfl, ?_⟩
                conv => whnf
                refine gv (by first | omega | (simp only []; omega) | (simp; omega)) (by first | omega | (simp only []; omega) | (simp; omega)) ?_
                conv => whnf
                refine ⟨by omega, by omega, by omega, by omega, ?_⟩
                conv => whnf
                have hv : ((rR (ys.set i ⟨y1, y2, p.2⟩)).drop i).take (Nat.sub ((i : Int) + 1).toNat (i : Int).toNat) = rR (((ys.set i ⟨y1, y2, p.2⟩).drop i).take 1) := by
                  rw [show Nat.sub ((i : Int) + 1).toNat (i : Int).toNat = 1 by show ((i : Int) + 1).toNat - (i : Int).toNat = 1; omega]
                  simp [rR, List.map_take, List.map_drop]
                have hv1 : (((ys.set i ⟨y1, y2, p.2⟩).drop i).take 1).length ≤ 1000 := by simp; omega
                have hcl := check_len (c := c) (l := at0) (xs := ((ys.set i ⟨y1, y2, p.2⟩).drop i).take 1)
                have ec := refCheck_c c at0 (((ys.set i ⟨y1, y2, p.2⟩).drop i).take 1) hv1
                rw [← hv] at ec
                refine ⟨_, _, ec, ?_⟩
                conv => whnf
                refine gv (by first | omega | (simp only []; omega) | (simp; omega)) (by first | omega | (simp only []; omega) | (simp; omega)) ?_
                conv => whnf
                refine ⟨⟨i + 1, ys.set i ⟨y1, y2, p.2⟩, some (check c at0 (((ys.set i ⟨y1, y2, p.2⟩).drop i).take 1)).1, by omega, hl2, fun l hl => by simp at hl; subst hl; omega⟩, [(2, some 2), (50, some 51)], ?_, by show x.length - (i + 1) < x.length - i; omega⟩
                repeat' (first | exact trivial | rfl | refine And.intro ?_ ?_)
                all_goals (conv => whnf)
                repeat' (first | exact trivial | rfl | refine And.intro ?_ ?_)
            · refine spD (fun _ => ?_) (fun h => absurd h1 h)
              conv => whnf
              refine spD (fun h => absurd h h2) (fun _ => ?_)
              conv => whnf
              refine ⟨by kernel_rfl, ?_⟩
              conv => whnf
              refine gv (by first | omega | (simp only []; omega) | (simp; omega)) (by first | omega | (simp only []; omega) | (simp; omega)) ?_
              conv => whnf
              refine ⟨by omega, by omega, by omega, by omega, ?_⟩
              conv => whnf
              have hv : ((rR (ys.set i ⟨y1, y2, y3⟩)).drop i).take (Nat.sub ((i : Int) + 1).toNat (i : Int).toNat) = rR (((ys.set i ⟨y1, y2, y3⟩).drop i).take 1) := by
                rw [show Nat.sub ((i : Int) + 1).toNat (i : Int).toNat = 1 by show ((i : Int) + 1).toNat - (i : Int).toNat = 1; omega]
                simp [rR, List.map_take, List.map_drop]
              have hv1 : (((ys.set i ⟨y1, y2, y3⟩).drop i).take 1).length ≤ 1000 := by simp; omega
              have hcl := check_len (c := c) (l := at0) (xs := ((ys.set i ⟨y1, y2, y3⟩).drop i).take 1)
              have ec := refCheck_c c at0 (((ys.set i ⟨y1, y2, y3⟩).drop i).take 1) hv1
              rw [← hv] at ec
              refine ⟨_, _, ec, ?_⟩
              conv => whnf
              refine gv (by first | omega | (simp only []; omega) | (simp; omega)) (by first | omega | (simp only []; omega) | (simp; omega)) ?_
              conv => whnf
              refine ⟨⟨i + 1, ys.set i ⟨y1, y2, y3⟩, some (check c at0 (((ys.set i ⟨y1, y2, y3⟩).drop i).take 1)).1, by omega, hl1, fun l hl => by simp at hl; subst hl; omega⟩, [(2, some 2), (50, some 51)], ?_, by show x.length - (i + 1) < x.length - i; omega⟩
              repeat' (first | exact trivial | rfl | refine And.intro ?_ ?_)
              all_goals (conv => whnf)
              repeat' (first | exact trivial | rfl | refine And.intro ?_ ?_)
          · refine spD (fun h => absurd h h1) (fun _ => ?_)
            conv => whnf
            refine ⟨by kernel_rfl, ?_⟩
            conv => whnf
            refine gv (by first | omega | (simp only []; omega) | (simp; omega)) (by first | omega | (simp only []; omega) | (simp; omega)) ?_
            conv => whnf
            refine ⟨by omega, by omega, by omega, by omega, ?_⟩
            conv => whnf
            have hv : ((rR (ys.set i ⟨y1, y2, y3⟩)).drop i).take (Nat.sub ((i : Int) + 1).toNat (i : Int).toNat) = rR (((ys.set i ⟨y1, y2, y3⟩).drop i).take 1) := by
              rw [show Nat.sub ((i : Int) + 1).toNat (i : Int).toNat = 1 by show ((i : Int) + 1).toNat - (i : Int).toNat = 1; omega]
              simp [rR, List.map_take, List.map_drop]
            have hv1 : (((ys.set i ⟨y1, y2, y3⟩).drop i).take 1).length ≤ 1000 := by simp; omega
            have hcl := check_len (c := c) (l := at0) (xs := ((ys.set i ⟨y1, y2, y3⟩).drop i).take 1)
            have ec := refCheck_c c at0 (((ys.set i ⟨y1, y2, y3⟩).drop i).take 1) hv1
            rw [← hv] at ec
            refine ⟨_, _, ec, ?_⟩
            conv => whnf
            refine gv (by first | omega | (simp only []; omega) | (simp; omega)) (by first | omega | (simp only []; omega) | (simp; omega)) ?_
            conv => whnf
            refine ⟨⟨i + 1, ys.set i ⟨y1, y2, y3⟩, some (check c at0 (((ys.set i ⟨y1, y2, y3⟩).drop i).take 1)).1, by omega, hl1, fun l hl => by simp at hl; subst hl; omega⟩, [(2, some 2), (50, some 51)], ?_, by show x.length - (i + 1) < x.length - i; omega⟩
            repeat' (first | exact trivial | rfl | refine And.intro ?_ ?_)
            all_goals (conv => whnf)
            repeat' (first | exact trivial | rfl | refine And.intro ?_ ?_)
        · refine ⟨⟨ys, hy⟩, [(2, some 2)], ?_⟩
          repeat' (first | exact trivial | rfl | refine And.intro ?_ ?_)
          all_goals (conv => whnf)
          repeat' (first | exact trivial | rfl | refine And.intro ?_ ?_)
      · refine ⟨⟨ys, hy⟩, [(2, some 2)], ?_⟩
        repeat' (first | exact trivial | rfl | refine And.intro ?_ ?_)
        all_goals (conv => whnf)
        repeat' (first | exact trivial | rfl | refine And.intro ?_ ?_)
  · rintro ⟨ys, hy⟩
    have hly := rR_len ys
    conv => whnf
    refine ⟨_, _, check_c c from_ ys hc (by omega), ?_⟩
    conv => whnf
    refine ⟨_, _, refCheck_c c from_ ys (by omega), ?_⟩
    conv => whnf
    refine ⟨_, _, check_c c raw x hc (by omega), ?_⟩
    conv => whnf
    refine ⟨_, _, refCheck_c c raw x (by omega), ?_⟩
    conv => whnf
    refine ⟨_, _, awake21_c, ?_⟩
    conv => whnf
    refine ⟨fun _ => ?_, fun h => by cases h⟩
    conv => whnf
    have hc1 := check_len (c := c) (l := from_) (xs := ys)
    have hc2 := check_len (c := c) (l := raw) (xs := x)
    refine ⟨_, _, samePlaces_c _ _ (by omega), ?_⟩
    conv => whnf
    refine ⟨fun _ => ?_, fun h => by simp at h⟩
    conv => whnf
    refine ⟨fun _ => ?_, fun h => by simp at h⟩
    conv => whnf
    refine ⟨fun _ => ?_, fun h => by simp at h⟩
    conv => whnf
    refine ⟨_, _, samePlaces_c _ _ (by omega), ?_⟩
    conv => whnf
    refine ⟨fun _ => ?_, fun h => by simp at h⟩
    conv => whnf
    refine ⟨fun _ => ?_, fun h => by simp at h⟩
    conv => whnf
    exact ⟨[], rfl, by simp [mtV, Cpl.valOf, mtC, eqD], trivial⟩

end Go.Proofs.Ytipabdkgidmjnaa
