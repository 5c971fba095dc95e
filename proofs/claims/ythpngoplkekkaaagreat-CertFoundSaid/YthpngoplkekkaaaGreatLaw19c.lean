/- Contracts: a certificate that is changed in one place; law CertFound. Conditions: those ahead of each theorem. -/
import Derived.Test.YthpngoplkekkaaaGreatSolveU
namespace Go.Proofs.YthpngoplkekkaaaGreat
open Go Go.Cpl

def bentN (x : Nd) (w b : Int) : Nd := if w = 0 then { x with kind := 0 + b % (4 - 0 + 1) } else if w = 1 then { x with var := -1 + b % (11 - -1 + 1) } else if w = 2 then { x with set := -1 + b % (8 - -1 + 1) }
  else if w = 3 then { x with brk := { x.brk with rule := 0 + b % (10 - 0 + 1) } } else if w = 4 then { x with brk := { x.brk with cell := -1 + b % (8 - -1 + 1) } } else { x with brk := { x.brk with tenant := b } }

def bentT (T : List Nd) (k : Nat) (w b : Int) : List Nd := match T[k]? with
  | none => T
  | some x => if w = 5 then T.take k ++ T.drop (k + 1) else if w = 6 then T ++ [x] else T.set k (bentN x w b)

def bentP19 (P : List (Int × Int)) (which at_ b : Int) : List (Int × Int) := if P = [] then [] else P.set (at_ % P.length).toNat (-2 + b % (8 - -2 + 1), -2 + which % (8 - -2 + 1))

def bentT19 (P : List (Int × Int)) (T : List Nd) (which at_ b : Int) : List Nd := if P = [] then bentT T (at_ % T.length).toNat (which % 8) b else T

theorem rN_set (T : List Nd) (k : Nat) (y : Nd) : rN (T.set k y) = (rN T).set k [i64 y.kind, i64 y.var, i64 y.set, i64 y.brk.rule, i64 y.brk.tenant, i64 y.brk.other, i64 y.brk.cell, i64 y.brk.region] := by simp [rN, List.map_set]

theorem treeOK_bent {P : List (Int × Int)} {T : List Nd} (h : TreeOK T) (hl : T.length ≤ 1000) (which at_ b : Int) : TreeOK (bentT19 P T which at_ b) := by
  unfold bentT19
  by_cases hP0 : P = []
  case neg => rw [if_neg hP0]; exact h
  rw [if_pos hP0]
  unfold bentT
  split
  · exact h
  rename_i x hx
  have hxm := List.mem_of_getElem? hx
  split
  · refine ⟨by simp; omega, fun y hy => ?_⟩
    rcases List.mem_append.1 hy with h' | h'
    · exact h.2 y (List.mem_of_mem_take h')
    · exact h.2 y (List.mem_of_mem_drop h')
  split
  · refine ⟨by simp; omega, fun y hy => ?_⟩
    rcases List.mem_append.1 hy with h' | h'
    · exact h.2 y h'
    · simp at h'; subst h'; exact h.2 _ hxm
  · refine ⟨by simp; omega, fun y hy => ?_⟩
    rcases List.mem_or_eq_of_mem_set hy with h' | h'
    · exact h.2 y h'
    · have hx2 := h.2 _ hxm
      subst h'
      have hb1 := Int.emod_nonneg b (b := 11 - -1 + 1) (by decide)
      have hb2 := Int.emod_lt_of_pos b (b := 11 - -1 + 1) (by decide)
      unfold bentN
      repeat' split
      all_goals first | exact hx2 | (dsimp only; omega)

set_option maxRecDepth 100000 in
set_option maxHeartbeats 8000000 in
theorem bent19_c (P : List (Int × Int)) (T : List Nd) (which at_ b : Int) (hP : P.length ≤ 1000) (hT : T.length ≤ 1000) : CallsH Tryz.prog 21 [certV P T, I which, I at_, I b] [] (certV (bentP19 P which at_ b) (bentT19 P T which at_ b)) [] := by
  have hlp := r2_len P
  have hlt := rN_len T
  refine callsR_of tab mixed Tryz.func21 rfl (by decide) rfl rfl ?_
  conv => whnf
  refine ⟨fun r hr => by obtain ⟨x, _, rfl⟩ := List.mem_map.1 hr; simp [D.scalar], ⟨by simp; omega⟩, ?_⟩
  conv => whnf
  rw [List.nil_append]
  refine ⟨fun r hr => by obtain ⟨x, _, rfl⟩ := List.mem_map.1 hr; simp [D.scalar], ⟨by simp; omega⟩, ?_⟩
  conv => whnf
  rw [List.nil_append]
  conv => whnf
  refine spD (fun h => ?_) (fun h => ?_) <;> conv => whnf
  · have hne : P ≠ [] := fun e => by rw [e] at h; exact absurd h (by decide)
    have e1 := Int.emod_nonneg at_ (b := ((r2 P).length : Int)) (by omega)
    have e2 := Int.emod_lt_of_pos at_ (b := ((r2 P).length : Int)) (by omega)
    refine ⟨_, _, mod_c at_ (r2 P).length (by omega) (by omega), ?_⟩
    conv => whnf
    refine ⟨by kernel_rfl, ?_⟩
    conv => whnf
    refine ⟨_, _, between_c b (-2) 8 (by decide) (by decide) (by decide), ?_⟩
    conv => whnf
    refine ⟨_, _, between_c which (-2) 8 (by decide) (by decide) (by decide), ?_⟩
    conv => whnf
    obtain ⟨q, hq⟩ := get_of (l := P) (i := (at_ % ((r2 P).length : Int)).toNat) (by omega)
    refine ⟨by omega, by omega, ?_⟩
    conv => whnf
    refine ⟨_, r2_get hq, ?_⟩
    conv => whnf
    refine ⟨[], rfl, ?_, trivial⟩
    have hp : bentP19 P which at_ b = P.set (at_ % ((r2 P).length : Int)).toNat (-2 + b % (8 - -2 + 1), -2 + which % (8 - -2 + 1)) := by unfold bentP19; rw [if_neg hne, hlp]
    have ht : bentT19 P T which at_ b = T := by unfold bentT19; rw [if_neg hne]
    rw [hp, ht]
    repeat' (first | exact trivial | rfl | refine And.intro ?_ ?_)
    all_goals (conv => whnf)
    repeat' (first | exact trivial | rfl | refine And.intro ?_ ?_)
    rw [r2_set'']
  have hne : P = [] := List.length_eq_zero_iff.1 (by omega)
  have hp : bentP19 P which at_ b = [] := by unfold bentP19; rw [if_pos hne]
  have ht : bentT19 P T which at_ b = bentT T (at_ % ((rN T).length : Int)).toNat (which % 8) b := by unfold bentT19; rw [if_pos hne, hlt]
  rw [hp, ht]
  subst hne
  refine spE (fun h0 => ?_) (fun h0 => ?_) <;> conv => whnf
  · have hT0 : T = [] := List.length_eq_zero_iff.1 (by omega)
    subst hT0
    refine ⟨[], rfl, ?_, trivial⟩
    repeat' (first | exact trivial | rfl | refine And.intro ?_ ?_)
    all_goals (conv => whnf)
    repeat' (first | exact trivial | rfl | refine And.intro ?_ ?_)
  have e1 := Int.emod_nonneg at_ (b := ((rN T).length : Int)) (by omega)
  have e2 := Int.emod_lt_of_pos at_ (b := ((rN T).length : Int)) (by omega)
  refine ⟨_, _, mod_c at_ (rN T).length (by omega) (by omega), ?_⟩
  conv => whnf
  refine ⟨_, _, mod_c which 8 (by decide) (by decide), ?_⟩
  conv => whnf
  generalize at_ % ((rN T).length : Int) = k at e1 e2 ⊢
  generalize which % 8 = w
  obtain ⟨x, hx⟩ := get_of (l := T) (i := k.toNat) (by omega)
  refine spE (fun h1 => ?_) (fun h1 => ?_) <;> conv => whnf
  · refine ⟨by kernel_rfl, ?_⟩
    conv => whnf
    refine ⟨_, _, between_c b 0 4 (by decide) (by decide) (by decide), ?_⟩
    conv => whnf
    refine ⟨by omega, by omega, ?_⟩
    conv => whnf
    refine ⟨_, rN_get hx, ?_⟩
    conv => whnf
    refine ⟨[], rfl, ?_, trivial⟩
    have e : bentT T k.toNat w b = T.set k.toNat (bentN x w b) := by unfold bentT; rw [hx, h1]; rfl
    rw [e, h1]
    repeat' (first | exact trivial | rfl | refine And.intro ?_ ?_)
    all_goals (conv => whnf)
    repeat' (first | exact trivial | rfl | refine And.intro ?_ ?_)
    rw [rN_set]
    rfl
  refine spE (fun h2 => ?_) (fun h2 => ?_) <;> conv => whnf
  · refine ⟨by kernel_rfl, ?_⟩
    conv => whnf
    refine ⟨_, _, between_c b (-1) 11 (by decide) (by decide) (by decide), ?_⟩
    conv => whnf
    refine ⟨by omega, by omega, ?_⟩
    conv => whnf
    refine ⟨_, rN_get hx, ?_⟩
    conv => whnf
    refine ⟨[], rfl, ?_, trivial⟩
    have e : bentT T k.toNat w b = T.set k.toNat (bentN x w b) := by unfold bentT; rw [hx, h2]; rfl
    rw [e, h2]
    repeat' (first | exact trivial | rfl | refine And.intro ?_ ?_)
    all_goals (conv => whnf)
    repeat' (first | exact trivial | rfl | refine And.intro ?_ ?_)
    rw [rN_set]
    rfl
  refine spE (fun h3 => ?_) (fun h3 => ?_) <;> conv => whnf
  · refine ⟨by kernel_rfl, ?_⟩
    conv => whnf
    refine ⟨_, _, between_c b (-1) 8 (by decide) (by decide) (by decide), ?_⟩
    conv => whnf
    refine ⟨by omega, by omega, ?_⟩
    conv => whnf
    refine ⟨_, rN_get hx, ?_⟩
    conv => whnf
    refine ⟨[], rfl, ?_, trivial⟩
    have e : bentT T k.toNat w b = T.set k.toNat (bentN x w b) := by unfold bentT; rw [hx, h3]; rfl
    rw [e, h3]
    repeat' (first | exact trivial | rfl | refine And.intro ?_ ?_)
    all_goals (conv => whnf)
    repeat' (first | exact trivial | rfl | refine And.intro ?_ ?_)
    rw [rN_set]
    rfl
  refine spE (fun h4 => ?_) (fun h4 => ?_) <;> conv => whnf
  · refine ⟨by kernel_rfl, ?_⟩
    conv => whnf
    refine ⟨_, _, between_c b 0 10 (by decide) (by decide) (by decide), ?_⟩
    conv => whnf
    refine ⟨by omega, by omega, ?_⟩
    conv => whnf
    refine ⟨_, rN_get hx, ?_⟩
    conv => whnf
    refine ⟨[], rfl, ?_, trivial⟩
    have e : bentT T k.toNat w b = T.set k.toNat (bentN x w b) := by unfold bentT; rw [hx, h4]; rfl
    rw [e, h4]
    repeat' (first | exact trivial | rfl | refine And.intro ?_ ?_)
    all_goals (conv => whnf)
    repeat' (first | exact trivial | rfl | refine And.intro ?_ ?_)
    rw [rN_set]
    rfl
  refine spE (fun h5 => ?_) (fun h5 => ?_) <;> conv => whnf
  · refine ⟨by kernel_rfl, ?_⟩
    conv => whnf
    refine ⟨_, _, between_c b (-1) 8 (by decide) (by decide) (by decide), ?_⟩
    conv => whnf
    refine ⟨by omega, by omega, ?_⟩
    conv => whnf
    refine ⟨_, rN_get hx, ?_⟩
    conv => whnf
    refine ⟨[], rfl, ?_, trivial⟩
    have e : bentT T k.toNat w b = T.set k.toNat (bentN x w b) := by unfold bentT; rw [hx, h5]; rfl
    rw [e, h5]
    repeat' (first | exact trivial | rfl | refine And.intro ?_ ?_)
    all_goals (conv => whnf)
    repeat' (first | exact trivial | rfl | refine And.intro ?_ ?_)
    rw [rN_set]
    rfl
  refine spE (fun h6 => ?_) (fun h6 => ?_) <;> conv => whnf
  · refine ⟨by kernel_rfl, ?_⟩
    conv => whnf
    refine ⟨by omega, by omega, ?_⟩
    conv => whnf
    refine gv (by first | omega | (simp only []; omega) | (simp; omega)) (by first | omega | (simp only []; omega) | (simp; omega)) ?_
    conv => whnf
    refine ⟨by omega, by omega, ?_⟩
    conv => whnf
    have hk1 : (k + 1).toNat = k.toNat + 1 := by omega
    have hrow : (rN T).take (k.toNat.sub 0) ++ ((rN T).drop (k + 1).toNat).take ((rN T).length.sub (k + 1).toNat) = rN (bentT T k.toNat w b) := by
      have e : bentT T k.toNat w b = T.take k.toNat ++ T.drop (k.toNat + 1) := by unfold bentT; rw [hx, h6]; rfl
      have ht : ((rN T).drop (k + 1).toNat).take ((rN T).length.sub (k + 1).toNat) = (rN T).drop (k + 1).toNat := List.take_of_length_le (by simp)
      rw [e, ht, hk1]
      simp [rN]
    refine ⟨fun r hr => by obtain ⟨x, _, rfl⟩ := List.mem_map.1 (List.mem_of_mem_drop (List.mem_of_mem_take hr)); simp [D.scalar], ⟨by simp; omega⟩, ?_⟩
    conv => whnf
    refine ⟨[], rfl, ?_, trivial⟩
    repeat' (first | exact trivial | rfl | refine And.intro ?_ ?_)
    all_goals (conv => whnf)
    repeat' (first | exact trivial | rfl | refine And.intro ?_ ?_)
    exact hrow.symm
  refine spE (fun h7 => ?_) (fun h7 => ?_) <;> conv => whnf
  · refine ⟨by kernel_rfl, ?_⟩
    conv => whnf
    refine ⟨by omega, by omega, ?_⟩
    conv => whnf
    refine ⟨_, rN_get hx, ?_⟩
    conv => whnf
    refine ⟨row8 _ _ _ _ _ _ _ _, ⟨by simp; omega⟩, ?_⟩
    conv => whnf
    refine ⟨[], rfl, ?_, trivial⟩
    have e : bentT T k.toNat w b = T ++ [x] := by unfold bentT; rw [hx, h7]; rfl
    rw [e]
    repeat' (first | exact trivial | rfl | refine And.intro ?_ ?_)
    all_goals (conv => whnf)
    repeat' (first | exact trivial | rfl | refine And.intro ?_ ?_)
    simp [rN]
  · refine ⟨by omega, by omega, ?_⟩
    conv => whnf
    refine ⟨_, rN_get hx, ?_⟩
    conv => whnf
    refine ⟨[], rfl, ?_, trivial⟩
    have e : bentT T k.toNat w b = T.set k.toNat { x with brk := { x.brk with tenant := b } } := by
      unfold bentT; rw [hx]
      simp only [h6, h7, if_false]
      unfold bentN
      rw [if_neg h1, if_neg h2, if_neg h3, if_neg h4, if_neg h5]
    rw [e]
    repeat' (first | exact trivial | rfl | refine And.intro ?_ ?_)
    all_goals (conv => whnf)
    repeat' (first | exact trivial | rfl | refine And.intro ?_ ?_)
    rw [rN_set]

set_option maxRecDepth 100000 in
theorem certFound_c (l : List Int) (cells which at_ b : Int) (hd : Bool) : CallsH Tryz.prog 4 [.c (.d (.sl (r1 l))), I cells, I which, I at_, I b, B hd] [] (B true) [] := by
  obtain ⟨c, u, hm, hprob⟩ := problem_c l cells hd
  have hv := hm.valid5
  obtain ⟨_, ht⟩ := find_len u hd hv
  have hTl := rN_len (findT (findL c u hd))
  have hPl := r2_len (findP (findL c u hd))
  have hlT := rT_len c.tenants
  have hTT := hm.tenants
  refine callsR_of tab mixed Tryz.func4 rfl (by decide) rfl rfl ?_
  conv => whnf
  refine ⟨_, _, light_c l, ?_⟩
  conv => whnf
  refine spN (fun h => ?_) (fun h => ?_) <;> conv => whnf
  · refine ⟨_, _, awake19_c, ?_⟩
    conv => whnf
    exact ⟨[], rfl, rfl, trivial⟩
  refine ⟨_, _, hprob, ?_⟩
  conv => whnf
  refine ⟨_, _, found19_c c u hd, ?_⟩
  conv => whnf
  refine spD (fun h => ?_) (fun h400 => ?_) <;> conv => whnf
  · refine ⟨_, _, awake19_c, ?_⟩
    conv => whnf
    exact ⟨[], rfl, rfl, trivial⟩
  have hP40 : (findP (findL c u hd)).length ≤ 1000 := by
    have hF : findL c u hd = runN c u hd (vars c).length (openL c.tenants.length) [] 0 := by unfold findL; rw [if_pos hv]
    have hok := runN_ok u hd (vars c).length (openL c.tenants.length) [] 0 (fit_openL hv) (by omega)
    rw [← hF] at hok
    have := hok.fit.len
    unfold findP
    split
    · omega
    · simp
  have ht' := treeOK_bent (P := findP (findL c u hd)) ht (by omega) which at_ b
  have bc := bent19_c (findP (findL c u hd)) (findT (findL c u hd)) which at_ b hP40 (by omega)
  generalize bentP19 (findP (findL c u hd)) which at_ b = P' at bc
  generalize bentT19 (findP (findL c u hd)) (findT (findL c u hd)) which at_ b = T' at bc ht'
  refine ⟨_, _, bc, ?_⟩
  conv => whnf
  have hgood : (feasible c u hd (findP (findL c u hd)) (findT (findL c u hd)) || refuted c u hd (findP (findL c u hd)) (findT (findL c u hd))) = (decide (0 < (((rN (findT (findL c u hd))).length : Nat) : Int)) || (((r2 (findP (findL c u hd))).length : Int) == ((rT c.tenants).length : Int))) := by
    rw [hTl, hPl, hlT]
    have hr0 : findT (findL c u hd) = [] → refuted c u hd (findP (findL c u hd)) (findT (findL c u hd)) = false := fun e => by rw [e]; simp [refuted, readAll, rdN]
    rw [Bool.eq_iff_iff]
    simp only [Bool.or_eq_true, decide_eq_true_eq, beq_iff_eq]
    constructor
    · intro h
      rcases hn : findT (findL c u hd) with _ | ⟨x, r⟩
      · right
        rcases h with h | h
        · simp only [feasible, decide_eq_true_eq] at h
          have := h.2.1.len
          omega
        · rw [hr0 hn] at h; cases h
      · left; simp
    · intro h
      by_cases h2 : (findL c u hd).code = 2
      · exfalso
        have e1 : findT (findL c u hd) = [] := by simp [findT, h2]
        have e2 : findP (findL c u hd) = [] := by simp [findP, h2]
        rw [e1, e2] at h
        have hz : c.tenants.length = 0 := by simp at h; omega
        have hvl := varsOf_len c (order c)
        rw [(order_ok c).1] at hvl
        have hv0 : (vars c).length = 0 := by unfold vars; omega
        have hF : findL c u hd = runN c u hd (vars c).length (openL c.tenants.length) [] 0 := by unfold findL; rw [if_pos hv]
        rw [hv0] at hF
        rw [hF] at h2
        unfold runN at h2
        rw [if_neg (by omega)] at h2
        repeat' split at h2
        all_goals first | (rename_i hh; cases hh; done) | simp at h2
      · have := (find_cert u hd hv h2).1
        rw [Bool.or_eq_true] at this
        exact this
  refine spD (fun h => ?_) (fun h => ?_) <;> conv => whnf
  · have hg := hgood
    rw [decide_eq_true h, Bool.true_or] at hg
    refine ⟨by kernel_rfl, ?_⟩
    conv => whnf
    refine ⟨_, _, awake19_c, ?_⟩
    conv => whnf
    refine ⟨fun _ => ?_, fun h => (by cases h)⟩
    conv => whnf
    refine ⟨_, _, check19_c c u hd _ _ ht, ?_⟩
    conv => whnf
    rw [hg]
    refine spTrue rfl ?_
    conv => whnf
    refine ⟨_, _, feasible_c c u hd P' T', ?_⟩
    conv => whnf
    refine ⟨_, _, refFeasible_c c u hd P' T', ?_⟩
    conv => whnf
    refine ⟨fun _ => ?_, fun h => by simp at h⟩
    conv => whnf
    refine ⟨_, _, refuted_c c u hd P' T' ht', ?_⟩
    conv => whnf
    refine ⟨_, _, refRefuted_c c u hd P' T' ht', ?_⟩
    conv => whnf
    refine ⟨fun _ => ?_, fun h => by simp at h⟩
    conv => whnf
    refine ⟨_, _, check19_c c u hd P' T' ht', ?_⟩
    conv => whnf
    refine ⟨_, _, refCheck19_c c u hd P' T' ht', ?_⟩
    conv => whnf
    exact ⟨[], rfl, by simp [mtV, Cpl.valOf, mtC, eqD], trivial⟩
  · have hg := hgood
    rw [decide_eq_false h, Bool.false_or] at hg
    refine ⟨by kernel_rfl, ?_⟩
    conv => whnf
    refine ⟨_, _, awake19_c, ?_⟩
    conv => whnf
    refine ⟨fun _ => ?_, fun h => (by cases h)⟩
    conv => whnf
    refine ⟨_, _, check19_c c u hd _ _ ht, ?_⟩
    conv => whnf
    rw [hg]
    refine spTrue (by simp) ?_
    conv => whnf
    refine ⟨_, _, feasible_c c u hd P' T', ?_⟩
    conv => whnf
    refine ⟨_, _, refFeasible_c c u hd P' T', ?_⟩
    conv => whnf
    refine ⟨fun _ => ?_, fun h => by simp at h⟩
    conv => whnf
    refine ⟨_, _, refuted_c c u hd P' T' ht', ?_⟩
    conv => whnf
    refine ⟨_, _, refRefuted_c c u hd P' T' ht', ?_⟩
    conv => whnf
    refine ⟨fun _ => ?_, fun h => by simp at h⟩
    conv => whnf
    refine ⟨_, _, check19_c c u hd P' T' ht', ?_⟩
    conv => whnf
    refine ⟨_, _, refCheck19_c c u hd P' T' ht', ?_⟩
    conv => whnf
    exact ⟨[], rfl, by simp [mtV, Cpl.valOf, mtC, eqD], trivial⟩

end Go.Proofs.YthpngoplkekkaaaGreat
