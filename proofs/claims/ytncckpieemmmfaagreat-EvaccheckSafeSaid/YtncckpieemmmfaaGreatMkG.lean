/- Contracts: a new state, the state behind a log, a made log and its state. Conditions: those ahead of each theorem. -/
import Derived.Test.YtncckpieemmmfaaGreatMkF
namespace Go.Proofs.YtncckpieemmmfaaGreat
open Go Go.Cpl

abbrev t00 : TS := ⟨false, false, -1, -1, -1, -1, 0, -1, 0, 0, 0, 0⟩

abbrev c00 : CS4 := ⟨1, 0, 0, 0⟩

abbrev newSt (c : Cfg) : St := ⟨0, 0, List.replicate c.tenants.length t00, List.replicate c.cells.length c00, 1, 0, 0, 0⟩

theorem rTS_app (l : List TS) (t : TS) : rTS l ++ [tsD t] = rTS (l ++ [t]) := by simp [rTS]

theorem rCS_app (l : List CS4) (t : CS4) : rCS l ++ [csD t] = rCS (l ++ [t]) := by simp [rCS]

theorem rep_app {α : Type} (n : Nat) (x : α) : List.replicate n x ++ [x] = List.replicate (n + 1) x := by
  rw [List.replicate_succ']

theorem bkF_zero {c : Cfg} {ts : List TS} (h : ∀ t ∈ ts, t.placed = false) (k : Int) : ∀ m, bkF c ts m k = 0
  | 0 => rfl
  | m + 1 => by
    rw [bkF, bkF_zero h k m]
    split
    · rename_i t ht
      have := h t (List.mem_of_getElem? ht)
      simp [con, this]
    · rfl

theorem cap_pos {c : Cfg} (w : WG c) (k : Nat) : 0 ≤ capOf c k := by
  unfold capOf
  cases h : c.cells[(k : Int).toNat]? with
  | none => simp
  | some x =>
    have := w.caps x (List.mem_of_getElem? h)
    simp; omega

theorem new_ok12 {c : Cfg} (w : WG c) : StOk c (newSt c) := by
  have hv := w.vers
  refine ⟨⟨by simp, by simp, ?_, ?_, by simp, by simp, by simp⟩, fun k _ => ?_⟩
  · intro x hx
    have : x = t00 := (List.mem_replicate.1 hx).2
    subst this
    have h0 : Cel c (-1) := ⟨by omega, by omega⟩
    exact ⟨h0, h0, h0, h0, h0, fun h => (by cases h), fun h => (by cases h), fun _ => rfl, .inl rfl, by simp, by simp, by simp⟩
  · intro x hx
    have : x = c00 := (List.mem_replicate.1 hx).2
    subst this
    exact ⟨by simp; omega, by simp; omega, by simp⟩
  · rw [bkF_zero (fun t ht => by rw [(List.mem_replicate.1 ht).2])]
    exact cap_pos w k

set_option maxRecDepth 100000 in
theorem new12_c (c : Cfg) (hT : c.tenants.length ≤ 100) (hC : c.cells.length ≤ 100) : CallsH Tryz.prog 71 [cfgV c] [] (stV (newSt c)) [] := by
  have l1 := rT_len c.tenants
  have l2 := r2_len c.cells
  refine callsR_of tab mixed Tryz.func71 rfl (by decide) rfl rfl ?_
  conv => whnf
  refine loopN tab mixed (fun i => i ≤ c.tenants.length) c.tenants.length (fun i => [(4, I i)]) (fun i => [(2, .box [.d (i64 0), .d (i64 0), .gs 50, .ns, .d (i64 1), .d (i64 0), .d (i64 0), .d (i64 0)]), (50, .arr 58 (rTS (List.replicate i t00)))]) 51 [(2, some 2), (50, none)] (by omega) ?_
  conv => whnf
  refine ⟨?_, fun i hi => ?_⟩
  · repeat' (first | exact trivial | rfl | refine And.intro ?_ ?_)
    all_goals (conv => whnf)
    repeat' (first | exact trivial | rfl | refine And.intro ?_ ?_)
  conv => whnf
  refine spD (fun h1 => ?_) (fun h1 => ?_) <;> conv => whnf
  · have hi' : i < c.tenants.length := by omega
    refine ⟨rTS_ok [t00], ⟨by simp [rTS]; omega⟩, ?_⟩
    conv => whnf
    refine gv (by first | omega | (simp only []; omega) | (simp; omega)) (by first | omega | (simp only []; omega) | (simp; omega)) ?_
    conv => whnf
    refine ⟨⟨hi', hi'⟩, [(2, some 2), (50, some 52)], ?_⟩
    repeat' (first | exact trivial | rfl | refine And.intro ?_ ?_)
    all_goals (conv => whnf)
    repeat' (first | exact trivial | rfl | refine And.intro ?_ ?_)
    rw [← rep_app]
    exact (rTS_app _ _).symm
  · have hi' : i = c.tenants.length := by omega
    subst hi'
    refine loopN tab mixed (fun i => i ≤ c.cells.length) c.cells.length (fun i => [(5, I i)]) (fun i => [(2, .box [.d (i64 0), .d (i64 0), .gs 50, .gs 60, .d (i64 1), .d (i64 0), .d (i64 0), .d (i64 0)]), (60, .arr 122 (rCS (List.replicate i c00)))]) 61 [(2, some 2), (60, none)] (by omega) ?_
    conv => whnf
    refine ⟨?_, fun i hi => ?_⟩
    · repeat' (first | exact trivial | rfl | refine And.intro ?_ ?_)
      all_goals (conv => whnf)
      repeat' (first | exact trivial | rfl | refine And.intro ?_ ?_)
    conv => whnf
    refine spD (fun h1 => ?_) (fun h1 => ?_) <;> conv => whnf
    · have hi' : i < c.cells.length := by omega
      refine ⟨rCS_ok [c00], ⟨by simp [rCS]; omega⟩, ?_⟩
      conv => whnf
      refine gv (by first | omega | (simp only []; omega) | (simp; omega)) (by first | omega | (simp only []; omega) | (simp; omega)) ?_
      conv => whnf
      refine ⟨⟨hi', hi'⟩, [(2, some 2), (60, some 62)], ?_⟩
      repeat' (first | exact trivial | rfl | refine And.intro ?_ ?_)
      all_goals (conv => whnf)
      repeat' (first | exact trivial | rfl | refine And.intro ?_ ?_)
      rw [← rep_app]
      exact (rCS_app _ _).symm
    · have hi' : i = c.cells.length := by omega
      subst hi'
      exact ⟨[], rfl, ⟨⟨rfl, rfl⟩, ⟨rfl, rfl⟩, rfl, rfl, ⟨rfl, rfl⟩, ⟨rfl, rfl⟩, ⟨rfl, rfl⟩, ⟨rfl, rfl⟩, trivial⟩, trivial⟩

def entD (e : Ent) : List D := [i64 e.kind, i64 e.tick, i64 e.tenant, i64 e.cell, i64 e.other, i64 e.epoch, i64 e.from_, i64 e.until_, i64 e.n]

def rEn (l : List Ent) : List (List D) := l.map entD

theorem rEn_len (l : List Ent) : (rEn l).length = l.length := by simp [rEn]

theorem rEn_get {l : List Ent} {i : Nat} {x : Ent} (h : l[i]? = some x) : (rEn l)[i]? = some (entD x) := by simp [rEn, h]

theorem rEn_ok (l : List Ent) : ∀ r ∈ rEn l, r.length = 9 ∧ ∀ d ∈ r, d.scalar = true := by
  intro r hr
  obtain ⟨x, _, rfl⟩ := List.mem_map.1 hr
  simp [entD, D.scalar]

theorem rEn_app (l : List Ent) (t : Ent) : rEn l ++ [entD t] = rEn (l ++ [t]) := by simp [rEn]

/-- a number of turns, and a state -/
structure FJ (c : Cfg) (n : Nat) where
  i : Nat
  s : St
  hi : i ≤ n
  hs : StOk c s

def RFold (c : Cfg) (res : AV) (hout : List HObj) : Prop := ∃ s' i bad, res = .tup [.inr (stC s'), .inl (.d (i64 i)), .inl (.d (i64 bad))] ∧ hout = [] ∧ StOk c s'

set_option maxHeartbeats 1000000 in
set_option maxRecDepth 100000 in
theorem fold_q (c : Cfg) (l : List Ent) (w : WG c) (hl : l.length ≤ 100000) : ExH Tryz.prog 81 [cfgV c, .c (.d (.sl (rEn l)))] [] (RFold c) := by
  have l1 := rEn_len l
  have hg := w.good
  have hC := hg.cells
  have hT := w.few
  refine callsE_of tab mixed noRel Tryz.func81 rfl (by decide) rfl rfl ?_
  conv => whnf
  refine ⟨_, _, new12_c c (by omega) (by omega), ?_⟩
  conv => whnf
  refine loopE tab mixed noRel (ι := FJ c l.length) (fun k => [(8, I k.i)]) (fun k => [(2, .box (stC k.s))]) 51 (fun k => l.length - k.i) ⟨0, newSt c, by omega, new_ok12 w⟩ [(2, some 2)] ?_
  conv => whnf
  refine ⟨?_, fun k => ?_⟩
  · repeat' (first | exact trivial | rfl | refine And.intro ?_ ?_)
    all_goals (conv => whnf)
    repeat' (first | exact trivial | rfl | refine And.intro ?_ ?_)
  obtain ⟨i, s, hi, hs⟩ := k
  dsimp only
  conv => whnf
  refine spD (fun h1 => ?_) (fun h1 => ?_) <;> conv => whnf
  · have hi' : i < l.length := by omega
    obtain ⟨⟨e1, e2, e3, e4, e5, e6, e7, e8, e9⟩, hx⟩ := get_of hi'
    refine ⟨by kernel_rfl, ?_⟩
    conv => whnf
    refine ⟨by omega, _, rEn_get hx, ?_⟩
    conv => whnf
    refine exK (apply_q c s ⟨e1, e2, e3, e4, e5, e6, e7, e8, e9⟩ w hs) ?_
    rintro _ _ ⟨⟨s1, s2, s3, s4, s5, s6, s7, s8⟩, b9, rfl, rfl, h9⟩
    conv => whnf
    refine spNe (fun h2 => ?_) (fun h2 => ?_) <;> conv => whnf
    · refine ⟨_, _, ⟨s, i, b9, rfl, rfl, hs⟩, [], rfl, ⟨⟨⟨rfl, rfl⟩, ⟨rfl, rfl⟩, rfl, rfl, ⟨rfl, rfl⟩, ⟨rfl, rfl⟩, ⟨rfl, rfl⟩, ⟨rfl, rfl⟩, trivial⟩, ⟨rfl, rfl⟩, ⟨rfl, rfl⟩, trivial⟩, trivial⟩
    · refine gv (by first | omega | (simp only []; omega) | (simp; omega)) (by first | omega | (simp only []; omega) | (simp; omega)) ?_
      conv => whnf
      refine ⟨⟨i + 1, ⟨s1, s2, s3, s4, s5, s6, s7, s8⟩, by omega, h9 (by simpa using h2)⟩, [(2, some 2)], ?_, by show l.length - (i + 1) < l.length - i; omega⟩
      repeat' (first | exact trivial | rfl | refine And.intro ?_ ?_)
      all_goals (conv => whnf)
      repeat' (first | exact trivial | rfl | refine And.intro ?_ ?_)
  · refine ⟨_, _, ⟨s, l.length, 0, rfl, rfl, hs⟩, [], rfl, ⟨⟨⟨rfl, rfl⟩, ⟨rfl, rfl⟩, rfl, rfl, ⟨rfl, rfl⟩, ⟨rfl, rfl⟩, ⟨rfl, rfl⟩, ⟨rfl, rfl⟩, trivial⟩, ⟨rfl, by simp [l1]⟩, ⟨rfl, rfl⟩, trivial⟩, trivial⟩

structure LJ (c : Cfg) (l : List Int) where
  a : Int
  s : St
  es : List Ent
  ha : 0 ≤ a ∧ a ≤ l.length + 50
  hs : StOk c s
  he : es.length ≤ a

def RLog (res : AV) (hout : List HObj) : Prop := ∃ es : List Ent, res = .c (.d (.sl (rEn es))) ∧ hout = [] ∧ es.length ≤ 2000

set_option maxHeartbeats 1000000 in
set_option maxRecDepth 100000 in
theorem log_q (l : List Int) (c : Cfg) (n : Int) (w : WG c) (hl : l.length ≤ 1000) : ExH Tryz.prog 82 [.c (.d (.sl (r1 l))), cfgV c, I n] [] RLog := by
  have hg := w.good
  have hC := hg.cells
  have hT := w.few
  refine callsE_of tab mixed noRel Tryz.func82 rfl (by decide) rfl rfl ?_
  conv => whnf
  refine ⟨_, _, new_c l, ?_⟩
  conv => whnf
  refine ⟨_, _, new12_c c (by omega) (by omega), ?_⟩
  conv => whnf
  refine loopE tab mixed noRel (ι := LJ c l) (fun k => [(9, .c (.gs 50))]) (fun k => [(1, tapeO l k.a), (2, .box (stC k.s)), (50, .arr 115 (rEn k.es))]) 51 (fun k => (l.length - k.a).toNat) ⟨0, newSt c, [], by omega, new_ok12 w, by simp⟩ [(1, some 1), (2, some 2), (50, none)] ?_
  conv => whnf
  refine ⟨?_, fun k => ?_⟩
  · repeat' (first | exact trivial | rfl | refine And.intro ?_ ?_)
    all_goals (conv => whnf)
    repeat' (first | exact trivial | rfl | refine And.intro ?_ ?_)
  obtain ⟨a, s, es, ha, hs, he⟩ := k
  have l2 := rEn_len es
  dsimp only
  conv => whnf
  refine spD (fun h1 => ?_) (fun h1 => ?_) <;> conv => whnf
  · refine ⟨_, _, more_c l a, ?_⟩
    conv => whnf
    refine spD (fun h2 => ?_) (fun h2 => ?_) <;> conv => whnf
    · have hne : l ≠ [] := by rintro rfl; simp at h2; omega
      refine exK (entry_q l c s a w hs hne (by omega) (by omega)) ?_
      rintro _ _ ⟨⟨e1, e2, e3, e4, e5, e6, e7, e8, e9⟩, a2, rfl, rfl, h5, h6⟩
      conv => whnf
      refine exK (apply_q c s ⟨e1, e2, e3, e4, e5, e6, e7, e8, e9⟩ w hs) ?_
      rintro _ _ ⟨⟨s1, s2, s3, s4, s5, s6, s7, s8⟩, b9, rfl, rfl, h9⟩
      conv => whnf
      refine spE (fun h3 => ?_) (fun h3 => ?_) <;> conv => whnf
      · refine ⟨rEn_ok [⟨e1, e2, e3, e4, e5, e6, e7, e8, e9⟩], ⟨by simp [rEn]; omega⟩, ?_⟩
        conv => whnf
        refine ⟨⟨a2, ⟨s1, s2, s3, s4, s5, s6, s7, s8⟩, es ++ [⟨e1, e2, e3, e4, e5, e6, e7, e8, e9⟩], by omega, h9 (by simpa using h3), by simp; omega⟩, [(1, some 1), (2, some 2), (50, some 54)], ?_, by show (l.length - a2).toNat < (l.length - a).toNat; omega⟩
        repeat' (first | exact trivial | rfl | refine And.intro ?_ ?_)
        all_goals (conv => whnf)
        repeat' (first | exact trivial | rfl | refine And.intro ?_ ?_)
        exact (rEn_app _ _).symm
      · refine ⟨⟨a2, s, es, by omega, hs, by omega⟩, [(1, some 1), (2, some 2), (50, some 50)], ?_, by show (l.length - a2).toNat < (l.length - a).toNat; omega⟩
        repeat' (first | exact trivial | rfl | refine And.intro ?_ ?_)
        all_goals (conv => whnf)
        repeat' (first | exact trivial | rfl | refine And.intro ?_ ?_)
    · exact ⟨_, _, ⟨es, rfl, rfl, by omega⟩, [], rfl, rfl, trivial⟩
  · exact ⟨_, _, ⟨es, rfl, rfl, by omega⟩, [], rfl, rfl, trivial⟩

def RSt (c : Cfg) (res : AV) (hout : List HObj) : Prop := ∃ s, res = stV s ∧ hout = [] ∧ StOk c s

theorem state_q (l : List Int) (c : Cfg) (n : Int) (w : WG c) (hl : l.length ≤ 1000) : ExH Tryz.prog 31 [.c (.d (.sl (r1 l))), cfgV c, I n] [] (RSt c) := by
  refine callsE_of tab mixed noRel Tryz.func31 rfl (by decide) rfl rfl ?_
  conv => whnf
  refine ⟨by kernel_rfl, ?_⟩
  conv => whnf
  refine exK (log_q l c n w hl) ?_
  rintro _ _ ⟨es, rfl, rfl, hes⟩
  conv => whnf
  refine exK (fold_q c es w (by omega)) ?_
  rintro _ _ ⟨⟨s1, s2, s3, s4, s5, s6, s7, s8⟩, i, bad, rfl, rfl, h9⟩
  conv => whnf
  exact ⟨_, _, ⟨⟨s1, s2, s3, s4, s5, s6, s7, s8⟩, rfl, rfl, h9⟩, [], rfl, ⟨⟨rfl, rfl⟩, ⟨rfl, rfl⟩, rfl, rfl, ⟨rfl, rfl⟩, ⟨rfl, rfl⟩, ⟨rfl, rfl⟩, ⟨rfl, rfl⟩, trivial⟩, trivial⟩

end Go.Proofs.YtncckpieemmmfaaGreat
