/- Contracts: the worlds of chapter 35; situations of evacplan: usable, candidates, begin, add. Conditions: those ahead of each theorem. -/
import Derived.Test.YtncckpieemmmfaaGreatPack
import Derived.Test.YtncckpieemmmfaaGreatOrd
namespace Go.Proofs.YtncckpieemmmfaaGreat
open Go Go.Cpl

theorem made_wg {c : Cfg} (m : Made c) : WG c := by
  obtain ⟨h, r, e, h1, h2, h3, h4⟩ := m.versions
  have ht := m.tenants
  have hl := m.lease
  have hb := m.bake
  refine ⟨m.good, by omega, by rw [e]; simp; omega, by omega, by omega, fun x hx => ?_⟩
  obtain ⟨i, hi⟩ := List.mem_iff_getElem?.1 hx
  have := m.cell i x hi
  omega

structure World (c : Cfg) (s : St) : Prop where
  wg : WG c
  ok : StOk c s
  cells : 1 ≤ c.cells.length

def RW (res : AV) (hout : List HObj) : Prop := ∃ c s, res = .tup [.inr (cfgC c), .inr (stC s)] ∧ hout = [] ∧ WG c ∧ StOk c s

theorem worlds_q (l n : List Int) (b : Bool) (hl : l.length ≤ 150) (hn : n.length ≤ 150) : ExH Tryz.prog 12 [.c (.d (.sl (r1 l))), .c (.d (.sl (r1 n))), B b] [] RW := by
  refine callsE_of tab mixed noRel Tryz.func12 rfl (by decide) rfl rfl ?_
  conv => whnf
  refine ⟨fun h1 => ?_, fun h1 => ?_⟩ <;> conv => whnf
  · refine exK (packed_q l (by omega)) ?_
    rintro _ _ ⟨c, ⟨s1, s2, s3, s4, s5, s6, s7, s8⟩, es, rfl, rfl, mc, hs⟩
    conv => whnf
    refine ⟨by kernel_rfl, ?_⟩
    conv => whnf
    refine ⟨_, _, ⟨c, ⟨s1, s2, s3, s4, s5, s6, s7, s8⟩, rfl, rfl, mc.wg, hs⟩, [], rfl, ?_⟩
    repeat' (first | exact trivial | rfl | refine And.intro ?_ ?_)
    all_goals (conv => whnf)
    repeat' (first | exact trivial | rfl | refine And.intro ?_ ?_)
  · obtain ⟨c, m, hc⟩ := config_c l
    refine ⟨_, _, hc, ?_⟩
    conv => whnf
    refine ⟨by kernel_rfl, ?_⟩
    conv => whnf
    refine exK (state_q n c 40 (made_wg m) (by omega)) ?_
    rintro _ _ ⟨⟨s1, s2, s3, s4, s5, s6, s7, s8⟩, rfl, rfl, hs⟩
    conv => whnf
    refine ⟨_, _, ⟨c, ⟨s1, s2, s3, s4, s5, s6, s7, s8⟩, rfl, rfl, made_wg m, hs⟩, [], rfl, ?_⟩
    repeat' (first | exact trivial | rfl | refine And.intro ?_ ?_)
    all_goals (conv => whnf)
    repeat' (first | exact trivial | rfl | refine And.intro ?_ ?_)

/-! situations -/

structure Seat where
  active : Bool
  home : Int
  standby : Int
  next : Int
  target : Int

structure Sit where
  seats : List Seat
  bk : List Int

structure Stp where
  kind : Int
  tenant : Int
  cell : Int

def seD (x : Seat) : List D := [.bool x.active, i64 x.home, i64 x.standby, i64 x.next, i64 x.target]

def rSe (l : List Seat) : List (List D) := l.map seD

theorem rSe_len (l : List Seat) : (rSe l).length = l.length := by simp [rSe]

theorem rSe_get {l : List Seat} {i : Nat} {x : Seat} (h : l[i]? = some x) : (rSe l)[i]? = some (seD x) := by simp [rSe, h]

theorem rSe_set (l : List Seat) (i : Nat) (x : Seat) : (rSe l).set i (seD x) = rSe (l.set i x) := by simp [rSe, List.map_set]

theorem rSe_app (l : List Seat) (t : Seat) : rSe l ++ [seD t] = rSe (l ++ [t]) := by simp [rSe]

def stD (x : Stp) : List D := [i64 x.kind, i64 x.tenant, i64 x.cell]

def rSt (l : List Stp) : List (List D) := l.map stD

theorem rSt_len (l : List Stp) : (rSt l).length = l.length := by simp [rSt]

theorem rSt_get {l : List Stp} {i : Nat} {x : Stp} (h : l[i]? = some x) : (rSt l)[i]? = some (stD x) := by simp [rSt, h]

theorem rSt_ok (l : List Stp) : ∀ r ∈ rSt l, r.length = 3 ∧ ∀ d ∈ r, d.scalar = true := by
  intro r hr
  obtain ⟨x, _, rfl⟩ := List.mem_map.1 hr
  simp [stD, D.scalar]

theorem rSt_app (l : List Stp) (t : Stp) : rSt l ++ [stD t] = rSt (l ++ [t]) := by simp [rSt]

theorem rSt_apps (l m : List Stp) : rSt l ++ rSt m = rSt (l ++ m) := by simp [rSt]

abbrev stpV (x : Stp) : AV := .agg [.d (i64 x.kind), .d (i64 x.tenant), .d (i64 x.cell)]

def seatOf (t : TS) : Seat := ⟨t.placed && !t.shed, t.home, t.standby, t.next, t.target⟩

/-- the situation ahead of the first step -/
def sit0 (c : Cfg) (s : St) : Sit := ⟨s.ts.map seatOf, bkd c s.ts⟩

abbrev sitH (c : Cfg) (s : St) (ty : Nat) (se : List Seat) (bk : List Int) : List HObj := [.box [.d (i64 c.regions), .d (.sl (r1 c.zones)), .d (.sl (r2 c.cells)), .d (.sl (rT c.tenants)), .d (.sl (r2 c.versions)), .d (.sl (r1 c.replicas)), .d (.sl (r1 c.observers)), .d (i64 c.blast), .d (i64 c.lease), .d (i64 c.bake),
  .d (i64 s.tick), .d (i64 s.count), .d (.sl (rTS s.ts)), .d (.sl (rCS s.cs)), .d (i64 s.proven), .d (i64 s.evac), .d (i64 s.low), .d (i64 s.high), .gs 1, .gs 2], .arr ty (rSe se), .arr 3 (r1 bk)]

/-- a cell that may become a home -/
def usableP (c : Cfg) (s : St) (k : Int) : Bool :=
  if 0 ≤ k ∧ k < c.cells.length then
    match s.cs[k.toNat]? with
    | some x => decide (x.mode = 1) && (decide (x.running = x.wanted) && (decide (0 ≤ regionOf c k) && !bit s.evac (regionOf c k)))
    | none => false
  else false

theorem regionOf_in {c : Cfg} (h : Laid c) {k : Int} (h0 : 0 ≤ k) (h1 : k < c.cells.length) : 0 ≤ regionOf c k ∧ regionOf c k < c.regions := by
  obtain ⟨x, hx⟩ := get_int (l := c.cells) h0 (by omega)
  have hz := h.cell x (List.mem_of_getElem? hx)
  obtain ⟨z, hzz⟩ := get_int (l := c.zones) hz.1 (by omega)
  have := h.zone z (List.mem_of_getElem? hzz)
  have e : regionOf c k = z := by simp [regionOf, regionOfZone, zoneOf, h0, hx, hz.1, hzz]
  omega

set_option maxRecDepth 100000 in
theorem usable_e (c : Cfg) (s : St) (k : Int) (hg : Good c) (hn : s.cs.length = c.cells.length) : CallsH Tryz.prog 84 [cfgV c, stV s, I k] [] (B (usableP c s k)) [] := by
  have l1 := r2_len c.cells
  have l2 := rCS_len s.cs
  have hC := hg.cells
  by_cases hk : 0 ≤ k ∧ k < c.cells.length
  · obtain ⟨⟨m, ru, wa, si⟩, hx⟩ := get_int (l := s.cs) hk.1 (by omega)
    have hr := regionOf_in hg.laid hk.1 hk.2
    have hR := hg.regions
    have e : usableP c s k = (decide (m = 1) && (decide (ru = wa) && (decide (0 ≤ regionOf c k) && !bit s.evac (regionOf c k)))) := by simp [usableP, hk, hx]
    rw [e]
    refine callsR_of tab mixed Tryz.func84 rfl (by decide) rfl rfl ?_
    conv => whnf
    refine spD (fun h1 => ?_) (fun h1 => ?_) <;> conv => whnf
    · omega
    refine spD (fun h2 => ?_) (fun h2 => ?_) <;> conv => whnf
    · omega
    refine spD (fun h3 => ?_) (fun h3 => ?_) <;> conv => whnf
    · omega
    refine ⟨by omega, _, rCS_get hx, ?_⟩
    conv => whnf
    refine ⟨_, _, regionOf_c c k hg.laid.cells hg.laid.zones, ?_⟩
    conv => whnf
    refine spE (fun h4 => ?_) (fun h4 => ?_) <;> conv => whnf
    · refine spE (fun h5 => ?_) (fun h5 => ?_) <;> conv => whnf
      · refine spD (fun h6 => ?_) (fun h6 => ?_) <;> conv => whnf
        · refine gvu h6 (by omega) ?_
          conv => whnf
          have h62 : regionOf c k < 62 := by omega
          refine ⟨h6, shr_eq h6 h62 ?_⟩
          conv => whnf
          refine .intro _ (and1 _) ?_
          conv => whnf
          refine ⟨[], rfl, ?_, trivial⟩
          dsimp only at h4 h5
          simp only [mtV, Cpl.valOf, mtC, eqD, bit, h4, h5, h6, h62, decide_true, Bool.true_and, true_and]
          have := Int.emod_two_eq (s.evac.fdiv (2 ^ (regionOf c k).toNat))
          rcases this with e | e <;> simp [e]
        · omega
      · exact ⟨[], rfl, by simp [mtV, Cpl.valOf, mtC, eqD, h5], trivial⟩
    · exact ⟨[], rfl, by simp [mtV, Cpl.valOf, mtC, eqD, h4], trivial⟩
  · have e : usableP c s k = false := by simp [usableP, hk]
    rw [e]
    refine callsR_of tab mixed Tryz.func84 rfl (by decide) rfl rfl ?_
    conv => whnf
    repeat' (first | (refine gv (by omega) (by omega) ?_; conv => whnf) | (refine ⟨by kernel_rfl, ?_⟩; conv => whnf) | (refine spD (fun _ => ?_) (fun _ => ?_) <;> conv => whnf) | (refine spN (fun _ => ?_) (fun _ => ?_) <;> conv => whnf) | (refine spE (fun _ => ?_) (fun _ => ?_) <;> conv => whnf) | (refine spNe (fun _ => ?_) (fun _ => ?_) <;> conv => whnf) | (refine gvu (by omega) (by omega) ?_; conv => whnf))
    all_goals first | exact ⟨[], rfl, ⟨rfl, rfl⟩, trivial⟩ | exact ⟨[], rfl, rfl, trivial⟩ | (exfalso; omega)

def usableT (c : Cfg) (s : St) (i : Int) : Bool :=
  if 0 ≤ i then
    match s.ts[i.toNat]? with
    | some t => t.placed && (!t.shed && usableP c s t.standby)
    | none => false
  else false

set_option maxRecDepth 100000 in
theorem usableT_e (c : Cfg) (s : St) (k : Int) (hg : Good c) (hn : s.cs.length = c.cells.length) (hm : s.ts.length = c.tenants.length) : CallsH Tryz.prog 57 [cfgV c, stV s, I k] [] (B (usableT c s k)) [] := by
  have l1 := rT_len c.tenants
  have l2 := rTS_len s.ts
  have hT := hg.tenants
  by_cases hk : 0 ≤ k ∧ k < c.tenants.length
  · obtain ⟨⟨t1, t2, t3, t4, t5, t6, t7, t8, t9, t10, t11, t12⟩, hx⟩ := get_int (l := s.ts) hk.1 (by omega)
    have e : usableT c s k = (t1 && (!t2 && usableP c s t4)) := by simp [usableT, hk, hx]
    rw [e]
    refine callsR_of tab mixed Tryz.func57 rfl (by decide) rfl rfl ?_
    conv => whnf
    refine spD (fun h1 => ?_) (fun h1 => ?_) <;> conv => whnf
    · omega
    refine spD (fun h2 => ?_) (fun h2 => ?_) <;> conv => whnf
    · omega
    refine spD (fun h3 => ?_) (fun h3 => ?_) <;> conv => whnf
    · omega
    refine ⟨by omega, _, rTS_get hx, ?_⟩
    conv => whnf
    cases t1
    · conv => whnf
      refine ⟨fun h => (by cases h), fun _ => ?_⟩
      conv => whnf
      exact ⟨[], rfl, by simp [mtV, Cpl.valOf, mtC, eqD], trivial⟩
    · conv => whnf
      refine ⟨fun _ => ?_, fun h => (by cases h)⟩
      conv => whnf
      cases t2
      · refine ⟨fun _ => ?_, fun h => (by cases h)⟩
        conv => whnf
        refine ⟨_, _, usable_e c s t4 hg hn, ?_⟩
        conv => whnf
        exact ⟨[], rfl, by simp [mtV, Cpl.valOf, mtC, eqD], trivial⟩
      · refine ⟨fun h => (by cases h), fun _ => ?_⟩
        conv => whnf
        exact ⟨[], rfl, by simp [mtV, Cpl.valOf, mtC, eqD], trivial⟩
  · have e : usableT c s k = false := by
      unfold usableT
      split
      · rw [List.getElem?_eq_none (by omega)]
      · rfl
    rw [e]
    refine callsR_of tab mixed Tryz.func57 rfl (by decide) rfl rfl ?_
    conv => whnf
    repeat' (first | (refine gv (by omega) (by omega) ?_; conv => whnf) | (refine ⟨by kernel_rfl, ?_⟩; conv => whnf) | (refine spD (fun _ => ?_) (fun _ => ?_) <;> conv => whnf) | (refine spN (fun _ => ?_) (fun _ => ?_) <;> conv => whnf) | (refine spE (fun _ => ?_) (fun _ => ?_) <;> conv => whnf) | (refine spNe (fun _ => ?_) (fun _ => ?_) <;> conv => whnf) | (refine gvu (by omega) (by omega) ?_; conv => whnf))
    all_goals first | exact ⟨[], rfl, ⟨rfl, rfl⟩, trivial⟩ | exact ⟨[], rfl, rfl, trivial⟩ | (exfalso; omega)

/-! candidates -/

def candP (c : Cfg) (s : St) (region x : Int) : Bool :=
  match s.ts[x.toNat]? with
  | some t => t.placed && (!t.shed && decide (regionOf c t.home = region))
  | none => false

def cand (c : Cfg) (s : St) (region : Int) : List Int := (order c).filter (candP c s region)

theorem order_in (c : Cfg) {i : Nat} {x : Int} (h : (order c)[i]? = some x) : 0 ≤ x ∧ x < c.tenants.length := ((order_ok c).2.2 x).1 (List.mem_of_getElem? h)

theorem filt_le {α : Type} (f : α → Bool) (l : List α) (i : Nat) : ((l.take i).filter f).length ≤ l.length := by
  have h1 := List.length_filter_le f (l.take i)
  have h2 := List.length_take_le' i l
  omega

set_option maxRecDepth 100000 in
theorem candPl_c (c : Cfg) (s : St) (r : Int) (w : WG c) (hm : s.ts.length = c.tenants.length) : CallsH Tryz.prog 33 [cfgV c, stV s, I r] [] (.c (.gs 0)) [.arr 3 (r1 (cand c s r))] := by
  have l2 := rTS_len s.ts
  have hT := w.few
  have hg := w.good
  have ho := (order_ok c).1
  have l1 := r1_len (order c)
  refine callsR_of tab mixed Tryz.func33 rfl (by decide) rfl rfl ?_
  conv => whnf
  refine ⟨_, _, (order_c c (by omega)).frozen, ?_⟩
  conv => whnf
  refine loopN tab mixed (fun i => i ≤ (order c).length) (order c).length (fun i => [(14, I i), (7, .c (.gs 50))]) (fun i => [(50, .arr 3 (r1 (((order c).take i).filter (candP c s r))))]) 51 [(50, none)] (by omega) ?_
  conv => whnf
  refine ⟨?_, fun i hi => ?_⟩
  · repeat' (first | exact trivial | rfl | refine And.intro ?_ ?_)
    all_goals (conv => whnf)
    repeat' (first | exact trivial | rfl | refine And.intro ?_ ?_)
  conv => whnf
  refine spD (fun h => ?_) (fun h => ?_) <;> conv => whnf
  · have hi' : i < (order c).length := by omega
    obtain ⟨x, hx⟩ := get_of hi'
    have hts := take_succ_of hx
    have hxi := order_in c hx
    have hfl := filt_le (candP c s r) (order c) i
    have hf1 := r1_len (((order c).take i).filter (candP c s r))
    obtain ⟨⟨t1, t2, t3, t4, t5, t6, t7, t8, t9, t10, t11, t12⟩, hy⟩ := get_int (l := s.ts) hxi.1 (by omega)
    have e : candP c s r x = (t1 && (!t2 && decide (regionOf c t3 = r))) := by simp [candP, hy]
    refine ⟨by omega, _, r1_get hx, ?_⟩
    conv => whnf
    refine spD (fun h1 => ?_) (fun h1 => ?_) <;> conv => whnf
    · omega
    refine spD (fun h2 => ?_) (fun h2 => ?_) <;> conv => whnf
    · omega
    refine ⟨by omega, _, rTS_get hy, ?_⟩
    conv => whnf
    have no : candP c s r x = false → ((order c).take (i + 1)).filter (candP c s r) = ((order c).take i).filter (candP c s r) := fun hq => by rw [hts, List.filter_append]; simp [hq]
    cases t1
    · refine ⟨fun h => (by cases h), fun _ => ?_⟩
      conv => whnf
      refine gv (by first | omega | (simp only []; omega) | (simp; omega)) (by first | omega | (simp only []; omega) | (simp; omega)) ?_
      conv => whnf
      refine ⟨⟨hi', hi'⟩, [(50, some 50)], ?_⟩
      repeat' (first | exact trivial | rfl | refine And.intro ?_ ?_)
      all_goals (conv => whnf)
      repeat' (first | exact trivial | rfl | refine And.intro ?_ ?_)
      rw [no (by rw [e]; rfl)]
    refine ⟨fun _ => ?_, fun h => (by cases h)⟩
    conv => whnf
    cases t2
    rotate_left 1
    · refine ⟨fun h => (by cases h), fun _ => ?_⟩
      conv => whnf
      refine gv (by first | omega | (simp only []; omega) | (simp; omega)) (by first | omega | (simp only []; omega) | (simp; omega)) ?_
      conv => whnf
      refine ⟨⟨hi', hi'⟩, [(50, some 50)], ?_⟩
      repeat' (first | exact trivial | rfl | refine And.intro ?_ ?_)
      all_goals (conv => whnf)
      repeat' (first | exact trivial | rfl | refine And.intro ?_ ?_)
      rw [no (by rw [e]; rfl)]
    refine ⟨fun _ => ?_, fun h => (by cases h)⟩
    conv => whnf
    refine ⟨_, _, regionOf_c c t3 hg.laid.cells hg.laid.zones, ?_⟩
    conv => whnf
    refine spE (fun h3 => ?_) (fun h3 => ?_) <;> conv => whnf
    · refine ⟨row1 _ rfl, ⟨by simp; omega⟩, ?_⟩
      conv => whnf
      refine gv (by first | omega | (simp only []; omega) | (simp; omega)) (by first | omega | (simp only []; omega) | (simp; omega)) ?_
      conv => whnf
      refine ⟨⟨hi', hi'⟩, [(50, some 53)], ?_⟩
      repeat' (first | exact trivial | rfl | refine And.intro ?_ ?_)
      all_goals (conv => whnf)
      repeat' (first | exact trivial | rfl | refine And.intro ?_ ?_)
      rw [hts, List.filter_append]
      have : candP c s r x = true := by rw [e]; simp [h3]
      simp [this]
      exact (r1_app _ _).symm
    · refine gv (by first | omega | (simp only []; omega) | (simp; omega)) (by first | omega | (simp only []; omega) | (simp; omega)) ?_
      conv => whnf
      refine ⟨⟨hi', hi'⟩, [(50, some 50)], ?_⟩
      repeat' (first | exact trivial | rfl | refine And.intro ?_ ?_)
      all_goals (conv => whnf)
      repeat' (first | exact trivial | rfl | refine And.intro ?_ ?_)
      rw [no (by rw [e]; simp [h3])]
  · have hi' : i = (order c).length := by omega
    refine ⟨[(0, some 50)], rfl, rfl, ⟨rfl, ?_⟩, trivial⟩
    unfold cand
    rw [hi', List.take_length]

set_option maxRecDepth 100000 in
theorem candCk_c (c : Cfg) (s : St) (r : Int) (w : WG c) (hm : s.ts.length = c.tenants.length) : CallsH Tryz.prog 36 [cfgV c, stV s, I r] [] (.c (.gs 0)) [.arr 3 (r1 (cand c s r))] := by
  have l2 := rTS_len s.ts
  have hT := w.few
  have hg := w.good
  have ho := (order_ok c).1
  have l1 := r1_len (order c)
  refine callsR_of tab mixed Tryz.func36 rfl (by decide) rfl rfl ?_
  conv => whnf
  refine ⟨_, _, (order_c c (by omega)).frozen, ?_⟩
  conv => whnf
  refine loopN tab mixed (fun i => i ≤ (order c).length) (order c).length (fun i => [(14, I i), (7, .c (.gs 50))]) (fun i => [(50, .arr 3 (r1 (((order c).take i).filter (candP c s r))))]) 51 [(50, none)] (by omega) ?_
  conv => whnf
  refine ⟨?_, fun i hi => ?_⟩
  · repeat' (first | exact trivial | rfl | refine And.intro ?_ ?_)
    all_goals (conv => whnf)
    repeat' (first | exact trivial | rfl | refine And.intro ?_ ?_)
  conv => whnf
  refine spD (fun h => ?_) (fun h => ?_) <;> conv => whnf
  · have hi' : i < (order c).length := by omega
    obtain ⟨x, hx⟩ := get_of hi'
    have hts := take_succ_of hx
    have hxi := order_in c hx
    have hfl := filt_le (candP c s r) (order c) i
    have hf1 := r1_len (((order c).take i).filter (candP c s r))
    obtain ⟨⟨t1, t2, t3, t4, t5, t6, t7, t8, t9, t10, t11, t12⟩, hy⟩ := get_int (l := s.ts) hxi.1 (by omega)
    have e : candP c s r x = (t1 && (!t2 && decide (regionOf c t3 = r))) := by simp [candP, hy]
    refine ⟨by omega, _, r1_get hx, ?_⟩
    conv => whnf
    refine spD (fun h1 => ?_) (fun h1 => ?_) <;> conv => whnf
    · omega
    refine spD (fun h2 => ?_) (fun h2 => ?_) <;> conv => whnf
    · omega
    refine ⟨by omega, _, rTS_get hy, ?_⟩
    conv => whnf
    have no : candP c s r x = false → ((order c).take (i + 1)).filter (candP c s r) = ((order c).take i).filter (candP c s r) := fun hq => by rw [hts, List.filter_append]; simp [hq]
    cases t1
    · refine ⟨fun h => (by cases h), fun _ => ?_⟩
      conv => whnf
      refine gv (by first | omega | (simp only []; omega) | (simp; omega)) (by first | omega | (simp only []; omega) | (simp; omega)) ?_
      conv => whnf
      refine ⟨⟨hi', hi'⟩, [(50, some 50)], ?_⟩
      repeat' (first | exact trivial | rfl | refine And.intro ?_ ?_)
      all_goals (conv => whnf)
      repeat' (first | exact trivial | rfl | refine And.intro ?_ ?_)
      rw [no (by rw [e]; rfl)]
    refine ⟨fun _ => ?_, fun h => (by cases h)⟩
    conv => whnf
    cases t2
    rotate_left 1
    · refine ⟨fun h => (by cases h), fun _ => ?_⟩
      conv => whnf
      refine gv (by first | omega | (simp only []; omega) | (simp; omega)) (by first | omega | (simp only []; omega) | (simp; omega)) ?_
      conv => whnf
      refine ⟨⟨hi', hi'⟩, [(50, some 50)], ?_⟩
      repeat' (first | exact trivial | rfl | refine And.intro ?_ ?_)
      all_goals (conv => whnf)
      repeat' (first | exact trivial | rfl | refine And.intro ?_ ?_)
      rw [no (by rw [e]; rfl)]
    refine ⟨fun _ => ?_, fun h => (by cases h)⟩
    conv => whnf
    refine ⟨_, _, regionOf_c c t3 hg.laid.cells hg.laid.zones, ?_⟩
    conv => whnf
    refine spE (fun h3 => ?_) (fun h3 => ?_) <;> conv => whnf
    · refine ⟨row1 _ rfl, ⟨by simp; omega⟩, ?_⟩
      conv => whnf
      refine gv (by first | omega | (simp only []; omega) | (simp; omega)) (by first | omega | (simp only []; omega) | (simp; omega)) ?_
      conv => whnf
      refine ⟨⟨hi', hi'⟩, [(50, some 53)], ?_⟩
      repeat' (first | exact trivial | rfl | refine And.intro ?_ ?_)
      all_goals (conv => whnf)
      repeat' (first | exact trivial | rfl | refine And.intro ?_ ?_)
      rw [hts, List.filter_append]
      have : candP c s r x = true := by rw [e]; simp [h3]
      simp [this]
      exact (r1_app _ _).symm
    · refine gv (by first | omega | (simp only []; omega) | (simp; omega)) (by first | omega | (simp only []; omega) | (simp; omega)) ?_
      conv => whnf
      refine ⟨⟨hi', hi'⟩, [(50, some 50)], ?_⟩
      repeat' (first | exact trivial | rfl | refine And.intro ?_ ?_)
      all_goals (conv => whnf)
      repeat' (first | exact trivial | rfl | refine And.intro ?_ ?_)
      rw [no (by rw [e]; simp [h3])]
  · have hi' : i = (order c).length := by omega
    refine ⟨[(0, some 50)], rfl, rfl, ⟨rfl, ?_⟩, trivial⟩
    unfold cand
    rw [hi', List.take_length]

end Go.Proofs.YtncckpieemmmfaaGreat
