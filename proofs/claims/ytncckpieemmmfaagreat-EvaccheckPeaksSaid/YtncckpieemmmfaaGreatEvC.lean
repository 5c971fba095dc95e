/- Contracts: the first situation (evacplan.begin, evaccheck.start). Conditions: those ahead of each theorem. -/
import Derived.Test.YtncckpieemmmfaaGreatEvB
namespace Go.Proofs.YtncckpieemmmfaaGreat
open Go Go.Cpl

theorem bkF_bd {c : Cfg} (hg : Good c) (ts : List TS) (k : Int) : ∀ m, 0 ≤ bkF c ts m k ∧ bkF c ts m k ≤ 262144 * m
  | 0 => by simp [bkF]
  | m + 1 => by
    have ih := bkF_bd hg ts k m
    rw [bkF]
    have hl : 0 ≤ loadOf c m ∧ loadOf c m ≤ 65536 ∧ 0 ≤ shadowOf c m ∧ shadowOf c m ≤ 65536 := by
      unfold loadOf shadowOf
      cases h : c.tenants[m]? with
      | none => simp
      | some t =>
        have := hg.ten t (List.mem_of_getElem? h)
        unfold okT at this
        simp; omega
    split
    · rename_i t _
      have := con_rng (ld := loadOf c m) (sh := shadowOf c m) (by omega) (by omega) t k
      omega
    · omega

theorem bkd_bd {c : Cfg} (w : WG c) {s : St} (h : StOk c s) : Sz c 100000000 (s.ts.map seatOf) (bkd c s.ts) := by
  have hn := h.pre.nt
  have hT := w.few
  refine ⟨by simp [hn], cl_len _ _, fun x hx => ?_, by omega⟩
  obtain ⟨k, hk⟩ := List.mem_iff_getElem?.1 hx
  have hlt := (List.getElem?_eq_some_iff.1 hk).1
  rw [cl_len] at hlt
  rw [cl_get hlt] at hk
  cases hk
  have := bkF_bd w.good s.ts k s.ts.length
  omega

theorem seated0 {c : Cfg} {s : St} : Seated s (sit0 c s) := by
  intro i t ht ha
  simp only [sit0, List.getElem?_map, Option.map_eq_some_iff] at ht
  obtain ⟨x, hx, rfl⟩ := ht
  simp only [seatOf, Bool.and_eq_true, Bool.not_eq_true'] at ha
  exact ⟨x, hx, ha.1, ha.2, .inl rfl⟩

theorem map_take_succ {α β : Type} {l : List α} {f : α → β} {i : Nat} {x : α} (h : l[i]? = some x) : (l.take (i + 1)).map f = (l.take i).map f ++ [f x] := by
  rw [take_succ_of h, List.map_append]; rfl

theorem r1_okE (l : List Int) : ∀ r ∈ r1 l, r.length = 1 ∧ ∀ d ∈ r, d.scalar = true := by
  intro r hr
  obtain ⟨x, _, rfl⟩ := List.mem_map.1 hr
  simp [D.scalar]

/-- a list copied over one of its length -/
theorem copy_over {l : List Int} {rows : List (List D)} (h : rows.length = l.length) : copyRows rows 0 rows.length (r1 l) = r1 l := by
  have h1 := r1_len l
  unfold copyRows
  rw [List.take_zero, List.nil_append, List.take_of_length_le (by omega), List.drop_eq_nil_of_le (by omega), List.append_nil]

set_option maxHeartbeats 1000000 in
set_option maxRecDepth 100000 in
theorem begin_c (c : Cfg) (s : St) (w : WG c) (h : StOk c s) : CallsH Tryz.prog 32 [cfgV c, stV s] [] (.c (.ptr 0 0 0)) (sitH c s 138 (s.ts.map seatOf) (bkd c s.ts)) := by
  have l1 := rT_len c.tenants
  have l2 := rTS_len s.ts
  have l3 := r2_len c.cells
  have hn := h.pre.nt
  have hT := w.few
  have hg := w.good
  have hC := hg.cells
  have hmin : (if ((rTS s.ts).length : Int) < ((rT c.tenants).length : Int) then ((rTS s.ts).length : Int) else ((rT c.tenants).length : Int)) = s.ts.length := by split <;> omega
  refine callsR_of tab mixed Tryz.func32 rfl (by decide) rfl rfl ?_
  conv => whnf
  refine ⟨fun r hr => (rTS_ok _ r hr).1, ?_⟩
  conv => whnf
  refine ⟨by omega, by omega, ?_⟩
  conv => whnf
  have htk2 : List.drop 0 (List.take (if ((rTS s.ts).length : Int) < ((rT c.tenants).length : Int) then ((rTS s.ts).length : Int) else ((rT c.tenants).length : Int)).toNat (rTS s.ts)) = rTS s.ts := by
    rw [hmin, List.take_of_length_le (by omega)]; rfl
  have htk : ((List.drop 0 (List.take (if ((rTS s.ts).length : Int) < ((rT c.tenants).length : Int) then ((rTS s.ts).length : Int) else ((rT c.tenants).length : Int)).toNat (rTS s.ts))).length : Int) = s.ts.length := by rw [htk2, l2]
  refine loopN tab mixed (fun i => i ≤ s.ts.length) s.ts.length (fun i => [(23, I i)]) (fun i => [(2, .box [.d (i64 c.regions), .d (.sl (r1 c.zones)), .d (.sl (r2 c.cells)), .d (.sl (rT c.tenants)), .d (.sl (r2 c.versions)), .d (.sl (r1 c.replicas)), .d (.sl (r1 c.observers)), .d (i64 c.blast), .d (i64 c.lease), .d (i64 c.bake), .d (i64 s.tick), .d (i64 s.count), .d (.sl (rTS s.ts)), .d (.sl (rCS s.cs)), .d (i64 s.proven), .d (i64 s.evac), .d (i64 s.low), .d (i64 s.high), .gs 50, .ns]), (50, .arr 138 (rSe ((s.ts.take i).map seatOf)))]) 51 [(2, some 2), (50, none)] (by omega) ?_
  conv => whnf
  refine ⟨?_, fun i hi => ?_⟩
  · repeat' (first | exact trivial | rfl | refine And.intro ?_ ?_)
    all_goals (conv => whnf)
    repeat' (first | exact trivial | rfl | refine And.intro ?_ ?_)
  conv => whnf
  refine spD (fun h1 => ?_) (fun h1 => ?_)
  · rw [htk] at h1
    have hi' : i < s.ts.length := by omega
    obtain ⟨⟨t1, t2, t3, t4, t5, t6, t7, t8, t9, t10, t11, t12⟩, hx⟩ := get_of hi'
    have hts := map_take_succ (f := seatOf) hx
    have htl : ((s.ts.take i).map seatOf).length ≤ 12 := by have := List.length_take_le' i s.ts; simp; omega
    conv => whnf
    refine ⟨by omega, _, by rw [htk2]; exact rTS_get hx, ?_⟩
    conv => whnf
    refine ⟨by kernel_rfl, ?_⟩
    conv => whnf
    cases t1
    · refine ⟨fun q => (by cases q), fun _ => ?_⟩
      conv => whnf
      refine ⟨by simp [D.scalar], ⟨by simp [rSe]; omega⟩, ?_⟩
      conv => whnf
      refine gv (by first | omega | (simp only []; omega) | (simp; omega)) (by first | omega | (simp only []; omega) | (simp; omega)) ?_
      conv => whnf
      refine ⟨⟨hi', hi'⟩, [(2, some 2), (50, some 53)], ?_⟩
      repeat' (first | exact trivial | rfl | refine And.intro ?_ ?_)
      all_goals (conv => whnf)
      repeat' (first | exact trivial | rfl | refine And.intro ?_ ?_)
      rw [hts]
      exact (rSe_app _ _).symm
    · refine ⟨fun _ => ?_, fun q => (by cases q)⟩
      conv => whnf
      refine ⟨by simp [D.scalar], ⟨by simp [rSe]; omega⟩, ?_⟩
      conv => whnf
      refine gv (by first | omega | (simp only []; omega) | (simp; omega)) (by first | omega | (simp only []; omega) | (simp; omega)) ?_
      conv => whnf
      refine ⟨⟨hi', hi'⟩, [(2, some 2), (50, some 53)], ?_⟩
      repeat' (first | exact trivial | rfl | refine And.intro ?_ ?_)
      all_goals (conv => whnf)
      repeat' (first | exact trivial | rfl | refine And.intro ?_ ?_)
      rw [hts]
      exact (rSe_app _ _).symm
  · rw [htk] at h1
    have hi' : i = s.ts.length := by omega
    subst hi'
    conv => whnf
    refine ⟨by omega, by omega, ⟨by omega⟩, ?_⟩
    conv => whnf
    refine ⟨by kernel_rfl, ?_⟩
    conv => whnf
    refine ⟨_, _, loadBooked_c c s hg hn, ?_⟩
    conv => whnf
    refine ⟨r1_okE _, ?_⟩
    conv => whnf
    refine ⟨[(0, some 2), (1, some 50), (2, some 51)], ?_⟩
    repeat' (first | exact trivial | rfl | refine And.intro ?_ ?_)
    all_goals (conv => whnf)
    repeat' (first | exact trivial | rfl | refine And.intro ?_ ?_)
    · rw [List.take_length]
    · refine (copy_over ?_).symm
      rw [List.length_replicate, cl_len]; omega

set_option maxHeartbeats 1000000 in
set_option maxRecDepth 100000 in
theorem start_c (c : Cfg) (s : St) (w : WG c) (h : StOk c s) : CallsH Tryz.prog 37 [cfgV c, stV s] [] (.c (.ptr 0 0 0)) (sitH c s 102 (s.ts.map seatOf) (bkd c s.ts)) := by
  have l1 := rT_len c.tenants
  have l2 := rTS_len s.ts
  have l3 := r2_len c.cells
  have hn := h.pre.nt
  have hT := w.few
  have hg := w.good
  have hC := hg.cells
  have hmin : (if ((rTS s.ts).length : Int) < ((rT c.tenants).length : Int) then ((rTS s.ts).length : Int) else ((rT c.tenants).length : Int)) = s.ts.length := by split <;> omega
  refine callsR_of tab mixed Tryz.func37 rfl (by decide) rfl rfl ?_
  conv => whnf
  refine loopN tab mixed (fun i => i ≤ s.ts.length) s.ts.length (fun i => [(6, I i)]) (fun i => [(2, .box [.d (i64 c.regions), .d (.sl (r1 c.zones)), .d (.sl (r2 c.cells)), .d (.sl (rT c.tenants)), .d (.sl (r2 c.versions)), .d (.sl (r1 c.replicas)), .d (.sl (r1 c.observers)), .d (i64 c.blast), .d (i64 c.lease), .d (i64 c.bake), .d (i64 s.tick), .d (i64 s.count), .d (.sl (rTS s.ts)), .d (.sl (rCS s.cs)), .d (i64 s.proven), .d (i64 s.evac), .d (i64 s.low), .d (i64 s.high), .gs 50, .ns]), (50, .arr 102 (rSe ((s.ts.take i).map seatOf)))]) 51 [(2, some 2), (50, none)] (by omega) ?_
  conv => whnf
  refine ⟨?_, fun i hi => ?_⟩
  · repeat' (first | exact trivial | rfl | refine And.intro ?_ ?_)
    all_goals (conv => whnf)
    repeat' (first | exact trivial | rfl | refine And.intro ?_ ?_)
  conv => whnf
  refine spD (fun h1 => ?_) (fun h1 => ?_)
  · rw [hmin] at h1
    have hi' : i < s.ts.length := by omega
    obtain ⟨⟨t1, t2, t3, t4, t5, t6, t7, t8, t9, t10, t11, t12⟩, hx⟩ := get_of hi'
    have hts := map_take_succ (f := seatOf) hx
    have htl : ((s.ts.take i).map seatOf).length ≤ 12 := by have := List.length_take_le' i s.ts; simp; omega
    conv => whnf
    refine ⟨by omega, _, rTS_get hx, ?_⟩
    conv => whnf
    refine ⟨by kernel_rfl, ?_⟩
    conv => whnf
    cases t1
    · refine ⟨fun q => (by cases q), fun _ => ?_⟩
      conv => whnf
      refine ⟨by simp [D.scalar], ⟨by simp [rSe]; omega⟩, ?_⟩
      conv => whnf
      refine gv (by first | omega | (simp only []; omega) | (simp; omega)) (by first | omega | (simp only []; omega) | (simp; omega)) ?_
      conv => whnf
      refine ⟨⟨hi', hi'⟩, [(2, some 2), (50, some 53)], ?_⟩
      repeat' (first | exact trivial | rfl | refine And.intro ?_ ?_)
      all_goals (conv => whnf)
      repeat' (first | exact trivial | rfl | refine And.intro ?_ ?_)
      rw [hts]
      exact (rSe_app _ _).symm
    · refine ⟨fun _ => ?_, fun q => (by cases q)⟩
      conv => whnf
      refine ⟨by simp [D.scalar], ⟨by simp [rSe]; omega⟩, ?_⟩
      conv => whnf
      refine gv (by first | omega | (simp only []; omega) | (simp; omega)) (by first | omega | (simp only []; omega) | (simp; omega)) ?_
      conv => whnf
      refine ⟨⟨hi', hi'⟩, [(2, some 2), (50, some 53)], ?_⟩
      repeat' (first | exact trivial | rfl | refine And.intro ?_ ?_)
      all_goals (conv => whnf)
      repeat' (first | exact trivial | rfl | refine And.intro ?_ ?_)
      rw [hts]
      exact (rSe_app _ _).symm
  · rw [hmin] at h1
    have hi' : i = s.ts.length := by omega
    subst hi'
    conv => whnf
    refine ⟨by omega, by omega, ⟨by omega⟩, ?_⟩
    conv => whnf
    refine ⟨by kernel_rfl, ?_⟩
    conv => whnf
    refine ⟨_, _, loadBooked_c c s hg hn, ?_⟩
    conv => whnf
    refine ⟨r1_okE _, ?_⟩
    conv => whnf
    refine ⟨[(0, some 2), (1, some 50), (2, some 51)], ?_⟩
    repeat' (first | exact trivial | rfl | refine And.intro ?_ ?_)
    all_goals (conv => whnf)
    repeat' (first | exact trivial | rfl | refine And.intro ?_ ?_)
    · rw [List.take_length]
    · refine (copy_over ?_).symm
      rw [List.length_replicate, cl_len]; omega

end Go.Proofs.YtncckpieemmmfaaGreat
