/- Contracts: what the functions of the reference of health return and leave. Conditions: those ahead of each theorem. -/
import Derived.Test.YtladepmfgbfkpaaHealth3
namespace Go.Proofs.Ytladepmfgbfkpaa
open Go Go.Cpl

def rR (l : List Rep) : List (List D) := l.map repD

theorem rR_len (l : List Rep) : (rR l).length = l.length := by simp [rR]

theorem rR_get {l : List Rep} {i : Nat} {x : Rep} (h : l[i]? = some x) : (rR l)[i]? = some (repD x) := by simp [rR, h]

theorem rR_app (l : List Rep) (x : Rep) : rR l ++ [repD x] = rR (l ++ [x]) := by simp [rR]

theorem row4 (x : Rep) : ∀ r ∈ [repD x], r.length = 4 ∧ ∀ d ∈ r, d.scalar = true := by simp [repD, D.scalar]

abbrev rBox (c : Cfg) (s : W23) (l v d : Nat) : HObj := .box [.d (i64 c.regions), .d (.sl (r1 c.zones)), .d (.sl (r2 c.cells)), .d (.sl (rT c.tenants)), .d (.sl (r2 c.versions)), .d (.sl (r1 c.replicas)), .d (.sl (r1 c.observers)), .d (i64 c.blast), .d (i64 c.lease), .d (i64 c.bake), .d (i64 s.age), .d (i64 s.hold), .d (i64 s.tick), .gs l, .gs v, .gs d]

abbrev rH (c : Cfg) (s : W23) : List HObj := [rBox c s 1 2 3, .arr 45 (rR s.reps), .arr 3 (r1 s.ver), .arr 3 (r1 s.dou)]

theorem more_c (bad all : Int) (hb : 0 ≤ bad ∧ bad ≤ 1000000) : CallsH Try.prog 57 [I bad, I all] [] (I (verdictOf bad all)) [] := by
  refine callsR_of tab mixed Try.func57 rfl (by decide) rfl rfl ?_
  conv => whnf
  refine spE (fun h1 => ?_) (fun h1 => ?_) <;> conv => whnf
  · exact ⟨[], rfl, ⟨rfl, by simp [verdictOf, h1]⟩, trivial⟩
  refine gv (by first | omega | (simp only []; omega) | (simp; omega)) (by first | omega | (simp only []; omega) | (simp; omega)) ?_
  conv => whnf
  refine spD (fun h2 => ?_) (fun h2 => ?_) <;> conv => whnf
  · exact ⟨[], rfl, ⟨rfl, by simp [verdictOf, h1, h2]⟩, trivial⟩
  · exact ⟨[], rfl, ⟨rfl, by simp [verdictOf, h1, h2]⟩, trivial⟩

theorem cellR_c (c : Cfg) (s : W23) (x : Int) : CallsH Try.prog 48 [.c (.ptr 0 0 0), I x] (rH c s) (I (verdAt s.ver x)) (rH c s) := by
  have hl := r1_len s.ver
  refine callsR_of tab mixed Try.func48 rfl (by decide) rfl rfl ?_
  conv => whnf
  refine spD (fun h1 => ?_) (fun h1 => ?_) <;> conv => whnf
  · refine ⟨[(0, some 0), (1, some 1), (2, some 2), (3, some 3)], rfl, ?_⟩
    repeat' (first | exact trivial | rfl | refine And.intro ?_ ?_)
    all_goals (conv => whnf)
    repeat' (first | exact trivial | rfl | refine And.intro ?_ ?_)
    rw [verdAt, if_neg (by omega)]
  refine spD (fun h2 => ?_) (fun h2 => ?_) <;> conv => whnf
  · refine ⟨[(0, some 0), (1, some 1), (2, some 2), (3, some 3)], rfl, ?_⟩
    repeat' (first | exact trivial | rfl | refine And.intro ?_ ?_)
    all_goals (conv => whnf)
    repeat' (first | exact trivial | rfl | refine And.intro ?_ ?_)
    rw [verdAt, if_pos (by omega), List.getElem?_eq_none (by omega)]; rfl
  · obtain ⟨y, hy⟩ := get_int (l := s.ver) (i := x) (by omega) (by omega)
    refine ⟨by omega, by omega, _, r1_get hy, ?_⟩
    conv => whnf
    refine ⟨[(0, some 0), (1, some 1), (2, some 2), (3, some 3)], rfl, ?_⟩
    repeat' (first | exact trivial | rfl | refine And.intro ?_ ?_)
    all_goals (conv => whnf)
    repeat' (first | exact trivial | rfl | refine And.intro ?_ ?_)
    rw [verdAt, if_pos (by omega), hy]; rfl

theorem zoneRf_c (c : Cfg) (s : W23) (z : Int) (h : WOk c s) : CallsH Try.prog 49 [.c (.ptr 0 0 0), I z] (rH c s) (I (zoneV c s.ver z)) (rH c s) := by
  have hC := h.laid.cells
  have hin := inZone_le c z
  have hr := r1_len (inZone c z)
  have hv := r1_len s.ver
  have hv0 := h.ver
  refine callsR_of tab mixed Try.func49 rfl (by decide) rfl rfl ?_
  conv => whnf
  refine ⟨_, _, refInZone_c c z h.laid, ?_⟩
  conv => whnf
  refine loopN tab mixed (fun i => i ≤ (inZone c z).length) (inZone c z).length (fun i => [(7, I i), (6, I (badIn s.ver ((inZone c z).take i)))]) (fun _ => []) 51 [] (by omega) ?_
  conv => whnf
  refine ⟨?_, fun i hi => ?_⟩
  · repeat' (first | exact trivial | rfl | refine And.intro ?_ ?_)
    all_goals (conv => whnf)
    repeat' (first | exact trivial | rfl | refine And.intro ?_ ?_)
  conv => whnf
  have hle : badIn s.ver ((inZone c z).take i) ≤ ((inZone c z).take i).length := cnt_le _ _
  have hle2 : ((inZone c z).take i).length ≤ i := List.length_take_le ..
  refine spD (fun h3 => ?_) (fun h3 => ?_) <;> conv => whnf
  · have hi' : i < (inZone c z).length := by omega
    obtain ⟨x, hx⟩ := get_of hi'
    have hb : badIn s.ver ((inZone c z).take (i + 1)) = badIn s.ver ((inZone c z).take i) + if decide (verdAt s.ver x = 2) then 1 else 0 := by
      rw [take_succ_of hx]; exact cnt_app _ _ _
    obtain ⟨k, hk1, hk2, _⟩ := upto_mem (List.mem_of_getElem? hx)
    obtain ⟨y, hy⟩ := get_int (l := s.ver) (i := x) (by omega) (by omega)
    have hva : verdAt s.ver x = y := by rw [verdAt, if_pos (by omega), hy]; rfl
    rw [hva] at hb
    refine ⟨by kernel_rfl, ?_⟩
    conv => whnf
    refine ⟨by omega, by omega, _, r1_get hx, ?_⟩
    conv => whnf
    refine ⟨by omega, by omega, _, r1_get hy, ?_⟩
    conv => whnf
    refine spE (fun h4 => ?_) (fun h4 => ?_) <;> conv => whnf
    · rw [decide_eq_true h4] at hb
      refine gv (by first | omega | (simp only []; omega) | (simp; omega)) (by first | omega | (simp only []; omega) | (simp; omega)) ?_
      conv => whnf
      refine gv (by first | omega | (simp only []; omega) | (simp; omega)) (by first | omega | (simp only []; omega) | (simp; omega)) ?_
      conv => whnf
      refine ⟨⟨hi', hi'⟩, [], ?_⟩
      repeat' (first | exact trivial | rfl | refine And.intro ?_ ?_)
      all_goals (conv => whnf)
      repeat' (first | exact trivial | rfl | refine And.intro ?_ ?_)
      simp only [if_true] at hb
      omega
    · rw [decide_eq_false h4] at hb
      refine gv (by first | omega | (simp only []; omega) | (simp; omega)) (by first | omega | (simp only []; omega) | (simp; omega)) ?_
      conv => whnf
      refine ⟨⟨hi', hi'⟩, [], ?_⟩
      repeat' (first | exact trivial | rfl | refine And.intro ?_ ?_)
      all_goals (conv => whnf)
      repeat' (first | exact trivial | rfl | refine And.intro ?_ ?_)
      simp only [Bool.false_eq_true, if_false] at hb
      omega
  · have hi' : i = (inZone c z).length := by omega
    refine ⟨_, _, more_c _ _ (by omega), ?_⟩
    conv => whnf
    refine ⟨[(0, some 0), (1, some 1), (2, some 2), (3, some 3)], rfl, ?_⟩
    repeat' (first | exact trivial | rfl | refine And.intro ?_ ?_)
    all_goals (conv => whnf)
    repeat' (first | exact trivial | rfl | refine And.intro ?_ ?_)
    rw [hi', List.take_length, hr]
    rfl

theorem zoneV_three {c : Cfg} {ver : List Int} {z : Int} : zoneV c ver z = 3 ↔ (inZone c z).length = 0 := by
  unfold zoneV verdictOf
  constructor
  · intro h
    by_cases h0 : ((inZone c z).length : Int) = 0
    · omega
    · rw [if_neg h0] at h
      split at h <;> omega
  · intro h
    rw [if_pos (by omega)]

theorem regionRf_c (c : Cfg) (s : W23) (g : Int) (h : WOk c s) : CallsH Try.prog 50 [.c (.ptr 0 0 0), I g] (rH c s) (I (regionV c s.ver g)) (rH c s) := by
  have hZ := h.laid.zones
  have hrz := r1_len c.zones
  refine callsR_of tab mixed Try.func50 rfl (by decide) rfl rfl ?_
  conv => whnf
  refine loopN tab mixed (fun i => i ≤ c.zones.length) c.zones.length (fun i => [(7, I i), (6, I (cntTo (inReg c g) i)), (5, I (cntTo (badReg c s.ver g) i))]) (fun _ => []) 51 [] (by omega) ?_
  conv => whnf
  refine ⟨?_, fun i hi => ?_⟩
  · repeat' (first | exact trivial | rfl | refine And.intro ?_ ?_)
    all_goals (conv => whnf)
    repeat' (first | exact trivial | rfl | refine And.intro ?_ ?_)
  conv => whnf
  have hle1 := cntTo_le (inReg c g) i
  have hle2 := cntTo_le (badReg c s.ver g) i
  refine spD (fun h3 => ?_) (fun h3 => ?_) <;> conv => whnf
  · have hi' : i < c.zones.length := by omega
    obtain ⟨x, hx⟩ := get_of hi'
    have hs1 : cntTo (inReg c g) (i + 1) = cntTo (inReg c g) i + if inReg c g i then 1 else 0 := rfl
    have hs2 : cntTo (badReg c s.ver g) (i + 1) = cntTo (badReg c s.ver g) i + if badReg c s.ver g i then 1 else 0 := rfl
    refine ⟨_, _, zoneRf_c c s i h, ?_⟩
    conv => whnf
    refine ⟨by omega, _, r1_get hx, ?_⟩
    conv => whnf
    refine spNe (fun h4 => ?_) (fun h4 => ?_) <;> conv => whnf
    · have n1 : inReg c g i = false := by simp [inReg, hx, h4]
      have n2 : badReg c s.ver g i = false := by simp [badReg, hx, h4]
      rw [n1] at hs1
      rw [n2] at hs2
      simp only [Bool.false_eq_true, if_false, Nat.add_zero] at hs1 hs2
      refine gv (by first | omega | (simp only []; omega) | (simp; omega)) (by first | omega | (simp only []; omega) | (simp; omega)) ?_
      conv => whnf
      refine ⟨⟨hi', hi'⟩, [], ?_⟩
      repeat' (first | exact trivial | rfl | refine And.intro ?_ ?_)
      all_goals (conv => whnf)
      repeat' (first | exact trivial | rfl | refine And.intro ?_ ?_)
      all_goals omega
    refine spE (fun h5 => ?_) (fun h5 => ?_) <;> conv => whnf
    · have h50 := zoneV_three.1 h5
      have n1 : inReg c g i = false := by simp only [inReg, decide_eq_false_iff_not]; omega
      have n2 : badReg c s.ver g i = false := by simp only [badReg, decide_eq_false_iff_not]; omega
      rw [n1] at hs1
      rw [n2] at hs2
      simp only [Bool.false_eq_true, if_false, Nat.add_zero] at hs1 hs2
      refine gv (by first | omega | (simp only []; omega) | (simp; omega)) (by first | omega | (simp only []; omega) | (simp; omega)) ?_
      conv => whnf
      refine ⟨⟨hi', hi'⟩, [], ?_⟩
      repeat' (first | exact trivial | rfl | refine And.intro ?_ ?_)
      all_goals (conv => whnf)
      repeat' (first | exact trivial | rfl | refine And.intro ?_ ?_)
      all_goals omega
    have h50 : (inZone c i).length ≠ 0 := fun e => h5 (zoneV_three.2 e)
    have n1 : inReg c g i = true := by simp only [inReg, decide_eq_true_eq]; exact ⟨by rw [hx, h4], h50⟩
    rw [n1] at hs1
    simp only [if_true] at hs1
    refine gv (by first | omega | (simp only []; omega) | (simp; omega)) (by first | omega | (simp only []; omega) | (simp; omega)) ?_
    conv => whnf
    refine spE (fun h6 => ?_) (fun h6 => ?_) <;> conv => whnf
    · have n2 : badReg c s.ver g i = true := by simp only [badReg, decide_eq_true_eq]; exact ⟨by rw [hx, h4], h50, h6⟩
      rw [n2] at hs2
      simp only [if_true] at hs2
      refine gv (by first | omega | (simp only []; omega) | (simp; omega)) (by first | omega | (simp only []; omega) | (simp; omega)) ?_
      conv => whnf
      refine gv (by first | omega | (simp only []; omega) | (simp; omega)) (by first | omega | (simp only []; omega) | (simp; omega)) ?_
      conv => whnf
      refine ⟨⟨hi', hi'⟩, [], ?_⟩
      repeat' (first | exact trivial | rfl | refine And.intro ?_ ?_)
      all_goals (conv => whnf)
      repeat' (first | exact trivial | rfl | refine And.intro ?_ ?_)
      all_goals omega
    · have n2 : badReg c s.ver g i = false := by simp only [badReg, decide_eq_false_iff_not]; exact fun hh => h6 hh.2.2
      rw [n2] at hs2
      simp only [Bool.false_eq_true, if_false, Nat.add_zero] at hs2
      refine gv (by first | omega | (simp only []; omega) | (simp; omega)) (by first | omega | (simp only []; omega) | (simp; omega)) ?_
      conv => whnf
      refine ⟨⟨hi', hi'⟩, [], ?_⟩
      repeat' (first | exact trivial | rfl | refine And.intro ?_ ?_)
      all_goals (conv => whnf)
      repeat' (first | exact trivial | rfl | refine And.intro ?_ ?_)
      all_goals omega
  · have hi' : i = c.zones.length := by omega
    refine ⟨_, _, more_c _ _ (by omega), ?_⟩
    conv => whnf
    refine ⟨[(0, some 0), (1, some 1), (2, some 2), (3, some 3)], rfl, ?_⟩
    repeat' (first | exact trivial | rfl | refine And.intro ?_ ?_)
    all_goals (conv => whnf)
    repeat' (first | exact trivial | rfl | refine And.intro ?_ ?_)
    rw [hi']
    rfl

theorem votes_take {age cell tick : Int} {b : Bool} {l : List Rep} {i : Nat} {x : Rep} (hx : l[i]? = some x) : votes age cell tick b (l.take (i + 1)) = votes age cell tick b (l.take i) + if vq age cell tick b x then 1 else 0 := by
  unfold votes
  rw [take_succ_of hx, List.countP_append]
  simp [List.countP_cons]

set_option maxRecDepth 100000 in
theorem votesR_c (c : Cfg) (s : W23) (cell tick : Int) (h : WOk c s) :
    CallsH Try.prog 18 [.c (.ptr 0 0 0), I cell, I tick] (rH c s) (.tup [.inl (.d (i64 (votes s.age cell tick false s.reps))), .inl (.d (i64 (votes s.age cell tick true s.reps)))]) (rH c s) := by
  have hfew := h.few
  have hrr := rR_len s.reps
  refine callsR_of tab mixed Try.func18 rfl (by decide) rfl rfl ?_
  conv => whnf
  refine loopN tab mixed (fun i => i ≤ s.reps.length) s.reps.length (fun i => [(10, I i), (8, I (votes s.age cell tick false (s.reps.take i))), (9, I (votes s.age cell tick true (s.reps.take i)))]) (fun _ => []) 51 [] (by omega) ?_
  conv => whnf
  refine ⟨?_, fun i hi => ?_⟩
  · repeat' (first | exact trivial | rfl | refine And.intro ?_ ?_)
    all_goals (conv => whnf)
    repeat' (first | exact trivial | rfl | refine And.intro ?_ ?_)
  conv => whnf
  refine spD (fun h2 => ?_) (fun h2 => ?_) <;> conv => whnf
  · have hi' : i < s.reps.length := by omega
    obtain ⟨r, hx⟩ := get_of hi'
    have hg1 := votes_le s.age cell tick false (s.reps.take i)
    have hg2 := votes_le s.age cell tick true (s.reps.take i)
    have hgl : (s.reps.take i).length ≤ i := List.length_take_le ..
    have hs1 := votes_take (age := s.age) (cell := cell) (tick := tick) (b := false) hx
    have hs2 := votes_take (age := s.age) (cell := cell) (tick := tick) (b := true) hx
    have hrp := h.rep r (List.mem_of_getElem? hx)
    refine ⟨by omega, by omega, _, rR_get hx, ?_⟩
    conv => whnf
    refine ⟨by kernel_rfl, ?_⟩
    conv => whnf
    refine spNe (fun h3 => ?_) (fun h3 => ?_) <;> conv => whnf
    · have n1 : ∀ b, vq s.age cell tick b r = false := fun b => by simp only [vq, decide_eq_false_iff_not]; omega
      rw [n1] at hs1 hs2
      refine gv (by first | omega | (simp only []; omega) | (simp; omega)) (by first | omega | (simp only []; omega) | (simp; omega)) ?_
      conv => whnf
      refine ⟨⟨hi', hi'⟩, [], ?_⟩
      repeat' (first | exact trivial | rfl | refine And.intro ?_ ?_)
      all_goals (conv => whnf)
      repeat' (first | exact trivial | rfl | refine And.intro ?_ ?_)
      all_goals (simp only [Bool.false_eq_true, if_false, Nat.add_zero] at hs1 hs2; omega)
    refine spD (fun h4 => ?_) (fun h4 => ?_) <;> conv => whnf
    · have n1 : ∀ b, vq s.age cell tick b r = false := fun b => by simp only [vq, decide_eq_false_iff_not]; omega
      rw [n1] at hs1 hs2
      refine gv (by first | omega | (simp only []; omega) | (simp; omega)) (by first | omega | (simp only []; omega) | (simp; omega)) ?_
      conv => whnf
      refine ⟨⟨hi', hi'⟩, [], ?_⟩
      repeat' (first | exact trivial | rfl | refine And.intro ?_ ?_)
      all_goals (conv => whnf)
      repeat' (first | exact trivial | rfl | refine And.intro ?_ ?_)
      all_goals (simp only [Bool.false_eq_true, if_false, Nat.add_zero] at hs1 hs2; omega)
    refine spD (fun h5 => by omega) (fun h5 => ?_) <;> conv => whnf
    refine gg ?_
    conv => whnf
    refine spD (fun h6 => ?_) (fun h6 => ?_) <;> conv => whnf
    · have n1 : ∀ b, vq s.age cell tick b r = false := fun b => by simp only [vq, decide_eq_false_iff_not]; omega
      rw [n1] at hs1 hs2
      refine gv (by first | omega | (simp only []; omega) | (simp; omega)) (by first | omega | (simp only []; omega) | (simp; omega)) ?_
      conv => whnf
      refine ⟨⟨hi', hi'⟩, [], ?_⟩
      repeat' (first | exact trivial | rfl | refine And.intro ?_ ?_)
      all_goals (conv => whnf)
      repeat' (first | exact trivial | rfl | refine And.intro ?_ ?_)
      all_goals (simp only [Bool.false_eq_true, if_false, Nat.add_zero] at hs1 hs2; omega)
    refine ⟨fun h7 => ?_, fun h7 => ?_⟩ <;> conv => whnf
    · have n1 : vq s.age cell tick false r = false := by simp [vq, h7]
      have n2 : vq s.age cell tick true r = true := by simp only [vq, decide_eq_true_eq]; exact ⟨h3, by omega, by omega, h7⟩
      rw [n1] at hs1
      rw [n2] at hs2
      refine gv (by first | omega | (simp only []; omega) | (simp; omega)) (by first | omega | (simp only []; omega) | (simp; omega)) ?_
      conv => whnf
      refine gv (by first | omega | (simp only []; omega) | (simp; omega)) (by first | omega | (simp only []; omega) | (simp; omega)) ?_
      conv => whnf
      refine ⟨⟨hi', hi'⟩, [], ?_⟩
      repeat' (first | exact trivial | rfl | refine And.intro ?_ ?_)
      all_goals (conv => whnf)
      repeat' (first | exact trivial | rfl | refine And.intro ?_ ?_)
      all_goals (simp only [Bool.false_eq_true, if_false, if_true, Nat.add_zero] at hs1 hs2; omega)
    · have n1 : vq s.age cell tick true r = false := by simp [vq, h7]
      have n2 : vq s.age cell tick false r = true := by simp only [vq, decide_eq_true_eq]; exact ⟨h3, by omega, by omega, h7⟩
      rw [n2] at hs1
      rw [n1] at hs2
      refine gv (by first | omega | (simp only []; omega) | (simp; omega)) (by first | omega | (simp only []; omega) | (simp; omega)) ?_
      conv => whnf
      refine gv (by first | omega | (simp only []; omega) | (simp; omega)) (by first | omega | (simp only []; omega) | (simp; omega)) ?_
      conv => whnf
      refine ⟨⟨hi', hi'⟩, [], ?_⟩
      repeat' (first | exact trivial | rfl | refine And.intro ?_ ?_)
      all_goals (conv => whnf)
      repeat' (first | exact trivial | rfl | refine And.intro ?_ ?_)
      all_goals (simp only [Bool.false_eq_true, if_false, if_true, Nat.add_zero] at hs1 hs2; omega)
  · have hi' : i = s.reps.length := by omega
    refine ⟨[(0, some 0), (1, some 1), (2, some 2), (3, some 3)], rfl, ?_⟩
    repeat' (first | exact trivial | rfl | refine And.intro ?_ ?_)
    all_goals (conv => whnf)
    repeat' (first | exact trivial | rfl | refine And.intro ?_ ?_)
    all_goals rw [hi', List.take_length]

theorem voteR_c (c : Cfg) (s : W23) (cell tick : Int) (h : WOk c s) :
    CallsH Try.prog 20 [.c (.ptr 0 0 0), I cell, I tick] (rH c s) (I (vote c.observers.length s.age cell tick s.reps)) (rH c s) := by
  have hob := h.obs
  have hfew := h.few
  have hro := r1_len c.observers
  have hg1 := votes_le s.age cell tick false s.reps
  have hg2 := votes_le s.age cell tick true s.reps
  refine callsR_of tab mixed Try.func20 rfl (by decide) rfl rfl ?_
  conv => whnf
  refine ⟨_, _, votesR_c c s cell tick h, ?_⟩
  conv => whnf
  refine gv (by first | omega | (simp only []; omega) | (simp; omega)) (by first | omega | (simp only []; omega) | (simp; omega)) ?_
  conv => whnf
  refine spD (fun h1 => ?_) (fun h1 => ?_) <;> conv => whnf
  · refine ⟨[(0, some 0), (1, some 1), (2, some 2), (3, some 3)], rfl, ?_⟩
    repeat' (first | exact trivial | rfl | refine And.intro ?_ ?_)
    all_goals (conv => whnf)
    repeat' (first | exact trivial | rfl | refine And.intro ?_ ?_)
    rw [vote, voteOf, if_pos (by omega)]
  refine gv (by first | omega | (simp only []; omega) | (simp; omega)) (by first | omega | (simp only []; omega) | (simp; omega)) ?_
  conv => whnf
  refine spD (fun h2 => ?_) (fun h2 => ?_) <;> conv => whnf
  · refine ⟨[(0, some 0), (1, some 1), (2, some 2), (3, some 3)], rfl, ?_⟩
    repeat' (first | exact trivial | rfl | refine And.intro ?_ ?_)
    all_goals (conv => whnf)
    repeat' (first | exact trivial | rfl | refine And.intro ?_ ?_)
    rw [vote, voteOf, if_neg (by omega), if_pos (by omega)]
  · refine ⟨[(0, some 0), (1, some 1), (2, some 2), (3, some 3)], rfl, ?_⟩
    repeat' (first | exact trivial | rfl | refine And.intro ?_ ?_)
    all_goals (conv => whnf)
    repeat' (first | exact trivial | rfl | refine And.intro ?_ ?_)
    rw [vote, voteOf, if_neg (by omega), if_neg (by omega)]

end Go.Proofs.Ytladepmfgbfkpaa
