/- Contracts: New, Zone and Region of a watch. Conditions: those ahead of each theorem. -/
import Derived.Test.YtladepmfgbfkpaaHealth2
namespace Go.Proofs.Ytladepmfgbfkpaa
open Go Go.Cpl

theorem zoneR_len (c : Cfg) : ∀ n, (zoneR c n).length = n
  | 0 => rfl
  | n + 1 => by simp [zoneR, zoneR_len c n]

theorem zoneR_get (c : Cfg) : ∀ {n z : Nat}, z < n → (zoneR c n)[z]? = some [.sl (r1 (inZone c z))]
  | n + 1, z, h => by
    have hl := zoneR_len c n
    rw [zoneR]
    by_cases hz : z < n
    · rw [List.getElem?_append_left (by omega)]; exact zoneR_get c hz
    · have : z = n := by omega
      subst this
      rw [List.getElem?_append_right (by omega)]; simp [hl]

theorem upto_empty {p : Nat → Bool} : ∀ {n : Nat}, (∀ i, i < n → p i = false) → upto p n = []
  | 0, _ => rfl
  | n + 1, h => by rw [upto_no (h n (by omega))]; exact upto_empty fun i hi => h i (by omega)

theorem inZone_out {c : Cfg} (hc : Laid c) {z : Int} (hz : z < 0 ∨ c.zones.length ≤ z) : inZone c z = [] := by
  refine upto_empty fun i hi => ?_
  obtain ⟨x, hx⟩ := get_of hi
  have h1 := zoneOf_nat hx
  have h2 := hc.cell x (List.mem_of_getElem? hx)
  simp only [decide_eq_false_iff_not]
  omega

theorem inZone_le (c : Cfg) (z : Int) : (inZone c z).length ≤ c.cells.length := upto_le _ _

/-- the verdict on a cell -/
def verdAt (ver : List Int) (x : Int) : Int := if 0 ≤ x then (ver[x.toNat]?).getD 3 else 3

def badIn (ver : List Int) (l : List Int) : Nat := cnt (fun x => decide (verdAt ver x = 2)) l

def zoneV (c : Cfg) (ver : List Int) (z : Int) : Int := verdictOf (badIn ver (inZone c z)) (inZone c z).length

def cntTo (p : Nat → Bool) : Nat → Nat
  | 0 => 0
  | n + 1 => cntTo p n + if p n then 1 else 0

theorem cntTo_le (p : Nat → Bool) : ∀ n, cntTo p n ≤ n
  | 0 => Nat.le_refl _
  | n + 1 => by have := cntTo_le p n; rw [cntTo]; split <;> omega

def inReg (c : Cfg) (g : Int) (z : Nat) : Bool := decide (c.zones[z]? = some g ∧ (inZone c z).length ≠ 0)

def badReg (c : Cfg) (ver : List Int) (g : Int) (z : Nat) : Bool := decide (c.zones[z]? = some g ∧ (inZone c z).length ≠ 0 ∧ zoneV c ver z = 2)

def regionV (c : Cfg) (ver : List Int) (g : Int) : Int := verdictOf (cntTo (badReg c ver g) c.zones.length) (cntTo (inReg c g) c.zones.length)

theorem cellW_c' (c : Cfg) (s : W23) (x : Int) (h : WOk c s) : CallsH Try.prog 27 [.c (.ptr 0 0 0), I x] (wH c s) (I (verdAt s.ver x)) (wH c s) := cellW_c c s x h

theorem zoneW_c (c : Cfg) (s : W23) (z : Int) (h : WOk c s) : CallsH Try.prog 28 [.c (.ptr 0 0 0), I z] (wH c s) (I (zoneV c s.ver z)) (wH c s) := by
  have hl := zoneR_len c c.zones.length
  have hZ := h.laid.zones
  have hC := h.laid.cells
  have hin := inZone_le c z
  have hr := r1_len (inZone c z)
  refine callsR_of tab mixed Try.func28 rfl (by decide) rfl rfl ?_
  conv => whnf
  refine spD (fun h1 => ?_) (fun h1 => ?_) <;> conv => whnf
  · refine ⟨[(0, some 0), (1, some 1), (2, some 2), (3, some 3)], rfl, ?_⟩
    repeat' (first | exact trivial | rfl | refine And.intro ?_ ?_)
    all_goals (conv => whnf)
    repeat' (first | exact trivial | rfl | refine And.intro ?_ ?_)
    simp [zoneV, inZone_out h.laid (.inl h1), verdictOf]
  refine spD (fun h2 => ?_) (fun h2 => ?_) <;> conv => whnf
  · refine ⟨[(0, some 0), (1, some 1), (2, some 2), (3, some 3)], rfl, ?_⟩
    repeat' (first | exact trivial | rfl | refine And.intro ?_ ?_)
    all_goals (conv => whnf)
    repeat' (first | exact trivial | rfl | refine And.intro ?_ ?_)
    simp [zoneV, inZone_out h.laid (z := z) (.inr (by omega)), verdictOf]
  have hz : (zoneR c c.zones.length)[z.toNat]? = some [.sl (r1 (inZone c z))] := by
    rw [zoneR_get c (by omega), show ((z.toNat : Nat) : Int) = z by omega]
  refine ⟨by omega, _, hz, ?_⟩
  conv => whnf
  refine loopN tab mixed (fun i => i ≤ (inZone c z).length) (inZone c z).length (fun i => [(27, I i), (5, I (badIn s.ver ((inZone c z).take i)))]) (fun _ => []) 51 [] (by omega) ?_
  conv => whnf
  refine ⟨?_, fun i hi => ?_⟩
  · repeat' (first | exact trivial | rfl | refine And.intro ?_ ?_)
    all_goals (conv => whnf)
    repeat' (first | exact trivial | rfl | refine And.intro ?_ ?_)
  conv => whnf
  refine spD (fun h3 => ?_) (fun h3 => ?_) <;> conv => whnf
  · have hi' : i < (inZone c z).length := by omega
    obtain ⟨x, hx⟩ := get_of hi'
    have hb : badIn s.ver ((inZone c z).take (i + 1)) = badIn s.ver ((inZone c z).take i) + if decide (verdAt s.ver x = 2) then 1 else 0 := by
      rw [take_succ_of hx]; exact cnt_app _ _ _
    have hle : badIn s.ver ((inZone c z).take i) ≤ ((inZone c z).take i).length := cnt_le _ _
    have hle2 : ((inZone c z).take i).length ≤ i := List.length_take_le ..
    refine ⟨by omega, _, r1_get hx, ?_⟩
    conv => whnf
    refine ⟨_, _, cellW_c' c s x h, ?_⟩
    conv => whnf
    refine spE (fun h4 => ?_) (fun h4 => ?_) <;> conv => whnf
    · rw [decide_eq_true h4] at hb
      refine gv (by first | omega | (simp only []; omega) | (simp; omega)) (by first | omega | (simp only []; omega) | (simp; omega)) ?_
      conv => whnf
      refine gv (by first | omega | (simp only []; omega) | (simp; omega)) (by first | omega | (simp only []; omega) | (simp; omega)) ?_
      conv => whnf
      refine ⟨⟨hi', hi'⟩, [], ?_⟩
      repeat' (first | exact trivial | rfl | refine And.intro ?_ ?_)
      all_goals (conv => whnf)
      repeat' (first | exact trivial | rfl | refine And.intro ?_ ?_)
      simp only [if_true] at hb
      omega
    · rw [decide_eq_false h4] at hb
      refine gv (by first | omega | (simp only []; omega) | (simp; omega)) (by first | omega | (simp only []; omega) | (simp; omega)) ?_
      conv => whnf
      refine ⟨⟨hi', hi'⟩, [], ?_⟩
      repeat' (first | exact trivial | rfl | refine And.intro ?_ ?_)
      all_goals (conv => whnf)
      repeat' (first | exact trivial | rfl | refine And.intro ?_ ?_)
      simp only [Bool.false_eq_true, if_false] at hb
      omega
  · have hi' : i = (inZone c z).length := by omega
    have hle : badIn s.ver ((inZone c z).take i) ≤ ((inZone c z).take i).length := cnt_le _ _
    have hle2 : ((inZone c z).take i).length ≤ i := List.length_take_le ..
    refine ⟨by omega, _, hz, ?_⟩
    conv => whnf
    refine ⟨_, _, verdict_c _ _ (by omega), ?_⟩
    conv => whnf
    refine ⟨[(0, some 0), (1, some 1), (2, some 2), (3, some 3)], rfl, ?_⟩
    repeat' (first | exact trivial | rfl | refine And.intro ?_ ?_)
    all_goals (conv => whnf)
    repeat' (first | exact trivial | rfl | refine And.intro ?_ ?_)
    rw [hi', List.take_length, hr]
    rfl

theorem regionW_c (c : Cfg) (s : W23) (g : Int) (h : WOk c s) : CallsH Try.prog 29 [.c (.ptr 0 0 0), I g] (wH c s) (I (regionV c s.ver g)) (wH c s) := by
  have hl := zoneR_len c c.zones.length
  have hZ := h.laid.zones
  have hrz := r1_len c.zones
  refine callsR_of tab mixed Try.func29 rfl (by decide) rfl rfl ?_
  conv => whnf
  refine loopN tab mixed (fun i => i ≤ c.zones.length) c.zones.length (fun i => [(14, I i), (5, I (cntTo (inReg c g) i)), (6, I (cntTo (badReg c s.ver g) i))]) (fun _ => []) 51 [] (by omega) ?_
  conv => whnf
  refine ⟨?_, fun i hi => ?_⟩
  · repeat' (first | exact trivial | rfl | refine And.intro ?_ ?_)
    all_goals (conv => whnf)
    repeat' (first | exact trivial | rfl | refine And.intro ?_ ?_)
  conv => whnf
  have hle1 := cntTo_le (inReg c g) i
  have hle2 := cntTo_le (badReg c s.ver g) i
  refine spD (fun h3 => ?_) (fun h3 => ?_) <;> conv => whnf
  · have hi' : i < c.zones.length := by omega
    obtain ⟨x, hx⟩ := get_of hi'
    have hz : (zoneR c c.zones.length)[((i : Nat) : Int).toNat]? = some [.sl (r1 (inZone c i))] := zoneR_get c hi'
    have hr := r1_len (inZone c i)
    have hs1 : cntTo (inReg c g) (i + 1) = cntTo (inReg c g) i + if inReg c g i then 1 else 0 := rfl
    have hs2 : cntTo (badReg c s.ver g) (i + 1) = cntTo (badReg c s.ver g) i + if badReg c s.ver g i then 1 else 0 := rfl
    refine ⟨by omega, _, r1_get hx, ?_⟩
    conv => whnf
    refine spNe (fun h4 => ?_) (fun h4 => ?_) <;> conv => whnf
    · have n1 : inReg c g i = false := by simp [inReg, hx, h4]
      have n2 : badReg c s.ver g i = false := by simp [badReg, hx, h4]
      rw [n1] at hs1
      rw [n2] at hs2
      simp only [Bool.false_eq_true, if_false, Nat.add_zero] at hs1 hs2
      refine gv (by first | omega | (simp only []; omega) | (simp; omega)) (by first | omega | (simp only []; omega) | (simp; omega)) ?_
      conv => whnf
      refine ⟨⟨hi', hi'⟩, [], ?_⟩
      repeat' (first | exact trivial | rfl | refine And.intro ?_ ?_)
      all_goals (conv => whnf)
      repeat' (first | exact trivial | rfl | refine And.intro ?_ ?_)
      all_goals omega
    refine ⟨by omega, _, hz, ?_⟩
    conv => whnf
    refine spE (fun h5 => ?_) (fun h5 => ?_) <;> conv => whnf
    · have n1 : inReg c g i = false := by simp only [inReg, decide_eq_false_iff_not]; omega
      have n2 : badReg c s.ver g i = false := by simp only [badReg, decide_eq_false_iff_not]; omega
      rw [n1] at hs1
      rw [n2] at hs2
      simp only [Bool.false_eq_true, if_false, Nat.add_zero] at hs1 hs2
      refine gv (by first | omega | (simp only []; omega) | (simp; omega)) (by first | omega | (simp only []; omega) | (simp; omega)) ?_
      conv => whnf
      refine ⟨⟨hi', hi'⟩, [], ?_⟩
      repeat' (first | exact trivial | rfl | refine And.intro ?_ ?_)
      all_goals (conv => whnf)
      repeat' (first | exact trivial | rfl | refine And.intro ?_ ?_)
      all_goals omega
    have n1 : inReg c g i = true := by simp only [inReg, decide_eq_true_eq]; exact ⟨by rw [hx, h4], by omega⟩
    rw [n1] at hs1
    simp only [if_true] at hs1
    refine gv (by first | omega | (simp only []; omega) | (simp; omega)) (by first | omega | (simp only []; omega) | (simp; omega)) ?_
    conv => whnf
    refine ⟨_, _, zoneW_c c s i h, ?_⟩
    conv => whnf
    refine spE (fun h6 => ?_) (fun h6 => ?_) <;> conv => whnf
    · have n2 : badReg c s.ver g i = true := by simp only [badReg, decide_eq_true_eq]; exact ⟨by rw [hx, h4], by omega, h6⟩
      rw [n2] at hs2
      simp only [if_true] at hs2
      refine gv (by first | omega | (simp only []; omega) | (simp; omega)) (by first | omega | (simp only []; omega) | (simp; omega)) ?_
      conv => whnf
      refine gv (by first | omega | (simp only []; omega) | (simp; omega)) (by first | omega | (simp only []; omega) | (simp; omega)) ?_
      conv => whnf
      refine ⟨⟨hi', hi'⟩, [], ?_⟩
      repeat' (first | exact trivial | rfl | refine And.intro ?_ ?_)
      all_goals (conv => whnf)
      repeat' (first | exact trivial | rfl | refine And.intro ?_ ?_)
      all_goals omega
    · have n2 : badReg c s.ver g i = false := by simp only [badReg, decide_eq_false_iff_not]; exact fun hh => h6 hh.2.2
      rw [n2] at hs2
      simp only [Bool.false_eq_true, if_false, Nat.add_zero] at hs2
      refine gv (by first | omega | (simp only []; omega) | (simp; omega)) (by first | omega | (simp only []; omega) | (simp; omega)) ?_
      conv => whnf
      refine ⟨⟨hi', hi'⟩, [], ?_⟩
      repeat' (first | exact trivial | rfl | refine And.intro ?_ ?_)
      all_goals (conv => whnf)
      repeat' (first | exact trivial | rfl | refine And.intro ?_ ?_)
      all_goals omega
  · have hi' : i = c.zones.length := by omega
    refine ⟨_, _, verdict_c _ _ (by omega), ?_⟩
    conv => whnf
    refine ⟨[(0, some 0), (1, some 1), (2, some 2), (3, some 3)], rfl, ?_⟩
    repeat' (first | exact trivial | rfl | refine And.intro ?_ ?_)
    all_goals (conv => whnf)
    repeat' (first | exact trivial | rfl | refine And.intro ?_ ?_)
    rw [hi']
    rfl

def polOk (a b : Int) : Prop := (0 ≤ a ∧ a ≤ 1073741824) ∧ 0 ≤ b ∧ b ≤ 1073741824

instance (a b : Int) : Decidable (polOk a b) := by unfold polOk; infer_instance

def newE (c : Cfg) : Int := if valid5 c = 0 then 1 else valid5 c

abbrev w0 (c : Cfg) (a b : Int) : W23 := ⟨a, b, 0, List.replicate c.cells.length 1, List.replicate c.cells.length (-1), []⟩

abbrev polV (a b : Int) : AV := .agg [.d (i64 a), .d (i64 b)]

theorem newBad_c (c : Cfg) (a b : Int) (h : ¬ (valid5 c = 0 ∧ polOk a b)) : CallsH Try.prog 14 [cfgV c, polV a b] [] (.tup [.inl (.d .nilp), .inl (.d (i64 (newE c)))]) [] := by
  refine callsR_of tab mixed Try.func14 rfl (by decide) rfl rfl ?_
  conv => whnf
  refine ⟨_, _, tenValid_c c, ?_⟩
  conv => whnf
  refine spNe (fun h1 => ?_) (fun h1 => ?_) <;> conv => whnf
  · have e : newE c = valid5 c := by simp [newE, h1]
    rw [e]
    exact ⟨[], rfl, ⟨trivial, ⟨rfl, rfl⟩, trivial⟩, trivial⟩
  have e : newE c = 1 := by simp [newE, h1]
  rw [e]
  refine spD (fun h2 => ?_) (fun h2 => ?_) <;> conv => whnf
  · exact ⟨[], rfl, ⟨trivial, ⟨rfl, rfl⟩, trivial⟩, trivial⟩
  refine spD (fun h3 => ?_) (fun h3 => ?_) <;> conv => whnf
  · exact ⟨[], rfl, ⟨trivial, ⟨rfl, rfl⟩, trivial⟩, trivial⟩
  refine spD (fun h4 => ?_) (fun h4 => ?_) <;> conv => whnf
  · exact ⟨[], rfl, ⟨trivial, ⟨rfl, rfl⟩, trivial⟩, trivial⟩
  refine spD (fun h5 => ?_) (fun h5 => ?_) <;> conv => whnf
  · exact ⟨[], rfl, ⟨trivial, ⟨rfl, rfl⟩, trivial⟩, trivial⟩
  exact absurd ⟨h1, by unfold polOk; omega⟩ h

theorem r1_rep (n : Nat) (x : Int) : r1 (List.replicate n x) ++ [[i64 x]] = r1 (List.replicate (n + 1) x) := by
  rw [r1_app, List.replicate_succ']

set_option maxHeartbeats 2000000 in
set_option maxRecDepth 100000 in
theorem newOk_c (c : Cfg) (a b : Int) (h : valid5 c = 0 ∧ polOk a b) : CallsH Try.prog 14 [cfgV c, polV a b] [] (.tup [.inl (.ptr 0 0 0), .inl (.d (i64 0))]) (wH c (w0 c a b)) := by
  have hL := valid_laid (valid5_valid h.1).1
  have hZ := hL.zones
  have hC := hL.cells
  have hrz := r1_len c.zones
  have hrc := r2_len c.cells
  have hp := h.2
  unfold polOk at hp
  refine callsR_of tab mixed Try.func14 rfl (by decide) rfl rfl ?_
  conv => whnf
  refine ⟨_, _, tenValid_c c, ?_⟩
  conv => whnf
  refine spNe (fun h1 => absurd h.1 h1) (fun h1 => ?_) <;> conv => whnf
  refine spD (fun h2 => by omega) (fun h2 => ?_) <;> conv => whnf
  refine spD (fun h3 => by omega) (fun h3 => ?_) <;> conv => whnf
  refine spD (fun h4 => by omega) (fun h4 => ?_) <;> conv => whnf
  refine spD (fun h5 => by omega) (fun h5 => ?_) <;> conv => whnf
  refine loopN tab mixed (fun i => i ≤ c.zones.length) c.zones.length (fun i => [(43, I i)]) (fun i => [(3, .box [.d (i64 a), .d (i64 b), .d (i64 c.observers.length), .gs 50, .gs 51, .d (i64 0), .ns, .ns, .mp 2]), (50, .brr 22 (zoneR c i)), (51, .arr 3 (r1 (c.zones.take i)))]) 52 [(3, some 3), (50, none), (51, none)] (by omega) ?_
  conv => whnf
  refine ⟨?_, fun i hi => ?_⟩
  · repeat' (first | exact trivial | rfl | refine And.intro ?_ ?_)
    all_goals (conv => whnf)
    repeat' (first | exact trivial | rfl | refine And.intro ?_ ?_)
    simp [r1_len]
  conv => whnf
  refine spD (fun h6 => ?_) (fun h6 => ?_) <;> conv => whnf
  · have hi' : i < c.zones.length := by omega
    obtain ⟨x, hx⟩ := get_of hi'
    have hzl := zoneR_len c i
    have hrt := r1_len (c.zones.take i)
    have hrl : (c.zones.take i).length ≤ i := List.length_take_le ..
    refine ⟨by omega, _, r1_get hx, ?_⟩
    conv => whnf
    refine ⟨by kernel_rfl, ?_⟩
    conv => whnf
    refine ⟨_, _, inZone_c c i hL, ?_⟩
    conv => whnf
    refine ⟨by simp, ⟨by simp only [List.length_cons, List.length_nil]; omega⟩, ?_⟩
    conv => whnf
    refine ⟨by kernel_rfl, ?_⟩
    conv => whnf
    refine ⟨row1 _ rfl, ⟨by simp only [List.length_cons, List.length_nil]; omega⟩, ?_⟩
    conv => whnf
    refine gv (by first | omega | (simp only []; omega) | (simp; omega)) (by first | omega | (simp only []; omega) | (simp; omega)) ?_
    conv => whnf
    refine ⟨⟨hi', hi'⟩, [(3, some 3), (50, some 54), (51, some 56)], ?_⟩
    repeat' (first | exact trivial | rfl | refine And.intro ?_ ?_)
    all_goals (conv => whnf)
    repeat' (first | exact trivial | rfl | refine And.intro ?_ ?_)
    rw [take_succ_of hx]
    exact (r1_app _ _).symm
  have hi' : i = c.zones.length := by omega
  subst hi'
  rw [List.take_length]
  refine loopN tab mixed (fun i => i ≤ c.cells.length) c.cells.length (fun i => [(75, I i)]) (fun i => [(3, .box [.d (i64 a), .d (i64 b), .d (i64 c.observers.length), .gs 50, .gs 51, .d (i64 0), .gs 52, .gs 53, .mp 2]), (52, .arr 3 (r1 (List.replicate i 1))), (53, .arr 3 (r1 (List.replicate i (-1))))]) 54 [(3, some 3), (52, none), (53, none)] (by omega) ?_
  conv => whnf
  refine ⟨?_, fun i hi => ?_⟩
  · repeat' (first | exact trivial | rfl | refine And.intro ?_ ?_)
    all_goals (conv => whnf)
    repeat' (first | exact trivial | rfl | refine And.intro ?_ ?_)
  conv => whnf
  refine spD (fun h7 => ?_) (fun h7 => ?_) <;> conv => whnf
  · have hi' : i < c.cells.length := by omega
    have hv1 := r1_len (List.replicate i (1 : Int))
    have hv2 := r1_len (List.replicate i (-1 : Int))
    simp only [List.length_replicate] at hv1 hv2
    refine ⟨row1 _ rfl, ⟨by simp only [List.length_cons, List.length_nil]; omega⟩, ?_⟩
    conv => whnf
    refine ⟨row1 _ rfl, ⟨by simp only [List.length_cons, List.length_nil]; omega⟩, ?_⟩
    conv => whnf
    refine gv (by first | omega | (simp only []; omega) | (simp; omega)) (by first | omega | (simp only []; omega) | (simp; omega)) ?_
    conv => whnf
    refine ⟨⟨hi', hi'⟩, [(3, some 3), (52, some 55), (53, some 57)], ?_⟩
    repeat' (first | exact trivial | rfl | refine And.intro ?_ ?_)
    all_goals (conv => whnf)
    repeat' (first | exact trivial | rfl | refine And.intro ?_ ?_)
    · exact (r1_rep _ _).symm
    · exact (r1_rep _ _).symm
  · have hi' : i = c.cells.length := by omega
    subst hi'
    refine ⟨[(0, some 3), (1, some 52), (2, some 53), (3, some 2)], rfl, ?_⟩
    repeat' (first | exact trivial | rfl | refine And.intro ?_ ?_)
    all_goals (conv => whnf)
    repeat' (first | exact trivial | rfl | refine And.intro ?_ ?_)

end Go.Proofs.Ytladepmfgbfkpaa
