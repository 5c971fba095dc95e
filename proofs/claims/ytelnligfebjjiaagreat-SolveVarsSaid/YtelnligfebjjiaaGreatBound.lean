/- Contracts: what the functions of bound and of its reference return, for problems that are valid and placements that fit. Conditions: those ahead of each theorem. -/
import Derived.Test.YtelnligfebjjiaaGreatBook
namespace Go.Proofs.YtelnligfebjjiaaGreat
open Go Go.Cpl

theorem boundHas_c (s i : Int) (hi : i < 62) : CallsH Tryz.prog 142 [I s, I i] [] (B (bit s i)) [] := by
  refine callsR_of tab mixed Tryz.func142 rfl (by decide) rfl rfl ?_
  conv => whnf
  refine spD (fun h0 => ?_) (fun h0 => ?_) <;> conv => whnf
  · refine spD (fun h1 => ?_) (fun h1 => ?_) <;> conv => whnf
    · refine ⟨h0, shr_eq h0 hi ?_⟩
      conv => whnf
      refine .intro _ (and1 _) ?_
      conv => whnf
      refine ⟨[], rfl, ?_, trivial⟩
      simp only [mtV, valOf, mtC, eqD, bit, h0, hi, true_and]
      exact (Bool.beq_eq_decide_eq _ _).symm
    · omega
  · exact ⟨[], rfl, by simp [mtV, valOf, mtC, eqD, bit, h0], trivial⟩

theorem toNat_ofInt_nat {n : Nat} (h : n < 18446744073709551616) : (BitVec.ofInt IntKind.i64.bits (n : Int)).toNat = n := by
  rw [BitVec.toNat_ofInt]
  simp only [IntKind.bits]
  omega

theorem or_nat {a b : Nat} (ha : a < 1024) (hb : b < 1024) : IntKind.i64.wrap ((BitVec.ofInt IntKind.i64.bits (a : Int) ||| BitVec.ofInt IntKind.i64.bits (b : Int)).toNat : Int) = ((a ||| b : Nat) : Int) := by
  have h1 : a ||| b < 2 ^ 10 := Nat.or_lt_two_pow ha hb
  rw [BitVec.toNat_or, toNat_ofInt_nat (by omega), toNat_ofInt_nat (by omega)]
  exact wr (by omega) (by omega)

/-- the regions that a tenant reaches through the first cells -/
def reachN (c : Cfg) (u t : Int) : Nat → Nat
  | 0 => 0
  | k + 1 => if bit u k && may c t k then reachN c u t k ||| 2 ^ (regionOf c k).toNat else reachN c u t k

def reach (c : Cfg) (u t : Int) : Nat := reachN c u t c.cells.length

theorem Laid.may_region {c : Cfg} (h : Laid c) {t i : Int} (hm : may c t i = true) : 0 ≤ regionOf c i ∧ regionOf c i < c.regions := by
  have := h.region i
  rcases this with h1 | h1
  · simp [may, bit, h1] at hm
  · exact h1

theorem reachN_lt {c : Cfg} (hg : Good c) (u t : Int) : ∀ k, reachN c u t k < 2 ^ c.regions.toNat
  | 0 => by simp [reachN, Nat.two_pow_pos]
  | k + 1 => by
    have ih := reachN_lt hg u t k
    simp only [reachN]
    split
    · rename_i h
      have hr := hg.laid.may_region (t := t) (i := k) (by simp at h; exact h.2)
      exact Nat.or_lt_two_pow ih (Nat.pow_lt_pow_right (by omega) (by omega))
    · exact ih

theorem two_reg {c : Cfg} (hg : Good c) : 2 ^ c.regions.toNat ≤ 16 := by
  have := hg.regions
  exact Nat.pow_le_pow_right (n := 2) (by omega) (show c.regions.toNat ≤ 4 by omega)

theorem pow_reg {c : Cfg} (hg : Good c) {r : Int} (h : r < c.regions) : (2 : Nat) ^ r.toNat < 1024 := by
  have := hg.regions
  have := Nat.pow_le_pow_right (n := 2) (by omega) (show r.toNat ≤ 4 by omega)
  omega

theorem natpow (r : Nat) : (2 : Int) ^ r = ((2 ^ r : Nat) : Int) := by norm_cast

theorem boundReach_c (c : Cfg) (u : Int) (hd : Bool) (t : Int) (hg : Good c) : CallsH Tryz.prog 141 [probV c u hd, I t] [] (I (reach c u t : Nat)) [] := by
  have hcl := r2_len c.cells
  have hC := hg.cells
  have hT := hg.tenants
  have hR := hg.regions
  have h16 := two_reg hg
  refine callsR_of tab mixed Tryz.func141 rfl (by decide) rfl rfl ?_
  conv => whnf
  refine loopN tab mixed (fun i => i ≤ c.cells.length) c.cells.length (fun i => [(12, I i), (5, I (reachN c u t i : Nat))]) (fun _ => []) 51 [] (by omega) ?_
  conv => whnf
  refine ⟨?_, fun i hi => ?_⟩
  · repeat' (first | exact trivial | rfl | refine And.intro ?_ ?_)
    all_goals (conv => whnf)
    repeat' (first | exact trivial | rfl | refine And.intro ?_ ?_)
  conv => whnf
  refine spD (fun h => ?_) (fun h => ?_) <;> conv => whnf
  · have hi' : i < c.cells.length := by omega
    have hlt := reachN_lt hg u t i
    have hreg := hg.laid.region i
    refine ⟨_, _, regionOf_c c i hg.laid.cells hg.laid.zones, ?_⟩
    conv => whnf
    refine spD (fun h0 => ?_) (fun h0 => ?_) <;> conv => whnf
    · refine ⟨_, _, boundHas_c u i (by omega), ?_⟩
      conv => whnf
      refine ⟨fun h1 => ?_, fun h1 => ?_⟩ <;> conv => whnf
      · refine ⟨_, _, may_c c t i hg.laid (by omega), ?_⟩
        conv => whnf
        refine ⟨fun h2 => ?_, fun h2 => ?_⟩ <;> conv => whnf
        · have hs := shlc (n := regionOf c i) (by omega)
          have hp := pow_reg hg (r := regionOf c i) (by omega)
          refine ⟨h0, .intro _ hs.1 ?_⟩
          conv => whnf
          rw [natpow]
          refine .intro _ (or_nat (by omega) hp) ?_
          conv => whnf
          refine gv (by first | omega | (simp only []; omega) | (simp; omega)) (by first | omega | (simp only []; omega) | (simp; omega)) ?_
          conv => whnf
          refine ⟨⟨hi', hi'⟩, [], ?_⟩
          repeat' (first | exact trivial | rfl | refine And.intro ?_ ?_)
          all_goals (conv => whnf)
          repeat' (first | exact trivial | rfl | refine And.intro ?_ ?_)
          simp [reachN, h1, h2]
        · refine gv (by first | omega | (simp only []; omega) | (simp; omega)) (by first | omega | (simp only []; omega) | (simp; omega)) ?_
          conv => whnf
          refine ⟨⟨hi', hi'⟩, [], ?_⟩
          repeat' (first | exact trivial | rfl | refine And.intro ?_ ?_)
          all_goals (conv => whnf)
          repeat' (first | exact trivial | rfl | refine And.intro ?_ ?_)
          simp [reachN, h2]
      · refine gv (by first | omega | (simp only []; omega) | (simp; omega)) (by first | omega | (simp only []; omega) | (simp; omega)) ?_
        conv => whnf
        refine ⟨⟨hi', hi'⟩, [], ?_⟩
        repeat' (first | exact trivial | rfl | refine And.intro ?_ ?_)
        all_goals (conv => whnf)
        repeat' (first | exact trivial | rfl | refine And.intro ?_ ?_)
        simp [reachN, h1]
    · refine gv (by first | omega | (simp only []; omega) | (simp; omega)) (by first | omega | (simp only []; omega) | (simp; omega)) ?_
      conv => whnf
      refine ⟨⟨hi', hi'⟩, [], ?_⟩
      repeat' (first | exact trivial | rfl | refine And.intro ?_ ?_)
      all_goals (conv => whnf)
      repeat' (first | exact trivial | rfl | refine And.intro ?_ ?_)
      have : may c t i = false := by simp [may, bit, h0]
      simp [reachN, this]
  · refine ⟨[], rfl, ⟨rfl, ?_⟩, trivial⟩
    have hi' : i = c.cells.length := by omega
    simp [reach, hi']

theorem refReach_c (c : Cfg) (u : Int) (hd : Bool) (t : Int) (hg : Good c) : CallsH Tryz.prog 115 [probV c u hd, I t] [] (I (reach c u t : Nat)) [] := by
  have hcl := r2_len c.cells
  have hC := hg.cells
  have hR := hg.regions
  have h16 := two_reg hg
  refine callsR_of tab mixed Tryz.func115 rfl (by decide) rfl rfl ?_
  conv => whnf
  refine loopN tab mixed (fun i => i ≤ c.cells.length) c.cells.length (fun i => [(6, I i), (5, I (reachN c u t i : Nat))]) (fun _ => []) 51 [] (by omega) ?_
  conv => whnf
  refine ⟨?_, fun i hi => ?_⟩
  · repeat' (first | exact trivial | rfl | refine And.intro ?_ ?_)
    all_goals (conv => whnf)
    repeat' (first | exact trivial | rfl | refine And.intro ?_ ?_)
  conv => whnf
  refine spD (fun h => ?_) (fun h => ?_) <;> conv => whnf
  · have hi' : i < c.cells.length := by omega
    have hlt := reachN_lt hg u t i
    refine ⟨_, _, has_c u i, ?_⟩
    conv => whnf
    refine ⟨fun h1 => ?_, fun h1 => ?_⟩ <;> conv => whnf
    · refine ⟨_, _, refMay_c c t i hg.laid, ?_⟩
      conv => whnf
      refine ⟨fun h2 => ?_, fun h2 => ?_⟩ <;> conv => whnf
      · have hreg := hg.laid.may_region h2
        have hs := shlc (n := regionOf c i) (by omega)
        have hp := pow_reg hg hreg.2
        refine ⟨_, _, refRegionOf_c c i hg.laid, ?_⟩
        conv => whnf
        refine gvu hreg.1 (by omega) ?_
        conv => whnf
        refine ⟨hreg.1, .intro _ hs.1 ?_⟩
        conv => whnf
        rw [natpow]
        refine .intro _ (or_nat (by omega) hp) ?_
        conv => whnf
        refine gv (by first | omega | (simp only []; omega) | (simp; omega)) (by first | omega | (simp only []; omega) | (simp; omega)) ?_
        conv => whnf
        refine ⟨⟨hi', hi'⟩, [], ?_⟩
        repeat' (first | exact trivial | rfl | refine And.intro ?_ ?_)
        all_goals (conv => whnf)
        repeat' (first | exact trivial | rfl | refine And.intro ?_ ?_)
        simp [reachN, h1, h2]
      · refine gv (by first | omega | (simp only []; omega) | (simp; omega)) (by first | omega | (simp only []; omega) | (simp; omega)) ?_
        conv => whnf
        refine ⟨⟨hi', hi'⟩, [], ?_⟩
        repeat' (first | exact trivial | rfl | refine And.intro ?_ ?_)
        all_goals (conv => whnf)
        repeat' (first | exact trivial | rfl | refine And.intro ?_ ?_)
        simp [reachN, h2]
    · refine gv (by first | omega | (simp only []; omega) | (simp; omega)) (by first | omega | (simp only []; omega) | (simp; omega)) ?_
      conv => whnf
      refine ⟨⟨hi', hi'⟩, [], ?_⟩
      repeat' (first | exact trivial | rfl | refine And.intro ?_ ?_)
      all_goals (conv => whnf)
      repeat' (first | exact trivial | rfl | refine And.intro ?_ ?_)
      simp [reachN, h1]
  · refine ⟨[], rfl, ⟨rfl, ?_⟩, trivial⟩
    have hi' : i = c.cells.length := by omega
    simp [reach, hi']

def dm (c : Cfg) (u : Int) (l : List (Int × Int)) : Nat → List (Int × Int)
  | 0 => []
  | k + 1 => match l[k]? with
    | some p => if p.1 = -1 then dm c u l k ++ [(loadOf c k, ((reach c u k : Nat) : Int))] else dm c u l k
    | none => dm c u l k

theorem dm_len (c : Cfg) (u : Int) (l : List (Int × Int)) : ∀ k, (dm c u l k).length ≤ k
  | 0 => by simp [dm]
  | k + 1 => by
    have := dm_len c u l k
    simp only [dm]
    split
    · split <;> simp <;> omega
    · omega

theorem demands_c (c : Cfg) (u : Int) (hd : Bool) (l : List (Int × Int)) (hf : Fit c l) : CallsH Tryz.prog 117 [probV c u hd, plV l] [] (.c (.gs 0)) [.arr 152 (r2 (dm c u l l.length))] := by
  have hg := good_of hf.val
  have hlt := rT_len c.tenants
  have hp := r2_len l
  have hT := hg.tenants
  have hlen := hf.len
  refine callsR_of tab mixed Tryz.func117 rfl (by decide) rfl rfl ?_
  conv => whnf
  refine loopN tab mixed (fun i => i ≤ l.length) l.length (fun i => [(10, I i), (5, .c (.gs 50))]) (fun i => [(50, .arr 152 (r2 (dm c u l i)))]) 51 [(50, none)] (by omega) ?_
  conv => whnf
  refine ⟨?_, fun i hi => ?_⟩
  · repeat' (first | exact trivial | rfl | refine And.intro ?_ ?_)
    all_goals (conv => whnf)
    repeat' (first | exact trivial | rfl | refine And.intro ?_ ?_)
  conv => whnf
  refine spD (fun h => ?_) (fun h => ?_) <;> conv => whnf
  · have hi' : i < l.length := by omega
    obtain ⟨p, hx⟩ := get_of hi'
    obtain ⟨t, ht⟩ := get_of (l := c.tenants) (i := i) (by omega)
    have hload : loadOf c i = t.load := by simp [loadOf, ht]
    have hdl := dm_len c u l i
    have hd1 := r2_len (dm c u l i)
    refine ⟨by omega, _, r2_get hx, ?_⟩
    conv => whnf
    refine spE (fun h1 => ?_) (fun h1 => ?_) <;> conv => whnf
    · refine ⟨by kernel_rfl, ?_⟩
      conv => whnf
      refine ⟨by omega, _, rT_get ht, ?_⟩
      conv => whnf
      refine ⟨_, _, boundReach_c c u hd i hg, ?_⟩
      conv => whnf
      refine ⟨row2' _ _, ⟨by simp; omega⟩, ?_⟩
      conv => whnf
      refine gv (by first | omega | (simp only []; omega) | (simp; omega)) (by first | omega | (simp only []; omega) | (simp; omega)) ?_
      conv => whnf
      refine ⟨⟨hi', hi'⟩, [(50, some 53)], ?_⟩
      repeat' (first | exact trivial | rfl | refine And.intro ?_ ?_)
      all_goals (conv => whnf)
      repeat' (first | exact trivial | rfl | refine And.intro ?_ ?_)
      simp only [dm, hx, h1, if_true, hload]
      exact (r2_app _ _ _).symm
    · refine gv (by first | omega | (simp only []; omega) | (simp; omega)) (by first | omega | (simp only []; omega) | (simp; omega)) ?_
      conv => whnf
      refine ⟨⟨hi', hi'⟩, [(50, some 50)], ?_⟩
      repeat' (first | exact trivial | rfl | refine And.intro ?_ ?_)
      all_goals (conv => whnf)
      repeat' (first | exact trivial | rfl | refine And.intro ?_ ?_)
      simp [dm, hx, h1]
  · refine ⟨[(0, some 50)], rfl, rfl, ⟨rfl, ?_⟩, trivial⟩
    have hi' : i = l.length := by omega
    simp [hi']

def andn (a b : Int) : Int := IntKind.i64.wrap ((BitVec.ofInt IntKind.i64.bits a &&& ~~~BitVec.ofInt IntKind.i64.bits b).toNat : Int)

def needS (set : Int) : List (Int × Int) → Int
  | [] => 0
  | x :: r => (if andn x.2 set = 0 then x.1 else 0) + needS set r

theorem needS_app (set : Int) (x : Int × Int) : ∀ l, needS set (l ++ [x]) = needS set l + if andn x.2 set = 0 then x.1 else 0
  | [] => by simp [needS]
  | y :: r => by simp only [List.cons_append, needS, needS_app set x r]; omega

theorem needS_rng (set : Int) : ∀ {l : List (Int × Int)}, (∀ x ∈ l, 0 ≤ x.1 ∧ x.1 ≤ 65536) → 0 ≤ needS set l ∧ needS set l ≤ 65536 * (l.length : Int)
  | [], _ => by simp [needS]
  | x :: r, h => by
    have := needS_rng set (l := r) fun y hy => h y (by simp [hy])
    have := h x (by simp)
    simp only [needS, List.length_cons]
    split <;> omega

theorem need_c (l : List (Int × Int)) (set : Int) (hl : l.length ≤ 1000) (hr : ∀ x ∈ l, 0 ≤ x.1 ∧ x.1 ≤ 65536) : CallsH Tryz.prog 119 [.c (.d (.sl (r2 l))), I set] [] (I (needS set l)) [] := by
  have hp := r2_len l
  refine callsR_of tab mixed Tryz.func119 rfl (by decide) rfl rfl ?_
  conv => whnf
  refine loopN tab mixed (fun i => i ≤ l.length) l.length (fun i => [(10, I i), (5, I (needS set (l.take i)))]) (fun _ => []) 51 [] (by omega) ?_
  conv => whnf
  refine ⟨?_, fun i hi => ?_⟩
  · repeat' (first | exact trivial | rfl | refine And.intro ?_ ?_)
    all_goals (conv => whnf)
    repeat' (first | exact trivial | rfl | refine And.intro ?_ ?_)
  conv => whnf
  refine spD (fun h => ?_) (fun h => ?_) <;> conv => whnf
  · have hi' : i < l.length := by omega
    obtain ⟨p, hx⟩ := get_of hi'
    have hs := needS_rng set (l := l.take i) fun y hy => hr y (List.mem_of_mem_take hy)
    have hs' : (l.take i).length ≤ i := by simp; omega
    have hpr := hr p (List.mem_of_getElem? hx)
    refine ⟨by omega, _, r2_get hx, ?_⟩
    conv => whnf
    refine .intro (andn p.2 set) rfl ?_
    conv => whnf
    refine spE (fun h1 => ?_) (fun h1 => ?_) <;> conv => whnf
    · refine gv (by first | omega | (simp only []; omega) | (simp; omega)) (by first | omega | (simp only []; omega) | (simp; omega)) ?_
      conv => whnf
      refine gv (by first | omega | (simp only []; omega) | (simp; omega)) (by first | omega | (simp only []; omega) | (simp; omega)) ?_
      conv => whnf
      refine ⟨⟨hi', hi'⟩, [], ?_⟩
      repeat' (first | exact trivial | rfl | refine And.intro ?_ ?_)
      all_goals (conv => whnf)
      repeat' (first | exact trivial | rfl | refine And.intro ?_ ?_)
      rw [take_succ_of hx, needS_app, if_pos h1]
    · refine gv (by first | omega | (simp only []; omega) | (simp; omega)) (by first | omega | (simp only []; omega) | (simp; omega)) ?_
      conv => whnf
      refine ⟨⟨hi', hi'⟩, [], ?_⟩
      repeat' (first | exact trivial | rfl | refine And.intro ?_ ?_)
      all_goals (conv => whnf)
      repeat' (first | exact trivial | rfl | refine And.intro ?_ ?_)
      rw [take_succ_of hx, needS_app, if_neg h1]; simp
  · refine ⟨[], rfl, ⟨rfl, ?_⟩, trivial⟩
    have hi' : i = l.length := by omega
    simp [hi']

def rmS (set : Int) (l : List Int) : Nat → Int
  | 0 => 0
  | k + 1 => rmS set l k + if bit set k then (l[k]?).getD 0 else 0

theorem rmS_rng (set : Int) {l : List Int} {b : Int} (hb : 0 ≤ b) (h : ∀ x ∈ l, -b ≤ x ∧ x ≤ b) : ∀ k : Nat, -(b * (k : Int)) ≤ rmS set l k ∧ rmS set l k ≤ b * (k : Int)
  | 0 => by simp [rmS]
  | k + 1 => by
    have ih := rmS_rng set hb h k
    have e : b * ((k + 1 : Nat) : Int) = b * (k : Int) + b := by push_cast; rw [Int.mul_add, Int.mul_one]
    rw [e]
    simp only [rmS]
    split
    · cases hx : l[k]? with
      | none => simp; omega
      | some x => have := h x (List.mem_of_getElem? hx); simp; omega
    · omega

theorem room_c (l : List Int) (set : Int) (hl : l.length ≤ 60) (hr : ∀ x ∈ l, -1000000000 ≤ x ∧ x ≤ 1000000000) : CallsH Tryz.prog 120 [.c (.d (.sl (r1 l))), I set] [] (I (rmS set l l.length)) [] := by
  have hp := r1_len l
  refine callsR_of tab mixed Tryz.func120 rfl (by decide) rfl rfl ?_
  conv => whnf
  refine loopN tab mixed (fun i => i ≤ l.length) l.length (fun i => [(10, I i), (5, I (rmS set l i))]) (fun _ => []) 51 [] (by omega) ?_
  conv => whnf
  refine ⟨?_, fun i hi => ?_⟩
  · repeat' (first | exact trivial | rfl | refine And.intro ?_ ?_)
    all_goals (conv => whnf)
    repeat' (first | exact trivial | rfl | refine And.intro ?_ ?_)
  conv => whnf
  refine spD (fun h => ?_) (fun h => ?_) <;> conv => whnf
  · have hi' : i < l.length := by omega
    obtain ⟨x, hx⟩ := get_of hi'
    have hs := rmS_rng set (b := 1000000000) (by omega) hr i
    have hpr := hr x (List.mem_of_getElem? hx)
    refine ⟨by omega, _, r1_get hx, ?_⟩
    conv => whnf
    refine ⟨_, _, boundHas_c set i (by omega), ?_⟩
    conv => whnf
    refine ⟨fun h1 => ?_, fun h1 => ?_⟩ <;> conv => whnf
    · refine gv (by first | omega | (simp only []; omega) | (simp; omega)) (by first | omega | (simp only []; omega) | (simp; omega)) ?_
      conv => whnf
      refine gv (by first | omega | (simp only []; omega) | (simp; omega)) (by first | omega | (simp only []; omega) | (simp; omega)) ?_
      conv => whnf
      refine ⟨⟨hi', hi'⟩, [], ?_⟩
      repeat' (first | exact trivial | rfl | refine And.intro ?_ ?_)
      all_goals (conv => whnf)
      repeat' (first | exact trivial | rfl | refine And.intro ?_ ?_)
      simp [rmS, h1, hx]
    · refine gv (by first | omega | (simp only []; omega) | (simp; omega)) (by first | omega | (simp only []; omega) | (simp; omega)) ?_
      conv => whnf
      refine ⟨⟨hi', hi'⟩, [], ?_⟩
      repeat' (first | exact trivial | rfl | refine And.intro ?_ ?_)
      all_goals (conv => whnf)
      repeat' (first | exact trivial | rfl | refine And.intro ?_ ?_)
      simp [rmS, h1]
  · refine ⟨[], rfl, ⟨rfl, ?_⟩, trivial⟩
    have hi' : i = l.length := by omega
    simp [hi']

def rms (c : Cfg) (u : Int) (bl : List Int) : Nat → List Int
  | 0 => List.replicate c.regions.toNat 0
  | k + 1 => if bit u k then addAt (rms c u bl k) (regionOf c k) (capOf c k - (bl[k]?).getD 0) else rms c u bl k

theorem rms_len (c : Cfg) (u : Int) (bl : List Int) : ∀ k, (rms c u bl k).length = c.regions.toNat
  | 0 => by simp [rms]
  | k + 1 => by
    simp only [rms]
    split
    · rw [addAt_len, rms_len c u bl k]
    · exact rms_len c u bl k

theorem booked_rng {c : Cfg} {l : List (Int × Int)} (hg : Good c) (hl : l.length = c.tenants.length) : ∀ x ∈ booked c l, 0 ≤ x ∧ x ≤ 4194304 := by
  intro x hx
  have := bk_rng hg l l.length x hx
  have := hg.tenants
  omega

theorem rms_rng {c : Cfg} (hg : Good c) (u : Int) {bl : List Int} (hb : ∀ x ∈ bl, 0 ≤ x ∧ x ≤ 4194304) : ∀ k : Nat, ∀ x ∈ rms c u bl k, -(4194304 * (k : Int)) ≤ x ∧ x ≤ 4194304 * (k : Int)
  | 0, x, hx => by simp [rms] at hx; omega
  | k + 1, x, hx => by
    have ih := rms_rng hg u hb k
    simp only [rms] at hx
    split at hx
    · have hc := hg.laid.capOf k
      have hbk : 0 ≤ (bl[k]?).getD 0 ∧ (bl[k]?).getD 0 ≤ 4194304 := by
        cases h : bl[k]? with
        | none => simp
        | some y => have := hb y (List.mem_of_getElem? h); simpa using this
      have := addAt_rng (i := regionOf c k) ih (n := capOf c k - (bl[k]?).getD 0) (a' := -4194304) (b' := 4194304) (by omega) (by omega) (by omega) x hx
      omega
    · have := ih x hx; omega

theorem rooms_c (c : Cfg) (u : Int) (hd : Bool) (l : List (Int × Int)) (hf : Fit c l) : CallsH Tryz.prog 118 [probV c u hd, plV l] [] (.c (.gs 0)) [.arr 3 (r1 (rms c u (booked c l) c.cells.length))] := by
  have hg := good_of hf.val
  have hcl := r2_len c.cells
  have hC := hg.cells
  have hR := hg.regions
  have hbl := bk_len c l l.length
  have hbr := booked_rng hg hf.len
  refine callsR_of tab mixed Tryz.func118 rfl (by decide) rfl rfl ?_
  conv => whnf
  refine ⟨by omega, by omega, ⟨by omega⟩, ?_⟩
  conv => whnf
  refine ⟨_, _, (booked_c c u hd l hf).frozen, ?_⟩
  conv => whnf
  refine loopN tab mixed (fun i => i ≤ c.cells.length) c.cells.length (fun i => [(20, I i)]) (fun i => [(1, .arr 3 (r1 (rms c u (booked c l) i)))]) 51 [(1, some 1)] (by omega) ?_
  conv => whnf
  refine ⟨?_, fun i hi => ?_⟩
  · repeat' (first | exact trivial | rfl | refine And.intro ?_ ?_)
    all_goals (conv => whnf)
    repeat' (first | exact trivial | rfl | refine And.intro ?_ ?_)
    rw [rms]; simp [r1]
  conv => whnf
  refine spD (fun h2 => ?_) (fun h2 => ?_) <;> conv => whnf
  · have hi' : i < c.cells.length := by omega
    obtain ⟨x, hx⟩ := get_of hi'
    have hrl := rms_len c u (booked c l) i
    have hrr := rms_rng hg u hbr i
    have hr1 := r1_len (rms c u (booked c l) i)
    have hcap : capOf c i = x.2 := by simp [capOf, hx]
    have hcr := hg.laid.capOf i
    obtain ⟨y, hy⟩ := get_of (l := booked c l) (i := i) (by unfold booked; omega)
    have hyr := hbr y (List.mem_of_getElem? hy)
    have hreg : 0 ≤ regionOf c i ∧ regionOf c i < c.regions := by
      obtain ⟨z1, z2⟩ := hg.laid.cell x (List.mem_of_getElem? hx)
      obtain ⟨z, hz⟩ := get_int (l := c.zones) z1 (by omega)
      have := hg.laid.zone z (List.mem_of_getElem? hz)
      have e : regionOf c i = z := by simp [regionOf, zoneOf, hx, regionOfZone, z1, hz]
      omega
    refine ⟨by omega, _, r2_get hx, ?_⟩
    conv => whnf
    refine ⟨_, _, boundHas_c u i (by omega), ?_⟩
    conv => whnf
    refine ⟨fun h1 => ?_, fun h1 => ?_⟩ <;> conv => whnf
    · obtain ⟨z, hz⟩ := get_int (l := rms c u (booked c l) i) (i := regionOf c i) hreg.1 (by omega)
      have hzr := hrr z (List.mem_of_getElem? hz)
      refine ⟨by kernel_rfl, ?_⟩
      conv => whnf
      refine ⟨_, _, regionOf_c c i hg.laid.cells hg.laid.zones, ?_⟩
      conv => whnf
      refine ⟨hreg.1, by omega, _, r1_get hz, ?_⟩
      conv => whnf
      refine ⟨by omega, _, r1_get hy, ?_⟩
      conv => whnf
      refine gv (by first | omega | (simp only []; omega) | (simp; omega)) (by first | omega | (simp only []; omega) | (simp; omega)) ?_
      conv => whnf
      refine gv (by first | omega | (simp only []; omega) | (simp; omega)) (by first | omega | (simp only []; omega) | (simp; omega)) ?_
      conv => whnf
      refine ⟨hreg.1, by omega, _, r1_get hz, ?_⟩
      conv => whnf
      refine gv (by first | omega | (simp only []; omega) | (simp; omega)) (by first | omega | (simp only []; omega) | (simp; omega)) ?_
      conv => whnf
      refine ⟨⟨hi', hi'⟩, [(1, some 1)], ?_⟩
      repeat' (first | exact trivial | rfl | refine And.intro ?_ ?_)
      all_goals (conv => whnf)
      repeat' (first | exact trivial | rfl | refine And.intro ?_ ?_)
      rw [← r1_set, ← addAt_in hreg.1 (by omega) hz]
      simp [rms, h1, hcap, hy]
    · refine gv (by first | omega | (simp only []; omega) | (simp; omega)) (by first | omega | (simp only []; omega) | (simp; omega)) ?_
      conv => whnf
      refine ⟨⟨hi', hi'⟩, [(1, some 1)], ?_⟩
      repeat' (first | exact trivial | rfl | refine And.intro ?_ ?_)
      all_goals (conv => whnf)
      repeat' (first | exact trivial | rfl | refine And.intro ?_ ?_)
      simp [rms, h1]
  · refine ⟨[(0, some 1)], rfl, rfl, ⟨rfl, ?_⟩, trivial⟩
    have hi' : i = c.cells.length := by omega
    simp [hi']

def need (c : Cfg) (u : Int) (l : List (Int × Int)) (set : Int) : Int := needS set (dm c u l l.length)

def room (c : Cfg) (u : Int) (l : List (Int × Int)) (set : Int) : Int := rmS set (rms c u (booked c l) c.cells.length) c.regions.toNat

theorem dm_rng {c : Cfg} (hg : Good c) (u : Int) (l : List (Int × Int)) : ∀ k, ∀ x ∈ dm c u l k, 0 ≤ x.1 ∧ x.1 ≤ 65536
  | 0, x, hx => by simp [dm] at hx
  | k + 1, x, hx => by
    have ih := dm_rng hg u l k
    simp only [dm] at hx
    split at hx
    · split at hx
      · rcases List.mem_append.1 hx with h | h
        · exact ih x h
        · simp at h; rw [h]; exact hg.load k
      · exact ih x hx
    · exact ih x hx

theorem rms_ok {c : Cfg} {u : Int} {l : List (Int × Int)} (hf : Fit c l) : (rms c u (booked c l) c.cells.length).length ≤ 60 ∧ ∀ x ∈ rms c u (booked c l) c.cells.length, -1000000000 ≤ x ∧ x ≤ 1000000000 := by
  have hg := good_of hf.val
  have h1 := hg.regions
  have h2 := hg.cells
  refine ⟨by rw [rms_len]; omega, fun x hx => ?_⟩
  have := rms_rng hg u (booked_rng hg hf.len) c.cells.length x hx
  omega

/-- the least set whose need is greater than its room -/
def exc (c : Cfg) (u : Int) (l : List (Int × Int)) : Option Nat := (List.range (2 ^ c.regions.toNat)).find? fun k => decide (1 ≤ k) && decide (room c u l (k : Int) < need c u l (k : Int))

abbrev excV (o : Option Nat) : AV := .tup [.inl (.d (i64 (o.getD 0 : Nat))), .inl (.d (.bool o.isSome))]

theorem exc_some {c : Cfg} {u : Int} {l : List (Int × Int)} {i : Nat} (h1 : 1 ≤ i) (h2 : i < 2 ^ c.regions.toNat) (h3 : room c u l i < need c u l i) (hn : ∀ k : Nat, 1 ≤ k → k < i → ¬ room c u l k < need c u l k) : exc c u l = some i := by
  unfold exc
  rw [List.find?_range_eq_some]
  refine ⟨by simp [h1, h3], by simp [h2], fun j hj => ?_⟩
  by_cases h : 1 ≤ j
  · simp [h, Int.not_lt.1 (hn j h hj)]
  · simp [h]

theorem exc_none {c : Cfg} {u : Int} {l : List (Int × Int)} (hn : ∀ k : Nat, 1 ≤ k → k < 2 ^ c.regions.toNat → ¬ room c u l k < need c u l k) : exc c u l = none := by
  unfold exc
  rw [List.find?_range_eq_none]
  intro j hj
  by_cases h : 1 ≤ j
  · simp [h, Int.not_lt.1 (hn j h hj)]
  · simp [h]

theorem Exceeded_c (c : Cfg) (u : Int) (hd : Bool) (l : List (Int × Int)) (hf : Fit c l) : CallsH Tryz.prog 82 [probV c u hd, plV l] [] (excV (exc c u l)) [] := by
  have hg := good_of hf.val
  have h1 := dm_len c u l l.length
  have h2 := hf.len
  have h3 := hg.tenants
  have hr := rms_ok (u := u) hf
  have hl := rms_len c u (booked c l) c.cells.length
  have hR := hg.regions
  have hs := shlc (n := c.regions) (by omega)
  have h16 := two_reg hg
  have hpw := natpow c.regions.toNat
  refine callsR_of tab mixed Tryz.func82 rfl (by decide) rfl rfl ?_
  conv => whnf
  refine ⟨_, _, fit_c c u hd l, ?_⟩
  conv => whnf
  refine spN (fun h => (h hf).elim) (fun _ => ?_) <;> conv => whnf
  refine ⟨by kernel_rfl, ?_⟩
  conv => whnf
  refine ⟨_, _, (demands_c c u hd l hf).frozen, ?_⟩
  conv => whnf
  refine ⟨_, _, (rooms_c c u hd l hf).frozen, ?_⟩
  conv => whnf
  refine loopN tab mixed (fun i => i + 1 ≤ 2 ^ c.regions.toNat ∧ ∀ k : Nat, 1 ≤ k → k < i + 1 → ¬ room c u l k < need c u l k) (2 ^ c.regions.toNat) (fun i => [(8, I (i + 1 : Nat))]) (fun _ => []) 51 [] ⟨Nat.one_le_two_pow, fun k h1 h2 => by omega⟩ ?_
  conv => whnf
  refine ⟨?_, fun i ⟨hi, hJ⟩ => ?_⟩
  · repeat' (first | exact trivial | rfl | refine And.intro ?_ ?_)
    all_goals (conv => whnf)
    repeat' (first | exact trivial | rfl | refine And.intro ?_ ?_)
  conv => whnf
  refine ⟨by omega, .intro _ hs.1 ?_⟩
  conv => whnf
  refine spD (fun h => ?_) (fun h => ?_) <;> conv => whnf
  · have hi' : i + 1 < 2 ^ c.regions.toNat := by omega
    refine ⟨_, _, need_c _ _ (by omega) (dm_rng hg u l _), ?_⟩
    conv => whnf
    refine ⟨_, _, room_c _ _ hr.1 hr.2, ?_⟩
    conv => whnf
    rw [hl]
    refine spD (fun h4 => ?_) (fun h4 => ?_) <;> conv => whnf
    · have e := exc_some (c := c) (u := u) (l := l) (i := i + 1) (by omega) hi' h4 hJ
      rw [e]
      exact ⟨[], rfl, ⟨⟨rfl, rfl⟩, rfl, trivial⟩, trivial⟩
    · refine gv (by first | omega | (simp only []; omega) | (simp; omega)) (by first | omega | (simp only []; omega) | (simp; omega)) ?_
      conv => whnf
      refine ⟨⟨by omega, hi', fun k hk1 hk2 => ?_⟩, [], ?_⟩
      · by_cases hk : k < i + 1
        · exact hJ k hk1 hk
        · have : k = i + 1 := by omega
          subst this; exact h4
      · repeat' (first | exact trivial | rfl | refine And.intro ?_ ?_)
        all_goals (conv => whnf)
        repeat' (first | exact trivial | rfl | refine And.intro ?_ ?_)
  · have e := exc_none (c := c) (u := u) (l := l) (fun k hk1 hk2 => hJ k hk1 (by omega))
    rw [e]
    exact ⟨[], rfl, ⟨⟨rfl, rfl⟩, rfl, trivial⟩, trivial⟩

end Go.Proofs.YtelnligfebjjiaaGreat
