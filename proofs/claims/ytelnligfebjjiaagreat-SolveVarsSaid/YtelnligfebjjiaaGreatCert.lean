/- Contracts: how cert reads a refutation. Conditions: those ahead of each theorem. -/
import Derived.Test.YtelnligfebjjiaaGreatMono
import Derived.Test.YtelnligfebjjiaaGreatBound
import Derived.Test.YtelnligfebjjiaaGreatCplZ
namespace Go.Proofs.YtelnligfebjjiaaGreat
open Go Go.Cpl

structure Nd where
  kind : Int
  var : Int
  set : Int
  brk : Brk
deriving DecidableEq

abbrev brk0 : Brk := ⟨0, 0, 0, 0, 0⟩

def rN (l : List Nd) : List (List D) := l.map fun x => [i64 x.kind, i64 x.var, i64 x.set, i64 x.brk.rule, i64 x.brk.tenant, i64 x.brk.other, i64 x.brk.cell, i64 x.brk.region]

theorem rN_len (l : List Nd) : (rN l).length = l.length := by simp [rN]

/-! ### variables of a placement -/

def getV (l : List (Int × Int)) (v : Int) : Int := if v % 2 = 1 then ((l[(v / 2).toNat]?).getD (0, 0)).2 else ((l[(v / 2).toNat]?).getD (0, 0)).1

def setV (l : List (Int × Int)) (v x : Int) : List (Int × Int) := if v % 2 = 1 then l.set (v / 2).toNat (((l[(v / 2).toNat]?).getD (0, 0)).1, x) else l.set (v / 2).toNat (x, ((l[(v / 2).toNat]?).getD (0, 0)).2)

def openV (c : Cfg) (l : List (Int × Int)) (v : Int) : Bool := decide (0 ≤ v ∧ v / 2 < l.length ∧ getV l v = -1) && !(decide (v % 2 = 1) && single c (v / 2))

theorem setV_len (l : List (Int × Int)) (v x : Int) : (setV l v x).length = l.length := by unfold setV; split <;> simp

theorem fit_setV {c : Cfg} {l : List (Int × Int)} {v x : Int} (hf : Fit c l) (hx : -1 ≤ x ∧ x < c.cells.length) : Fit c (setV l v x) := by
  refine ⟨hf.val, by rw [setV_len]; exact hf.len, fun p hp => ?_⟩
  unfold setV at hp
  by_cases hlt : (v / 2).toNat < l.length
  · obtain ⟨q, hq⟩ := get_of hlt
    have hqr := hf.rng q (List.mem_of_getElem? hq)
    rw [hq] at hp
    simp only [Option.getD_some] at hp
    split at hp
    · rcases List.mem_or_eq_of_mem_set hp with hp | rfl
      · exact hf.rng p hp
      · exact ⟨hqr.1, hx⟩
    · rcases List.mem_or_eq_of_mem_set hp with hp | rfl
      · exact hf.rng p hp
      · exact ⟨hx, hqr.2⟩
  · split at hp
    · rw [List.set_eq_of_length_le (by omega)] at hp; exact hf.rng p hp
    · rw [List.set_eq_of_length_le (by omega)] at hp; exact hf.rng p hp

/-! ### reading a refutation -/

def rdC (f : Nat → Nat → Bool × Nat) : List Nat → Nat → Bool × Nat
  | [], n => (true, n)
  | i :: r, n => match f i n with
    | (true, n') => rdC f r n'
    | (false, n') => (false, n')

def usK (u : Int) (k : Nat) : List Nat := (List.range k).filter fun i => bit u i

def nodeB (c : Cfg) (u : Int) (hd : Bool) (l : List (Int × Int)) (x : Nd) : Bool := decide (x.var = 0 ∧ x.set = 0 ∧ x.brk ∈ partialL c u hd l)

def nodeX (c : Cfg) (u : Int) (l : List (Int × Int)) (x : Nd) : Bool := decide (x.var = 0 ∧ x.brk = brk0 ∧ 1 ≤ x.set ∧ x.set < 2 ^ c.regions.toNat ∧ room c u l x.set < need c u l x.set)

/-- read from a node on: whether it is right, and the next node -/
def rdN (c : Cfg) (u : Int) (hd : Bool) (tree : List Nd) : Nat → List (Int × Int) → Nat → Bool × Nat
  | fuel, l, n => match tree[n]? with
    | none => (false, n)
    | some x => if x.kind = 2 then (nodeB c u hd l x, n + 1) else if x.kind = 3 then (nodeX c u l x, n + 1)
      else if x.kind = 1 ∧ x.set = 0 ∧ x.brk = brk0 ∧ openV c l x.var = true then match fuel with
        | 0 => (false, n + 1)
        | fuel + 1 => rdC (fun i n => rdN c u hd tree fuel (setV l x.var i) n) (usK u c.cells.length) (n + 1)
      else (false, n + 1)

theorem usK_succ (u : Int) (k : Nat) : usK u (k + 1) = usK u k ++ if bit u k = true then [k] else [] := by
  unfold usK
  rw [List.range_succ, List.filter_append]
  congr 1
  simp [List.filter_cons]

theorem usK_split (u : Int) : ∀ {k n : Nat}, k ≤ n → ∃ r, usK u n = usK u k ++ r
  | k, 0, h => ⟨[], by rw [show k = 0 by omega]; simp⟩
  | k, n + 1, h => by
    rcases Nat.lt_or_ge n k with h' | h'
    · exact ⟨[], by rw [show k = n + 1 by omega]; simp⟩
    · obtain ⟨r, hr⟩ := usK_split u h'
      exact ⟨r ++ if bit u n = true then [n] else [], by rw [usK_succ, hr]; simp⟩

end Go.Proofs.YtelnligfebjjiaaGreat
