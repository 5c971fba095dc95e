/- Plain data and small lemmas that the contracts share (configurations as lists of numbers; splits; bounds). No conditions. -/
import Derived.Test.YtelnligfebjjiaaGreatTab
namespace Go.Proofs.YtelnligfebjjiaaGreat
open Go Go.Cpl

abbrev I (n : Int) : AV := .c (.d (.int .i64 n))

abbrev B (b : Bool) : AV := .c (.d (.bool b))

abbrev i64 (n : Int) : D := .int .i64 n

def r1 (l : List Int) : List (List D) := l.map fun x => [i64 x]

def r2 (l : List (Int × Int)) : List (List D) := l.map fun x => [i64 x.1, i64 x.2]

theorem r1_len (l : List Int) : (r1 l).length = l.length := by simp [r1]

theorem r2_len (l : List (Int × Int)) : (r2 l).length = l.length := by simp [r2]

theorem r1_get {l : List Int} {i : Nat} {x : Int} (h : l[i]? = some x) : (r1 l)[i]? = some [i64 x] := by simp [r1, h]

theorem r2_get {l : List (Int × Int)} {i : Nat} {x : Int × Int} (h : l[i]? = some x) : (r2 l)[i]? = some [i64 x.1, i64 x.2] := by simp [r2, h]

theorem r1_app (l : List Int) (x : Int) : r1 l ++ [[i64 x]] = r1 (l ++ [x]) := by simp [r1]

theorem r2_app (l : List (Int × Int)) (x y : Int) : r2 l ++ [[i64 x, i64 y]] = r2 (l ++ [(x, y)]) := by simp [r2]

theorem get_of {α : Type} {l : List α} {i : Nat} (h : i < l.length) : ∃ x, l[i]? = some x := ⟨l[i], by simp [h]⟩

theorem wr {x : Int} (h1 : -9223372036854775808 ≤ x) (h2 : x ≤ 9223372036854775807) : IntKind.i64.wrap x = x := by
  simp [IntKind.wrap, IntKind.signed, IntKind.bits]
  omega

theorem gv {x : Int} {K : Int → Prop} (h1 : -9223372036854775808 ≤ x) (h2 : x ≤ 9223372036854775807) (k : K x) : Gives (IntKind.i64.wrap x) K :=
  .intro x (wr h1 h2) k

theorem gvu {x : Int} {K : Int → Prop} (h1 : 0 ≤ x) (h2 : x < 18446744073709551616) (k : K x) : Gives (IntKind.u64.wrap x) K :=
  .intro x (by simp [IntKind.wrap, IntKind.signed, IntKind.bits]; omega) k

theorem gg {x : Int} {K : Int → Prop} (k : K x) : Gives x K := .intro x rfl k

theorem spD {p : Prop} [Decidable p] {A C : Prop} (h1 : p → A) (h2 : ¬p → C) : (decide p = true → A) ∧ (decide p = false → C) :=
  ⟨fun h => h1 (of_decide_eq_true h), fun h => h2 (of_decide_eq_false h)⟩

theorem spN {p : Prop} [Decidable p] {A C : Prop} (h1 : ¬p → A) (h2 : p → C) : ((!decide p) = true → A) ∧ ((!decide p) = false → C) :=
  ⟨fun h => h1 (by simpa using h), fun h => h2 (by simpa using h)⟩

theorem spE {a b : Int} {A C : Prop} (h1 : a = b → A) (h2 : a ≠ b → C) : ((a == b) = true → A) ∧ ((a == b) = false → C) :=
  ⟨fun h => h1 (by simpa using h), fun h => h2 (by simpa using h)⟩

theorem spNe {a b : Int} {A C : Prop} (h1 : a ≠ b → A) (h2 : a = b → C) : ((a != b) = true → A) ∧ ((a != b) = false → C) :=
  ⟨fun h => h1 (by simpa using h), fun h => h2 (by simpa using h)⟩

theorem row1 (x : D) (h : x.scalar = true) : ∀ r ∈ [[x]], r.length = 1 ∧ ∀ d ∈ r, d.scalar = true := by simp [h]

theorem row2 (x y : D) (h : x.scalar = true) (h' : y.scalar = true) : ∀ r ∈ [[x, y]], r.length = 2 ∧ ∀ d ∈ r, d.scalar = true := by simp [h, h']

theorem tm_mod (v n : Int) (h : 0 < n) : (v.tmod n + n).tmod n = v % n := by
  have h2 := Int.tmod_lt_of_pos v h
  have h3 : -n < v.tmod n := Int.lt_tmod_of_pos v h
  rw [Int.tmod_eq_emod_of_nonneg (by omega), Int.add_emod_right]
  have := Int.mul_tdiv_add_tmod v n
  conv => rhs; rw [← this]
  simp

theorem tmod2 (x : Int) : x.tmod 2 ≠ 0 ↔ x % 2 = 1 := by
  have := Int.mul_tdiv_add_tmod x 2
  have h1 := Int.tmod_lt_of_pos x (b := 2) (by omega)
  have h2 := Int.lt_tmod_of_pos x (b := 2) (by omega)
  omega

theorem and1 (a : Int) : IntKind.i64.wrap (BitVec.ofInt IntKind.i64.bits a &&& BitVec.ofInt IntKind.i64.bits 1).toNat = a % 2 := by
  have h : (BitVec.ofInt IntKind.i64.bits a &&& BitVec.ofInt IntKind.i64.bits 1).toNat = (a % 2).toNat := by
    rw [BitVec.toNat_and]
    have : (BitVec.ofInt IntKind.i64.bits 1).toNat = 1 := rfl
    rw [this, Nat.and_one_is_mod, BitVec.toNat_ofInt]
    simp only [IntKind.bits]
    omega
  rw [h, wr (by omega) (by omega)]
  omega

/-- the numbers below n that have a property, in order -/
def upto (p : Nat → Bool) : Nat → List Int
  | 0 => []
  | n + 1 => if p n then upto p n ++ [(n : Int)] else upto p n

theorem upto_le (p : Nat → Bool) : ∀ n, (upto p n).length ≤ n
  | 0 => Nat.le_refl _
  | n + 1 => by
    have := upto_le p n
    rw [upto]; split <;> simp <;> omega

theorem upto_yes {p : Nat → Bool} {n : Nat} (h : p n = true) : upto p (n + 1) = upto p n ++ [(n : Int)] := by simp [upto, h]

theorem upto_no {p : Nat → Bool} {n : Nat} (h : p n = false) : upto p (n + 1) = upto p n := by simp [upto, h]

structure Tenant where
  load : Int
  shadow : Int
  priority : Int
  lag : Int
  allowed : Int
  group : Int
  noisy : Bool

def rT (l : List Tenant) : List (List D) := l.map fun x => [i64 x.load, i64 x.shadow, i64 x.priority, i64 x.lag, i64 x.allowed, i64 x.group, .bool x.noisy]

theorem rT_len (l : List Tenant) : (rT l).length = l.length := by simp [rT]

theorem rT_get {l : List Tenant} {i : Nat} {x : Tenant} (h : l[i]? = some x) : (rT l)[i]? = some [i64 x.load, i64 x.shadow, i64 x.priority, i64 x.lag, i64 x.allowed, i64 x.group, .bool x.noisy] := by simp [rT, h]

structure Cfg where
  regions : Int
  zones : List Int
  cells : List (Int × Int)
  tenants : List Tenant
  versions : List (Int × Int)
  replicas : List Int
  observers : List Int
  blast : Int
  lease : Int
  bake : Int

abbrev cfgC (c : Cfg) : List AC := [.d (i64 c.regions), .d (.sl (r1 c.zones)), .d (.sl (r2 c.cells)), .d (.sl (rT c.tenants)), .d (.sl (r2 c.versions)), .d (.sl (r1 c.replicas)), .d (.sl (r1 c.observers)), .d (i64 c.blast), .d (i64 c.lease), .d (i64 c.bake)]

abbrev cfgV (c : Cfg) : AV := .agg (cfgC c)

end Go.Proofs.YtelnligfebjjiaaGreat
