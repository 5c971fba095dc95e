/- Contracts: what cellplanemake.Problem and cellplanemake.Places return. Conditions: those ahead of each theorem. -/
import Derived.Test.YtelnligfebjjiaaGreatTen
namespace Go.Proofs.YtelnligfebjjiaaGreat
open Go Go.Cpl

abbrev probC (c : Cfg) (u : Int) (h : Bool) : List AC := [.d (i64 c.regions), .d (.sl (r1 c.zones)), .d (.sl (r2 c.cells)), .d (.sl (rT c.tenants)), .d (.sl (r2 c.versions)), .d (.sl (r1 c.replicas)), .d (.sl (r1 c.observers)), .d (i64 c.blast), .d (i64 c.lease), .d (i64 c.bake), .d (i64 u), .d (.bool h)]

abbrev probV (c : Cfg) (u : Int) (h : Bool) : AV := .agg (probC c u h)

abbrev plV (l : List (Int × Int)) : AV := .c (.d (.sl (r2 l)))

theorem Made.laid {c : Cfg} (h : Made c) : Laid c := by
  have h1 := h.zones
  have h2 := h.cells
  have h3 := h.regions
  refine ⟨by omega, by omega, fun x hx => ?_, fun x hx => ?_, fun x hx => ?_, by omega⟩
  · obtain ⟨i, hi⟩ := List.getElem?_of_mem hx
    obtain ⟨e, _⟩ := h.cell i x hi
    rw [e]
    exact ⟨Int.emod_nonneg _ (by omega), Int.emod_lt_of_pos _ (by omega)⟩
  · obtain ⟨i, hi⟩ := List.getElem?_of_mem hx
    rw [h.zone i x hi]
    exact ⟨Int.emod_nonneg _ (by omega), Int.emod_lt_of_pos _ (by omega)⟩
  · obtain ⟨i, hi⟩ := List.getElem?_of_mem hx
    have := (h.cell i x hi).2
    omega

theorem Made.valid {c : Cfg} (hm : Made c) : valid c = 0 := by
  have hR := hm.regions
  have hZ := hm.zones
  have hC := hm.cells
  have hT := hm.tenants
  have hL := hm.laid
  obtain ⟨v, r, hv, hv1, hv2, hr, hrr⟩ := hm.versions
  have hlen : c.versions.length = r.length + 1 := by rw [hv]; rfl
  have hrep := hm.replicas
  have hobs := hm.observers
  have h1 : numbersP c := by unfold numbersP; omega
  have h2 : (c.replicas.length : Int) % 2 = 1 := by omega
  have h3 : placesP c := ⟨fun x hx => by have := hL.zone x hx; omega, fun x hx => by have := hL.cell x hx; omega, fun x hx => by have := hm.replica x hx; omega, fun x hx => by have := hm.observer x hx; omega⟩
  have h4 : valuesP c := by
    refine ⟨fun x hx => ?_, ⟨fun x hx => ?_, ?_⟩, ?_⟩
    · obtain ⟨i, hi⟩ := List.getElem?_of_mem hx
      have := (hm.cell i x hi).2
      omega
    · rw [hv] at hx
      rcases List.mem_cons.1 hx with h | h
      · subst h; simp only; omega
      · have := hrr x h; omega
    · simp [first0, hv]
    · have := hm.blast
      have := hm.lease
      have := hm.bake
      unfold boundsP
      omega
  simp [Go.Proofs.YtelnligfebjjiaaGreat.valid, h1, h2, h3, h4]

theorem Made.valid5 {c : Cfg} (hm : Made c) : valid5 c = 0 := by
  have hR := hm.regions
  have : ∀ t ∈ c.tenants, okT c.regions t := fun t ht => by
    have := hm.tenant t ht
    obtain ⟨h1, h2, h3, h4, h5, h6⟩ := this
    unfold okT
    omega
  unfold Go.Proofs.YtelnligfebjjiaaGreat.valid5
  rw [if_pos hm.valid, if_pos this]

theorem shlc {n : Int} (h : 0 ≤ n ∧ n ≤ 20) : IntKind.i64.wrap (1 * 2 ^ (min n.toNat IntKind.i64.bits)) = 2 ^ n.toNat ∧ (2 : Int) ^ n.toNat ≤ 1048576 ∧ 1 ≤ (2 : Int) ^ n.toNat := by
  obtain ⟨k, rfl⟩ := Int.eq_ofNat_of_zero_le h.1
  have hk : k ≤ 20 := by omega
  have h1 : (2 : Int) ^ k ≤ 2 ^ 20 := by
    have := Nat.pow_le_pow_right (n := 2) (by omega) hk
    exact_mod_cast this
  have h2 : 1 ≤ (2 : Int) ^ k := by
    have := Nat.one_le_two_pow (n := k)
    exact_mod_cast this
  have e : min (k : Int).toNat IntKind.i64.bits = k := by simp [IntKind.bits]; omega
  rw [e, Int.one_mul, Int.toNat_natCast]
  exact ⟨wr (by omega) (by omega), by omega, h2⟩

theorem problem_c (l : List Int) (cells : Int) (hd : Bool) : ∃ c u, Made c ∧ CallsH Tryz.prog 12 [.c (.d (.sl (r1 l))), I cells, B hd] [] (probV c u hd) [] := by
  obtain ⟨c, hm, hcfg⟩ := config_c l
  have hC := hm.cells
  have hl := r2_len c.cells
  have hS := shlc (n := (r2 c.cells).length) (by omega)
  refine ⟨c, if cells % 3 = 0 then cells else 2 ^ c.cells.length - 1, hm, ?_⟩
  refine callsR_of tab mixed Tryz.func12 rfl (by decide) rfl rfl ?_
  conv => whnf
  refine ⟨_, _, hcfg, ?_⟩
  conv => whnf
  refine gvu (by first | omega | (simp only []; omega) | (simp; omega)) (by first | omega | (simp only []; omega) | (simp; omega)) ?_
  conv => whnf
  refine ⟨by omega, .intro _ hS.1 ?_⟩
  conv => whnf
  refine gv (by first | omega | (simp only []; omega) | (simp; omega)) (by first | omega | (simp only []; omega) | (simp; omega)) ?_
  conv => whnf
  refine ⟨_, _, mod_c cells 3 (by omega) (by omega), ?_⟩
  conv => whnf
  refine spE (fun h => ?_) (fun h => ?_) <;> conv => whnf
  · refine ⟨[], rfl, ?_, trivial⟩
    simp [mtV, valOf, mtCs, mtC, eqD, h]
  · refine ⟨[], rfl, ?_, trivial⟩
    simp [mtV, valOf, mtCs, mtC, eqD, h, hl]

def cellV (l : List Int) (c : Cfg) (a : Int) : Int := if tv l a 9 = 0 then -1 else tv l (ta l a) c.cells.length

def cellA (l : List Int) (a : Int) : Int := if tv l a 9 = 0 then ta l a else ta l (ta l a)

theorem cellA_le (l : List Int) (a : Int) : a ≤ cellA l a ∧ cellA l a ≤ a + 2 := by
  have := ta_le l a
  have := ta_le l (ta l a)
  unfold cellA
  split <;> omega

theorem cell_c (l : List Int) (c : Cfg) (a : Int) (h0 : 0 ≤ a) (h1 : a ≤ 100000) (hc : 1 ≤ c.cells.length ∧ c.cells.length ≤ 1000) :
    CallsH Tryz.prog 49 [.c (.ptr 0 0 0), cfgV c] [tapeO l a] (I (cellV l c a)) [tapeO l (cellA l a)] := by
  have hl := r2_len c.cells
  have := ta_le l a
  refine callsR_of tab mixed Tryz.func49 rfl (by decide) rfl rfl ?_
  conv => whnf
  refine ⟨_, _, yes_c l a 9 h0 (by omega) (by omega) (by omega), ?_⟩
  conv => whnf
  refine spE (fun h => ?_) (fun h => ?_) <;> conv => whnf
  · exact ⟨[(0, some 0)], rfl, ⟨rfl, by simp [cellV, h]⟩, ⟨⟨rfl, ⟨rfl, by simp [cellA, h]⟩, trivial⟩, trivial⟩⟩
  · refine ⟨_, _, next_c l (ta l a) _ (by omega) (by omega) (by omega) (by omega), ?_⟩
    conv => whnf
    exact ⟨[(0, some 0)], rfl, ⟨rfl, by simp [cellV, h, hl]⟩, ⟨⟨rfl, ⟨rfl, by simp [cellA, h]⟩, trivial⟩, trivial⟩⟩

def pickV (l : List Int) (xs : List Int) (a : Int) : Int := if xs = [] then -1 else (xs[(tv l a xs.length).toNat]?).getD 0

def pickA (l : List Int) (xs : List Int) (a : Int) : Int := if xs = [] then a else ta l a

theorem pickA_le (l xs : List Int) (a : Int) : a ≤ pickA l xs a ∧ pickA l xs a ≤ a + 1 := by
  have := ta_le l a
  unfold pickA
  split <;> omega

theorem pick_c (l xs : List Int) (a : Int) (h0 : 0 ≤ a) (h1 : a ≤ 100000) (hc : xs.length ≤ 1000) :
    CallsH Tryz.prog 51 [.c (.ptr 0 0 0), .c (.d (.sl (r1 xs)))] [tapeO l a] (I (pickV l xs a)) [tapeO l (pickA l xs a)] := by
  have hl := r1_len xs
  refine callsR_of tab mixed Tryz.func51 rfl (by decide) rfl rfl ?_
  conv => whnf
  refine spE (fun h => ?_) (fun h => ?_) <;> conv => whnf
  · have he : xs = [] := List.length_eq_zero_iff.1 (by omega)
    exact ⟨[(0, some 0)], rfl, ⟨rfl, by simp [pickV, he]⟩, ⟨⟨rfl, ⟨rfl, by simp [pickA, he]⟩, trivial⟩, trivial⟩⟩
  · have he : xs ≠ [] := fun e => h (by simp [r1, e])
    have hv := tv_le l a (n := xs.length) (by omega)
    refine ⟨_, _, next_c l a _ h0 (by omega) (by omega) (by omega), ?_⟩
    conv => whnf
    obtain ⟨x, hx⟩ := get_int (l := xs) hv.1 (by omega)
    rw [hl]
    refine ⟨hv.1, _, r1_get hx, ?_⟩
    conv => whnf
    exact ⟨[(0, some 0)], rfl, ⟨rfl, by simp [pickV, he, hx]⟩, ⟨⟨rfl, ⟨rfl, by simp [pickA, he]⟩, trivial⟩, trivial⟩⟩

theorem pickV_mem (l xs : List Int) (a : Int) : pickV l xs a = -1 ∨ pickV l xs a ∈ xs := by
  unfold pickV
  split
  · exact .inl rfl
  · rename_i he
    have hp : 0 < xs.length := by cases xs with
      | nil => exact absurd rfl he
      | cons => simp
    have hv := tv_le l a (n := xs.length) (by omega)
    obtain ⟨x, hx⟩ := get_int (l := xs) hv.1 (by omega)
    rw [hx]
    exact .inr (List.mem_of_getElem? hx)

/-- the place of a tenant, and where the tape stands then -/
def plA3 (l : List Int) (a : Int) : Int := ta l (cellA l (cellA l a))

def plY (l : List Int) (a : Int) : Bool := decide (0 < tv l (cellA l (cellA l a)) 3)

def plH (l : List Int) (c : Cfg) (i : Nat) (a : Int) : Int := if plY l a then pickV l (homes c i) (plA3 l a) else cellV l c a

def plA4 (l : List Int) (c : Cfg) (i : Nat) (a : Int) : Int := pickA l (homes c i) (plA3 l a)

def plS (l : List Int) (c : Cfg) (i : Nat) (a : Int) : Int := if plY l a then pickV l (standbys c i (pickV l (homes c i) (plA3 l a))) (plA4 l c i a) else cellV l c (cellA l a)

def plN (l : List Int) (c : Cfg) (i : Nat) (a : Int) : Int := if plY l a then pickA l (standbys c i (pickV l (homes c i) (plA3 l a))) (plA4 l c i a) else plA3 l a

def plAt (l : List Int) (c : Cfg) : Nat → Int
  | 0 => 0
  | i + 1 => plN l c i (plAt l c i)

def pl (l : List Int) (c : Cfg) : Nat → List (Int × Int)
  | 0 => []
  | i + 1 => pl l c i ++ [(plH l c i (plAt l c i), plS l c i (plAt l c i))]

theorem plN_le (l : List Int) (c : Cfg) (i : Nat) (a : Int) : a ≤ plN l c i a ∧ plN l c i a ≤ a + 7 := by
  have h1 := cellA_le l a
  have h2 := cellA_le l (cellA l a)
  have h3 := ta_le l (cellA l (cellA l a))
  have h4 := pickA_le l (homes c i) (plA3 l a)
  have h5 := pickA_le l (standbys c i (pickV l (homes c i) (plA3 l a))) (plA4 l c i a)
  unfold plA4 plA3 at *
  unfold plN plA4 plA3
  split <;> omega

theorem plAt_le (l : List Int) (c : Cfg) : ∀ i, 0 ≤ plAt l c i ∧ plAt l c i ≤ 7 * i
  | 0 => by simp [plAt]
  | i + 1 => by
    have := plAt_le l c i
    have := plN_le l c i (plAt l c i)
    simp only [plAt]
    omega

theorem pl_len (l : List Int) (c : Cfg) : ∀ i, (pl l c i).length = i
  | 0 => rfl
  | i + 1 => by simp [pl, pl_len l c i]

theorem cellV_le (l : List Int) (c : Cfg) (a : Int) (hc : 1 ≤ c.cells.length) : -1 ≤ cellV l c a ∧ cellV l c a < c.cells.length := by
  unfold cellV
  split
  · omega
  · have := tv_le l (ta l a) (n := c.cells.length) (by omega)
    omega

theorem pick_le {l : List Int} {c : Cfg} {p : Nat → Bool} {a : Int} : -1 ≤ pickV l (upto p c.cells.length) a ∧ pickV l (upto p c.cells.length) a < c.cells.length := by
  rcases pickV_mem l (upto p c.cells.length) a with h | h
  · omega
  · obtain ⟨i, h1, h2, _⟩ := upto_mem h
    omega

theorem pl_rng (l : List Int) (c : Cfg) (hc : 1 ≤ c.cells.length) : ∀ i, ∀ p ∈ pl l c i, (-1 ≤ p.1 ∧ p.1 < c.cells.length) ∧ (-1 ≤ p.2 ∧ p.2 < c.cells.length)
  | 0, p, h => by simp [pl] at h
  | i + 1, p, h => by
    simp only [pl, List.mem_append, List.mem_singleton] at h
    rcases h with h | h
    · exact pl_rng l c hc i p h
    · rw [h]
      simp only [plH, plS]
      refine ⟨?_, ?_⟩
      · split
        · exact pick_le
        · exact cellV_le l c _ hc
      · split
        · exact pick_le
        · exact cellV_le l c _ hc

theorem homes_le {c : Cfg} {t : Int} (h : c.cells.length ≤ 1000) : (homes c t).length ≤ 1000 := by
  have := upto_le (fun i => may c t i) c.cells.length
  unfold homes; omega

theorem standbys_le {c : Cfg} {t v : Int} (h : c.cells.length ≤ 1000) : (standbys c t v).length ≤ 1000 := by
  have := upto_le (fun i => may c t i && apart c v i) c.cells.length
  unfold standbys; omega

theorem row2' (a b : Int) : ∀ r ∈ [[i64 a, i64 b]], r.length = 2 ∧ ∀ d ∈ r, d.scalar = true := row2 _ _ rfl rfl

theorem mkPlaces_c (l : List Int) (c : Cfg) (hc : Laid c) (hn : 1 ≤ c.cells.length) (hT : c.tenants.length ≤ 1000) :
    CallsH Tryz.prog 22 [.c (.d (.sl (r1 l))), cfgV c] [] (.c (.gs 0)) [.arr 64 (r2 (pl l c c.tenants.length))] := by
  have hl := rT_len c.tenants
  have hcl := hc.cells
  refine callsR_of tab mixed Tryz.func22 rfl (by decide) rfl rfl ?_
  conv => whnf
  refine ⟨_, _, new_c l, ?_⟩
  conv => whnf
  refine loopN tab mixed (fun i => i ≤ c.tenants.length) c.tenants.length (fun i => [(7, I i), (6, .c (.gs 50))]) (fun i => [(50, .arr 64 (r2 (pl l c i))), (1, tapeO l (plAt l c i))]) 52 [(50, none), (1, some 1)] (by omega) ?_
  conv => whnf
  refine ⟨?_, fun i hi => ?_⟩
  · repeat' (first | exact trivial | rfl | refine And.intro ?_ ?_)
    all_goals (conv => whnf)
    repeat' (first | exact trivial | rfl | refine And.intro ?_ ?_)
  conv => whnf
  refine spD (fun h => ?_) (fun h => ?_) <;> conv => whnf
  · have hi' : i < c.tenants.length := by omega
    have hA := plAt_le l c i
    have hA1 := cellA_le l (plAt l c i)
    have hA2 := cellA_le l (cellA l (plAt l c i))
    have hA3 := ta_le l (cellA l (cellA l (plAt l c i)))
    have hA4 := pickA_le l (homes c i) (plA3 l (plAt l c i))
    have hA3' : plA3 l (plAt l c i) = ta l (cellA l (cellA l (plAt l c i))) := rfl
    refine ⟨by kernel_rfl, ?_⟩
    conv => whnf
    refine ⟨_, _, cell_c l c _ (by omega) (by omega) ⟨hn, hcl⟩, ?_⟩
    conv => whnf
    refine ⟨_, _, cell_c l c _ (by omega) (by omega) ⟨hn, hcl⟩, ?_⟩
    conv => whnf
    refine ⟨_, _, next_c l _ 3 (by omega) (by omega) (by omega) (by omega), ?_⟩
    conv => whnf
    refine spD (fun h1 => ?_) (fun h1 => ?_) <;> conv => whnf
    · have hy : plY l (plAt l c i) = true := by simpa [plY] using h1
      refine ⟨_, _, (refHomes_c c i hc).frozen, ?_⟩
      conv => whnf
      refine ⟨_, _, pick_c l _ _ (by omega) (by omega) (homes_le hcl), ?_⟩
      conv => whnf
      refine ⟨_, _, (refStandbys_c c i _ hc).frozen, ?_⟩
      conv => whnf
      rw [← hA3']
      refine ⟨_, _, pick_c l _ _ (by omega) (by omega) (standbys_le hcl), ?_⟩
      conv => whnf
      refine ⟨row2' _ _, ⟨by rw [r2_len, pl_len]; simp; omega⟩, ?_⟩
      conv => whnf
      refine gv (by first | omega | (simp only []; omega) | (simp; omega)) (by first | omega | (simp only []; omega) | (simp; omega)) ?_
      conv => whnf
      refine ⟨⟨hi', hi'⟩, [(50, some 54), (1, some 1)], ?_⟩
      repeat' (first | exact trivial | rfl | refine And.intro ?_ ?_)
      all_goals (conv => whnf)
      repeat' (first | exact trivial | rfl | refine And.intro ?_ ?_)
      · rw [pl, ← r2_app]; simp [plH, plS, hy, plA4]
      · simp [plAt, plN, hy, plA4]
    · have hy : plY l (plAt l c i) = false := by simpa [plY] using h1
      refine ⟨row2' _ _, ⟨by rw [r2_len, pl_len]; simp; omega⟩, ?_⟩
      conv => whnf
      refine gv (by first | omega | (simp only []; omega) | (simp; omega)) (by first | omega | (simp only []; omega) | (simp; omega)) ?_
      conv => whnf
      refine ⟨⟨hi', hi'⟩, [(50, some 54), (1, some 1)], ?_⟩
      repeat' (first | exact trivial | rfl | refine And.intro ?_ ?_)
      all_goals (conv => whnf)
      repeat' (first | exact trivial | rfl | refine And.intro ?_ ?_)
      · rw [pl, ← r2_app]; simp [plH, plS, hy]
      · simp [plAt, plN, hy, plA3]
  · refine ⟨[(0, some 50)], rfl, rfl, ⟨rfl, ?_⟩, trivial⟩
    have hi' : i = c.tenants.length := by omega
    rw [hi']

end Go.Proofs.YtelnligfebjjiaaGreat
