/- Contracts of the tape that configurations are made of, and the lists that the loops of Config make. Conditions: those ahead of each theorem. -/
import Derived.Test.YtelnligfebjjiaaGreatTopoF
namespace Go.Proofs.YtelnligfebjjiaaGreat
open Go Go.Cpl

abbrev tapeO (l : List Int) (at_ : Int) : HObj := .box [.d (.sl (r1 l)), .d (i64 at_)]

theorem new_c (l : List Int) : CallsH Tryz.prog 48 [.c (.d (.sl (r1 l)))] [] (.c (.ptr 0 0 0)) [tapeO l 0] := by
  refine callsR_of tab mixed Tryz.func48 rfl (by decide) rfl rfl ?_
  conv => whnf
  exact ⟨[(0, some 0)], rfl, ⟨rfl, rfl, rfl⟩, ⟨⟨rfl, ⟨rfl, rfl⟩, trivial⟩, trivial⟩⟩

/-- the tape's next number, and where it stands then -/
def tv (l : List Int) (at_ n : Int) : Int := if l = [] then 0 else ((l[(at_ % (l.length : Int)).toNat]?).getD 0 % 1073741824 + at_ / (l.length : Int) * 7) % n

def ta (l : List Int) (at_ : Int) : Int := if l = [] then at_ else at_ + 1

theorem tv_le (l : List Int) (at_ : Int) {n : Int} (hn : 0 < n) : 0 ≤ tv l at_ n ∧ tv l at_ n < n := by
  unfold tv
  split
  · omega
  · exact ⟨Int.emod_nonneg _ (by omega), Int.emod_lt_of_pos _ hn⟩

theorem ta_le (l : List Int) (at_ : Int) : at_ ≤ ta l at_ ∧ ta l at_ ≤ at_ + 1 := by
  unfold ta; split <;> omega

theorem next_c (l : List Int) (at_ n : Int) (h0 : 0 ≤ at_) (h1 : at_ ≤ 1000000) (hn : 0 < n) (hn' : n ≤ 1000000) :
    CallsH Tryz.prog 50 [.c (.ptr 0 0 0), I n] [tapeO l at_] (I (tv l at_ n)) [tapeO l (ta l at_)] := by
  have hl := r1_len l
  by_cases he : l = []
  · subst he
    refine callsR_of tab mixed Tryz.func50 rfl (by decide) rfl rfl ?_
    conv => whnf
    refine spE (fun h => ?_) (fun h => ?_) <;> conv => whnf
    · exact ⟨[(0, some 0)], rfl, ⟨rfl, rfl⟩, ⟨⟨rfl, ⟨rfl, rfl⟩, trivial⟩, trivial⟩⟩
    · exact absurd rfl h
  · have hp : 0 < l.length := by cases l with
      | nil => exact absurd rfl he
      | cons => simp
    have hm1 := Int.emod_nonneg at_ (b := l.length) (by omega)
    have hm2 := Int.emod_lt_of_pos at_ (b := l.length) (by omega)
    have hd1 : 0 ≤ at_ / (l.length : Int) := Int.ediv_nonneg h0 (by omega)
    have hd2 : at_ / (l.length : Int) ≤ at_ := Int.ediv_le_self _ h0
    obtain ⟨x, hx⟩ := get_int (l := l) hm1 (by omega)
    have hr1 := Int.emod_nonneg x (b := 1073741824) (by omega)
    have hr2 := Int.emod_lt_of_pos x (b := 1073741824) (by omega)
    have e1 : tv l at_ n = (x % 1073741824 + at_ / (l.length : Int) * 7) % n := by simp [tv, he, hx]
    have e2 : ta l at_ = at_ + 1 := by simp [ta, he]
    rw [e1, e2]
    refine callsR_of tab mixed Tryz.func50 rfl (by decide) rfl rfl ?_
    conv => whnf
    refine spE (fun h => ?_) (fun h => ?_) <;> conv => whnf
    · omega
    · refine ⟨by kernel_rfl, ?_⟩
      conv => whnf
      refine ⟨by omega, .intro (at_ % (l.length : Int)) (by rw [hl, Int.tmod_eq_emod_of_nonneg h0]) ?_⟩
      conv => whnf
      refine ⟨hm1, _, r1_get hx, ?_⟩
      conv => whnf
      refine ⟨by kernel_rfl, ?_⟩
      conv => whnf
      refine ⟨by omega, .intro (at_ / (l.length : Int)) (by rw [hl, Int.tdiv_eq_ediv_of_nonneg h0, wr (by omega) (by omega)]) ?_⟩
      conv => whnf
      refine gv (by omega) (by omega) ?_
      conv => whnf
      refine ⟨_, _, mod_c _ _ (by omega) (by omega), ?_⟩
      conv => whnf
      refine gv (by omega) (by omega) ?_
      conv => whnf
      refine gv (by omega) (by omega) ?_
      conv => whnf
      refine ⟨_, _, mod_c _ _ (by omega) (by omega), ?_⟩
      conv => whnf
      exact ⟨[(0, some 0)], rfl, ⟨rfl, rfl⟩, ⟨⟨rfl, ⟨rfl, rfl⟩, trivial⟩, trivial⟩⟩

theorem range_c (l : List Int) (at_ lo hi : Int) (h0 : 0 ≤ at_) (h1 : at_ ≤ 1000000) (hn : lo ≤ hi) (hlo : -1000 ≤ lo) (hhi : hi ≤ 100000) :
    CallsH Tryz.prog 61 [.c (.ptr 0 0 0), I lo, I hi] [tapeO l at_] (I (lo + tv l at_ (hi - lo + 1))) [tapeO l (ta l at_)] := by
  have hv := tv_le l at_ (n := hi - lo + 1) (by omega)
  refine callsR_of tab mixed Tryz.func61 rfl (by decide) rfl rfl ?_
  conv => whnf
  refine gv (by omega) (by omega) ?_
  conv => whnf
  refine gv (by omega) (by omega) ?_
  conv => whnf
  refine ⟨_, _, next_c l at_ _ h0 h1 (by omega) (by omega), ?_⟩
  conv => whnf
  refine gv (by omega) (by omega) ?_
  conv => whnf
  exact ⟨[(0, some 0)], rfl, ⟨rfl, rfl⟩, ⟨⟨rfl, ⟨rfl, rfl⟩, trivial⟩, trivial⟩⟩

theorem yes_c (l : List Int) (at_ n : Int) (h0 : 0 ≤ at_) (h1 : at_ ≤ 1000000) (hn : 0 < n) (hn' : n ≤ 1000000) :
    CallsH Tryz.prog 62 [.c (.ptr 0 0 0), I n] [tapeO l at_] (B (tv l at_ n == 0)) [tapeO l (ta l at_)] := by
  refine callsR_of tab mixed Tryz.func62 rfl (by decide) rfl rfl ?_
  conv => whnf
  refine ⟨_, _, next_c l at_ n h0 h1 hn hn', ?_⟩
  conv => whnf
  exact ⟨[(0, some 0)], rfl, rfl, ⟨⟨rfl, ⟨rfl, rfl⟩, trivial⟩, trivial⟩⟩

/-- the turns of a loop: a list of states, the last of which is the last -/
theorem turns {S : Type} (step : S → Option S) (μ : S → Nat) (J : S → Prop) (h : ∀ s s', J s → step s = some s' → J s' ∧ μ s' < μ s) : ∀ (m : Nat) (s0 : S), μ s0 ≤ m → J s0 →
    ∃ (N : Nat) (s : Nat → S), s 0 = s0 ∧ (∀ i, i < N → step (s i) = some (s (i + 1))) ∧ step (s N) = none ∧ ∀ i, i ≤ N → J (s i)
  | m, s0, hm, hJ => by
    cases hs : step s0 with
    | none => exact ⟨0, fun _ => s0, rfl, by simp, hs, fun i _ => hJ⟩
    | some s1 =>
      obtain ⟨h1, h2⟩ := h _ _ hJ hs
      obtain ⟨m', rfl⟩ : ∃ m', m = m' + 1 := ⟨m - 1, by omega⟩
      obtain ⟨N, s, g1, g2, g3, g4⟩ := turns step μ J h m' s1 (by omega) h1
      refine ⟨N + 1, fun i => match i with
        | 0 => s0
        | i + 1 => s i, rfl, fun i hi => ?_, g3, fun i hi => ?_⟩
      · cases i with
        | zero => simpa [g1] using hs
        | succ i => exact g2 i (by omega)
      · cases i with
        | zero => exact hJ
        | succ i => exact g4 i (by omega)

theorem at_last {S : Type} {step : S → Option S} {N : Nat} {s : Nat → S} (h : ∀ i, i < N → step (s i) = some (s (i + 1))) {i : Nat} (hi : i ≤ N) (hn : step (s i) = none) : i = N := by
  rcases Nat.lt_or_ge i N with h' | h'
  · rw [h i h'] at hn; cases hn
  · omega

theorem not_last {S : Type} {step : S → Option S} {N : Nat} {s : Nat → S} (h : ∀ i, i < N → step (s i) = some (s (i + 1))) (hN : step (s N) = none) {i : Nat} {s' : S} (hi : i ≤ N) (hn : step (s i) = some s') : i < N ∧ s (i + 1) = s' := by
  rcases Nat.lt_or_ge i N with h' | h'
  · exact ⟨h', by rw [h i h'] at hn; simpa using hn⟩
  · have : i = N := by omega
    subst this; rw [hN] at hn; cases hn

/-- the state of a loop of Config: its counter, the tape, what has been made -/
structure CS (α : Type) where
  i : Int
  at_ : Int
  l : List α

def zoneStep (l : List Int) (regions : Int) (s : CS Int) : Option (CS Int) :=
  if s.i < regions then some ⟨s.i + 1, s.at_, s.l ++ [s.i.tmod regions]⟩
  else if tv l s.at_ 3 = 0 ∧ s.i < 6 then some ⟨s.i + 1, ta l s.at_, s.l ++ [s.i.tmod regions]⟩
  else none

/-- what a made tenant is -/
structure MadeT (regions : Int) (x : Tenant) : Prop where
  load : 1 ≤ x.load ∧ x.load ≤ 12
  shadow : 0 ≤ x.shadow ∧ x.shadow ≤ x.load
  priority : 0 ≤ x.priority ∧ x.priority ≤ 3
  lag : -1 ≤ x.lag ∧ x.lag ≤ 3
  allowed : 1 ≤ x.allowed ∧ x.allowed ≤ 2 ^ regions.toNat - 1
  group : 0 ≤ x.group ∧ x.group ≤ 2

/-- what a made configuration is -/
structure Made (c : Cfg) : Prop where
  regions : 1 ≤ c.regions ∧ c.regions ≤ 3
  blast : 1 ≤ c.blast ∧ c.blast ≤ 3
  lease : 2 ≤ c.lease ∧ c.lease ≤ 12
  bake : 0 ≤ c.bake ∧ c.bake ≤ 8
  zones : c.regions ≤ c.zones.length ∧ c.zones.length ≤ 6
  zone : ∀ (i : Nat) x, c.zones[i]? = some x → x = (i : Int) % c.regions
  cells : c.zones.length ≤ c.cells.length ∧ c.cells.length ≤ 7
  cell : ∀ (i : Nat) x, c.cells[i]? = some x → x.1 = (i : Int) % c.zones.length ∧ 10 ≤ x.2 ∧ x.2 ≤ 40
  tenants : c.tenants.length ≤ 5
  tenant : ∀ x ∈ c.tenants, MadeT c.regions x
  versions : ∃ h r, c.versions = (0, h) :: r ∧ 0 ≤ h ∧ h ≤ 2 ∧ r.length ≤ 2 ∧ ∀ x ∈ r, 0 ≤ x.1 ∧ x.1 ≤ x.2 ∧ x.2 ≤ 3
  replicas : c.replicas.length = 1 ∨ c.replicas.length = 3
  replica : ∀ x ∈ c.replicas, 0 ≤ x ∧ x < c.zones.length
  observers : 1 ≤ c.observers.length ∧ c.observers.length ≤ 4
  observer : ∀ x ∈ c.observers, 0 ≤ x ∧ x < c.zones.length

theorem app_get {α : Type} {l : List α} {x y : α} {i : Nat} (h : (l ++ [x])[i]? = some y) : l[i]? = some y ∨ (i = l.length ∧ y = x) := by
  rcases Nat.lt_or_ge i l.length with h' | h'
  · left; rwa [List.getElem?_append_left h'] at h
  · right
    rw [List.getElem?_append_right h'] at h
    have := (List.getElem?_eq_some_iff.1 h).1
    simp at this
    have e : i = l.length := by omega
    subst e
    simp at h
    exact ⟨rfl, h.symm⟩

structure ZoneJ (regions a : Int) (s : CS Int) : Prop where
  i : s.i = s.l.length
  le : s.l.length ≤ 6
  a0 : a ≤ s.at_
  a1 : s.at_ ≤ a + s.i
  z : ∀ (i : Nat) x, s.l[i]? = some x → x = (i : Int) % regions

theorem zones_made (l : List Int) (regions a : Int) (hr : 1 ≤ regions ∧ regions ≤ 3) :
    ∃ (N : Nat) (s : Nat → CS Int), s 0 = ⟨0, a, []⟩ ∧ (∀ i, i < N → zoneStep l regions (s i) = some (s (i + 1))) ∧ zoneStep l regions (s N) = none ∧ ∀ i, i ≤ N → ZoneJ regions a (s i) := by
  refine turns (zoneStep l regions) (fun s => (6 - s.i).toNat) (ZoneJ regions a) (fun s s' hJ hs => ?_) 6 ⟨0, a, []⟩ (by simp) ⟨by simp, by simp, by simp, by simp, by simp⟩
  obtain ⟨h1, h2, h3, h4, h5⟩ := hJ
  have hz : ∀ (i : Nat) x, (s.l ++ [s.i.tmod regions])[i]? = some x → x = (i : Int) % regions := fun i x hx => by
    rcases app_get hx with h | ⟨h, h'⟩
    · exact h5 i x h
    · rw [h', h, h1, Int.tmod_eq_emod_of_nonneg (by omega)]
  have ht := ta_le l s.at_
  unfold zoneStep at hs
  split at hs
  · simp only [Option.some.injEq] at hs
    subst hs
    refine ⟨⟨?_, ?_, ?_, ?_, hz⟩, ?_⟩ <;> simp <;> omega
  · split at hs
    · simp only [Option.some.injEq] at hs
      subst hs
      refine ⟨⟨?_, ?_, ?_, ?_, hz⟩, ?_⟩ <;> simp <;> omega
    · cases hs

def cellStep (l : List Int) (nz : Int) (s : CS (Int × Int)) : Option (CS (Int × Int)) :=
  if s.i < nz then some ⟨s.i + 1, ta l s.at_, s.l ++ [(s.i.tmod nz, (1 + tv l s.at_ 4) * 10)]⟩
  else if tv l s.at_ 2 = 0 ∧ s.i < 7 then some ⟨s.i + 1, ta l (ta l s.at_), s.l ++ [(s.i.tmod nz, (1 + tv l (ta l s.at_) 4) * 10)]⟩
  else none

structure CellJ (nz a : Int) (s : CS (Int × Int)) : Prop where
  i : s.i = s.l.length
  le : s.l.length ≤ 7
  a0 : a ≤ s.at_
  a1 : s.at_ ≤ a + 2 * s.i
  z : ∀ (i : Nat) x, s.l[i]? = some x → x.1 = (i : Int) % nz ∧ 10 ≤ x.2 ∧ x.2 ≤ 40

theorem cells_made (l : List Int) (nz a : Int) (hr : 1 ≤ nz ∧ nz ≤ 6) :
    ∃ (N : Nat) (s : Nat → CS (Int × Int)), s 0 = ⟨0, a, []⟩ ∧ (∀ i, i < N → cellStep l nz (s i) = some (s (i + 1))) ∧ cellStep l nz (s N) = none ∧ ∀ i, i ≤ N → CellJ nz a (s i) := by
  refine turns (cellStep l nz) (fun s => (7 - s.i).toNat) (CellJ nz a) (fun s s' hJ hs => ?_) 7 ⟨0, a, []⟩ (by simp) ⟨by simp, by simp, by simp, by simp, by simp⟩
  obtain ⟨h1, h2, h3, h4, h5⟩ := hJ
  have hz : ∀ (v : Int), 0 ≤ v ∧ v < 4 → ∀ (i : Nat) x, (s.l ++ [(s.i.tmod nz, (1 + v) * 10)])[i]? = some x → x.1 = (i : Int) % nz ∧ 10 ≤ x.2 ∧ x.2 ≤ 40 := fun v hv i x hx => by
    rcases app_get hx with h | ⟨h, h'⟩
    · exact h5 i x h
    · rw [h', h]; simp only; rw [h1, Int.tmod_eq_emod_of_nonneg (by omega)]; omega
  have ht := ta_le l s.at_
  have ht' := ta_le l (ta l s.at_)
  have hv := tv_le l s.at_ (n := 4) (by omega)
  have hv' := tv_le l (ta l s.at_) (n := 4) (by omega)
  unfold cellStep at hs
  split at hs
  · simp only [Option.some.injEq] at hs
    subst hs
    refine ⟨⟨?_, ?_, ?_, ?_, hz _ hv⟩, ?_⟩ <;> simp <;> omega
  · split at hs
    · simp only [Option.some.injEq] at hs
      subst hs
      refine ⟨⟨?_, ?_, ?_, ?_, hz _ hv'⟩, ?_⟩ <;> simp <;> omega
    · cases hs

/-- a loop that counts down -/
def downStep {α : Type} (g : Int → α) (f : Int → Int) (s : CS α) : Option (CS α) :=
  if 0 < s.i then some ⟨s.i - 1, f s.at_, s.l ++ [g s.at_]⟩ else none

structure DownJ {α : Type} (p : α → Prop) (k a n : Int) (l0 : List α) (s : CS α) : Prop where
  i : 0 ≤ s.i
  a0 : a ≤ s.at_
  a1 : s.at_ ≤ a + k * (n - s.i)
  l : ∃ r, s.l = l0 ++ r ∧ (r.length : Int) + s.i = n ∧ ∀ x ∈ r, p x

theorem down_made {α : Type} (p : α → Prop) (g : Int → α) (f : Int → Int) (k a n : Int) (l0 : List α) (hn : 0 ≤ n) (hg : ∀ x, p (g x)) (hf : ∀ x, x ≤ f x ∧ f x ≤ x + k) :
    ∃ (N : Nat) (s : Nat → CS α), s 0 = ⟨n, a, l0⟩ ∧ (∀ i, i < N → downStep g f (s i) = some (s (i + 1))) ∧ downStep g f (s N) = none ∧ ∀ i, i ≤ N → DownJ p k a n l0 (s i) := by
  refine turns (downStep g f) (fun s => s.i.toNat) (DownJ p k a n l0) (fun s s' hJ hs => ?_) n.toNat ⟨n, a, l0⟩ (by simp) ⟨hn, by simp, by simp, [], by simp⟩
  obtain ⟨h1, h2, h3, r, h4, h5, h6⟩ := hJ
  unfold downStep at hs
  split at hs
  · rename_i hi
    simp only [Option.some.injEq] at hs
    subst hs
    have := hf s.at_
    have e : k * (n - (s.i - 1)) = k * (n - s.i) + k := by
      rw [show n - (s.i - 1) = (n - s.i) + 1 by omega, Int.mul_add, Int.mul_one]
    refine ⟨⟨by simp; omega, by simp; omega, by simp only; rw [e]; omega, r ++ [g s.at_], by simp [h4], by simp; omega, fun x hx => ?_⟩, by simp; omega⟩
    rcases List.mem_append.1 hx with h | h
    · exact h6 x h
    · simp at h; rw [h]; exact hg _
  · cases hs

def tenantOf (l : List Int) (R a : Int) : Tenant :=
  { load := 1 + tv l a 12, shadow := tv l (ta l a) (1 + tv l a 12 + 1), priority := tv l (ta l (ta l a)) 4, lag := -1 + tv l (ta l (ta l (ta l a))) 5,
    allowed := if tv l (ta l (ta l (ta l (ta l (ta l (ta l a)))))) 4 = 0 then 1 + tv l (ta l (ta l (ta l (ta l (ta l (ta l (ta l a))))))) (2 ^ R.toNat - 1 - 1 + 1) else 2 ^ R.toNat - 1,
    group := tv l (ta l (ta l (ta l (ta l a)))) 3, noisy := tv l (ta l (ta l (ta l (ta l (ta l a))))) 4 == 0 }

def tenantAt (l : List Int) (a : Int) : Int :=
  if tv l (ta l (ta l (ta l (ta l (ta l (ta l a)))))) 4 = 0 then ta l (ta l (ta l (ta l (ta l (ta l (ta l (ta l a))))))) else ta l (ta l (ta l (ta l (ta l (ta l (ta l a))))))

theorem two_pow {R : Int} (h : 1 ≤ R ∧ R ≤ 3) : (2 : Int) ^ R.toNat = 2 ∨ (2 : Int) ^ R.toNat = 4 ∨ (2 : Int) ^ R.toNat = 8 := by
  have : R = 1 ∨ R = 2 ∨ R = 3 := by omega
  rcases this with rfl | rfl | rfl <;> simp

theorem tenant_made (l : List Int) {R : Int} (hR : 1 ≤ R ∧ R ≤ 3) (a : Int) : MadeT R (tenantOf l R a) := by
  have h2 := two_pow hR
  have g1 := tv_le l a (n := 12) (by omega)
  have g2 := tv_le l (ta l a) (n := 1 + tv l a 12 + 1) (by omega)
  have g3 := tv_le l (ta l (ta l a)) (n := 4) (by omega)
  have g4 := tv_le l (ta l (ta l (ta l a))) (n := 5) (by omega)
  have g5 := tv_le l (ta l (ta l (ta l (ta l a)))) (n := 3) (by omega)
  have g6 := tv_le l (ta l (ta l (ta l (ta l (ta l (ta l (ta l a))))))) (n := 2 ^ R.toNat - 1 - 1 + 1) (by omega)
  refine ⟨by simp only [tenantOf]; omega, by simp only [tenantOf]; omega, by simp only [tenantOf]; omega, by simp only [tenantOf]; omega, ?_, by simp only [tenantOf]; omega⟩
  simp only [tenantOf]
  split <;> omega

theorem tenantAt_le (l : List Int) (a : Int) : a ≤ tenantAt l a ∧ tenantAt l a ≤ a + 8 := by
  have h1 := ta_le l a
  have h2 := ta_le l (ta l a)
  have h3 := ta_le l (ta l (ta l a))
  have h4 := ta_le l (ta l (ta l (ta l a)))
  have h5 := ta_le l (ta l (ta l (ta l (ta l a))))
  have h6 := ta_le l (ta l (ta l (ta l (ta l (ta l a)))))
  have h7 := ta_le l (ta l (ta l (ta l (ta l (ta l (ta l a))))))
  have h8 := ta_le l (ta l (ta l (ta l (ta l (ta l (ta l (ta l a)))))))
  unfold tenantAt
  split <;> omega

end Go.Proofs.YtelnligfebjjiaaGreat
