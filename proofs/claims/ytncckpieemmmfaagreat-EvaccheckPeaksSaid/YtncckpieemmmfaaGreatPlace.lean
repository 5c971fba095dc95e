/- Contracts: what cellplanemake.Problem and cellplanemake.Places return. Conditions: those ahead of each theorem. -/
import Derived.Test.YtncckpieemmmfaaGreatTen
namespace Go.Proofs.YtncckpieemmmfaaGreat
open Go Go.Cpl

theorem Made.laid {c : Cfg} (h : Made c) : Laid c := by
  have h1 := h.zones
  have h2 := h.cells
  have h3 := h.regions
  refine ⟨by omega, by omega, fun x hx => ?_, fun x hx => ?_, fun x hx => ?_, by omega⟩
  · obtain ⟨i, hi⟩ := List.getElem?_of_mem hx
    obtain ⟨e, _⟩ := h.cell i x hi
    rw [e]
    exact ⟨Int.emod_nonneg _ (by omega), Int.emod_lt_of_pos _ (by omega)⟩
  · obtain ⟨i, hi⟩ := List.getElem?_of_mem hx
    rw [h.zone i x hi]
    exact ⟨Int.emod_nonneg _ (by omega), Int.emod_lt_of_pos _ (by omega)⟩
  · obtain ⟨i, hi⟩ := List.getElem?_of_mem hx
    have := (h.cell i x hi).2
    omega

theorem Made.valid {c : Cfg} (hm : Made c) : valid c = 0 := by
  have hR := hm.regions
  have hZ := hm.zones
  have hC := hm.cells
  have hT := hm.tenants
  have hL := hm.laid
  obtain ⟨v, r, hv, hv1, hv2, hr, hrr⟩ := hm.versions
  have hlen : c.versions.length = r.length + 1 := by rw [hv]; rfl
  have hrep := hm.replicas
  have hobs := hm.observers
  have h1 : numbersP c := by unfold numbersP; omega
  have h2 : (c.replicas.length : Int) % 2 = 1 := by omega
  have h3 : placesP c := ⟨fun x hx => by have := hL.zone x hx; omega, fun x hx => by have := hL.cell x hx; omega, fun x hx => by have := hm.replica x hx; omega, fun x hx => by have := hm.observer x hx; omega⟩
  have h4 : valuesP c := by
    refine ⟨fun x hx => ?_, ⟨fun x hx => ?_, ?_⟩, ?_⟩
    · obtain ⟨i, hi⟩ := List.getElem?_of_mem hx
      have := (hm.cell i x hi).2
      omega
    · rw [hv] at hx
      rcases List.mem_cons.1 hx with h | h
      · subst h; simp only; omega
      · have := hrr x h; omega
    · simp [first0, hv]
    · have := hm.blast
      have := hm.lease
      have := hm.bake
      unfold boundsP
      omega
  simp [Go.Proofs.YtncckpieemmmfaaGreat.valid, h1, h2, h3, h4]

theorem Made.valid5 {c : Cfg} (hm : Made c) : valid5 c = 0 := by
  have hR := hm.regions
  have : ∀ t ∈ c.tenants, okT c.regions t := fun t ht => by
    have := hm.tenant t ht
    obtain ⟨h1, h2, h3, h4, h5, h6⟩ := this
    unfold okT
    omega
  unfold Go.Proofs.YtncckpieemmmfaaGreat.valid5
  rw [if_pos hm.valid, if_pos this]

def pickV (l : List Int) (xs : List Int) (a : Int) : Int := if xs = [] then -1 else (xs[(tv l a xs.length).toNat]?).getD 0

def pickA (l : List Int) (xs : List Int) (a : Int) : Int := if xs = [] then a else ta l a

theorem pickA_le (l xs : List Int) (a : Int) : a ≤ pickA l xs a ∧ pickA l xs a ≤ a + 1 := by
  have := ta_le l a
  unfold pickA
  split <;> omega

theorem pick_c (l xs : List Int) (a : Int) (h0 : 0 ≤ a) (h1 : a ≤ 100000) (hc : xs.length ≤ 1000) :
    CallsH Tryz.prog 139 [.c (.ptr 0 0 0), .c (.d (.sl (r1 xs)))] [tapeO l a] (I (pickV l xs a)) [tapeO l (pickA l xs a)] := by
  have hl := r1_len xs
  refine callsR_of tab mixed Tryz.func139 rfl (by decide) rfl rfl ?_
  conv => whnf
  refine spE (fun h => ?_) (fun h => ?_) <;> conv => whnf
  · have he : xs = [] := List.length_eq_zero_iff.1 (by omega)
    exact ⟨[(0, some 0)], rfl, ⟨rfl, by simp [pickV, he]⟩, ⟨⟨rfl, ⟨rfl, by simp [pickA, he]⟩, trivial⟩, trivial⟩⟩
  · have he : xs ≠ [] := fun e => h (by simp [r1, e])
    have hv := tv_le l a (n := xs.length) (by omega)
    refine ⟨_, _, next_c l a _ h0 (by omega) (by omega) (by omega), ?_⟩
    conv => whnf
    obtain ⟨x, hx⟩ := get_int (l := xs) hv.1 (by omega)
    rw [hl]
    refine ⟨hv.1, _, r1_get hx, ?_⟩
    conv => whnf
    exact ⟨[(0, some 0)], rfl, ⟨rfl, by simp [pickV, he, hx]⟩, ⟨⟨rfl, ⟨rfl, by simp [pickA, he]⟩, trivial⟩, trivial⟩⟩

theorem homes_le {c : Cfg} {t : Int} (h : c.cells.length ≤ 1000) : (homes c t).length ≤ 1000 := by
  have := upto_le (fun i => may c t i) c.cells.length
  unfold homes; omega

theorem standbys_le {c : Cfg} {t v : Int} (h : c.cells.length ≤ 1000) : (standbys c t v).length ≤ 1000 := by
  have := upto_le (fun i => may c t i && apart c v i) c.cells.length
  unfold standbys; omega

end Go.Proofs.YtncckpieemmmfaaGreat
