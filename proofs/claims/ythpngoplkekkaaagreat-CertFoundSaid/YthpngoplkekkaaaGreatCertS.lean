/- Contracts: the reference of cert. Conditions: those ahead of each theorem. -/
import Derived.Test.YthpngoplkekkaaaGreatCertF
import Derived.Test.YthpngoplkekkaaaGreatRulesR2
import Derived.Test.YthpngoplkekkaaaGreatBoundR
namespace Go.Proofs.YthpngoplkekkaaaGreat
open Go Go.Cpl

theorem filled_c (l : List (Int × Int)) (v x : Int) (h0 : 0 ≤ v) (h1 : v / 2 < l.length) (hl : l.length ≤ 1000) : CallsH Tryz.prog 79 [plV l, I v, I x] [] (.c (.gs 0)) [.arr 64 (r2 (setV l v x))] := by
  have hlr := r2_len l
  obtain ⟨p, hp⟩ := get_of (l := l) (i := (v / 2).toNat) (by omega)
  have hq : IntKind.i64.wrap (v.tdiv 2) = v / 2 := by
    rw [Int.tdiv_eq_ediv_of_nonneg (by omega)]; exact wr (by omega) (by omega)
  have hrm : v.tmod 2 = v % 2 := Int.tmod_eq_emod_of_nonneg (by omega)
  refine callsR_of tab mixed Tryz.func79 rfl (by decide) rfl rfl ?_
  conv => whnf
  refine ⟨fun r hr => by obtain ⟨x, _, rfl⟩ := List.mem_map.1 hr; simp [D.scalar], ⟨by simp; omega⟩, ?_⟩
  conv => whnf
  rw [List.nil_append]
  refine ⟨by decide, .intro _ hrm ?_⟩
  conv => whnf
  refine spE (fun hm => ?_) (fun hm => ?_) <;> conv => whnf
  · refine ⟨by decide, .intro _ hq ?_⟩
    conv => whnf
    refine ⟨by omega, by omega, ?_⟩
    conv => whnf
    refine ⟨_, r2_get hp, ?_⟩
    conv => whnf
    refine ⟨[(0, some 1)], rfl, ?_⟩
    rw [setV_even (by omega) hp]
    repeat' (first | exact trivial | rfl | refine And.intro ?_ ?_)
    all_goals (conv => whnf)
    repeat' (first | exact trivial | rfl | refine And.intro ?_ ?_)
    rw [r2_set'']
  · refine ⟨by decide, .intro _ hq ?_⟩
    conv => whnf
    refine ⟨by omega, by omega, ?_⟩
    conv => whnf
    refine ⟨_, r2_get hp, ?_⟩
    conv => whnf
    refine ⟨[(0, some 1)], rfl, ?_⟩
    rw [setV_odd (by omega) hp]
    repeat' (first | exact trivial | rfl | refine And.intro ?_ ?_)
    all_goals (conv => whnf)
    repeat' (first | exact trivial | rfl | refine And.intro ?_ ?_)
    rw [r2_set'']

theorem in19_c (b : Brk) (l : List Brk) (hl : l.length ≤ 1000000) : CallsH Tryz.prog 74 [brkV b, .c (.d (.sl (rB l)))] [] (B (decide (b ∈ l))) [] := by
  have hla := rB_len l
  refine callsR_of tab mixed Tryz.func74 rfl (by decide) rfl rfl ?_
  conv => whnf
  refine loopN tab mixed (fun i => i ≤ l.length ∧ ∀ j, j < i → l[j]? ≠ some b) l.length (fun i => [(5, I i)]) (fun _ => []) 51 [] ⟨by omega, fun j hj => absurd hj (Nat.not_lt_zero j)⟩ ?_
  conv => whnf
  refine ⟨?_, fun i ⟨hi, hj⟩ => ?_⟩
  · repeat' (first | exact trivial | rfl | refine And.intro ?_ ?_)
    all_goals (conv => whnf)
    repeat' (first | exact trivial | rfl | refine And.intro ?_ ?_)
  conv => whnf
  refine spD (fun h => ?_) (fun h => ?_) <;> conv => whnf
  · have hi' : i < l.length := by omega
    obtain ⟨x, hx⟩ := get_of hi'
    refine ⟨by kernel_rfl, ?_⟩
    conv => whnf
    refine ⟨by omega, _, rB_get hx, ?_⟩
    conv => whnf
    refine ⟨by kernel_rfl, ?_⟩
    conv => whnf
    rw [show eqB _ _ = _ from eqB5 x b]
    refine spD (fun hp => ?_) (fun hp => ?_) <;> conv => whnf
    · have : b ∈ l := by rw [← hp]; exact List.mem_of_getElem? hx
      rw [decide_eq_true this]
      exact ⟨[], rfl, rfl, trivial⟩
    · refine gv (by first | omega | (simp only []; omega) | (simp; omega)) (by first | omega | (simp only []; omega) | (simp; omega)) ?_
      conv => whnf
      refine ⟨⟨hi', hi', fun j h1 h2 => ?_⟩, [], ?_⟩
      · rcases Nat.lt_or_ge j i with g | g
        · exact hj j g h2
        · have : j = i := by omega
          subst this; rw [h2] at hx; simp at hx; exact hp hx.symm
      · repeat' (first | exact trivial | rfl | refine And.intro ?_ ?_)
        all_goals (conv => whnf)
        repeat' (first | exact trivial | rfl | refine And.intro ?_ ?_)
  · have : b ∉ l := fun hm => by
      obtain ⟨n, hn, hnb⟩ := List.mem_iff_getElem.1 hm
      exact hj n (by omega) (by rw [List.getElem?_eq_getElem hn, hnb])
    rw [decide_eq_false this]
    exact ⟨[], rfl, rfl, trivial⟩

theorem open19_c (c : Cfg) (u : Int) (hd : Bool) (l : List (Int × Int)) (v : Int) (hf : Fit c l) (hv : v ≤ 9223372036854775807) : CallsH Tryz.prog 77 [probV c u hd, plV l, I v] [] (B (openV c l v)) [] := by
  have hg := good_of hf.val
  have hT := hg.tenants
  have hlr := r2_len l
  have hlen := hf.len
  refine callsR_of tab mixed Tryz.func77 rfl (by decide) rfl rfl ?_
  conv => whnf
  refine spD (fun h => ?_) (fun h0 => ?_) <;> conv => whnf
  · have e : openV c l v = false := by simp [openV]; omega
    rw [e]
    exact ⟨[], rfl, rfl, trivial⟩
  refine gv (by first | omega | (simp only []; omega) | (simp; omega)) (by first | omega | (simp only []; omega) | (simp; omega)) ?_
  conv => whnf
  refine spD (fun h => ?_) (fun h1 => ?_) <;> conv => whnf
  · have e : openV c l v = false := by simp [openV]; omega
    rw [e]
    exact ⟨[], rfl, rfl, trivial⟩
  obtain ⟨p, hp⟩ := get_of (l := l) (i := (v / 2).toNat) (by omega)
  have hpr := hf.rng p (List.mem_of_getElem? hp)
  have hq : IntKind.i64.wrap (v.tdiv 2) = v / 2 := by
    rw [Int.tdiv_eq_ediv_of_nonneg (by omega)]; exact wr (by omega) (by omega)
  have hrm : v.tmod 2 = v % 2 := Int.tmod_eq_emod_of_nonneg (by omega)
  refine ⟨by decide, .intro _ hrm ?_⟩
  conv => whnf
  refine spE (fun hm => ?_) (fun hm => ?_) <;> conv => whnf
  · refine ⟨by decide, .intro _ hq ?_⟩
    conv => whnf
    refine ⟨by omega, _, r2_get hp, ?_⟩
    conv => whnf
    have e : openV c l v = decide (p.1 < 0) := by
      have h2 : v / 2 < l.length := by omega
      have h3 : ¬ v % 2 = 1 := by omega
      have hgv : getV l v = p.1 := by unfold getV; rw [if_neg h3, hp]; rfl
      rw [Bool.eq_iff_iff]
      simp only [openV, hgv, h3, decide_false, Bool.false_and, Bool.not_false, Bool.and_true, decide_eq_true_eq]
      omega
    rw [e]
    exact ⟨[], rfl, rfl, trivial⟩
  · refine ⟨by decide, .intro _ hq ?_⟩
    conv => whnf
    refine ⟨by omega, _, r2_get hp, ?_⟩
    conv => whnf
    have h2 : v / 2 < l.length := by omega
    have h3 : v % 2 = 1 := by omega
    refine spD (fun h => ?_) (fun h => ?_) <;> conv => whnf
    · refine ⟨by decide, .intro _ hq ?_⟩
      conv => whnf
      refine ⟨_, _, refSingle_c c u hd (v / 2) hg, ?_⟩
      conv => whnf
      have e : openV c l v = !single c (v / 2) := by
        have h4 : p.2 = -1 := by omega
        have h5 : 0 ≤ v := by omega
        simp [openV, getV, hp, h3, h4, h5, h2]
      rw [e]
      exact ⟨[], rfl, rfl, trivial⟩
    · have e : openV c l v = false := by
        have h4 : ¬ p.2 = -1 := by omega
        simp [openV, getV, hp, h3, h4]
      rw [e]
      exact ⟨[], rfl, rfl, trivial⟩

def rdI (r : Bool × Nat) : Int := if r.1 = true then (r.2 : Int) else -1

theorem rdC_false {f : Nat → Nat → Bool × Nat} {u : Int} {k n a : Nat} (hk : k ≤ n) (h : (rdC f (usK u k) a).1 = false) : (rdC f (usK u n) a).1 = false := by
  obtain ⟨r, hr⟩ := usK_split u hk
  rw [hr, rdC_app]
  rcases hx : rdC f (usK u k) a with ⟨_ | _, m⟩
  · rfl
  · rw [hx] at h; cases h

set_option maxRecDepth 100000 in
set_option maxHeartbeats 8000000 in
theorem refutes_step (c : Cfg) (u : Int) (hd : Bool) (tree : List Nd) (ht : TreeOK tree) (l : List (Int × Int)) (fuel n : Nat) (hf : Fit c l) (hn : n ≤ tree.length)
    (IH : ∀ v, openV c l v = true → ∃ f, fuel = f + 1 ∧ ∀ i k : Nat, i < c.cells.length → k ≤ tree.length → CallsH Tryz.prog 46 [probV c u hd, plV (setV l v i), .c (.d (.sl (rN tree))), I k] [] (I (rdI (rdN c u hd tree f (setV l v i) k))) []) :
    CallsH Tryz.prog 46 [probV c u hd, plV l, .c (.d (.sl (rN tree))), I n] [] (I (rdI (rdN c u hd tree fuel l n))) [] := by
  have hlt := rN_len tree
  have ht1 := ht.1
  have hg := good_of hf.val
  have hR := hg.regions
  have hC := hg.cells
  have hlc := r2_len c.cells
  have hlen := hf.len
  have hT := hg.tenants
  refine callsR_of tab mixed Tryz.func46 rfl (by decide) rfl rfl ?_
  conv => whnf
  refine spD (fun h => by omega) (fun _ => ?_)
  conv => whnf
  refine spD (fun h => ?_) (fun h => ?_) <;> conv => whnf
  · have hn' : tree[n]? = none := List.getElem?_eq_none (by omega)
    have e : rdI (rdN c u hd tree fuel l n) = -1 := by unfold rdN; rw [hn']; rfl
    rw [e]
    exact ⟨[], rfl, ⟨rfl, rfl⟩, trivial⟩
  have hn' : n < tree.length := by omega
  obtain ⟨x, hx⟩ := get_of hn'
  have hxv := ht.2 x (List.mem_of_getElem? hx)
  refine ⟨by omega, _, rN_get hx, ?_⟩
  conv => whnf
  refine spE (fun h2 => ?_) (fun h2 => ?_) <;> conv => whnf
  · have e : rdN c u hd tree fuel l n = (nodeB c u hd l x, n + 1) := by unfold rdN; rw [hx]; simp [h2]
    rw [e]
    refine ⟨by kernel_rfl, ?_⟩
    conv => whnf
    refine spE (fun h3 => ?_) (fun h3 => ?_) <;> conv => whnf
    · refine spE (fun h4 => ?_) (fun h4 => ?_) <;> conv => whnf
      · refine ⟨_, _, refPartial_c c u hd l hf, ?_⟩
        conv => whnf
        refine ⟨_, _, in19_c x.brk (partialL c u hd l) (partial_len' hf), ?_⟩
        conv => whnf
        refine spD (fun h5 => ?_) (fun h5 => ?_) <;> conv => whnf
        · refine gv (by first | omega | (simp only []; omega) | (simp; omega)) (by first | omega | (simp only []; omega) | (simp; omega)) ?_
          conv => whnf
          have e2 : rdI (nodeB c u hd l x, n + 1) = (n : Int) + 1 := by simp [rdI, nodeB, h3, h4, h5]
          rw [e2]
          exact ⟨[], rfl, ⟨rfl, rfl⟩, trivial⟩
        · have e2 : rdI (nodeB c u hd l x, n + 1) = -1 := by simp [rdI, nodeB, h5]
          rw [e2]
          exact ⟨[], rfl, ⟨rfl, rfl⟩, trivial⟩
      · have e2 : rdI (nodeB c u hd l x, n + 1) = -1 := by simp [rdI, nodeB, h4]
        rw [e2]
        exact ⟨[], rfl, ⟨rfl, rfl⟩, trivial⟩
    · have e2 : rdI (nodeB c u hd l x, n + 1) = -1 := by simp [rdI, nodeB, h3]
      rw [e2]
      exact ⟨[], rfl, ⟨rfl, rfl⟩, trivial⟩
  refine spE (fun h3 => ?_) (fun h3 => ?_) <;> conv => whnf
  · have e : rdN c u hd tree fuel l n = (nodeX c u l x, n + 1) := by unfold rdN; rw [hx]; simp [h3]
    rw [e]
    refine ⟨by kernel_rfl, ?_⟩
    conv => whnf
    refine spE (fun h4 => ?_) (fun h4 => ?_) <;> conv => whnf
    · refine ⟨by kernel_rfl, ?_⟩
      conv => whnf
      rw [show eqB _ _ = _ from eqB5 x.brk brk0]
      refine spD (fun h5 => ?_) (fun h5 => ?_) <;> conv => whnf
      · refine spD (fun h6 => ?_) (fun h6 => ?_) <;> conv => whnf
        · refine gvu (by first | omega | (simp only []; omega) | (simp; omega)) (by first | omega | (simp only []; omega) | (simp; omega)) ?_
          conv => whnf
          refine ⟨by omega, .intro _ (shl1' hR) ?_⟩
          conv => whnf
          refine spD (fun h7 => ?_) (fun h7 => ?_) <;> conv => whnf
          · refine ⟨_, _, refNeed_c c u hd l x.set hf, ?_⟩
            conv => whnf
            refine ⟨_, _, refRoom_c c u hd l x.set hf, ?_⟩
            conv => whnf
            refine spD (fun h8 => ?_) (fun h8 => ?_) <;> conv => whnf
            · refine gv (by first | omega | (simp only []; omega) | (simp; omega)) (by first | omega | (simp only []; omega) | (simp; omega)) ?_
              conv => whnf
              have e2 : rdI (nodeX c u l x, n + 1) = (n : Int) + 1 := by simp [rdI, nodeX, h4, h5, h6, h7, h8]
              rw [e2]
              exact ⟨[], rfl, ⟨rfl, rfl⟩, trivial⟩
            · have e2 : rdI (nodeX c u l x, n + 1) = -1 := by simp [rdI, nodeX, h8]
              rw [e2]
              exact ⟨[], rfl, ⟨rfl, rfl⟩, trivial⟩
          · have e2 : rdI (nodeX c u l x, n + 1) = -1 := by simp [rdI, nodeX, h7]
            rw [e2]
            exact ⟨[], rfl, ⟨rfl, rfl⟩, trivial⟩
        · have e2 : rdI (nodeX c u l x, n + 1) = -1 := by simp [rdI, nodeX, h6]
          rw [e2]
          exact ⟨[], rfl, ⟨rfl, rfl⟩, trivial⟩
      · have e2 : rdI (nodeX c u l x, n + 1) = -1 := by simp [rdI, nodeX, h5]
        rw [e2]
        exact ⟨[], rfl, ⟨rfl, rfl⟩, trivial⟩
    · have e2 : rdI (nodeX c u l x, n + 1) = -1 := by simp [rdI, nodeX, h4]
      rw [e2]
      exact ⟨[], rfl, ⟨rfl, rfl⟩, trivial⟩
  have hno : ¬ (x.kind = 1 ∧ x.set = 0 ∧ x.brk = brk0 ∧ openV c l x.var = true) → rdI (rdN c u hd tree fuel l n) = -1 := fun h => by
    unfold rdN; rw [hx]; simp only [h2, h3, h, if_false]; rfl
  refine spE (fun h4 => ?_) (fun h4 => ?_) <;> conv => whnf
  · refine spNe (fun h5 => ?_) (fun h5 => ?_) <;> conv => whnf
    · rw [hno fun h => h5 h.2.1]
      exact ⟨[], rfl, ⟨rfl, rfl⟩, trivial⟩
    refine ⟨by kernel_rfl, ?_⟩
    conv => whnf
    rw [show eqB _ _ = _ from eqB5 x.brk brk0]
    refine spN (fun h6 => ?_) (fun h6 => ?_) <;> conv => whnf
    · rw [hno fun h => h6 h.2.2.1]
      exact ⟨[], rfl, ⟨rfl, rfl⟩, trivial⟩
    refine ⟨_, _, open19_c c u hd l x.var hf hxv.2, ?_⟩
    conv => whnf
    rcases ho : openV c l x.var with _ | _
    · refine ⟨fun _ => ?_, fun h => (by cases h)⟩
      conv => whnf
      rw [hno fun h => by rw [ho] at h; exact absurd h.2.2.2 (by decide)]
      exact ⟨[], rfl, ⟨rfl, rfl⟩, trivial⟩
    refine ⟨fun h => (by cases h), fun _ => ?_⟩
    conv => whnf
    obtain ⟨f, rfl, IH2⟩ := IH x.var ho
    let F : Nat → Nat → Bool × Nat := fun i n => rdN c u hd tree f (setV l x.var i) n
    let st : Nat → Bool × Nat := fun k => rdC F (usK u k) (n + 1)
    have hrd : rdN c u hd tree (f + 1) l n = st c.cells.length := by
      unfold rdN; rw [hx]; simp only [h2, h3, if_false]; rw [if_pos ⟨h4, h5, h6, ho⟩]
    have hle : ∀ k, (st k).2 ≤ tree.length := fun k => rdC_le (fun i n hn => rdN_le c u hd tree f (setV l x.var i) n hn) _ _ hn'
    have hov := ho
    simp only [openV, Bool.and_eq_true, decide_eq_true_eq] at hov
    rw [hrd]
    refine gv (by first | omega | (simp only []; omega) | (simp; omega)) (by first | omega | (simp only []; omega) | (simp; omega)) ?_
    conv => whnf
    refine loopN tab mixed (fun i => i ≤ c.cells.length) c.cells.length (fun i => [(11, I i), (10, I (rdI (st i)))]) (fun _ => []) 51 [] (by omega) ?_
    conv => whnf
    refine ⟨?_, fun i hi => ?_⟩
    · repeat' (first | exact trivial | rfl | refine And.intro ?_ ?_)
      all_goals (conv => whnf)
      repeat' (first | exact trivial | rfl | refine And.intro ?_ ?_)
    conv => whnf
    have hlei := hle i
    have hri : -1 ≤ rdI (st i) ∧ rdI (st i) ≤ tree.length := by unfold rdI; split <;> omega
    refine spD (fun h7 => ?_) (fun h7 => ?_) <;> conv => whnf
    · have hi' : i < c.cells.length := by omega
      refine spD (fun h8 => ?_) (fun h8 => ?_) <;> conv => whnf
      · obtain ⟨m, hm⟩ : ∃ m, st i = (true, m) := by
          rcases hs : st i with ⟨_ | _, m⟩
          · rw [hs] at h8; simp [rdI] at h8
          · exact ⟨m, rfl⟩
        have hml : m ≤ tree.length := by rw [hm] at hlei; exact hlei
        have hmI : rdI (st i) = (m : Int) := by rw [hm]; rfl
        refine ⟨_, _, has_c u i, ?_⟩
        conv => whnf
        rcases hb : bit u i with _ | _
        · refine ⟨fun h => (by cases h), fun _ => ?_⟩
          conv => whnf
          refine gv (by first | omega | (simp only []; omega) | (simp; omega)) (by first | omega | (simp only []; omega) | (simp; omega)) ?_
          conv => whnf
          have est : st (i + 1) = st i := by
            show rdC F (usK u (i + 1)) (n + 1) = _
            rw [rdC_skip hb hm, hm]
          refine ⟨⟨hi', hi'⟩, [], ?_⟩
          repeat' (first | exact trivial | rfl | refine And.intro ?_ ?_)
          all_goals (conv => whnf)
          repeat' (first | exact trivial | rfl | refine And.intro ?_ ?_)
          all_goals rw [est]
        · refine ⟨fun _ => ?_, fun h => (by cases h)⟩
          conv => whnf
          refine ⟨by kernel_rfl, ?_⟩
          conv => whnf
          rw [hmI]
          refine ⟨_, _, filled_c l x.var i hov.1.1 hov.1.2.1 (by omega), ?_⟩
          conv => whnf
          refine ⟨_, _, IH2 i m hi' hml, ?_⟩
          conv => whnf
          refine gv (by first | omega | (simp only []; omega) | (simp; omega)) (by first | omega | (simp only []; omega) | (simp; omega)) ?_
          conv => whnf
          have est : rdI (st (i + 1)) = rdI (F i m) := by
            rcases hx : F i m with ⟨_ | _, e⟩
            · show rdI (rdC F (usK u (i + 1)) (n + 1)) = _
              rw [rdC_stop (n := i + 1) (by omega) hb hm hx]
            · show rdI (rdC F (usK u (i + 1)) (n + 1)) = _
              rw [rdC_step hb hm hx]
          refine ⟨⟨hi', hi'⟩, [], ?_⟩
          repeat' (first | exact trivial | rfl | refine And.intro ?_ ?_)
          all_goals (conv => whnf)
          repeat' (first | exact trivial | rfl | refine And.intro ?_ ?_)
          all_goals rw [est]
      · have hs : (st i).1 = false := by
          rcases hs : st i with ⟨_ | _, m⟩
          · rfl
          · rw [hs] at h8; exact absurd (by simp [rdI]) h8
        have e1 : rdI (st c.cells.length) = rdI (st i) := by
          have := rdC_false hi hs
          unfold rdI
          rw [if_neg (by show ¬ (rdC F (usK u c.cells.length) (n + 1)).1 = true; rw [this]; decide), if_neg (by rw [hs]; decide)]
        rw [e1]
        exact ⟨[], rfl, ⟨rfl, rfl⟩, trivial⟩
    · have hi' : i = c.cells.length := by omega
      rw [hi']
      exact ⟨[], rfl, ⟨rfl, rfl⟩, trivial⟩
  · rw [hno fun h => h4 h.1]
    exact ⟨[], rfl, ⟨rfl, rfl⟩, trivial⟩

theorem refutes_c (c : Cfg) (u : Int) (hd : Bool) (tree : List Nd) (ht : TreeOK tree) : ∀ (fuel : Nat) (l : List (Int × Int)) (n : Nat), opens l ≤ fuel → Fit c l → n ≤ tree.length →
    CallsH Tryz.prog 46 [probV c u hd, plV l, .c (.d (.sl (rN tree))), I n] [] (I (rdI (rdN c u hd tree fuel l n))) []
  | 0, l, n, ho, hf, hn => refutes_step c u hd tree ht l 0 n hf hn fun v h => by have := opens_setV h (x := 0) (by omega); omega
  | fuel + 1, l, n, ho, hf, hn => refutes_step c u hd tree ht l (fuel + 1) n hf hn fun v h => ⟨fuel, rfl, fun i k hi hk =>
      refutes_c c u hd tree ht fuel _ k (by have := opens_setV h (x := i) (by omega); omega) (fit_setV hf ⟨by omega, by omega⟩) hk⟩

end Go.Proofs.YthpngoplkekkaaaGreat
