/- Plain laws of the search: what is found is feasible, what is refuted is read as a refutation, a placement that obeys all rules is not refuted. -/
import Derived.Test.YtelnligfebjjiaaGreatSolveF
import Derived.Test.YtelnligfebjjiaaGreatLaw18b
namespace Go.Proofs.YtelnligfebjjiaaGreat
open Go Go.Cpl

theorem getV_setV_self {l : List (Int × Int)} {v x : Int} (h0 : 0 ≤ v) (h : v / 2 < l.length) : getV (setV l v x) v = x := by
  obtain ⟨p, hp⟩ := get_of (l := l) (i := (v / 2).toNat) (by omega)
  have hlt := (List.getElem?_eq_some_iff.1 hp).1
  unfold getV setV
  by_cases h1 : v % 2 = 1
  · rw [if_pos h1, if_pos h1, List.getElem?_set_self hlt]; rfl
  · rw [if_neg h1, if_neg h1, List.getElem?_set_self hlt]; rfl

theorem vars_of_home {c : Cfg} {t : Int} (h : 0 ≤ t ∧ t < c.tenants.length) : 2 * t ∈ vars c :=
  varsOf_mem.2 ⟨t, ((order_ok c).2.2 t).2 h, varsT_mem.2 (.inl rfl)⟩

theorem vars_of_stand {c : Cfg} {t : Int} (h : 0 ≤ t ∧ t < c.tenants.length) (hs : single c t = false) : 2 * t + 1 ∈ vars c :=
  varsOf_mem.2 ⟨t, ((order_ok c).2.2 t).2 h, varsT_mem.2 (.inr ⟨hs, rfl⟩)⟩

/-- all variables are filled -/
def Filled (c : Cfg) (l : List (Int × Int)) : Prop := ∀ w ∈ vars c, getV l w ≠ -1

theorem hoL_nil {l : List (Int × Int)} : ∀ {k : Nat}, hoL l k = [] ↔ ∀ t p, t < k → l[t]? = some p → p.1 ≠ -1
  | 0 => by simp [hoL]
  | k + 1 => by
    have ih := hoL_nil (l := l) (k := k)
    rcases hx : l[k]? with _ | q
    · have e : hoL l (k + 1) = hoL l k := by simp [hoL, hx]
      rw [e, ih]
      constructor
      · intro h t p ht hp
        by_cases h' : t = k
        · subst h'; rw [hx] at hp; cases hp
        · exact h t p (by omega) hp
      · exact fun h t p ht hp => h t p (by omega) hp
    · have e : hoL l (k + 1) = hoL l k ++ hoT k q := by simp [hoL, hx]
      rw [e, List.append_eq_nil_iff, ih]
      constructor
      · rintro ⟨h1, h2⟩ t p ht hp
        by_cases h' : t = k
        · subst h'; rw [hx] at hp; cases hp
          intro h; simp [hoT, h] at h2
        · exact h1 t p (by omega) hp
      · intro h
        refine ⟨fun t p ht hp => h t p (by omega) hp, ?_⟩
        have := h k q (by omega) hx
        simp [hoT, this]

theorem sbL_nil {c : Cfg} {l : List (Int × Int)} : ∀ {k : Nat}, sbL c l k = [] ↔ ∀ (t : Nat) (p : Int × Int), t < k → l[t]? = some p → p.2 ≠ -1 ∨ single c t = true
  | 0 => by simp [sbL]
  | k + 1 => by
    have ih := sbL_nil (c := c) (l := l) (k := k)
    rcases hx : l[k]? with _ | q
    · have e : sbL c l (k + 1) = sbL c l k := by simp [sbL, hx]
      rw [e, ih]
      constructor
      · intro h t p ht hp
        by_cases h' : t = k
        · subst h'; rw [hx] at hp; cases hp
        · exact h t p (by omega) hp
      · exact fun h t p ht hp => h t p (by omega) hp
    · have e : sbL c l (k + 1) = sbL c l k ++ sbT c k q := by simp [sbL, hx]
      rw [e, List.append_eq_nil_iff, ih]
      constructor
      · rintro ⟨h1, h2⟩ t p ht hp
        by_cases h' : t = k
        · subst h'; rw [hx] at hp; cases hp
          by_cases h : q.2 = -1
          · right
            rcases hs : single c t with _ | _
            · simp [sbT, h, hs] at h2
            · rfl
          · exact .inl h
        · exact h1 t p (by omega) hp
      · intro h
        refine ⟨fun t p ht hp => h t p (by omega) hp, ?_⟩
        rcases h k q (by omega) hx with h' | h' <;> simp [sbT, h']

theorem full_nil {c : Cfg} {u : Int} {hd : Bool} {l : List (Int × Int)} : fullL c u hd l = [] ↔ hoL l l.length = [] ∧ sbL c l l.length = [] ∧ partialL c u hd l = [] := by
  unfold fullL
  simp only [List.flatten_cons, List.flatten_nil, List.append_nil, List.append_eq_nil_iff]

theorem getV_home {l : List (Int × Int)} {t : Nat} {p : Int × Int} (hp : l[t]? = some p) : getV l (2 * (t : Int)) = p.1 := by
  unfold getV
  rw [if_neg (by omega), show ((2 * (t : Int)) / 2).toNat = t by omega, hp]; rfl

theorem getV_stand {l : List (Int × Int)} {t : Nat} {p : Int × Int} (hp : l[t]? = some p) : getV l (2 * (t : Int) + 1) = p.2 := by
  unfold getV
  rw [if_pos (by omega), show ((2 * (t : Int) + 1) / 2).toNat = t by omega, hp]; rfl

theorem full_of_filled {c : Cfg} {u : Int} {hd : Bool} {l : List (Int × Int)} (hf : Fit c l) (hv : Filled c l) (hp : partialL c u hd l = []) : fullL c u hd l = [] := by
  refine full_nil.2 ⟨hoL_nil.2 fun t p ht hq => ?_, sbL_nil.2 fun t p ht hq => ?_, hp⟩
  · have := hv _ (vars_of_home (c := c) (t := t) ⟨by omega, by have := hf.len; omega⟩)
    rw [getV_home hq] at this; exact this
  · rcases hs : single c t with _ | _
    · have := hv _ (vars_of_stand (c := c) (t := t) ⟨by omega, by have := hf.len; omega⟩ hs)
      rw [getV_stand hq] at this; exact .inl this
    · exact .inr rfl

theorem vars_open {c : Cfg} {l : List (Int × Int)} {v : Int} (hf : l.length = c.tenants.length) (hv : v ∈ vars c) (ho : getV l v = -1) : openV c l v = true := by
  have hr := vars_rng hv
  obtain ⟨t, ht, hv⟩ := varsOf_mem.1 hv
  have : ¬ (v % 2 = 1 ∧ single c (v / 2) = true) := by
    rcases varsT_mem.1 hv with rfl | ⟨hs, rfl⟩
    · omega
    · rw [show (2 * t + 1) / 2 = t by omega, hs]; simp
  simp only [openV, Bool.and_eq_true, decide_eq_true_eq, Bool.not_eq_true', Bool.and_eq_false_iff, decide_eq_false_iff_not]
  refine ⟨⟨hr.1, by omega, ho⟩, ?_⟩
  by_cases h : v % 2 = 1
  · right
    rcases hs : single c (v / 2) with _ | _
    · rfl
    · exact absurd ⟨h, hs⟩ this
  · exact .inl h

theorem runC_found {f : Nat → List Nd → Nat → SR} {l : List (Int × Int)} {Q : SR → Prop} (hQ : ∀ i tree cnt, (f i tree cnt).code = 0 → Q (f i tree cnt)) : ∀ (a : List Nat) (tree : List Nd) (cnt : Nat), (runC f l a tree cnt).code = 0 → Q (runC f l a tree cnt)
  | [], tree, cnt, h => by simp [runC] at h
  | i :: r, tree, cnt, h => by
    rw [runC] at h ⊢
    split at h
    · rename_i h1; rw [if_pos h1]; exact runC_found hQ r _ _ h
    · rename_i h1; rw [if_neg h1]; exact hQ _ _ _ h

theorem runN_found {c : Cfg} {u : Int} {hd : Bool} : ∀ (fuel : Nat) (l : List (Int × Int)) (tree : List Nd) (cnt : Nat), fuel ≤ (vars c).length → l.length = c.tenants.length → (∀ j w, j < (vars c).length - fuel → (vars c)[j]? = some w → getV l w ≠ -1) →
    (runN c u hd fuel l tree cnt).code = 0 → partialL c u hd (runN c u hd fuel l tree cnt).l = [] ∧ Filled c (runN c u hd fuel l tree cnt).l
  | fuel, l, tree, cnt, hfu, hl, hfil, h => by
    unfold runN at h ⊢
    by_cases hc : 2048 < cnt + 1
    · rw [if_pos hc] at h; simp at h
    rw [if_neg hc] at h ⊢
    rcases hP : partialL c u hd l with _ | ⟨b, bs⟩
    case cons => rw [hP] at h; simp at h
    rw [hP] at h
    rcases hE : exc c u l with _ | s
    case some => rw [hE] at h; simp at h
    rw [hE] at h
    cases fuel with
    | zero =>
      refine ⟨hP, fun w hw => ?_⟩
      obtain ⟨j, hj, hjw⟩ := List.mem_iff_getElem.1 hw
      exact hfil j w (by omega) (by rw [List.getElem?_eq_getElem hj, hjw])
    | succ fuel =>
      refine runC_found (Q := fun s => partialL c u hd s.l = [] ∧ Filled c s.l) (fun i tree cnt h => ?_) _ _ _ h
      obtain ⟨v, hv⟩ := get_of (l := vars c) (i := (vars c).length - (fuel + 1)) (by omega)
      have hvr := vars_rng (List.mem_of_getElem? hv)
      refine runN_found fuel _ tree cnt (by omega) (by rw [setV_len]; exact hl) (fun j w hj hw => ?_) h
      rw [hv, Option.getD_some]
      by_cases hjj : j = (vars c).length - (fuel + 1)
      · subst hjj
        rw [hv] at hw; cases hw
        rw [getV_setV_self hvr.1 (by omega)]
        omega
      · rw [getV_setV_ne hvr.1 (vars_rng (List.mem_of_getElem? hw)).1 (vars_ne hv hw (fun e => hjj e.symm))]
        exact hfil j w (by omega) hw

theorem runC_tree {f : Nat → List Nd → Nat → SR} {l : List (Int × Int)} {Q : Nd → Prop} (hQ : ∀ i tree cnt, ∀ x ∈ (f i tree cnt).tree, x ∈ tree ∨ Q x) : ∀ (a : List Nat) (tree : List Nd) (cnt : Nat), ∀ x ∈ (runC f l a tree cnt).tree, x ∈ tree ∨ Q x
  | [], tree, cnt, x, hx => .inl hx
  | i :: r, tree, cnt, x, hx => by
    rw [runC] at hx
    split at hx
    · rcases runC_tree hQ r _ _ x hx with h | h
      · exact hQ _ _ _ x h
      · exact .inr h
    · exact hQ _ _ _ x hx

theorem runN_tree {c : Cfg} {u : Int} {hd : Bool} : ∀ (fuel : Nat) (l : List (Int × Int)) (tree : List Nd) (cnt : Nat), ∀ x ∈ (runN c u hd fuel l tree cnt).tree, x ∈ tree ∨ (x.var = 0 ∨ x.var ∈ vars c)
  | fuel, l, tree, cnt, x, hx => by
    unfold runN at hx
    split at hx
    · exact .inl hx
    split at hx
    · rcases List.mem_append.1 hx with h | h
      · exact .inl h
      · simp at h; subst h; exact .inr (.inl rfl)
    split at hx
    · rcases List.mem_append.1 hx with h | h
      · exact .inl h
      · simp at h; subst h; exact .inr (.inl rfl)
    cases fuel with
    | zero => exact .inl hx
    | succ fuel =>
      rcases runC_tree (Q := fun x => x.var = 0 ∨ x.var ∈ vars c) (fun i tree cnt x hx => runN_tree fuel _ tree cnt x hx) _ _ _ x hx with h | h
      · rcases List.mem_append.1 h with h | h
        · exact .inl h
        · simp only [List.mem_singleton] at h
          subst h
          right
          dsimp only
          rcases hv : (vars c)[(vars c).length - (fuel + 1)]? with _ | v
          · exact .inl rfl
          · exact .inr (List.mem_of_getElem? hv)
      · exact .inr h

/-- the added sub-tree is read as a refutation -/
theorem runC_read {c : Cfg} {u : Int} {hd : Bool} {fuel : Nat} {l : List (Int × Int)} {v : Int} {f : Nat → List Nd → Nat → SR} (hF : ∀ i tree cnt, (f i tree cnt).code = 1 → ∃ add, (f i tree cnt).tree = tree ++ add ∧ ∀ rest f', fuel ≤ f' → rdN c u hd ((f i tree cnt).tree ++ rest) f' (setV l v i) tree.length = (true, (f i tree cnt).tree.length)) :
    ∀ (a : List Nat) (tree : List Nd) (cnt : Nat), (runC f l a tree cnt).code = 1 → ∃ add, (runC f l a tree cnt).tree = tree ++ add ∧ ∀ rest f', fuel ≤ f' → rdC (fun i n => rdN c u hd ((runC f l a tree cnt).tree ++ rest) f' (setV l v i) n) a tree.length = (true, (runC f l a tree cnt).tree.length)
  | [], tree, cnt, _ => ⟨[], by simp [runC], fun _ _ _ => rfl⟩
  | i :: r, tree, cnt, h => by
    rw [runC] at h ⊢
    split at h
    · rename_i h1
      rw [if_pos h1]
      obtain ⟨a1, e1, g1⟩ := hF i tree cnt h1
      obtain ⟨a2, e2, g2⟩ := runC_read hF r _ _ h
      refine ⟨a1 ++ a2, by rw [e2, e1, List.append_assoc], fun rest f' hf' => ?_⟩
      rw [rdC]
      have := g1 (a2 ++ rest) f' hf'
      rw [← List.append_assoc, ← e2] at this
      rw [this]
      exact g2 rest f' hf'
    · rename_i h1; exact absurd h h1

theorem get_mid {t add : List Nd} {x : Nd} {rest : List Nd} : ((t ++ [x] ++ add) ++ rest)[t.length]? = some x := by
  simp

theorem runN_read {c : Cfg} {u : Int} {hd : Bool} : ∀ (fuel : Nat) (l : List (Int × Int)) (tree : List Nd) (cnt : Nat), fuel ≤ (vars c).length → l.length = c.tenants.length → OpnV c l fuel → (runN c u hd fuel l tree cnt).code = 1 →
    ∃ add, (runN c u hd fuel l tree cnt).tree = tree ++ add ∧ ∀ rest f', fuel ≤ f' → rdN c u hd ((runN c u hd fuel l tree cnt).tree ++ rest) f' l tree.length = (true, (runN c u hd fuel l tree cnt).tree.length)
  | fuel, l, tree, cnt, hfu, hl, hopn, h => by
    unfold runN at h ⊢
    by_cases hc : 2048 < cnt + 1
    · rw [if_pos hc] at h; simp at h
    rw [if_neg hc] at h ⊢
    rcases hP : partialL c u hd l with _ | ⟨b, bs⟩
    case cons =>
      refine ⟨_, rfl, fun rest f' _ => ?_⟩
      rw [rdN]
      have := get_mid (t := tree) (x := ⟨2, 0, 0, b⟩) (add := []) (rest := rest)
      rw [List.append_nil] at this
      simp only [this]
      simp [nodeB, hP]
    rw [hP] at h
    rcases hE : exc c u l with _ | s
    case some =>
      refine ⟨_, rfl, fun rest f' _ => ?_⟩
      rw [rdN]
      have := get_mid (t := tree) (x := ⟨3, 0, s, brk0⟩) (add := []) (rest := rest)
      rw [List.append_nil] at this
      simp only [this]
      unfold exc at hE
      rw [List.find?_range_eq_some] at hE
      obtain ⟨g1, g2, _⟩ := hE
      simp only [Bool.and_eq_true, decide_eq_true_eq] at g1
      have h2 : (s : Int) < 2 ^ c.regions.toNat := by
        have := List.mem_range.1 g2
        exact_mod_cast this
      have : nodeX c u l ⟨3, 0, s, brk0⟩ = true := by
        simp only [nodeX, decide_eq_true_eq]
        exact ⟨trivial, trivial, by omega, h2, g1.2⟩
      simp [this]
    rw [hE] at h
    cases fuel with
    | zero => simp at h
    | succ fuel =>
      obtain ⟨v, hv⟩ := get_of (l := vars c) (i := (vars c).length - (fuel + 1)) (by omega)
      have hov := vars_open hl (List.mem_of_getElem? hv) (hopn _ v (Nat.le_refl _) hv)
      simp only [hv, Option.getD_some] at h ⊢
      obtain ⟨add, e, g⟩ := runC_read (c := c) (u := u) (hd := hd) (fuel := fuel) (v := v) (fun i tree cnt h => runN_read fuel _ tree cnt (by omega) (by rw [setV_len]; exact hl) (hopn.next hfu hv i) h) _ _ _ h
      refine ⟨⟨1, v, 0, brk0⟩ :: add, by rw [e]; simp, fun rest f' hf' => ?_⟩
      obtain ⟨f'', rfl⟩ : ∃ f'', f' = f'' + 1 := ⟨f' - 1, by omega⟩
      have g := g rest f'' (by omega)
      rw [rdN]
      have hx := get_mid (t := tree) (x := ⟨1, v, 0, brk0⟩) (add := add) (rest := rest)
      rw [← e] at hx
      simp only [hx]
      rw [if_neg (by decide), if_neg (by decide), if_pos ⟨trivial, trivial, trivial, hov⟩]
      simpa using g

/-- what Find returns is certified -/
theorem find_cert {c : Cfg} (u : Int) (hd : Bool) (hv : valid5 c = 0) (hcode : (findL c u hd).code ≠ 2) :
    (feasible c u hd (findP (findL c u hd)) (findT (findL c u hd)) || refuted c u hd (findP (findL c u hd)) (findT (findL c u hd))) = true ∧ TreeOK (findT (findL c u hd)) ∧ ((findL c u hd).code = 0 ∨ (findL c u hd).code = 1) ∧ ((findL c u hd).code = 0 → feasible c u hd (findP (findL c u hd)) (findT (findL c u hd)) = true) := by
  have hF : findL c u hd = runN c u hd (vars c).length (openL c.tenants.length) [] 0 := by unfold findL; rw [if_pos hv]
  have hf := fit_openL hv
  have hok := runN_ok u hd (vars c).length (openL c.tenants.length) [] 0 hf (by omega)
  have hfound := runN_found (c := c) (u := u) (hd := hd) (vars c).length (openL c.tenants.length) [] 0 (Nat.le_refl _) hf.len (fun j w hj => by omega)
  have hread := runN_read (c := c) (u := u) (hd := hd) (vars c).length (openL c.tenants.length) [] 0 (Nat.le_refl _) hf.len (opn_openL c)
  have htree := runN_tree (c := c) (u := u) (hd := hd) (vars c).length (openL c.tenants.length) [] 0
  rw [hF] at hcode ⊢
  generalize runN c u hd (vars c).length (openL c.tenants.length) [] 0 = s at *
  have hc := hok.code
  have hlim := hok.lim hcode
  have htl := hok.tree
  simp only [List.length_nil, Nat.add_zero, Nat.zero_add] at htl
  have hvl : (vars c).length ≤ 2 * c.tenants.length := by
    have := varsOf_len c (order c)
    rw [(order_ok c).1] at this
    exact this
  rcases hc with h | h | h
  · obtain ⟨g1, g2⟩ := hfound h
    have e : feasible c u hd (findP s) (findT s) = true := by
      have : fullL c u hd s.l = [] := full_of_filled hok.fit g2 g1
      simp only [feasible, findP, findT, h, if_true, decide_eq_true_eq]
      exact ⟨by simp, hok.fit, this⟩
    refine ⟨by rw [e]; rfl, ?_, .inl h, fun _ => e⟩
    rw [show findT s = [] by simp [findT, h]]
    exact ⟨by simp, by simp⟩
  · obtain ⟨add, e, g⟩ := hread h
    have g := g [] (2 * c.tenants.length) hvl
    rw [List.append_nil] at g
    have eT : findT s = s.tree := by simp [findT, h]
    have eP : findP s = [] := by simp [findP, h]
    have er : refuted c u hd (findP s) (findT s) = true := by
      rw [eT, eP]
      have hr : readAll c u hd s.tree = (true, s.tree.length) := g
      have : s.tree.length ≤ 2048 := by omega
      simp [refuted, hr, hv, this]
    refine ⟨by rw [er]; simp, ?_, .inr h, fun h' => by omega⟩
    rw [eT]
    refine ⟨by omega, fun x hx => ?_⟩
    have hg := good_of hv
    have := hg.tenants
    rcases htree x hx with h | h | h
    · cases h
    · omega
    · have := vars_rng h; omega
  · exact absurd h hcode

end Go.Proofs.YtelnligfebjjiaaGreat
