/- What Make computes, in plain Lean: the sorted literals without repeats are those that the reference inserts one by one, if either is valid. -/
import Derived.Test.YtgnlbmamolbcfaaDoorCpt
set_option linter.unusedVariables false
namespace Go.Proofs.YtgnlbmamolbcfaaDoor

/-- Units do not fall. -/
def Asc (l : List Lit) : Prop := l.Pairwise fun a b => a.1 ≤ b.1
/-- Units rise. -/
def Ris (l : List Lit) : Prop := l.Pairwise fun a b => a.1 < b.1
def Rng (l : List Lit) : Prop := ∀ x ∈ l, 0 ≤ x.1 ∧ x.1 < 1024
/-- A unit has one literal. -/
def One (l : List Lit) : Prop := ∀ x ∈ l, ∀ y ∈ l, x.1 = y.1 → x = y
def insP (x : Lit) : List Lit → List Lit
  | [] => [x]
  | y :: r => if x.1 < y.1 then x :: y :: r else y :: insP x r
def ins (l : List Lit) (x : Lit) : List Lit := if l.contains x then l else insP x l
def mkR (l : List Lit) : List Lit := l.foldl ins []

theorem vld_iff {l : List Lit} : Vld l ↔ Rng l ∧ Ris l := by
  constructor
  · intro h
    refine ⟨fun x hx => ?_, List.pairwise_iff_getElem.2 fun i j hi hj hij => h.lt hij (List.getElem?_eq_getElem hi) (List.getElem?_eq_getElem hj)⟩
    obtain ⟨i, hi⟩ := List.mem_iff_getElem?.1 hx
    exact h.range hi
  · rintro ⟨h1, h2⟩ i hi
    have hx : l[i]? = some l[i] := List.getElem?_eq_getElem hi
    have hr := h1 _ (List.getElem_mem hi)
    unfold bad
    simp only [List.getD_eq_getElem?_getD, hx, Option.getD_some, Bool.or_eq_false_iff, Bool.and_eq_false_iff, decide_eq_false_iff_not]
    refine ⟨by omega, by omega, ?_⟩
    by_cases h0 : 0 < i
    · right
      rw [List.getElem?_eq_getElem (show i - 1 < l.length by omega), Option.getD_some]
      have := List.pairwise_iff_getElem.1 h2 (i - 1) i (by omega) hi (by omega)
      omega
    · exact .inl h0
theorem Ris.one {l : List Lit} (h : Ris l) : One l := fun x hx y hy e => by
  obtain ⟨i, hi, rfl⟩ := List.mem_iff_getElem.1 hx
  obtain ⟨j, hj, rfl⟩ := List.mem_iff_getElem.1 hy
  rcases Nat.lt_trichotomy i j with h1 | h1 | h1
  · have := List.pairwise_iff_getElem.1 h i j hi hj h1
    omega
  · subst h1; rfl
  · have := List.pairwise_iff_getElem.1 h j i hj hi h1
    omega
/-- Rising lists with the same members are equal. -/
theorem ris_ext : ∀ {a b : List Lit}, Ris a → Ris b → (∀ x, x ∈ a ↔ x ∈ b) → a = b
  | [], [], _, _, _ => rfl
  | [], y :: b, _, _, h => absurd ((h y).2 (by simp)) (by simp)
  | x :: a, [], _, _, h => absurd ((h x).1 (by simp)) (by simp)
  | x :: a, y :: b, ha, hb, h => by
    have ha' := List.pairwise_cons.1 ha
    have hb' := List.pairwise_cons.1 hb
    have hxy : x = y := by
      rcases List.mem_cons.1 ((h x).1 (by simp)) with e | e
      · exact e
      · rcases List.mem_cons.1 ((h y).2 (by simp)) with e2 | e2
        · exact e2.symm
        · have h1 := hb'.1 x e
          have h2 := ha'.1 y e2
          omega
    subst hxy
    congr 1
    refine ris_ext ha'.2 hb'.2 fun z => ?_
    constructor
    · intro hz
      rcases List.mem_cons.1 ((h z).1 (by simp [hz])) with e | e
      · have := ha'.1 z hz
        rw [e] at this
        omega
      · exact e
    · intro hz
      rcases List.mem_cons.1 ((h z).2 (by simp [hz])) with e | e
      · have := hb'.1 z hz
        rw [e] at this
        omega
      · exact e

theorem mem_insP {x z : Lit} : ∀ {l : List Lit}, z ∈ insP x l ↔ z = x ∨ z ∈ l
  | [] => by simp [insP]
  | y :: r => by
    unfold insP
    split
    · simp
    · rw [List.mem_cons, mem_insP, List.mem_cons]
      constructor
      · rintro (h | h | h)
        · exact .inr (.inl h)
        · exact .inl h
        · exact .inr (.inr h)
      · rintro (h | h | h)
        · exact .inr (.inl h)
        · exact .inl h
        · exact .inr (.inr h)
theorem mem_ins {x z : Lit} {l : List Lit} : z ∈ ins l x ↔ z = x ∨ z ∈ l := by
  unfold ins
  split
  · rename_i h
    rw [List.contains_iff_mem] at h
    constructor
    · exact .inr
    · rintro (rfl | h2)
      · exact h
      · exact h2
  · exact mem_insP
theorem ris_insP {x : Lit} : ∀ {l : List Lit}, Ris l → (∀ y ∈ l, y.1 ≠ x.1) → Ris (insP x l)
  | [], _, _ => by simp [insP, Ris]
  | y :: r, h, hne => by
    have h' := List.pairwise_cons.1 h
    have hy := hne y (by simp)
    unfold insP
    split
    · rename_i hlt
      refine List.pairwise_cons.2 ⟨fun z hz => ?_, h⟩
      rcases List.mem_cons.1 hz with e | e
      · rw [e]; exact hlt
      · have := h'.1 z e
        omega
    · rename_i hlt
      refine List.pairwise_cons.2 ⟨fun z hz => ?_, ris_insP h'.2 fun z hz => hne z (by simp [hz])⟩
      rcases mem_insP.1 hz with e | e
      · rw [e]; omega
      · exact h'.1 z e
theorem ris_ins {x : Lit} {l : List Lit} (h : Ris l) (h1 : ∀ y ∈ l, y.1 = x.1 → y = x) : Ris (ins l x) := by
  unfold ins
  split
  · exact h
  · rename_i hc
    rw [List.contains_iff_mem] at hc
    exact ris_insP h fun y hy e => hc (h1 y hy e ▸ hy)
theorem mem_foldl {l : List Lit} : ∀ {c : List Lit} {z : Lit}, z ∈ l.foldl ins c ↔ z ∈ c ∨ z ∈ l := by
  induction l with
  | nil => simp
  | cons x l ih =>
    intro c z
    rw [List.foldl_cons, ih, mem_ins, List.mem_cons]
    constructor
    · rintro ((h | h) | h)
      · exact .inr (.inl h)
      · exact .inl h
      · exact .inr (.inr h)
    · rintro (h | h | h)
      · exact .inl (.inr h)
      · exact .inl (.inl h)
      · exact .inr h
theorem ris_foldl {l : List Lit} : ∀ {c : List Lit}, Ris c → (∀ x ∈ c ++ l, ∀ y ∈ c ++ l, x.1 = y.1 → x = y) → Ris (l.foldl ins c) := by
  induction l with
  | nil => intro c h _; exact h
  | cons x l ih =>
    intro c h h1
    rw [List.foldl_cons]
    refine ih (ris_ins h fun y hy e => h1 y (by simp [hy]) x (by simp) e) fun y hy z hz e => h1 y ?_ z ?_ e
    · rw [List.mem_append, mem_ins] at hy
      rw [List.mem_append, List.mem_cons]
      rcases hy with (h | h) | h
      · exact .inr (.inl h)
      · exact .inl h
      · exact .inr (.inr h)
    · rw [List.mem_append, mem_ins] at hz
      rw [List.mem_append, List.mem_cons]
      rcases hz with (h | h) | h
      · exact .inr (.inl h)
      · exact .inl h
      · exact .inr (.inr h)
theorem mem_mkR {l : List Lit} {z : Lit} : z ∈ mkR l ↔ z ∈ l := by
  rw [mkR, mem_foldl]
  simp
theorem ris_mkR {l : List Lit} (h : One l) : Ris (mkR l) := ris_foldl .nil fun x hx y hy e => h x (by rwa [List.nil_append] at hx) y (by rwa [List.nil_append] at hy) e

theorem mem_cptU {l : List Lit} {z : Lit} : ∀ {m : Nat}, m ≤ l.length → (z ∈ cptU l m ↔ z ∈ l.take m)
  | 0, _ => by simp [cptU]
  | m + 1, hm => by
    have ih := mem_cptU (l := l) (z := z) (m := m) (by omega)
    have hx : l[m]? = some l[m] := List.getElem?_eq_getElem (by omega)
    cases hk : kpL l m
    · rw [cptU_skip hk, ih, List.take_add_one, hx]
      simp only [Option.toList_some, List.mem_append, List.mem_singleton]
      constructor
      · exact .inl
      · rintro (h | h)
        · exact h
        · simp only [kpL, decide_eq_false_iff_not] at hk
          have h0 : m ≠ 0 := fun e => hk (.inl e)
          have he : l[m]? = l[m - 1]? := Classical.byContradiction fun e => hk (.inr e)
          rw [hx, List.getElem?_eq_getElem (by omega)] at he
          injection he with he
          rw [h, he]
          exact List.mem_iff_getElem.2 ⟨m - 1, by rw [List.length_take]; omega, by simp⟩
    · rw [cptU_keep hk hx, List.mem_append, ih, List.take_add_one, hx]
      simp only [Option.toList_some, List.mem_append, List.mem_singleton]
theorem ris_cptU {l : List Lit} (ha : Asc l) (h1 : One l) : ∀ {m : Nat}, m ≤ l.length → Ris (cptU l m)
  | 0, _ => .nil
  | m + 1, hm => by
    have ih := ris_cptU ha h1 (m := m) (by omega)
    have hx : l[m]? = some l[m] := List.getElem?_eq_getElem (by omega)
    cases hk : kpL l m
    · rw [cptU_skip hk]
      exact ih
    · rw [cptU_keep hk hx]
      refine List.pairwise_append.2 ⟨ih, by simp, fun y hy z hz => ?_⟩
      obtain rfl : z = l[m] := by simpa using hz
      rw [mem_cptU (by omega)] at hy
      obtain ⟨j, hj, rfl⟩ := List.mem_iff_getElem.1 hy
      rw [List.length_take] at hj
      rw [List.getElem_take]
      have h2 : l[j].1 ≤ l[m - 1].1 := by
        by_cases e : j = m - 1
        · subst e; exact Int.le_refl _
        · exact List.pairwise_iff_getElem.1 ha j (m - 1) (by omega) (by omega) (by omega)
      have h3 := List.pairwise_iff_getElem.1 ha (m - 1) m (by omega) (by omega) (by omega)
      have h4 : l[m - 1].1 ≠ l[m].1 := fun e => by
        have h5 := h1 _ (List.getElem_mem _) _ (List.getElem_mem _) e
        simp only [kpL, decide_eq_true_eq] at hk
        rcases hk with hk | hk
        · omega
        · exact hk (by rw [List.getElem?_eq_getElem (show m < l.length by omega), List.getElem?_eq_getElem (show m - 1 < l.length by omega), h5])
      omega
theorem mem_cpt {l : List Lit} {z : Lit} : z ∈ cpt l ↔ z ∈ l := by
  rw [cpt, mem_cptU (Nat.le_refl _), List.take_length]
theorem cpt_mk {l l' : List Lit} (hp : l'.Perm l) (ha : Asc l') : vldB (cpt l') = vldB (mkR l) ∧ (vldB (mkR l) = true → cpt l' = mkR l) := by
  have hm : ∀ x, x ∈ cpt l' ↔ x ∈ mkR l := fun x => by rw [mem_cpt, mem_mkR, hp.mem_iff]
  have key : One l → Ris (cpt l') ∧ Ris (mkR l) ∧ cpt l' = mkR l := fun h1 => by
    have h2 : Ris (cpt l') := ris_cptU ha (fun x hx y hy e => h1 x (hp.mem_iff.1 hx) y (hp.mem_iff.1 hy) e) (Nat.le_refl _)
    have h3 := ris_mkR h1
    exact ⟨h2, h3, ris_ext h2 h3 hm⟩
  have k1 : Vld (cpt l') → One l := fun h x hx y hy e => (vld_iff.1 h).2.one x (mem_cpt.2 (hp.mem_iff.2 hx)) y (mem_cpt.2 (hp.mem_iff.2 hy)) e
  have k2 : Vld (mkR l) → One l := fun h x hx y hy e => (vld_iff.1 h).2.one x (mem_mkR.2 hx) y (mem_mkR.2 hy) e
  refine ⟨?_, fun h => (key (k2 (vldB_iff.1 h))).2.2⟩
  rw [Bool.eq_iff_iff, vldB_iff, vldB_iff]
  exact ⟨fun h => (key (k1 h)).2.2 ▸ h, fun h => (key (k2 h)).2.2 ▸ h⟩

/-- The clause that Make returns (none: the empty row). -/
def mkV (l : List Lit) : List Lit := if vldB (mkR l) then mkR l else []
end Go.Proofs.YtgnlbmamolbcfaaDoor
