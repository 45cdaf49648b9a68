/- Clauses, in plain Lean. -/
import Derived.Sort.Statements
set_option linter.unusedVariables false
namespace Go.Proofs.YtgnlbmamolbcfaaDoor

abbrev Lit := Int × Bool
/-- What Valid asks of the literal i. -/
def bad (l : List Lit) (i : Nat) : Bool :=
  let x := l.getD i (0, false)
  decide (x.1 < 0) || (decide (1024 ≤ x.1) || (decide (0 < i) && decide (x.1 ≤ (l.getD (i - 1) (0, false)).1)))
def Vld (l : List Lit) : Prop := ∀ i, i < l.length → bad l i = false
instance (l : List Lit) : Decidable (Vld l) := by unfold Vld; infer_instance
def vldB (l : List Lit) : Bool := decide (Vld l)
theorem vldB_iff {l : List Lit} : vldB l = true ↔ Vld l := by simp [vldB]

theorem Vld.step {l : List Lit} (h : Vld l) {i : Nat} {x y : Lit} (hx : l[i]? = some x) (hy : l[i + 1]? = some y) : x.1 < y.1 := by
  have hl := (List.getElem?_eq_some_iff.1 hy).1
  have := h (i + 1) hl
  simp only [bad, List.getD_eq_getElem?_getD, hy, Nat.add_sub_cancel, hx, Option.getD_some, Bool.or_eq_false_iff, Bool.and_eq_false_iff, decide_eq_false_iff_not] at this
  omega
theorem Vld.range {l : List Lit} (h : Vld l) {i : Nat} {x : Lit} (hx : l[i]? = some x) : 0 ≤ x.1 ∧ x.1 < 1024 := by
  have hl := (List.getElem?_eq_some_iff.1 hx).1
  have := h i hl
  simp only [bad, List.getD_eq_getElem?_getD, hx, Option.getD_some, Bool.or_eq_false_iff, decide_eq_false_iff_not] at this
  omega
theorem Vld.lt {l : List Lit} (h : Vld l) : ∀ {j i : Nat} {x y : Lit}, i < j → l[i]? = some x → l[j]? = some y → x.1 < y.1
  | 0, i, x, y, hij, _, _ => by omega
  | j + 1, i, x, y, hij, hx, hy => by
    by_cases e : i = j
    · subst e
      exact h.step hx hy
    · have hl := (List.getElem?_eq_some_iff.1 hy).1
      obtain ⟨z, hz⟩ : ∃ z, l[j]? = some z := ⟨_, List.getElem?_eq_getElem (by omega)⟩
      have h1 := h.lt (j := j) (by omega) hx hz
      have h2 := h.step hz hy
      omega
/-- In a valid clause a unit occurs once. -/
theorem Vld.once {l : List Lit} (h : Vld l) {x y : Lit} (hx : x ∈ l) (hy : y ∈ l) (e : x.1 = y.1) : x = y := by
  obtain ⟨i, hi⟩ := List.mem_iff_getElem?.1 hx
  obtain ⟨j, hj⟩ := List.mem_iff_getElem?.1 hy
  rcases Nat.lt_trichotomy i j with h1 | h1 | h1
  · have := h.lt h1 hi hj
    omega
  · subst h1
    rw [hi] at hj
    injection hj
  · have := h.lt h1 hj hi
    omega

def within (a b : List Lit) : Bool := a.all fun x => b.contains x
def subsB (a b : List Lit) : Bool := vldB a && (vldB b && within a b)
/-- The clause holds under the assignment. -/
def holds (l : List Lit) (bits : Nat) : Bool := l.any fun x => bits.testBit x.1.toNat == x.2
def six (l : List Lit) : Prop := ∀ x ∈ l, 0 ≤ x.1 ∧ x.1 < 6

/-- Any six values are the bits of a number below 64. -/
theorem bits_of (f : Nat → Bool) : ∃ n, n < 64 ∧ ∀ u, u < 6 → n.testBit u = f u := by
  have key : ∀ b0 b1 b2 b3 b4 b5 : Bool, ∃ n, n < 64 ∧ n.testBit 0 = b0 ∧ n.testBit 1 = b1 ∧ n.testBit 2 = b2 ∧ n.testBit 3 = b3 ∧ n.testBit 4 = b4 ∧ n.testBit 5 = b5 := by
    intro b0 b1 b2 b3 b4 b5
    refine ⟨b0.toNat + 2 * b1.toNat + 4 * b2.toNat + 8 * b3.toNat + 16 * b4.toNat + 32 * b5.toNat, ?_⟩
    cases b0 <;> cases b1 <;> cases b2 <;> cases b3 <;> cases b4 <;> cases b5 <;> decide
  obtain ⟨n, hn, h0, h1, h2, h3, h4, h5⟩ := key (f 0) (f 1) (f 2) (f 3) (f 4) (f 5)
  refine ⟨n, hn, fun u hu => ?_⟩
  rcases (show u = 0 ∨ u = 1 ∨ u = 2 ∨ u = 3 ∨ u = 4 ∨ u = 5 by omega) with rfl | rfl | rfl | rfl | rfl | rfl <;> assumption

theorem within_holds {a b : List Lit} (h : within a b = true) (n : Nat) (ha : holds a n = true) : holds b n = true := by
  simp only [within, List.all_eq_true, List.contains_iff_mem] at h
  simp only [holds, List.any_eq_true] at ha ⊢
  obtain ⟨x, hx, e⟩ := ha
  exact ⟨x, h x hx, e⟩
theorem holds_within {a b : List Lit} (hb : Vld b) (sa : six a) (sb : six b) (h : ∀ n, n < 64 → holds a n = true → holds b n = true) : within a b = true := by
  simp only [within, List.all_eq_true, List.contains_iff_mem]
  intro x hx
  refine Classical.byContradiction fun hxb => ?_
  obtain ⟨n, hn, hf⟩ := bits_of fun u => if u = x.1.toNat then x.2 else !(b.contains ((u : Int), true))
  have h1 : holds a n = true := by
    simp only [holds, List.any_eq_true]
    refine ⟨x, hx, ?_⟩
    have := sa x hx
    rw [hf _ (by omega), if_pos rfl]
    simp
  have h2 := h n hn h1
  simp only [holds, List.any_eq_true] at h2
  obtain ⟨y, hy, e⟩ := h2
  have hy6 := sb y hy
  have hx6 := sa x hx
  rw [hf _ (by omega)] at e
  by_cases hxy : y.1.toNat = x.1.toNat
  · rw [if_pos hxy] at e
    have e1 : y.1 = x.1 := by omega
    have e2 : y.2 = x.2 := by simpa using (beq_iff_eq.1 e).symm
    exact hxb (by rw [← Prod.ext e1 e2]; exact hy)
  · rw [if_neg hxy, show ((y.1.toNat : Nat) : Int) = y.1 by omega] at e
    obtain ⟨y1, y2⟩ := y
    cases y2
    · have : ¬ (y1, true) ∈ b := fun h9 => by
        have := hb.once h9 hy rfl
        injection this with _ h8
        cases h8
      simp [this] at e
    · simp [hy] at e
theorem subs_law {a b : List Lit} (ha : Vld a) (hb : Vld b) (sa : six a) (sb : six b) : subsB a b = true ↔ ∀ n, n < 64 → (!holds a n || holds b n) = true := by
  rw [subsB, vldB_iff.2 ha, vldB_iff.2 hb, Bool.true_and, Bool.true_and]
  constructor
  · intro h n _
    cases e : holds a n
    · rfl
    · rw [within_holds h n e]; rfl
  · intro h
    refine holds_within hb sa sb fun n hn ha => ?_
    have := h n hn
    rw [ha] at this
    exact this
end Go.Proofs.YtgnlbmamolbcfaaDoor
