/- What Status says under an assignment that agrees with the phases; in plain Lean. -/
import Derived.Test.YtgnlbmamolbcfaaDoorStatus
set_option linter.unusedVariables false
namespace Go.Proofs.YtgnlbmamolbcfaaDoor

/-- The assignment k agrees with the first t phases. -/
def fitT (ph : List Int) (k t : Nat) : Bool := (List.range t).all fun u => (decide (ph.getD u 0 ≠ 1) || k.testBit u) && (decide (ph.getD u 0 ≠ 2) || !k.testBit u)
theorem fitT_succ (ph : List Int) (k t : Nat) : fitT ph k (t + 1) = (fitT ph k t && ((decide (ph.getD t 0 ≠ 1) || k.testBit t) && (decide (ph.getD t 0 ≠ 2) || !k.testBit t))) := by
  unfold fitT
  rw [List.range_succ, List.all_append]
  simp
theorem fit_at {ph : List Int} {k : Nat} (h : fitT ph k ph.length = true) (u : Nat) : (ph.getD u 0 = 1 → k.testBit u = true) ∧ (ph.getD u 0 = 2 → k.testBit u = false) := by
  by_cases hu : u < ph.length
  · unfold fitT at h
    have h1 := List.all_eq_true.1 h u (List.mem_range.2 hu)
    simp only [Bool.and_eq_true, Bool.or_eq_true, decide_eq_true_eq, Bool.not_eq_true'] at h1
    exact ⟨fun e => h1.1.resolve_left fun h => h e, fun e => h1.2.resolve_left fun h => h e⟩
  · have h0 : ph.getD u 0 = 0 := by rw [List.getD_eq_getElem?_getD, List.getElem?_eq_none (by omega)]; rfl
    rw [h0]
    exact ⟨fun e => absurd e (by decide), fun e => absurd e (by decide)⟩
theorem holds_cons (x : Lit) (l : List Lit) (k : Nat) : holds (x :: l) k = ((k.testBit x.1.toNat == x.2) || holds l k) := by
  simp [holds]
theorem lval_one {ph : List Int} {k : Nat} (h : fitT ph k ph.length = true) {x : Lit} (hv : lval ph x = 1) : (k.testBit x.1.toNat == x.2) = true := by
  have hf := fit_at h x.1.toNat
  unfold lval phs at hv
  generalize ph.getD x.1.toNat 0 = p at *
  split at hv
  · rename_i hp
    split at hv
    · rename_i he
      rcases hp with rfl | rfl
      · rw [hf.1 rfl, ← he]; rfl
      · rw [hf.2 rfl, ← he]; rfl
    · cases hv
  · cases hv
theorem lval_neg {ph : List Int} {k : Nat} (h : fitT ph k ph.length = true) {x : Lit} (h1 : lval ph x ≠ 1) (h0 : lval ph x ≠ 0) : (k.testBit x.1.toNat == x.2) = false := by
  have hf := fit_at h x.1.toNat
  unfold lval phs at h1 h0
  generalize ph.getD x.1.toNat 0 = p at *
  split at h1
  · rename_i hp
    rw [if_pos hp] at h0
    split at h1
    · exact absurd rfl h1
    · rename_i he
      rcases hp with rfl | rfl
      · rw [hf.1 rfl]
        cases hx : x.2
        · rfl
        · rw [hx] at he; exact absurd rfl he
      · rw [hf.2 rfl]
        cases hx : x.2
        · rw [hx] at he; exact absurd rfl he
        · rfl
  · rename_i hp
    rw [if_neg hp] at h0
    exact absurd rfl h0
theorem stR_law {ph : List Int} {k : Nat} (h : fitT ph k ph.length = true) : ∀ (l : List Lit) (i : Nat) (s o : Int),
    ((stR ph l i s o).1 = 1 → s ≠ 1 → holds l k = true) ∧
    ((stR ph l i s o).1 = 2 → s = 2 ∧ holds l k = false) ∧
    ((stR ph l i s o).1 = 3 → (s = 3 ∧ (stR ph l i s o).2 = o ∧ holds l k = false) ∨ (s = 2 ∧ ∃ (j : Nat) (x : Lit), (stR ph l i s o).2 = ((i + j : Nat) : Int) ∧ l[j]? = some x ∧ holds l k = (k.testBit x.1.toNat == x.2)))
  | [], i, s, o => by
    rw [stR]
    exact ⟨fun h1 h2 => absurd h1 h2, fun h1 => ⟨h1, rfl⟩, fun h1 => .inl ⟨h1, rfl, rfl⟩⟩
  | x :: l, i, s, o => by
    rw [stR, holds_cons]
    by_cases h1 : lval ph x = 1
    · rw [if_pos h1, lval_one h h1]
      exact ⟨fun _ _ => rfl, fun e => absurd e (by decide), fun e => absurd e (by decide)⟩
    · rw [if_neg h1]
      by_cases h0 : lval ph x = 0
      · rw [if_pos h0]
        by_cases hs : s = 2
        · rw [if_pos hs]
          obtain ⟨a1, a2, a3⟩ := stR_law h l (i + 1) 3 i
          refine ⟨fun e _ => by rw [a1 e (by decide), Bool.or_true], fun e => absurd (a2 e).1 (by decide), fun e => .inr ⟨hs, 0, x, ?_, rfl, ?_⟩⟩
          · rcases a3 e with ⟨_, b, _⟩ | ⟨b, _⟩
            · rw [b]; rfl
            · exact absurd b (by decide)
          · rcases a3 e with ⟨_, _, b⟩ | ⟨b, _⟩
            · rw [b, Bool.or_false]
            · exact absurd b (by decide)
        · rw [if_neg hs]
          obtain ⟨a1, a2, a3⟩ := stR_law h l (i + 1) 4 (-1)
          refine ⟨fun e _ => by rw [a1 e (by decide), Bool.or_true], fun e => absurd (a2 e).1 (by decide), fun e => ?_⟩
          rcases a3 e with ⟨b, _⟩ | ⟨b, _⟩
          · exact absurd b (by decide)
          · exact absurd b (by decide)
      · rw [if_neg h0, lval_neg h h1 h0, Bool.false_or]
        obtain ⟨a1, a2, a3⟩ := stR_law h l (i + 1) s o
        refine ⟨a1, a2, fun e => ?_⟩
        rcases a3 e with b | ⟨b, j, y, b1, b2, b3⟩
        · exact .inl b
        · exact .inr ⟨b, j + 1, y, by rw [b1]; congr 1; omega, b2, b3⟩
/-- A Unit state names a literal. -/
theorem stR_unit (ph : List Int) : ∀ (l : List Lit) (i : Nat) (s o : Int), (stR ph l i s o).1 = 3 → (s = 3 ∧ (stR ph l i s o).2 = o) ∨ ∃ (j : Nat) (x : Lit), (stR ph l i s o).2 = ((i + j : Nat) : Int) ∧ l[j]? = some x
  | [], i, s, o, h => .inl ⟨h, rfl⟩
  | x :: l, i, s, o, h => by
    rw [stR] at h ⊢
    by_cases h1 : lval ph x = 1
    · rw [if_pos h1] at h
      exact absurd h (by decide)
    · rw [if_neg h1] at h ⊢
      by_cases h0 : lval ph x = 0
      · rw [if_pos h0] at h ⊢
        by_cases hs : s = 2
        · rw [if_pos hs] at h ⊢
          rcases stR_unit ph l (i + 1) 3 i h with ⟨_, b⟩ | ⟨j, y, b1, b2⟩
          · exact .inr ⟨0, x, by rw [b]; rfl, rfl⟩
          · exact .inr ⟨j + 1, y, by rw [b1]; congr 1; omega, b2⟩
        · rw [if_neg hs] at h ⊢
          rcases stR_unit ph l (i + 1) 4 (-1) h with ⟨b, _⟩ | ⟨j, y, b1, b2⟩
          · exact absurd b (by decide)
          · exact .inr ⟨j + 1, y, by rw [b1]; congr 1; omega, b2⟩
      · rw [if_neg h0] at h ⊢
        rcases stR_unit ph l (i + 1) s o h with b | ⟨j, y, b1, b2⟩
        · exact .inl b
        · exact .inr ⟨j + 1, y, by rw [b1]; congr 1; omega, b2⟩
/-- What the law asks of the state s and the place o. -/
structure Imp (ph : List Int) (l : List Lit) (s o : Int) : Prop where
  unit : s = 3 → ∃ (j : Nat) (x : Lit), o = (j : Int) ∧ l[j]? = some x ∧ ∀ k, fitT ph k ph.length = true → holds l k = (k.testBit x.1.toNat == x.2)
  sat : s = 1 → ∀ k, fitT ph k ph.length = true → holds l k = true
  fls : s = 2 → ∀ k, fitT ph k ph.length = true → holds l k = false
theorem imp_stat {ph : List Int} {l : List Lit} (hv : vldB l = true) : Imp ph l (statP ph l).1 (statP ph l).2 := by
  unfold statP
  rw [hv, if_pos rfl]
  refine ⟨fun e => ?_, fun e k h => ?_, fun e k h => ?_⟩
  · rcases stR_unit ph l 0 2 (-1) e with ⟨b, _⟩ | ⟨j, x, b1, b2⟩
    · exact absurd b (by decide)
    · refine ⟨j, x, by rw [b1, Nat.zero_add], b2, fun k h => ?_⟩
      rcases (stR_law h l 0 2 (-1)).2.2 e with ⟨b, _⟩ | ⟨_, j', x', c1, c2, c3⟩
      · exact absurd b (by decide)
      · have : j' = j := by rw [b1] at c1; omega
        subst this
        rw [b2] at c2
        injection c2 with c2
        rw [c3, c2]
  · exact (stR_law h l 0 2 (-1)).1 e (by decide)
  · exact ((stR_law h l 0 2 (-1)).2.1 e).2
end Go.Proofs.YtgnlbmamolbcfaaDoor
