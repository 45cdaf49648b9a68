/- Dropping a literal that its left neighbour equals; in plain Lean. -/
import Derived.Test.YtgnlbmamolbcfaaDoorCl
set_option linter.unusedVariables false
namespace Go.Proofs.YtgnlbmamolbcfaaDoor

/-- Place m is kept: it is the first, or it holds another literal than the place before it. -/
def kpL (l : List Lit) (m : Nat) : Bool := decide (m = 0 ∨ l[m]? ≠ l[m - 1]?)
/-- Those of the first m places that are kept. -/
def cptU (l : List Lit) : Nat → List Lit
  | 0 => []
  | m + 1 => if kpL l m then cptU l m ++ (l[m]?).toList else cptU l m
def cpt (l : List Lit) : List Lit := cptU l l.length
/-- The row: the literals C, then what lay there. -/
def mid (C l : List Lit) : List Lit := C ++ l.drop C.length

theorem kpL_no {l : List Lit} {m : Nat} (h0 : 0 < m) (h : l[m]? = l[m - 1]?) : kpL l m = false := by
  simp only [kpL, decide_eq_false_iff_not]
  rintro (e | e)
  · omega
  · exact e h
theorem kpL_yes {l : List Lit} {m : Nat} (h : l[m]? ≠ l[m - 1]?) : kpL l m = true := by simp [kpL, h]
theorem kpL_zero (l : List Lit) : kpL l 0 = true := by simp [kpL]
theorem cptU_skip {l : List Lit} {m : Nat} (h : kpL l m = false) : cptU l (m + 1) = cptU l m := by rw [cptU, h]; rfl
theorem cptU_keep {l : List Lit} {m : Nat} {x : Lit} (h : kpL l m = true) (hx : l[m]? = some x) : cptU l (m + 1) = cptU l m ++ [x] := by rw [cptU, h, hx]; rfl
theorem cptU_le (l : List Lit) : ∀ m, (cptU l m).length ≤ m
  | 0 => Nat.le_refl _
  | m + 1 => by
    have := cptU_le l m
    rw [cptU]
    split
    · rw [List.length_append]
      cases l[m]? <;> simp <;> omega
    · omega
theorem cptU_all {l : List Lit} : ∀ {m}, m ≤ l.length → (∀ j, j < m → kpL l j = true) → cptU l m = l.take m
  | 0, _, _ => rfl
  | m + 1, hm, h => by
    rw [cptU, h m (Nat.lt_succ_self m), if_pos rfl, cptU_all (by omega) fun j hj => h j (by omega), List.take_add_one]
theorem mid_len {C l : List Lit} (h : C.length ≤ l.length) : (mid C l).length = l.length := by simp [mid]; omega
theorem mid_low {C l : List Lit} {j : Nat} (h : C.length ≤ j) : (mid C l)[j]? = l[j]? := by
  rw [mid, List.getElem?_append_right h, List.getElem?_drop]
  congr 1
  omega
theorem mid_put {C l : List Lit} {x : Lit} (h : C.length < l.length) : (mid C l).set C.length x = mid (C ++ [x]) l := by
  rw [mid, mid, List.set_append_right _ _ (Nat.le_refl _), Nat.sub_self, List.drop_eq_getElem_cons h, List.set_cons_zero, List.append_assoc, List.length_append]
  rfl
theorem mid_take (C l : List Lit) : (mid C l).take C.length = C := by simp [mid]
theorem mid_start {l : List Lit} {m : Nat} (h : m ≤ l.length) : mid (l.take m) l = l := by
  rw [mid, List.length_take, Nat.min_eq_left h, List.take_append_drop]
end Go.Proofs.YtgnlbmamolbcfaaDoor
