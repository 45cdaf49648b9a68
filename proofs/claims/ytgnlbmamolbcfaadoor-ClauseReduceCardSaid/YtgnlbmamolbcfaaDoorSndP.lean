/- A resolvent holds where both clauses hold; in plain Lean. -/
import Derived.Test.YtgnlbmamolbcfaaDoorRes
set_option linter.unusedVariables false
namespace Go.Proofs.YtgnlbmamolbcfaaDoor

theorem six_rest {a b : List Lit} (ha : six a) (hb : six b) (u : Int) : six (resL a b u) := fun x hx => by
  have key : ∀ y, y ∈ mkV (rest a b u) → 0 ≤ y.1 ∧ y.1 < 6 := fun y hy => by
    unfold mkV at hy
    split at hy
    · rw [mem_mkR] at hy
      have h2 := (List.mem_filter.1 hy).1
      rcases List.mem_append.1 h2 with h | h
      · exact ha y h
      · exact hb y h
    · cases hy
  unfold resL at hx
  split at hx
  · exact key x hx
  · cases hx
theorem holds_mem {l : List Lit} {k : Nat} : holds l k = true ↔ ∃ x ∈ l, (k.testBit x.1.toNat == x.2) = true := by
  unfold holds
  rw [List.any_eq_true]
theorem res_holds {a b : List Lit} {u : Int} {k : Nat} (he : resE a b u = 0) (ha : holds a k = true) (hb : holds b k = true) : holds (resL a b u) k = true := by
  unfold resE at he
  cases hv : (vldB a && (vldB b && hasOpp a b u))
  · rw [hv] at he
    cases he
  · rw [hv, if_pos rfl] at he
    cases hm : vldB (mkR (rest a b u))
    · rw [hm] at he
      cases he
    · have hL : resL a b u = mkR (rest a b u) := by
        unfold resL mkV
        rw [hv, hm, if_pos rfl, if_pos rfl]
      rw [hL, holds_mem]
      simp only [Bool.and_eq_true] at hv
      obtain ⟨hva, hvb, ho⟩ := hv
      obtain ⟨x, hx, ex⟩ := holds_mem.1 ha
      obtain ⟨y, hy, ey⟩ := holds_mem.1 hb
      have keep : ∀ z : Lit, z ∈ a ++ b → z.1 ≠ u → z ∈ mkR (rest a b u) := fun z hz hne => by
        rw [mem_mkR, rest, List.mem_filter]
        exact ⟨hz, by simp [hne]⟩
      by_cases h1 : x.1 = u
      · by_cases h2 : y.1 = u
        · exfalso
          -- both true literals are about the unit, so they are equal; but one clause has the one, the other one the other
          have e1 : k.testBit u.toNat = x.2 := by rw [← h1]; exact beq_iff_eq.1 ex
          have e2 : k.testBit u.toNat = y.2 := by rw [← h2]; exact beq_iff_eq.1 ey
          have hx' : x = (u, x.2) := Prod.ext h1 rfl
          have hy' : y = (u, x.2) := Prod.ext h2 (by rw [← e2, e1])
          unfold hasOpp at ho
          simp only [Bool.or_eq_true, Bool.and_eq_true, List.contains_iff_mem] at ho
          have oa := fun z (hz : z ∈ a) (e : z.1 = u) => (vldB_iff.1 hva).once hz hx (by rw [e, h1])
          have ob := fun z (hz : z ∈ b) (e : z.1 = u) => (vldB_iff.1 hvb).once hz hy (by rw [e, h2])
          rcases ho with ⟨q1, q2⟩ | ⟨q1, q2⟩
          · have r1 := oa _ q1 rfl
            have r2 := ob _ q2 rfl
            rw [hx'] at r1
            rw [hy'] at r2
            injection r1 with _ r1
            injection r2 with _ r2
            rw [← r1] at r2
            cases r2
          · have r1 := oa _ q1 rfl
            have r2 := ob _ q2 rfl
            rw [hx'] at r1
            rw [hy'] at r2
            injection r1 with _ r1
            injection r2 with _ r2
            rw [← r1] at r2
            cases r2
        · exact ⟨y, keep y (by simp [hy]) h2, ey⟩
      · exact ⟨x, keep x (by simp [hx]) h1, ex⟩
end Go.Proofs.YtgnlbmamolbcfaaDoor
