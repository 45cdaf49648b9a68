/- cmp.Compare of units. -/
import Derived.Test.YtgnlbmamolbcfaaDoorSort
set_option linter.unusedVariables false
namespace Go.Proofs.YtgnlbmamolbcfaaDoor
open Go.Shelf Go.RowKit

attribute [local go_sem] Oper.semAt_some

def cfU (a b : Int) : Int := if a < b then -1 else if b < a then 1 else 0
set_option maxHeartbeats 400000 in
theorem isNaN_any (a : Int) (w : World) : Calls Tryd.prog 60 #[.int .i64 a] w fun e w' => e = .returned (.bool false) ∧ w = w' := by
  go_enter Tryd.func60, Tryd.ntmps60
  go_wp2
  go_ret
  exact ⟨by simp, rfl⟩
set_option maxHeartbeats 400000 in
theorem compare_any (a b : Int) (w : World) : Calls Tryd.prog 45 #[.int .i64 a, .int .i64 b] w fun e w' => e = .returned (.int .i64 (cfU a b)) ∧ w = w' := by
  by_cases h1 : a < b
  · have hc : Hid (cfU a b = -1) := if_pos h1
    go_enter Tryd.func45, Tryd.ntmps45
    go_wp2_with (go_at_call 60; refine (isNaN_any _ _).mono ?_; rintro e w' ⟨rfl, rfl⟩)
    go_ret
    exact ⟨by rw [hc.out]; rfl, rfl⟩
  by_cases h2 : b < a
  · have hc : Hid (cfU a b = 1) := by unfold cfU; rw [if_neg h1, if_pos h2]; exact rfl
    go_enter Tryd.func45, Tryd.ntmps45
    go_wp2_with (go_at_call 60; refine (isNaN_any _ _).mono ?_; rintro e w' ⟨rfl, rfl⟩)
    go_ret
    exact ⟨by rw [hc.out]; rfl, rfl⟩
  · have hc : Hid (cfU a b = 0) := by unfold cfU; rw [if_neg h1, if_neg h2]; exact rfl
    go_enter Tryd.func45, Tryd.ntmps45
    go_wp2_with (go_at_call 60; refine (isNaN_any _ _).mono ?_; rintro e w' ⟨rfl, rfl⟩)
    go_ret
    exact ⟨by rw [hc.out]; rfl, rfl⟩
set_option maxHeartbeats 400000 in
theorem make1_any (a b : Lit) (w : World) : Calls Tryd.prog 44 #[.agg #[.int .i64 a.1, .bool a.2], .agg #[.int .i64 b.1, .bool b.2]] w fun e w' => e = .returned (.int .i64 (cfU a.1 b.1)) ∧ w' = (w.alloc (.cells #[.int .i64 a.1, .bool a.2] 38)).alloc (.cells #[.int .i64 b.1, .bool b.2] 38) := by
  obtain ⟨a1, a2⟩ := a
  obtain ⟨b1, b2⟩ := b
  simp only
  go_enter Tryd.func44, Tryd.ntmps44
  go_wp2_with (go_at_call 45; refine (compare_any _ _ _).mono ?_; rintro e w' ⟨rfl, rfl⟩)
  go_ret
  exact ⟨rfl, rfl⟩
end Go.Proofs.YtgnlbmamolbcfaaDoor
