/- Opposite, twice. -/
import Derived.Test.YtgnlbmamolbcfaaDoorClo
set_option linter.unusedVariables false
namespace Go.Proofs.YtgnlbmamolbcfaaDoor
open Go.RowKit Go.Shelf

attribute [local go_sem] Oper.semAt_some

set_option maxRecDepth 100000 in
set_option maxHeartbeats 1000000 in
theorem opp27 (x1 : Int) (x2 : Bool) (w : World) : Calls Tryd.prog 27 #[.agg #[.int .i64 x1, .bool x2]] w fun e w' => e = .returned (.agg #[.int .i64 x1, .bool (!x2)]) ∧ Gr w w' := by
  go_enter Tryd.func27, Tryd.ntmps27
  go_wp2
  go_returns
  exact ⟨rfl, ((Gr.refl w).alloc _).alloc _⟩
set_option maxRecDepth 100000 in
set_option maxHeartbeats 1000000 in
theorem opp28 (x1 : Int) (x2 : Bool) (w : World) : Calls Tryd.prog 28 #[.agg #[.int .i64 x1, .bool x2]] w fun e w' => e = .returned (.agg #[.int .i64 x1, .bool (!x2)]) ∧ Gr w w' := by
  go_enter Tryd.func28, Tryd.ntmps28
  go_wp2
  go_returns
  exact ⟨rfl, ((Gr.refl w).alloc _).alloc _⟩
end Go.Proofs.YtgnlbmamolbcfaaDoor
