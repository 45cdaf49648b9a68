/- New. -/
import Derived.Test.YtnepkpcoglfejaaWl
import Derived.Handy
namespace Go.Proofs.Ytnepkpcoglfejaa
open Go.RowKit

theorem eqfA (F : Nat) (cb : Array Value) (w : World) : (binOp .eql 28 (.func (Fn.func F) #[] cb) .nilFunc).run Try.prog w = .ok (.bool false) w := by kernel_rfl
set_option maxRecDepth 100000 in
set_option maxHeartbeats 400000 in
theorem newA (w : World) (F B : Nat) (cb : Array Value) (lt : (Int × Int) → (Int × Int) → Bool) :
    Calls Try.prog 10 #[.func (.func F) #[] cb] w fun e w' => e = .returned (.pointer (some ⟨w.heap.size, 0, none⟩)) ∧ WlA w' w.heap.size B (.func (.func F) #[] cb) (.slice none 0 0) lt [] 0 ∧ Fr (fun _ => False) w w' := by
  have heq := eqfA F cb w
  go_enter Try.func10, Try.ntmps10
  go_wp2
  go_ret
  exact ⟨rfl, ⟨[], ⟨Bk.made _ _ _, ⟨rfl, .inl ⟨rfl, rfl⟩⟩⟩, Wk.nil⟩, Fr.alloc _ _ _⟩
theorem eqfI (F : Nat) (cb : Array Value) (w : World) : (binOp .eql 36 (.func (Fn.func F) #[] cb) .nilFunc).run Try.prog w = .ok (.bool false) w := by kernel_rfl
set_option maxRecDepth 100000 in
set_option maxHeartbeats 400000 in
theorem newI (w : World) (F B : Nat) (cb : Array Value) (lt : Int → Int → Bool) :
    Calls Try.prog 15 #[.func (.func F) #[] cb] w fun e w' => e = .returned (.pointer (some ⟨w.heap.size, 0, none⟩)) ∧ WlI w' w.heap.size B (.func (.func F) #[] cb) (.slice none 0 0) lt [] 0 ∧ Fr (fun _ => False) w w' := by
  have heq := eqfI F cb w
  go_enter Try.func15, Try.ntmps15
  go_wp2
  go_ret
  exact ⟨rfl, ⟨[], ⟨Bk.made _ _ _, ⟨rfl, .inl ⟨rfl, rfl⟩⟩⟩, Wk.nil⟩, Fr.alloc _ _ _⟩
theorem eqnI (w : World) : (binOp .eql 36 .nilFunc .nilFunc).run Try.prog w = .ok (.bool true) w := by kernel_rfl
set_option maxRecDepth 100000 in
set_option maxHeartbeats 400000 in
theorem newN (w : World) (B : Nat) (lt : Int → Int → Bool) :
    Calls Try.prog 15 #[.nilFunc] w fun e w' => e = .returned (.pointer (some ⟨w.heap.size, 0, none⟩)) ∧ WlI w' w.heap.size B (.func (.func 40) #[] #[]) (.slice none 0 0) lt [] 0 ∧ Fr (fun _ => False) w w' := by
  have heq := eqnI w
  go_enter Try.func15, Try.ntmps15
  go_wp2
  go_ret
  exact ⟨rfl, ⟨[], ⟨Bk.made _ _ _, ⟨rfl, .inl ⟨rfl, rfl⟩⟩⟩, Wk.nil⟩, Fr.alloc _ _ _⟩
theorem eqfS (F : Nat) (cb : Array Value) (w : World) : (binOp .eql 64 (.func (Fn.func F) #[] cb) .nilFunc).run Try.prog w = .ok (.bool false) w := by kernel_rfl
set_option maxRecDepth 100000 in
set_option maxHeartbeats 400000 in
theorem newS (w : World) (F B : Nat) (cb : Array Value) (lt : ByteArray → ByteArray → Bool) :
    Calls Try.prog 30 #[.func (.func F) #[] cb] w fun e w' => e = .returned (.pointer (some ⟨w.heap.size, 0, none⟩)) ∧ WlS w' w.heap.size B (.func (.func F) #[] cb) (.slice none 0 0) lt [] 0 ∧ Fr (fun _ => False) w w' := by
  have heq := eqfS F cb w
  go_enter Try.func30, Try.ntmps30
  go_wp2
  go_ret
  exact ⟨rfl, ⟨[], ⟨Bk.made _ _ _, ⟨rfl, .inl ⟨rfl, rfl⟩⟩⟩, Wk.nil⟩, Fr.alloc _ _ _⟩

end Go.Proofs.Ytnepkpcoglfejaa
