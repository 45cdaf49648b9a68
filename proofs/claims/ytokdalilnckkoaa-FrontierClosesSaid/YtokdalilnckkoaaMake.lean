/- New, Push, Take. -/
import Derived.Test.YtokdalilnckkoaaStep
namespace Go.Proofs.Ytokdalilnckkoaa
open Go.RowKit


theorem newI (w : World) :
    Calls Try.prog 8 #[] w fun e w' => e = .returned (.pointer (some ⟨w.heap.size, 0, none⟩)) ∧ w' = w.alloc (.cells #[pv none, .int .i64 0] 79) := by
  go_enter Try.func8, Try.ntmps8
  go_wp2
  go_ret
  exact ⟨rfl, rfl⟩

theorem takeI (g : Nat) (w : World) :
    Calls Try.prog 10 #[.pointer (some ⟨g, 0, none⟩)] w fun e w' => e = .returned (.pointer (some ⟨w.heap.size, 0, none⟩)) ∧ w' = w.alloc (.cells #[.pointer (some ⟨g, 0, none⟩), nxt 34 w.heap.size, pv none, .bool false, .int .i64 0] 83) := by
  unfold nxt
  go_enter Try.func10, Try.ntmps10
  go_wp2
  go_ret
  exact ⟨rfl, rfl⟩

theorem pushI (g : Nat) (x : Int) (w : World) :
    Calls Try.prog 9 #[.pointer (some ⟨g, 0, none⟩), .int .i64 x] w fun e w' => e = .returned (.pointer (some ⟨w.heap.size + 1, 0, none⟩)) ∧ w' = (w.alloc (.cells #[.int .i64 x, pv none] 81)).alloc (.cells #[.pointer (some ⟨g, 0, none⟩), nxt 33 (w.heap.size + 1), pv (some w.heap.size), .bool false, .int .i64 0] 83) := by
  unfold nxt
  go_enter Try.func9, Try.ntmps9
  go_wp2
  go_ret
  exact ⟨rfl, rfl⟩

theorem newS (w : World) :
    Calls Try.prog 24 #[] w fun e w' => e = .returned (.pointer (some ⟨w.heap.size, 0, none⟩)) ∧ w' = w.alloc (.cells #[pv none, .int .i64 0] 94) := by
  go_enter Try.func24, Try.ntmps24
  go_wp2
  go_ret
  exact ⟨rfl, rfl⟩

theorem takeS (g : Nat) (w : World) :
    Calls Try.prog 29 #[.pointer (some ⟨g, 0, none⟩)] w fun e w' => e = .returned (.pointer (some ⟨w.heap.size, 0, none⟩)) ∧ w' = w.alloc (.cells #[.pointer (some ⟨g, 0, none⟩), nxt 46 w.heap.size, pv none, .bool false, .int .i64 0] 98) := by
  unfold nxt
  go_enter Try.func29, Try.ntmps29
  go_wp2
  go_ret
  exact ⟨rfl, rfl⟩

theorem pushS (g : Nat) (x : Bs) (w : World) :
    Calls Try.prog 25 #[.pointer (some ⟨g, 0, none⟩), .string x.1] w fun e w' => e = .returned (.pointer (some ⟨w.heap.size + 1, 0, none⟩)) ∧ w' = (w.alloc (.cells #[.string x.1, pv none] 96)).alloc (.cells #[.pointer (some ⟨g, 0, none⟩), nxt 43 (w.heap.size + 1), pv (some w.heap.size), .bool false, .int .i64 0] 98) := by
  unfold nxt
  go_enter Try.func25, Try.ntmps25
  go_wp2
  go_ret
  exact ⟨rfl, rfl⟩

end Go.Proofs.Ytokdalilnckkoaa
