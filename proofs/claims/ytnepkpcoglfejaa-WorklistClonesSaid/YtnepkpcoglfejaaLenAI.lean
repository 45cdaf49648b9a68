/- Len. -/
import Derived.Test.YtnepkpcoglfejaaWl
import Derived.Handy
namespace Go.Proofs.Ytnepkpcoglfejaa
open Go.RowKit

set_option maxHeartbeats 400000 in
theorem lenA (w : World) (p B N : Nat) (fv hv : Value) (lt : (Int × Int) → (Int × Int) → Bool) (E : List ((Int × Int) × Int)) (h : WlA w p B fv hv lt E N) :
    Calls Try.prog 14 #[.pointer (some ⟨p, 0, none⟩)] w fun e w' => e = .returned (.int .i64 E.length) ∧ w = w' := by
  obtain ⟨A, cp, rfl⟩ := h.form
  obtain ⟨hs, h1, h2⟩ := h
  have ch : w.cell? ⟨p, 1, none⟩ = some (.slice A E.length cp) := (h1.hd.cell 1).trans rfl
  clear h1 h2
  go_enter Try.func14, Try.ntmps14
  go_wp2
  go_ret
  exact ⟨rfl, rfl⟩

set_option maxHeartbeats 400000 in
theorem lenI (w : World) (p B N : Nat) (fv hv : Value) (lt : Int → Int → Bool) (E : List (Int × Int)) (h : WlI w p B fv hv lt E N) :
    Calls Try.prog 20 #[.pointer (some ⟨p, 0, none⟩)] w fun e w' => e = .returned (.int .i64 E.length) ∧ w = w' := by
  obtain ⟨A, cp, rfl⟩ := h.form
  obtain ⟨hs, h1, h2⟩ := h
  have ch : w.cell? ⟨p, 1, none⟩ = some (.slice A E.length cp) := (h1.hd.cell 1).trans rfl
  clear h1 h2
  go_enter Try.func20, Try.ntmps20
  go_wp2
  go_ret
  exact ⟨rfl, rfl⟩


end Go.Proofs.Ytnepkpcoglfejaa
