/- Digits. -/
import Derived.Test.YtnepkpcoglfejaaLess
namespace Go.Proofs.Ytnepkpcoglfejaa
open Go.RowKit

theorem dg_le (n : Nat) : dg n ≤ n := by
  induction n using Nat.strongRecOn with
  | _ n ih =>
    by_cases h : n = 0
    · subst h; rw [dg_zero]; exact Nat.le_refl _
    · rw [dg_pos (by omega)]
      have := ih (n / 2) (by omega)
      omega
set_option maxHeartbeats 400000 in
theorem digits_any (n : Nat) (hn : n ≤ 1000000) (w : World) : Calls Try.prog 18 #[.int .i64 n] w fun e w' => e = .returned (.int .i64 (dg n)) ∧ w' = w := by
  have hd := dg_le n
  generalize hdn : dg n = d at *
  have HD := Lib.hid hdn
  clear hdn
  go_enter Try.func18, Try.ntmps18
  go_wp2
  go_loop [0, 3] (fun a b => ∃ m j : Nat, a = .int .i64 m ∧ b = .int .i64 j ∧ m ≤ n ∧ j ≤ d ∧ Hid (j + dg m = d)) (fun a _ => (intOf a).toNat)
  case atStart => exact ⟨n, 0, rfl, rfl, Nat.le_refl _, Nat.zero_le _, by rw [Nat.zero_add]; exact HD.out⟩
  case round =>
    obtain ⟨m, j, rfl, rfl, hm, hj, hs⟩ := hrel
    by_cases h0 : 0 < m
    · have h9 : j + 1 + dg (m / 2) = d := by
        have := hs.out
        rw [dg_pos h0] at this
        omega
      have hj1 : j + 1 ≤ d := by omega
      replace h9 := Lib.hid h9
      go_wp2
      go_round
      case rel => exact ⟨m / 2, j + 1, by go_num, by go_num, by omega, hj1, h9⟩
      case measure => simp [intOf]; omega
    · go_wp2
      go_ret
      obtain rfl : m = 0 := by omega
      have h9 := hs.out
      rw [dg_zero, Nat.add_zero] at h9
      exact ⟨ret_int (by rw [h9]), rfl⟩
end Go.Proofs.Ytnepkpcoglfejaa
