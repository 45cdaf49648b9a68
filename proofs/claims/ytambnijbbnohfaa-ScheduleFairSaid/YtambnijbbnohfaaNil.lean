/- slices.Contains(workers, nil) where no worker is nil. (Where one is, the model gives the comparison of the two nil interface values no meaning.) -/
import Derived.Test.YtambnijbbnohfaaCrew
namespace Go.Proofs.Ytambnijbbnohfaa
open Go.RowKit

/-- An interface value that is not nil. -/
def IsIf (v : Value) : Prop := ∃ u x, v = .iface u x

theorem eql_nil {v : Value} (h : IsIf v) (w : World) : (binOp .eql 34 .nilIface v).run Try.prog w = .ok (.bool false) w := by
  obtain ⟨u, x, rfl⟩ := h
  kernel_rfl
theorem eqg_nil {v : Value} (h : IsIf v) (a b : Tmp) (w : World) : (eqGuard .eql 34 (.tmp a) (.tmp b) .nilIface v).run Try.prog w = .ok () w := by
  obtain ⟨u, x, rfl⟩ := h
  kernel_rfl

set_option maxHeartbeats 400000 in
theorem indexNil_any (A : Option Addr) (n c B : Nat) (vs : List Value) (w : World) (hn : vs.length = n) (hN : n ≤ 1000000) (hs : Sees w B A vs) (hv : ∀ v ∈ vs, IsIf v) :
    Calls Try.prog 34 #[.slice A n c, .nilIface] w fun e w' => e = .returned (.int .i64 (-1)) ∧ w = w' := by
  have HN := Lib.hid hn; clear hn
  have HS := Lib.hid hs; clear hs
  have HV := Lib.hid hv; clear hv
  go_enter Try.func34, Try.ntmps34
  go_wp2
  go_loop [8, 5] (fun i _ => ∃ k : Nat, k ≤ n ∧ i = .int .i64 k) (fun i _ => n - (intOf i).toNat)
  case atStart => exact ⟨0, Nat.zero_le _, rfl⟩
  case round =>
    obtain ⟨k, hk, rfl⟩ := hrel
    by_cases hlt : k < n
    · have hk1 : k < vs.length := by rw [HN.out]; exact hlt
      obtain ⟨ad, rfl, hadb, hcell⟩ := HS.out.look (k := k) hk1
      have heq := eql_nil (HV.out _ (List.getElem_mem hk1)) w
      have heg := eqg_nil (HV.out _ (List.getElem_mem hk1)) 11 15 w
      go_wp2
      go_round
      case rel => exact ⟨k + 1, by omega, by go_num⟩
      case measure => simp [intOf]; omega
    · go_wp2
      go_ret
      exact ⟨rfl, rfl⟩

set_option maxHeartbeats 400000 in
theorem containsNil_any (A : Option Addr) (n c B : Nat) (vs : List Value) (w : World) (hn : vs.length = n) (hN : n ≤ 1000000) (hs : Sees w B A vs) (hv : ∀ v ∈ vs, IsIf v) :
    Calls Try.prog 29 #[.slice A n c, .nilIface] w fun e w' => e = .returned (.bool false) ∧ w = w' := by
  have H := Lib.hid (indexNil_any A n c B vs w hn hN hs hv)
  clear hn hN hs hv
  go_enter Try.func29, Try.ntmps29
  go_wp2_with fail
  refine H.out.mono ?_
  rintro e w' ⟨rfl, rfl⟩
  go_wp2
  go_ret
  exact ⟨rfl, rfl⟩

end Go.Proofs.Ytambnijbbnohfaa
