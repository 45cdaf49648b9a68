/- The small functions: large, Same, Unfinished, after. -/
import Derived.Test.YtambnijbbnohfaaChecked
import Derived.Test.YtambnijbbnohfaaWords
import Derived.WalkKit
import Derived.WalkSpells
import Derived.WalkLawsBesides
import Derived.Outline
import Derived.Lib.Hide
import Derived.Deep.QuietTactic
import Derived.BigQuiet
namespace Go.Proofs.Ytambnijbbnohfaa
open Go.RowKit

def bigB (zs : List Int) (m : Nat) : Bool := decide (12 < zs.length) || decide (300 < m) || zs.any (fun n => decide (50 < n))

theorem big_long {zs : List Int} {m : Nat} (h : 12 < zs.length) : bigB zs m = true := by simp [bigB, h]
theorem big_script {zs : List Int} {m : Nat} (h : 300 < m) : bigB zs m = true := by simp [bigB, h]
theorem big_elem {zs : List Int} {m k : Nat} (hk : k < zs.length) (h : 50 < zs[k]) : bigB zs m = true := by
  have : zs.any (fun n => decide (50 < n)) = true := List.any_eq_true.mpr ⟨zs[k], List.getElem_mem hk, by simpa using h⟩
  simp [bigB, this]
theorem big_not {zs : List Int} {m : Nat} (h1 : zs.length ≤ 12) (h2 : m ≤ 300) (h3 : ∀ j (hj : j < zs.length), zs[j] ≤ 50) : bigB zs m = false := by
  have : zs.any (fun n => decide (50 < n)) = false := by
    rw [List.any_eq_false]
    intro x hx
    obtain ⟨j, hj, rfl⟩ := List.getElem_of_mem hx
    have := h3 j hj
    simp; omega
  simp [bigB, this]; omega

set_option maxHeartbeats 400000 in
theorem large_any (A A1 : Option Addr) (n c m c1 B : Nat) (zs : List Int) (w : World) (hn : zs.length = n) (hN : n ≤ maxLen) (hM : m ≤ maxLen) (hs : Sees w B A (zs.map (Value.int .i64))) :
    Calls Try.prog 10 #[.slice A n c, .slice A1 m c1] w fun e w' => e = .returned (.bool (bigB zs m)) ∧ w = w' := by
  unfold maxLen at hN hM
  have HN := Lib.hid hn; clear hn
  have HS := Lib.hid hs; clear hs
  by_cases h1 : 12 < n
  · have hd : decide (12 < n) = true := by simpa using h1
    go_enter Try.func10, Try.ntmps10
    go_wp2
    go_ret
    exact ⟨ret_bool (big_long (by rw [HN.out]; exact h1)).symm, rfl⟩
  · have hd : decide (12 < n) = false := by simpa using h1
    by_cases h2 : 300 < m
    · have hd2 : decide (300 < m) = true := by simpa using h2
      go_enter Try.func10, Try.ntmps10
      go_wp2
      go_ret
      exact ⟨ret_bool (big_script h2).symm, rfl⟩
    · have hd2 : decide (300 < m) = false := by simpa using h2
      go_enter Try.func10, Try.ntmps10
      go_wp2
      go_loop [17, 6] (fun i _ => ∃ k : Nat, k ≤ n ∧ i = .int .i64 k ∧ Hid (∀ j (hj : j < zs.length), j < k → zs[j] ≤ 50)) (fun i _ => n - (intOf i).toNat)
      case atStart => exact ⟨0, Nat.zero_le _, rfl, fun j _ h => by omega⟩
      case round =>
        obtain ⟨k, hk, rfl, hall⟩ := hrel
        by_cases hlt : k < n
        · have hk' : k < zs.length := by rw [HN.out]; exact hlt
          obtain ⟨ad, rfl, _, hcell⟩ := HS.out.look (k := k) (by simpa using hk')
          simp only [List.getElem_map] at hcell
          by_cases hb : 50 < zs[k]
          · go_wp2
            go_ret
            exact ⟨ret_bool (big_elem hk' hb).symm, rfl⟩
          · go_wp2
            go_round
            case rel => exact ⟨k + 1, by omega, by go_num, fun j hj h => by
              by_cases e : j = k
              · subst e; omega
              · exact hall.out j hj (by omega)⟩
            case measure => simp [intOf]; omega
        · go_wp2
          go_ret
          exact ⟨ret_bool (big_not (by have := HN.out; omega) (by omega) (fun j hj => hall.out j hj (by have := HN.out; omega))).symm, rfl⟩

end Go.Proofs.Ytambnijbbnohfaa
