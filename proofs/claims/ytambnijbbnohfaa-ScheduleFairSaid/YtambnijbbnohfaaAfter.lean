/- after: the first entry of a list that is greater than a number, or its first one. -/
import Derived.Test.YtambnijbbnohfaaUnf
namespace Go.Proofs.Ytambnijbbnohfaa
open Go.RowKit

def aft (l : List Int) (n : Int) : Int := (l.find? (fun x => decide (n < x))).getD (l.getD 0 0)
theorem aft_hit {l : List Int} {n : Int} {k : Nat} (hk : k < l.length) (h : n < l[k]) (hb : ∀ j (hj : j < l.length), j < k → l[j] ≤ n) : aft l n = l[k] := by
  have : l.find? (fun x => decide (n < x)) = some l[k] := by
    rw [List.find?_eq_some_iff_getElem]
    refine ⟨by simpa using h, k, hk, rfl, fun j hj => ?_⟩
    have := hb j (by omega) hj
    simp; omega
  simp [aft, this]
theorem aft_miss {l : List Int} {n : Int} (h0 : 0 < l.length) (hb : ∀ j (hj : j < l.length), l[j] ≤ n) : aft l n = l[0] := by
  have : l.find? (fun x => decide (n < x)) = none := by
    rw [List.find?_eq_none]
    intro x hx
    obtain ⟨j, hj, rfl⟩ := List.getElem_of_mem hx
    have := hb j hj
    simp; omega
  simp [aft, this, h0]

set_option maxHeartbeats 400000 in
theorem after_any (A : Option Addr) (n c B : Nat) (zs : List Int) (x : Int) (w : World) (hn : zs.length = n) (h0 : 0 < n) (hN : n ≤ 1000000) (hs : Sees w B A (zs.map (Value.int .i64))) :
    Calls Try.prog 26 #[.slice A n c, .int .i64 x] w fun e w' => e = .returned (.int .i64 (aft zs x)) ∧ w = w' := by
  have HN := Lib.hid hn; clear hn
  have HS := Lib.hid hs; clear hs
  go_enter Try.func26, Try.ntmps26
  go_wp2
  go_loop [5] (fun i => ∃ k : Nat, k ≤ n ∧ i = .int .i64 k ∧ Hid (∀ j (hj : j < zs.length), j < k → zs[j] ≤ x)) (fun i => n - (intOf i).toNat)
  case atStart => exact ⟨0, Nat.zero_le _, rfl, fun j _ h => by omega⟩
  case round =>
    obtain ⟨k, hk, rfl, hall⟩ := hrel
    by_cases hlt : k < n
    · have hk1 : k < zs.length := by rw [HN.out]; exact hlt
      obtain ⟨ad, rfl, hadb, hcell⟩ := HS.out.look (k := k) (by simpa using hk1)
      simp only [List.getElem_map] at hcell
      by_cases hp : x < zs[k]
      · go_wp2
        go_ret
        exact ⟨ret_int (aft_hit hk1 hp hall.out).symm, rfl⟩
      · go_wp2
        go_round
        case rel => exact ⟨k + 1, by omega, by go_num, fun j hj h => by
              by_cases e : j = k
              · subst e; omega
              · exact hall.out j hj (by omega)⟩
        case measure => simp [intOf]; omega
    · have hk1 : 0 < zs.length := by rw [HN.out]; exact h0
      obtain ⟨ad, rfl, hadb, hcell⟩ := HS.out.look (k := 0) (by simpa using hk1)
      simp only [List.getElem_map] at hcell
      have hc0 : w.cell? ad = some (.int .i64 zs[0]) := hcell
      go_wp2
      go_ret
      exact ⟨ret_int (aft_miss hk1 (fun j hj => hall.out j hj (by have := HN.out; omega))).symm, rfl⟩

end Go.Proofs.Ytambnijbbnohfaa
