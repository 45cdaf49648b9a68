/- slices.IndexFunc and slices.ContainsFunc over a function value that only computes; the closures of next and of Order; next. -/
import Derived.Test.YtambnijbbnohfaaBegin
namespace Go.Proofs.Ytambnijbbnohfaa
open Go.RowKit

set_option maxHeartbeats 400000 in
theorem next1_any (x last : Int) (pt : Addr) (gt : Nat) (w : World) (hp : w.cell? pt = some (.pointer (some ⟨gt, 0, none⟩))) (hl : w.cell? ⟨gt, 2, none⟩ = some (.int .i64 last)) :
    Calls Try.prog 35 #[.int .i64 x, .pointer (some pt)] w fun e w' => e = .returned (.bool (decide (last < x))) ∧ w = w' := by
  go_enter Try.func35, Try.ntmps35
  go_wp2
  all_goals go_ret
  all_goals exact ⟨rfl, rfl⟩

set_option maxHeartbeats 400000 in
theorem less1_any (x : Int) (w : World) : Calls Try.prog 21 #[.int .i64 x] w fun e w' => e = .returned (.bool (decide (x < 1))) ∧ w = w' := by
  go_enter Try.func21, Try.ntmps21
  go_wp2
  all_goals go_ret
  all_goals exact ⟨rfl, rfl⟩

/-- The place of the first entry with p, if there is one. -/
def idxOf (p : Int → Bool) (l : List Int) : Int := if l.findIdx p < l.length then (l.findIdx p : Int) else -1
theorem idxOf_hit {p : Int → Bool} {l : List Int} {k : Nat} (hk : k < l.length) (h : p l[k] = true) (hb : ∀ j (hj : j < l.length), j < k → p l[j] = false) : idxOf p l = k := by
  have : l.findIdx p = k := by
    rw [List.findIdx_eq hk]
    exact ⟨h, fun j hj => hb j (by omega) hj⟩
  simp [idxOf, this, hk]
theorem idxOf_miss {p : Int → Bool} {l : List Int} (hb : ∀ j (hj : j < l.length), p l[j] = false) : idxOf p l = -1 := by
  have : l.findIdx p = l.length := by
    rw [List.findIdx_eq_length]
    intro x hx
    obtain ⟨j, hj, rfl⟩ := List.getElem_of_mem hx
    exact hb j hj
  simp [idxOf, this]

set_option maxHeartbeats 400000 in
theorem indexFunc_any (F : Nat) (caps : Array Value) (p : Int → Bool) (A : Option Addr) (n c B : Nat) (zs : List Int) (w : World) (hn : zs.length = n) (hN : n ≤ maxLen) (hs : Sees w B A (zs.map (Value.int .i64)))
    (eg : ∀ args W, (callFunc F args).run Try.prog W = .ok (.enter F args) W) (hcall : ∀ x, Calls Try.prog F (#[.int .i64 x] ++ caps) w fun e w' => e = .returned (.bool (p x)) ∧ w = w') :
    Calls Try.prog 31 #[.slice A n c, .func (Fn.func F) #[] caps] w fun e w' => e = .returned (.int .i64 (idxOf p zs)) ∧ w = w' := by
  unfold maxLen at hN
  have HN := Lib.hid hn; clear hn
  have HS := Lib.hid hs; clear hs
  have HC := Lib.hid hcall; clear hcall
  go_enter Try.func31, Try.ntmps31
  go_wp2
  go_loop [8, 5] (fun i _ => ∃ k : Nat, k ≤ n ∧ i = .int .i64 k ∧ Hid (∀ j (hj : j < zs.length), j < k → p zs[j] = false)) (fun i _ => n - (intOf i).toNat)
  case atStart => exact ⟨0, Nat.zero_le _, rfl, fun j _ h => by omega⟩
  case round =>
    obtain ⟨k, hk, rfl, hall⟩ := hrel
    by_cases hlt : k < n
    · have hk1 : k < zs.length := by rw [HN.out]; exact hlt
      obtain ⟨ad, rfl, hadb, hcell⟩ := HS.out.look (k := k) (by simpa using hk1)
      simp only [List.getElem_map] at hcell
      go_wp2_with fail
      refine (HC.out _).mono ?_
      rintro e w' ⟨rfl, rfl⟩
      by_cases hp : p zs[k] = true
      · go_wp2
        go_ret
        exact ⟨ret_int (idxOf_hit hk1 hp hall.out).symm, rfl⟩
      · have hp' : p zs[k] = false := by simpa using hp
        go_wp2
        go_round
        case rel => exact ⟨k + 1, by omega, by go_num, fun j hj h => by
              by_cases e : j = k
              · subst e; exact hp'
              · exact hall.out j hj (by omega)⟩
        case measure => simp [intOf]; omega
    · go_wp2
      go_ret
      exact ⟨ret_int (idxOf_miss (fun j hj => hall.out j hj (by have := HN.out; omega))).symm, rfl⟩

theorem idxOf_ge (p : Int → Bool) (l : List Int) : decide (0 ≤ idxOf p l) = l.any p := by
  rw [Bool.eq_iff_iff, List.any_eq_true]
  unfold idxOf
  by_cases h : l.findIdx p < l.length
  · simp only [h, if_true, decide_eq_true_eq]
    exact ⟨fun _ => ⟨_, List.getElem_mem h, List.findIdx_getElem⟩, fun _ => by omega⟩
  · simp only [h, if_false, decide_eq_true_eq]
    refine ⟨fun h => by omega, fun ⟨x, hx, hp⟩ => absurd (List.findIdx_lt_length.mpr ⟨x, hx, hp⟩) h⟩

set_option maxHeartbeats 400000 in
theorem containsFunc_any (F : Nat) (caps : Array Value) (p : Int → Bool) (A : Option Addr) (n c B : Nat) (zs : List Int) (w : World) (hn : zs.length = n) (hN : n ≤ maxLen) (hs : Sees w B A (zs.map (Value.int .i64)))
    (eg : ∀ args W, (callFunc F args).run Try.prog W = .ok (.enter F args) W) (hcall : ∀ x, Calls Try.prog F (#[.int .i64 x] ++ caps) w fun e w' => e = .returned (.bool (p x)) ∧ w = w') :
    Calls Try.prog 20 #[.slice A n c, .func (Fn.func F) #[] caps] w fun e w' => e = .returned (.bool (zs.any p)) ∧ w = w' := by
  have H := Lib.hid (indexFunc_any F caps p A n c B zs w hn hN hs eg hcall)
  have HG := Lib.hid (idxOf_ge p zs)
  clear hn hN hs eg hcall
  go_enter Try.func20, Try.ntmps20
  go_wp2_with fail
  refine H.out.mono ?_
  rintro e w' ⟨rfl, rfl⟩
  go_wp2
  all_goals go_ret
  all_goals exact ⟨ret_bool HG.out, rfl⟩

end Go.Proofs.Ytambnijbbnohfaa
