/- Same: whether two lists are equal; Unfinished; after. -/
import Derived.Test.YtambnijbbnohfaaSmall
namespace Go.Proofs.Ytambnijbbnohfaa
open Go.RowKit

theorem sameB_ne {xs ys : List Int} {k : Nat} (hx : k < xs.length) (hy : k < ys.length) (h : ¬ xs[k] = ys[k]) : decide (xs = ys) = false := by
  simp only [decide_eq_false_iff_not]; intro e; subst e; exact h rfl
theorem sameB_eq {xs ys : List Int} (hl : xs.length = ys.length) (h : ∀ j (hj : j < xs.length) (hy : j < ys.length), xs[j] = ys[j]) : decide (xs = ys) = true := by
  simp only [decide_eq_true_eq]; exact List.ext_getElem hl h
theorem sameB_len {xs ys : List Int} (hl : ¬ xs.length = ys.length) : decide (xs = ys) = false := by
  simp only [decide_eq_false_iff_not]; intro e; subst e; exact hl rfl

set_option maxHeartbeats 400000 in
theorem same_any (A A1 : Option Addr) (n c m c1 B : Nat) (xs ys : List Int) (w : World) (hn : xs.length = n) (hm : ys.length = m) (hN : n ≤ maxLen) (hM : m ≤ maxLen)
    (hs : Sees w B A (xs.map (Value.int .i64))) (ht : Sees w B A1 (ys.map (Value.int .i64))) :
    Calls Try.prog 13 #[.slice A n c, .slice A1 m c1] w fun e w' => e = .returned (.bool (decide (xs = ys))) ∧ Below w.heap.size w w' := by
  unfold maxLen at hN hM
  have HN := Lib.hid hn; clear hn
  have HM := Lib.hid hm; clear hm
  have HS := Lib.hid hs; clear hs
  have HT := Lib.hid ht; clear ht
  by_cases h1 : n = m
  · subst h1
    go_enter Try.func13, Try.ntmps13
    go_wp2
    go_loopw [5] (fun i wr => ∃ k : Nat, k ≤ n ∧ i = .int .i64 k ∧ (∃ q, wr = w.drewN q) ∧ Hid (∀ j (hj : j < xs.length) (hy : j < ys.length), j < k → xs[j] = ys[j])) (fun i _ => n - (intOf i).toNat)
    case atStart => exact ⟨0, Nat.zero_le _, rfl, ⟨0, rfl⟩, fun j _ _ h => by omega⟩
    case round =>
      obtain ⟨k, hk, rfl, ⟨q, rfl⟩, hall⟩ := hrel
      by_cases hlt : k < n
      · have hk1 : k < xs.length := by rw [HN.out]; exact hlt
        have hk2 : k < ys.length := by rw [HM.out]; exact hlt
        obtain ⟨ad, rfl, _, hcell⟩ := HS.out.look (k := k) (by simpa using hk1)
        obtain ⟨ad', rfl, _, hcell'⟩ := HT.out.look (k := k) (by simpa using hk2)
        simp only [List.getElem_map] at hcell hcell'
        go_wp2
        go_quiet (fail)
        by_cases hb : xs[k] = ys[k]
        · have hb' : (xs[k] != ys[k]) = false := by simpa using hb
          clear hcell hcell'
          go_wp2
          go_roundw
          case rel => exact ⟨k + 1, by omega, by go_num, ⟨_, rfl⟩, fun j hj hy h => by
              by_cases e : j = k
              · subst e; exact hb
              · exact hall.out j hj hy (by omega)⟩
          case measure => simp [intOf]; omega
        · have hb' : (xs[k] != ys[k]) = true := by simpa using hb
          go_wp2
          go_ret
          exact ⟨ret_bool (sameB_ne hk1 hk2 hb).symm, below_drewN (below_drewN (Below.refl _ _) _) _⟩
      · go_wp2
        go_ret
        exact ⟨ret_bool (sameB_eq (by rw [HN.out, HM.out]) (fun j hj hy => hall.out j hj hy (by have := HN.out; omega))).symm, below_drewN (Below.refl _ _) _⟩
  · go_enter Try.func13, Try.ntmps13
    go_wp2
    go_ret
    exact ⟨ret_bool (sameB_len (by rw [HN.out, HM.out]; exact h1)).symm, Below.refl _ _⟩

end Go.Proofs.Ytambnijbbnohfaa
