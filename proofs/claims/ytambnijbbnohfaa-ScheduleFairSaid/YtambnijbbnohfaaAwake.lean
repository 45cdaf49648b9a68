/- awake: the examples of the document hold. -/
import Derived.Test.YtambnijbbnohfaaRef
namespace Go.Proofs.Ytambnijbbnohfaa
open Go.RowKit

theorem ord_first : ordR [2, 1, 2] [] 10 = ([0, 1, 2, 0, 2], 0) := by decide
theorem ord_second : ordR [2, 1, 2] [2, 2, 0] 10 = ([2, 2, 0, 1, 0], 0) := by decide

theorem order_first (w : World) (A : Option Addr) (c B : Nat) (hs : Sees w B A ([2, 1, 2].map (Value.int .i64))) :
    Calls Try.prog 11 #[.slice A 3 c, .slice none 0 0, .int .i64 10] w (OrdPost ([0, 1, 2, 0, 2], 0) w) := by
  have h := order_run A none 3 c 0 0 B 0 10 [2, 1, 2] [] w rfl (by omega) hs rfl (Nat.le_refl _) (by unfold maxLen; omega) Sees.nil (by simp) (by unfold maxLen; omega) (by decide)
  rw [show (((10 : Nat) : Int)) = 10 from rfl, ord_first] at h
  exact h
theorem order_second (w : World) (A A1 : Option Addr) (c c1 B B1 : Nat) (hs : Sees w B A ([2, 1, 2].map (Value.int .i64))) (hs1 : Sees w B1 A1 ([2, 2, 0].map (Value.int .u8))) (hc : 3 ≤ c1) (hcM : c1 ≤ maxLen) :
    Calls Try.prog 11 #[.slice A 3 c, .slice A1 3 c1, .int .i64 10] w (OrdPost ([2, 2, 0, 1, 0], 0) w) := by
  have h := order_run A A1 3 c 3 c1 B B1 10 [2, 1, 2] [2, 2, 0] w rfl (by omega) hs rfl hc hcM hs1 (by decide) (by unfold maxLen; omega) (by decide)
  rw [show (((10 : Nat) : Int)) = 10 from rfl, ord_second] at h
  exact h

set_option maxHeartbeats 400000 in
theorem awake_any (w : World) : Calls Try.prog 9 #[] w fun e w' => e = .returned (.bool true) ∧ Below w.heap.size w w' := by
  go_enter Try.func9, Try.ntmps9
  go_wp2_with fail
  have hb0 : Below w.heap.size w (w.alloc (.cells #[Value.int .i64 2, .int .i64 1, .int .i64 2] 3)) := (Below.refl _ _).alloc (Nat.le_refl _) _
  refine (order_first _ _ _ _ ((Bk.made w 3 #[Value.int .i64 2, .int .i64 1, .int .i64 2]).sees ⟨[], rfl⟩)).mono ?_
  rintro e w1 ⟨⟨v1, rfl, hown1⟩, hb1⟩
  have hb1' := hb0.trans (hb1.mono (by rw [World.size_alloc]; omega))
  clear hb0 hb1
  obtain ⟨A1, c1, rfl, hc1, hs1⟩ := hown1.form
  clear hown1
  simp only [List.length_cons, List.length_nil] at hc1 ⊢
  go_wp2_with fail
  have hb2 : Below w1.heap.size w1 ((w1.alloc (.cells #[Value.int .i64 2, .int .i64 1, .int .i64 2] 3)).alloc (.cells #[Value.int .u8 2, .int .u8 2, .int .u8 0] 5)) := ((Below.refl _ _).alloc (Nat.le_refl _) _).alloc (by rw [World.size_alloc]; omega) _
  have hk1 : Bk ((w1.alloc (.cells #[Value.int .i64 2, .int .i64 1, .int .i64 2] 3)).alloc (.cells #[Value.int .u8 2, .int .u8 2, .int .u8 0] 5)) w1.heap.size 3 #[Value.int .i64 2, .int .i64 1, .int .i64 2] := (Bk.made _ _ _).alloc _
  have hk2 : Bk ((w1.alloc (.cells #[Value.int .i64 2, .int .i64 1, .int .i64 2] 3)).alloc (.cells #[Value.int .u8 2, .int .u8 2, .int .u8 0] 5)) (w1.heap.size + 1) 5 #[Value.int .u8 2, .int .u8 2, .int .u8 0] := by
    have := Bk.made (w1.alloc (.cells #[Value.int .i64 2, .int .i64 1, .int .i64 2] 3)) 5 #[Value.int .u8 2, .int .u8 2, .int .u8 0]
    rwa [World.size_alloc] at this
  refine (order_second _ _ _ _ _ _ _ (hk1.sees ⟨[], rfl⟩) (hk2.sees ⟨[], rfl⟩) (Nat.le_refl _) (by unfold maxLen; omega)).mono ?_
  rintro e w3 ⟨⟨v3, rfl, hown3⟩, hb3⟩
  have hb3' : Below w1.heap.size w1 w3 := hb2.trans (hb3.mono hb2.size)
  have hb4 := hb1'.trans (hb3'.mono hb1'.size)
  have hs2 := hs1.go hb3'
  obtain ⟨A3, c3, rfl, hc3, hs3⟩ := hown3.form
  clear hb1' hb3' hs1 hown3 hb3 hb2 hk1 hk2
  simp only [List.length_cons, List.length_nil] at hc3 ⊢
  go_wp2_with fail
  have hb5 : Below w3.heap.size w3 (w3.alloc (.cells #[Value.int .i64 0, .int .i64 1, .int .i64 2, .int .i64 0, .int .i64 2] 3)) := (Below.refl _ _).alloc (Nat.le_refl _) _
  refine (same_any _ _ _ _ _ _ _ [0, 1, 2, 0, 2] [0, 1, 2, 0, 2] _ rfl rfl (show 5 ≤ maxLen by unfold maxLen; omega) (show 5 ≤ maxLen by unfold maxLen; omega) (hs2.go hb5) ((Bk.made w3 3 #[Value.int .i64 0, .int .i64 1, .int .i64 2, .int .i64 0, .int .i64 2]).sees ⟨[], rfl⟩)).mono ?_
  rintro e w5 ⟨rfl, hb6⟩
  have hb7 : Below w3.heap.size w3 w5 := hb5.trans (hb6.mono hb5.size)
  have hb8 := hb4.trans (hb7.mono hb4.size)
  have hs5 := hs3.go hb7
  clear hb4 hb5 hb6 hb7 hs2 hs3
  simp only [decide_true]
  go_wp2_with fail
  have hb9 : Below w5.heap.size w5 (w5.alloc (.cells #[Value.int .i64 2, .int .i64 2, .int .i64 0, .int .i64 1, .int .i64 0] 3)) := (Below.refl _ _).alloc (Nat.le_refl _) _
  refine (same_any _ _ _ _ _ _ _ [2, 2, 0, 1, 0] [2, 2, 0, 1, 0] _ rfl rfl (show 5 ≤ maxLen by unfold maxLen; omega) (show 5 ≤ maxLen by unfold maxLen; omega) (hs5.go hb9) ((Bk.made w5 3 #[Value.int .i64 2, .int .i64 2, .int .i64 0, .int .i64 1, .int .i64 0]).sees ⟨[], rfl⟩)).mono ?_
  rintro e w7 ⟨rfl, hb10⟩
  have hb11 := hb8.trans ((hb9.trans (hb10.mono hb9.size)).mono hb8.size)
  clear hb8 hb9 hb10 hs5
  simp only [decide_true]
  go_wp2
  go_ret
  exact ⟨rfl, hb11⟩

end Go.Proofs.Ytambnijbbnohfaa
