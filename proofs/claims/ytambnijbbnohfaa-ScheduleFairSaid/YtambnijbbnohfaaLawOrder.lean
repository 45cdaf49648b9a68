/- The walk of ScheduleOrder. -/
import Derived.Test.YtambnijbbnohfaaIn
namespace Go.Proofs.Ytambnijbbnohfaa
open Go.RowKit

theorem big_out {zs : List Int} {m : Nat} (h : bigB zs m = false) : zs.length ≤ 12 ∧ m ≤ 300 ∧ ∀ x ∈ zs, x ≤ 50 := by
  simp only [bigB, Bool.or_eq_false_iff, decide_eq_false_iff_not, List.any_eq_false, decide_eq_true_eq] at h
  exact ⟨by omega, by omega, fun x hx => by have := h.2 x hx; omega⟩

section
variable (A A1 : Option Addr) (n c m c1 B B1 : Nat) (most : Int) (zs ss : List Int) (w : World) (hn : zs.length = n) (hN : n ≤ 12) (hs : Sees w B A (zs.map (Value.int .i64))) (hm : ss.length = m) (hmc : m ≤ c1) (hcM : c1 ≤ maxLen)
    (hs1 : Sees w B1 A1 (ss.map (Value.int .u8))) (hby : ∀ x ∈ ss, 0 ≤ x ∧ x ≤ 255) (hM : most ≤ 9223372036854775807) (hz : ∀ x ∈ zs, x ≤ 50)
include hn hN hs hm hmc hcM hs1 hby hM hz
theorem order_all : Calls Try.prog 11 #[.slice A n c, .slice A1 m c1, .int .i64 most] w (OrdPost (ordR zs ss most) w) := by
  by_cases h : most < 0 ∨ zs.any (fun n => decide (n < 1)) = true
  · exact order_arg A A1 n c m c1 B most zs ss w hn (by unfold maxLen; omega) hs h
  · rw [not_or, Bool.not_eq_true, List.any_eq_false] at h
    obtain ⟨M, rfl⟩ := Int.eq_ofNat_of_zero_le (show 0 ≤ most by omega)
    exact order_run A A1 n c m c1 B B1 M zs ss w hn (by omega) hs hm hmc hcM hs1 hby (by unfold maxLen; omega) (fun x hx => by have := h.2 x hx; have := hz x hx; simp only [decide_eq_true_eq] at *; omega)
theorem ref_all : Calls Try.prog 12 #[.slice A n c, .slice A1 m c1, .int .i64 most] w (OrdPost (ordR zs ss most) w) := by
  by_cases h : most < 0 ∨ zs.any (fun n => decide (n < 1)) = true
  · exact ref_arg1 A A1 n c m c1 B most zs ss w hn (by unfold maxLen; omega) hs h
  · rw [not_or, Bool.not_eq_true, List.any_eq_false] at h
    obtain ⟨M, rfl⟩ := Int.eq_ofNat_of_zero_le (show 0 ≤ most by omega)
    exact ref_run A A1 n c m c1 B B1 M zs ss w hn (by omega) hs hm (by omega) hs1 hby (by unfold maxLen; omega) (fun x hx => by have := h.2 x hx; have := hz x hx; simp only [decide_eq_true_eq] at *; omega)
end

theorem OwnI.le {w : World} {base : Nat} {v : Value} {xs : List Int} (h : OwnI w base v xs) : xs.length ≤ maxLen := by
  obtain ⟨_, ⟨_, h⟩ | ⟨g, cap, cur, _, _, _, h1, h2, _⟩⟩ := h
  · rw [h]; exact Nat.zero_le _
  · omega

set_option maxHeartbeats 400000 in
theorem law_order (A A1 : Option Addr) (n c m c1 : Nat) (most : Int) (zs ss : List Int) (w : World) (hn : zs.length = n) (hN : n ≤ maxLen) (hs : Sees w w.heap.size A (zs.map (Value.int .i64))) (hm : ss.length = m) (hmc : m ≤ c1) (hcM : c1 ≤ maxLen)
    (hs1 : Sees w w.heap.size A1 (ss.map (Value.int .u8))) (hby : ∀ x ∈ ss, 0 ≤ x ∧ x ≤ 255) (hM : most ≤ 9223372036854775807) :
    Calls Try.prog 3 #[.slice A n c, .slice A1 m c1, .int .i64 most] w fun e w' => e = .returned (.bool true) ∧ Below w.heap.size w w' := by
  have HN := Lib.hid hn; clear hn
  have HM := Lib.hid hm; clear hm
  have HBY := Lib.hid hby; clear hby
  go_enter Try.func3, Try.ntmps3
  go_wp2_with fail
  refine (awake_any w).mono ?_
  rintro e w1 ⟨rfl, hb1⟩
  have hsa := hs.go hb1
  have hsb := hs1.go hb1
  clear hs hs1
  go_wp2_with fail
  refine (large_any A A1 n c m c1 w1.heap.size zs w1 HN.out hN (by omega) hsa).mono ?_
  rintro e w1 ⟨rfl, rfl⟩
  by_cases hbig : bigB zs m = true
  · rw [hbig]
    go_wp2
    go_ret
    exact ⟨rfl, hb1⟩
  · have hbig' : bigB zs m = false := by simpa using hbig
    obtain ⟨hl1, hl2, hl3⟩ := big_out hbig'
    have HL3 := Lib.hid hl3
    have hn12 : n ≤ 12 := by rw [← HN.out]; exact hl1
    rw [hbig']
    clear hbig hbig' hl3
    have H1 := Lib.hid (order_all A A1 n c m c1 _ _ most zs ss w1 HN.out hn12 hsa HM.out hmc hcM hsb HBY.out hM HL3.out)
    go_wp2_with fail
    refine H1.out.mono ?_
    rintro e w2 ⟨⟨v2, rfl, hown2⟩, hb2⟩
    have hsa2 := hsa.go hb2
    have hsb2 := hsb.go hb2
    have hb2' := hb1.trans (hb2.mono hb1.size)
    clear H1 hsa hsb hb1 hb2
    have H2 := Lib.hid (ref_all A A1 n c m c1 _ _ most zs ss w2 HN.out hn12 hsa2 HM.out hmc hcM hsb2 HBY.out hM HL3.out)
    have hle := hown2.le
    obtain ⟨A3, c3, rfl, hc3, hs3⟩ := hown2.form
    generalize ordR zs ss most = R at *
    go_wp2_with fail
    refine H2.out.mono ?_
    rintro e w4 ⟨⟨v4, rfl, hown4⟩, hb4⟩
    have hs3' := hs3.go hb4
    have hb4' := hb2'.trans (hb4.mono hb2'.size)
    obtain ⟨A5, c5, rfl, hc5, hs5⟩ := hown4.form
    clear H2 hsa2 hsb2 hb2' hb4 hs3
    have H5 := Lib.hid (same_any A3 A5 R.1.length c3 R.1.length c5 _ R.1 R.1 w4 rfl rfl hle hle hs3' hs5)
    go_wp2_with fail
    refine H5.out.mono ?_
    rintro e w6 ⟨rfl, hb6⟩
    have hb6' := hb4'.trans (hb6.mono hb4'.size)
    clear H5 hb4' hb6 hs3' hs5
    simp only [decide_true]
    go_wp2
    go_ret
    exact ⟨rfl, hb6'⟩

end Go.Proofs.Ytambnijbbnohfaa
