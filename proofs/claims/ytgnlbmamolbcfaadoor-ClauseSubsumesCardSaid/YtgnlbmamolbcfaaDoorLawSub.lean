/- The law on Subsumes. -/
import Derived.Test.YtgnlbmamolbcfaaDoorLawSnd
set_option linter.unusedVariables false
namespace Go.Proofs.YtgnlbmamolbcfaaDoor
open Go.RowKit Go.Shelf

attribute [local go_sem] Oper.semAt_some

/-- Under each of the first t assignments b holds if a holds. -/
def allB (a b : List Lit) (t : Nat) : Bool := (List.range t).all fun k => !holds a k || holds b k
theorem allB_succ (a b : List Lit) (t : Nat) : allB a b (t + 1) = (allB a b t && (!holds a t || holds b t)) := by
  unfold allB
  rw [List.range_succ, List.all_append]
  simp
theorem allB_subs {a b : List Lit} (ha : vldB a = true) (hb : vldB b = true) (sa : sixB a = true) (sb : sixB b = true) : allB a b 64 = subsB a b := by
  rw [Bool.eq_iff_iff, subs_law (vldB_iff.1 ha) (vldB_iff.1 hb) (sixB_iff.1 sa) (sixB_iff.1 sb), allB, List.all_eq_true]
  exact ⟨fun h n hn => h n (List.mem_range.2 hn), fun h n hn => h n (List.mem_range.1 hn)⟩

set_option maxRecDepth 100000 in
set_option maxHeartbeats 2000000 in
theorem law_subsumes (w : World) (A B : Option Addr) (n c m cb : Nat) (a b : List Lit) (hl : a.length = n) (hn : n ≤ maxLen) (hc : Cs w A a) (hl2 : b.length = m) (hm : m ≤ maxLen) (hc2 : Cs w B b) :
    Calls Tryd.prog 3 #[.slice A n c, .slice B m cb] w (Law w) := by
  have H0 := Lib.hid (awake_any w)
  have H1 : Hid (∀ W, Gr w W → Calls Tryd.prog 12 #[.slice A n c, .slice B m cb] W fun e w' => e = .returned (.bool (subsB a b)) ∧ Gr W w') := fun W hG => subsumes_any W A B n c m cb a b hl hn (hc.gr hG) hl2 hm (hc2.gr hG)
  have H2 : Hid (∀ W, Gr w W → Calls Tryd.prog 13 #[.slice A n c, .slice B m cb] W fun e w' => e = .returned (.bool (subsB a b)) ∧ Gr W w') := fun W hG => rsubsumes_any W A B n c m cb a b hl hn (hc.gr hG) hl2 hm (hc2.gr hG)
  have HS : Hid (∀ W q, Gr w W → Bk W q 23 #[.slice A n c, .slice B m cb] → Calls Tryd.prog 14 #[.slice (some ⟨q, 0, none⟩) 2 2] W fun e w' => e = .returned (.bool (sixB a && sixB b)) ∧ Gr W w') := fun W q hG hb => by
    rw [← smB2 (A := A) (B := B) (n := n) (c := c) (m := m) (cb := cb)]
    exact small_any W _ 2 2 _ rfl (by unfold maxLen; omega) (cls2 hb hl hn (hc.gr hG) hl2 hm (hc2.gr hG))
  have V1 : Hid (∀ W, Gr w W → Calls Tryd.prog 15 #[.slice A n c] W fun e w' => e = .returned (.bool (vldB a)) ∧ Gr W w') := fun W hG => rvalid_any W A n c a hl hn (hc.gr hG)
  have V2 : Hid (∀ W, Gr w W → Calls Tryd.prog 15 #[.slice B m cb] W fun e w' => e = .returned (.bool (vldB b)) ∧ Gr W w') := fun W hG => rvalid_any W B m cb b hl2 hm (hc2.gr hG)
  have HHa : Hid (sixB a = true → ∀ k W, k < 64 → Gr w W → Calls Tryd.prog 16 #[.slice A n c, .int .i64 (k : Nat)] W fun e w' => e = .returned (.bool (holds a k)) ∧ Gr W w') := fun h k W hk hG => holds_any W A n c a k hk (sixB_iff.1 h) hl hn (hc.gr hG)
  have HHb : Hid (sixB b = true → ∀ k W, k < 64 → Gr w W → Calls Tryd.prog 16 #[.slice B m cb, .int .i64 (k : Nat)] W fun e w' => e = .returned (.bool (holds b k)) ∧ Gr W w') := fun h k W hk hG => holds_any W B m cb b k hk (sixB_iff.1 h) hl2 hm (hc2.gr hG)
  have HL : Hid (vldB a = true → vldB b = true → sixB a = true → sixB b = true → allB a b 64 = subsB a b) := allB_subs
  have HA0 : Hid (allB a b 0 = true) := rfl
  have HAS : Hid (∀ t, allB a b (t + 1) = (allB a b t && (!holds a t || holds b t))) := allB_succ a b
  unfold maxLen at hn hm
  clear hl hc hl2 hc2
  generalize subsB a b = sub at *
  generalize sixB a = sa at *
  generalize sixB b = sb at *
  generalize vldB a = va at *
  generalize vldB b = vb at *
  go_enter Tryd.func3, Tryd.ntmps3
  go_wp2_with fail
  refine H0.out.mono ?_
  rintro e w2 ⟨rfl, G2⟩
  replace G2 := Lib.hid G2
  by_cases h1 : 30 < n
  · go_wp2
    go_ret
    exact Gr.law rfl G2.out
  by_cases h2 : 30 < m
  · go_wp2
    go_ret
    exact Gr.law rfl G2.out
  go_wp2_with fail
  refine (H1.out _ G2.out).mono ?_
  rintro e w3 ⟨rfl, G3⟩
  replace G3 := Lib.hid (G2.out.trans G3)
  go_wp2_with fail
  refine (H2.out _ G3.out).mono ?_
  rintro e w4 ⟨rfl, G4⟩
  replace G4 := Lib.hid (G3.out.trans G4)
  have hne : (sub != sub) = false := by simp
  have G5 := Lib.hid (G4.out.alloc (.cells #[.slice A n c, .slice B m cb] 23))
  have HSM := Lib.hid (HS.out _ w4.heap.size G5.out (Bk.made w4 23 #[.slice A n c, .slice B m cb]))
  go_wp2_with fail
  refine HSM.out.mono ?_
  rintro e w5 ⟨rfl, G6⟩
  replace G6 := Lib.hid (G5.out.trans G6)
  clear HSM G5
  cases sa
  · go_wp2
    go_ret
    exact Gr.law rfl G6.out
  cases sb
  · go_wp2
    go_ret
    exact Gr.law rfl G6.out
  replace HHa := Lib.hid (HHa.out rfl)
  replace HHb := Lib.hid (HHb.out rfl)
  go_wp2_with fail
  refine (V1.out _ G6.out).mono ?_
  rintro e w6 ⟨rfl, G7⟩
  replace G7 := Lib.hid (G6.out.trans G7)
  cases va
  · go_wp2
    go_ret
    exact Gr.law rfl G7.out
  go_wp2_with fail
  refine (V2.out _ G7.out).mono ?_
  rintro e w7 ⟨rfl, G8⟩
  replace G8 := Lib.hid (G7.out.trans G8)
  cases vb
  · go_wp2
    go_ret
    exact Gr.law rfl G8.out
  have hll : allB a b 64 = sub := by first | exact HL.out rfl rfl rfl rfl | simpa using HL.out
  have HLL := Lib.hid hll
  clear hll
  go_wp2_with fail
  go_loopw [6, 41] (fun s i wr => ∃ t : Nat, i = .int .i64 t ∧ s = .bool (allB a b t) ∧ t ≤ 64 ∧ Hid (Gr w7 wr)) (fun _ i _ => 64 - (intOf i).toNat)
  case atStart => exact ⟨0, rfl, by rw [HA0.out], by omega, Gr.refl w7⟩
  case round =>
    obtain ⟨t, rfl, rfl, ht, hG⟩ := hrel
    by_cases htn : t < 64
    · have Ha : Hid (∀ W, Gr wr W → Calls Tryd.prog 16 #[.slice A n c, .int .i64 (t : Nat)] W fun e w' => e = .returned (.bool (holds a t)) ∧ Gr W w') := fun W k => HHa.out t W htn ((G8.out.trans hG.out).trans k)
      have Hb : Hid (∀ W, Gr wr W → Calls Tryd.prog 16 #[.slice B m cb, .int .i64 (t : Nat)] W fun e w' => e = .returned (.bool (holds b t)) ∧ Gr W w') := fun W k => HHb.out t W htn ((G8.out.trans hG.out).trans k)
      have HT := Lib.hid (HAS.out t)
      generalize holds a t = pa at *
      generalize holds b t = pb at *
      generalize allB a b t = q at *
      cases q
      · go_wp2
        go_roundw
        case rel => exact ⟨t + 1, by go_num, by rw [HT.out]; rfl, by omega, hG⟩
        case measure => simp [intOf]; omega
      go_wp2_with fail
      refine (Ha.out _ (Gr.refl wr)).mono ?_
      rintro e y1 ⟨rfl, L1⟩
      replace L1 := Lib.hid L1
      cases pa
      · have hG2 := Lib.hid (hG.out.trans L1.out)
        go_wp2
        go_roundw
        case rel => exact ⟨t + 1, by go_num, by rw [HT.out]; rfl, by omega, hG2⟩
        case measure => simp [intOf]; omega
      go_wp2_with fail
      refine (Hb.out _ L1.out).mono ?_
      rintro e y2 ⟨rfl, L2⟩
      have hG2 := Lib.hid (hG.out.trans (L1.out.trans L2))
      clear L2
      cases pb
      · go_wp2
        go_roundw
        case rel => exact ⟨t + 1, by go_num, by rw [HT.out]; rfl, by omega, hG2⟩
        case measure => simp [intOf]; omega
      · go_wp2
        go_roundw
        case rel => exact ⟨t + 1, by go_num, by rw [HT.out]; rfl, by omega, hG2⟩
        case measure => simp [intOf]; omega
    · obtain rfl : t = 64 := by omega
      rw [HLL.out]
      have hbb : (sub == sub) = true := by simp
      go_wp2
      go_ret
      exact Gr.law (by simp) (G8.out.trans hG.out)
end Go.Proofs.YtgnlbmamolbcfaaDoor
