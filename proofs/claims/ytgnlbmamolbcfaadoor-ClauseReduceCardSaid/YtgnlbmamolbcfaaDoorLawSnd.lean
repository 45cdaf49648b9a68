/- The law on resolvents under assignments. -/
import Derived.Test.YtgnlbmamolbcfaaDoorLawRes
import Derived.Test.YtgnlbmamolbcfaaDoorSndP
import Derived.Test.YtgnlbmamolbcfaaDoorSmall
set_option linter.unusedVariables false
namespace Go.Proofs.YtgnlbmamolbcfaaDoor
open Go.RowKit Go.Shelf

attribute [local go_sem] Oper.semAt_some

theorem cls2 {w : World} {q : Nat} {A B : Option Addr} {n c m cb : Nat} {a b : List Lit} (h : Bk w q 23 #[.slice A n c, .slice B m cb]) (hl : a.length = n) (hn : n ≤ maxLen) (hc : Cs w A a) (hl2 : b.length = m) (hm : m ≤ maxLen) (hc2 : Cs w B b) :
    Cls w (some ⟨q, 0, none⟩) [⟨A, n, c, a⟩, ⟨B, m, cb, b⟩] := fun i v hv => by
  match i, hv with
  | 0, hv =>
    obtain rfl : (⟨A, n, c, a⟩ : Cv) = v := by simpa using hv
    exact ⟨_, rfl, h.lt, (h.cell 0).trans rfl, hl, hn, hc⟩
  | 1, hv =>
    obtain rfl : (⟨B, m, cb, b⟩ : Cv) = v := by simpa using hv
    exact ⟨_, rfl, h.lt, (h.cell 1).trans rfl, hl2, hm, hc2⟩
  | i + 2, hv => simp at hv
theorem smB2 {A B : Option Addr} {n c m cb : Nat} {a b : List Lit} : smB [⟨A, n, c, a⟩, ⟨B, m, cb, b⟩] = (sixB a && sixB b) := by simp [smB]

set_option maxRecDepth 100000 in
set_option maxHeartbeats 2000000 in
theorem law_sound (w : World) (A B : Option Addr) (n c m cb : Nat) (a b : List Lit) (u : Int) (hA : A = none → n = 0 ∧ c = 0) (hB : B = none → m = 0 ∧ cb = 0) (hl : a.length = n) (hn : n ≤ maxLen) (hc : Cs w A a) (hl2 : b.length = m) (hm : m ≤ maxLen) (hc2 : Cs w B b) :
    Calls Tryd.prog 5 #[.slice A n c, .slice B m cb, .int .i64 u] w (Law w) := by
  have H0 := Lib.hid (awake_any w)
  have H1 : Hid (∀ W, Gr w W → Calls Tryd.prog 17 #[.slice A n c, .slice B m cb, .int .i64 u] W fun e w' => ∃ v' k, e = .returned (.tuple #[v', .int .i64 (resE a b u)]) ∧ w'.ownsRow W.heap.size 38 2 v' k ((resL a b u).flatMap lc) ∧ Gr W w') := fun W hG => resolve_any W A B n c m cb a b u (fun h => (hA h).1) (fun h => (hB h).1) hl hl2 hn hm (hc.gr hG) (hc2.gr hG)
  have HS : Hid (∀ W q, Gr w W → Bk W q 23 #[.slice A n c, .slice B m cb] → Calls Tryd.prog 14 #[.slice (some ⟨q, 0, none⟩) 2 2] W fun e w' => e = .returned (.bool (sixB a && sixB b)) ∧ Gr W w') := fun W q hG hb => by
    rw [← smB2 (A := A) (B := B) (n := n) (c := c) (m := m) (cb := cb)]
    exact small_any W _ 2 2 _ rfl (by unfold maxLen; omega) (cls2 hb hl hn (hc.gr hG) hl2 hm (hc2.gr hG))
  have HHa : Hid (sixB a = true → ∀ k W, k < 64 → Gr w W → Calls Tryd.prog 16 #[.slice A n c, .int .i64 (k : Nat)] W fun e w' => e = .returned (.bool (holds a k)) ∧ Gr W w') := fun h k W hk hG => holds_any W A n c a k hk (sixB_iff.1 h) hl hn (hc.gr hG)
  have HHb : Hid (sixB b = true → ∀ k W, k < 64 → Gr w W → Calls Tryd.prog 16 #[.slice B m cb, .int .i64 (k : Nat)] W fun e w' => e = .returned (.bool (holds b k)) ∧ Gr W w') := fun h k W hk hG => holds_any W B m cb b k hk (sixB_iff.1 h) hl2 hm (hc2.gr hG)
  have HP : Hid (resE a b u = 0 → ∀ k, holds a k = true → holds b k = true → holds (resL a b u) k = true) := fun h k => res_holds h
  have H6 : Hid (sixB a = true → sixB b = true → six (resL a b u)) := fun h1 h2 => six_rest (sixB_iff.1 h1) (sixB_iff.1 h2) u
  have HK := Lib.hid (resL_len a b u hl hl2)
  have HV : Hid (resE a b u = 0 → n + m ≤ 2048) := fun h => by
    unfold resE at h
    cases hv : (vldB a && (vldB b && hasOpp a b u))
    · rw [hv] at h
      cases h
    · simp only [Bool.and_eq_true] at hv
      have e1 := vld_len (vldB_iff.1 hv.1)
      have e2 := vld_len (vldB_iff.1 hv.2.1)
      omega
  unfold maxLen at hn hm
  clear hl hc hl2 hc2 hA hB
  generalize resE a b u = re at *
  generalize resL a b u = rl at *
  generalize sixB a = sa at *
  generalize sixB b = sb at *
  go_enter Tryd.func5, Tryd.ntmps5
  go_wp2_with fail
  refine H0.out.mono ?_
  rintro e w2 ⟨rfl, G2⟩
  replace G2 := Lib.hid G2
  go_wp2_with fail
  refine (H1.out _ G2.out).mono ?_
  rintro e w3 ⟨v3, k3, rfl, r3, G3⟩
  replace G3 := Lib.hid (G2.out.trans G3)
  have hk3 : Hid (k3 = rl.length) := (row_len r3).symm
  obtain ⟨A3, c3, rfl⟩ := rw_form r3
  have HC3 := Lib.hid (Cs.own r3)
  clear r3
  by_cases hre : re = 0
  · subst hre
    replace HP := Lib.hid (HP.out rfl)
    replace HV := Lib.hid (HV.out rfl)
    have G4 := Lib.hid (G3.out.alloc (.cells #[.slice A n c, .slice B m cb] 23))
    have K4 := Lib.hid ((Gr.refl w3).alloc (.cells #[.slice A n c, .slice B m cb] 23))
    have HSM := Lib.hid (HS.out _ w3.heap.size G4.out (Bk.made w3 23 #[.slice A n c, .slice B m cb]))
    go_wp2_with fail
    refine HSM.out.mono ?_
    rintro e w5 ⟨rfl, G5⟩
    have K5 := Lib.hid (K4.out.trans G5)
    replace G5 := Lib.hid (G4.out.trans G5)
    clear K4 G4 HSM
    cases sa
    · go_wp2
      go_ret
      exact Gr.law rfl G5.out
    cases sb
    · go_wp2
      go_ret
      exact Gr.law rfl G5.out
    replace HHa := Lib.hid (HHa.out rfl)
    replace HHb := Lib.hid (HHb.out rfl)
    replace H6 := Lib.hid (H6.out rfl rfl)
    have HHc : Hid (∀ k W, k < 64 → Gr w5 W → Calls Tryd.prog 16 #[.slice A3 k3 c3, .int .i64 (k : Nat)] W fun e w' => e = .returned (.bool (holds rl k)) ∧ Gr W w') := fun k W hk hG => holds_any W A3 k3 c3 rl k hk H6.out hk3.out.symm (by rw [hk3.out]; have h1 := HK.out; have h2 := HV.out; unfold maxLen; omega) ((HC3.out.gr K5.out).gr hG)
    go_wp2_with fail
    go_loopw [28] (fun i wr => ∃ t : Nat, i = .int .i64 t ∧ t ≤ 64 ∧ Hid (Gr w5 wr)) (fun i _ => 64 - (intOf i).toNat)
    case atStart => exact ⟨0, rfl, by omega, Gr.refl w5⟩
    case round =>
      obtain ⟨t, rfl, ht, hG⟩ := hrel
      by_cases htn : t < 64
      · have Ha := Lib.hid (HHa.out t wr htn (G5.out.trans hG.out))
        have Hb : Hid (∀ W, Gr wr W → Calls Tryd.prog 16 #[.slice B m cb, .int .i64 (t : Nat)] W fun e w' => e = .returned (.bool (holds b t)) ∧ Gr W w') := fun W k => HHb.out t W htn ((G5.out.trans hG.out).trans k)
        have Hc : Hid (∀ W, Gr wr W → Calls Tryd.prog 16 #[.slice A3 k3 c3, .int .i64 (t : Nat)] W fun e w' => e = .returned (.bool (holds rl t)) ∧ Gr W w') := fun W k => HHc.out t W htn (hG.out.trans k)
        have HPt := Lib.hid (HP.out t)
        generalize holds a t = pa at *
        generalize holds b t = pb at *
        generalize holds rl t = pc at *
        go_wp2_with fail
        refine Ha.out.mono ?_
        rintro e y1 ⟨rfl, L1⟩
        replace L1 := Lib.hid L1
        cases pa
        · have hG2 := Lib.hid (hG.out.trans L1.out)
          go_wp2
          go_roundw
          case rel => exact ⟨t + 1, by go_num, by omega, hG2⟩
          case measure => simp [intOf]; omega
        · go_wp2_with fail
          refine (Hb.out _ L1.out).mono ?_
          rintro e y2 ⟨rfl, L2⟩
          replace L2 := Lib.hid (L1.out.trans L2)
          cases pb
          · have hG2 := Lib.hid (hG.out.trans L2.out)
            go_wp2
            go_roundw
            case rel => exact ⟨t + 1, by go_num, by omega, hG2⟩
            case measure => simp [intOf]; omega
          · go_wp2_with fail
            refine (Hc.out _ L2.out).mono ?_
            rintro e y3 ⟨rfl, L3⟩
            replace L3 := Lib.hid (L2.out.trans L3)
            obtain rfl : pc = true := by first | exact HPt.out rfl rfl | simpa using HPt.out
            have hG2 := Lib.hid (hG.out.trans L3.out)
            go_wp2
            go_roundw
            case rel => exact ⟨t + 1, by go_num, by omega, hG2⟩
            case measure => simp [intOf]; omega
      · go_wp2
        go_ret
        exact Gr.law rfl (G5.out.trans hG.out)
  · have hre2 : (re != 0) = true := by simpa using hre
    go_wp2
    go_ret
    exact Gr.law rfl G3.out
end Go.Proofs.YtgnlbmamolbcfaaDoor
