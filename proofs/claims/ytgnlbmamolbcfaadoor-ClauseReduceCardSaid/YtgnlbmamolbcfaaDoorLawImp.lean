/- The law on Status under assignments. -/
import Derived.Test.YtgnlbmamolbcfaaDoorLawSnd
import Derived.Test.YtgnlbmamolbcfaaDoorImpP
set_option linter.unusedVariables false
namespace Go.Proofs.YtgnlbmamolbcfaaDoor
open Go.RowKit Go.Shelf

attribute [local go_sem] Oper.semAt_some

theorem cls1 {w : World} {q : Nat} {A : Option Addr} {n c : Nat} {a : List Lit} (h : Bk w q 23 #[.slice A n c]) (hl : a.length = n) (hn : n ≤ maxLen) (hc : Cs w A a) :
    Cls w (some ⟨q, 0, none⟩) [⟨A, n, c, a⟩] := fun i v hv => by
  match i, hv with
  | 0, hv =>
    obtain rfl : (⟨A, n, c, a⟩ : Cv) = v := by simpa using hv
    exact ⟨_, rfl, h.lt, (h.cell 0).trans rfl, hl, hn, hc⟩
  | i + 1, hv => simp at hv
theorem smB1 {A : Option Addr} {n c : Nat} {a : List Lit} : smB [⟨A, n, c, a⟩] = sixB a := by simp [smB]
theorem bit_six : ∀ k, k < 64 → ∀ u, u < 6 → (bits .and .i64 ((k : Nat) / 2 ^ u : Int) 1 == 1) = k.testBit u ∧ (bits .and .i64 ((k : Nat) / 2 ^ u : Int) 1 == 0) = !k.testBit u := by decide +kernel

set_option maxRecDepth 100000 in
set_option maxHeartbeats 2000000 in
theorem law_implies (w : World) (A P : Option Addr) (n c m cm : Nat) (l : List Lit) (ph : List Int) (hl : l.length = n) (hn : n ≤ maxLen) (hc : Cs w A l) (hm : ph.length = m) (hmn : m ≤ maxLen) (hp : Ps w P ph) :
    Calls Tryd.prog 7 #[.slice A n c, .slice P m cm] w (Law w) := by
  have H0 := Lib.hid (awake_any w)
  have H1 : Hid (∀ W, Gr w W → Calls Tryd.prog 20 #[.slice A n c, .slice P m cm] W fun e w' => e = .returned (.tuple #[.int .i64 (statP ph l).1, .int .i64 (statP ph l).2]) ∧ Gr W w') := fun W hG => status_any W A P n c m cm l ph hl hn (hc.gr hG) hm hmn (hp.gr hG)
  have HS : Hid (∀ W q, Gr w W → Bk W q 23 #[.slice A n c] → Calls Tryd.prog 14 #[.slice (some ⟨q, 0, none⟩) 1 1] W fun e w' => e = .returned (.bool (sixB l)) ∧ Gr W w') := fun W q hG hb => by
    rw [← smB1 (A := A) (n := n) (c := c)]
    exact small_any W _ 1 1 _ rfl (by unfold maxLen; omega) (cls1 hb hl hn (hc.gr hG))
  have V1 : Hid (∀ W, Gr w W → Calls Tryd.prog 15 #[.slice A n c] W fun e w' => e = .returned (.bool (vldB l)) ∧ Gr W w') := fun W hG => rvalid_any W A n c l hl hn (hc.gr hG)
  have HHa : Hid (sixB l = true → ∀ k W, k < 64 → Gr w W → Calls Tryd.prog 16 #[.slice A n c, .int .i64 (k : Nat)] W fun e w' => e = .returned (.bool (holds l k)) ∧ Gr W w') := fun h k W hk hG => holds_any W A n c l k hk (sixB_iff.1 h) hl hn (hc.gr hG)
  have HI : Hid (vldB l = true → Imp ph l (statP ph l).1 (statP ph l).2) := imp_stat
  have H6 : Hid (sixB l = true → six l) := sixB_iff.1
  have HL := Lib.hid hl
  have HC := Lib.hid hc
  have HM := Lib.hid hm
  have HP := Lib.hid hp
  have HF0 : Hid (fitT ph 0 0 = true) := rfl
  unfold maxLen at hn hmn
  clear hl hc hm hp
  generalize (statP ph l).1 = s at *
  generalize (statP ph l).2 = o at *
  generalize sixB l = sl at *
  generalize vldB l = vl at *
  go_enter Tryd.func7, Tryd.ntmps7
  go_wp2_with fail
  refine H0.out.mono ?_
  rintro e w2 ⟨rfl, G2⟩
  replace G2 := Lib.hid G2
  have G5 := Lib.hid (G2.out.alloc (.cells #[.slice A n c] 23))
  have HSM := Lib.hid (HS.out _ w2.heap.size G5.out (Bk.made w2 23 #[.slice A n c]))
  go_wp2_with fail
  refine HSM.out.mono ?_
  rintro e w5 ⟨rfl, G6⟩
  replace G6 := Lib.hid (G5.out.trans G6)
  clear HSM G5
  cases sl
  · go_wp2
    go_ret
    exact Gr.law rfl G6.out
  replace HHa := Lib.hid (HHa.out rfl)
  replace H6 := Lib.hid (H6.out rfl)
  by_cases hm6 : 6 < m
  · go_wp2
    go_ret
    exact Gr.law rfl G6.out
  go_wp2_with fail
  refine (V1.out _ G6.out).mono ?_
  rintro e w6 ⟨rfl, G7⟩
  replace G7 := Lib.hid (G6.out.trans G7)
  cases vl
  · go_wp2
    go_ret
    exact Gr.law rfl G7.out
  replace HI := Lib.hid (HI.out rfl)
  go_wp2_with fail
  refine (H1.out _ G7.out).mono ?_
  rintro e w7 ⟨rfl, G8⟩
  replace G8 := Lib.hid (G7.out.trans G8)
  by_cases hs3 : s = 3
  · subst hs3
    obtain ⟨j, x, hj, hx, hu⟩ := HI.out.unit rfl
    subst hj
    have hjn : j < n := by have := (List.getElem?_eq_some_iff.1 hx).1; rw [HL.out] at this; exact this
    have h06 := H6.out x (List.mem_of_getElem? hx)
    obtain ⟨x1, x2⟩ := x
    obtain ⟨u, rfl⟩ : ∃ u : Nat, x1 = u := ⟨x1.toNat, by simp at h06; omega⟩
    have hu6 : u < 6 := by simp at h06; omega
    have HU : Hid (∀ k, fitT ph k ph.length = true → holds l k = (k.testBit u == x2)) := hu
    have HX := Lib.hid hx
    have e1 : decide ((j : Int) < 0) = false := by simp
    have e2 : decide (n ≤ j) = false := by simp; omega
    have e3 : decide ((n : Int) ≤ j) = false := by simp; omega
    clear hu hx h06
    go_wp2_with fail
    go_loopw [46] (fun i wr => ∃ t : Nat, i = .int .i64 t ∧ t ≤ 64 ∧ Hid (Gr w wr)) (fun i _ => 64 - (intOf i).toNat)
    case atStart => exact ⟨0, rfl, by omega, G8⟩
    case round =>
      obtain ⟨t, rfl, ht, hG⟩ := hrel
      by_cases htn : t < 64
      · have HF0 : Hid (fitT ph t 0 = true) := rfl
        go_wp2_with fail
        go_loopw [8, 51] (fun s8 i wr => ∃ v : Nat, i = .int .i64 v ∧ s8 = .bool (fitT ph t v) ∧ v ≤ m ∧ Hid (Gr w wr)) (fun _ i _ => m - (intOf i).toNat)
        case atStart => exact ⟨0, rfl, by rw [HF0.out], by omega, hG⟩
        case round =>
          obtain ⟨v, rfl, rfl, hv, hG⟩ := hrel
          by_cases hvm : v < m
          · obtain ⟨p, hp⟩ : ∃ p, ph[v]? = some p := ⟨_, List.getElem?_eq_getElem (by rw [HM.out]; omega)⟩
            obtain ⟨adp, rfl, dp⟩ := (HP.out.gr hG.out).at hp
            have HS := Lib.hid (fitT_succ ph t v)
            have HG : Hid (ph.getD v 0 = p) := by rw [List.getD_eq_getElem?_getD, hp]; exact rfl
            rw [HG.out] at HS
            obtain ⟨hb1, hb0⟩ := bit_six t htn v (by omega)
            clear hp HG
            generalize fitT ph t v = q at *
            cases q
            · skip
              go_wp2
              go_roundw
              case rel => exact ⟨v + 1, by go_num, by rw [HS.out]; rfl, by omega, hG⟩
              case measure => simp [intOf]; omega
            by_cases hp1 : p = 1
            · subst hp1
              generalize t.testBit v = tb at *
              cases tb
              · skip
                go_wp2
                go_roundw
                case rel => exact ⟨v + 1, by go_num, by rw [HS.out]; rfl, by omega, hG⟩
                case measure => simp [intOf]; omega
              · skip
                go_wp2
                go_roundw
                case rel => exact ⟨v + 1, by go_num, by rw [HS.out]; rfl, by omega, hG⟩
                case measure => simp [intOf]; omega
            by_cases hp2 : p = 2
            · subst hp2
              generalize t.testBit v = tb at *
              cases tb
              · skip
                go_wp2
                go_roundw
                case rel => exact ⟨v + 1, by go_num, by rw [HS.out]; rfl, by omega, hG⟩
                case measure => simp [intOf]; omega
              · skip
                go_wp2
                go_roundw
                case rel => exact ⟨v + 1, by go_num, by rw [HS.out]; rfl, by omega, hG⟩
                case measure => simp [intOf]; omega
            have g1 : (p != 1) = true := by simpa using hp1
            have g2 : (p != 2) = true := by simpa using hp2
            have HS2 : Hid (fitT ph t (v + 1) = true) := by rw [HS.out]; simp [hp1, hp2]; exact ⟨⟩
            clear hp1 hp2 HS
            go_wp2
            go_roundw
            case rel => exact ⟨v + 1, by go_num, by rw [HS2.out], by omega, hG⟩
            case measure => simp [intOf]; omega
          · obtain rfl : v = m := by omega
            cases hf : fitT ph t v
            · clear hf
              go_wp2
              go_roundw
              case rel => exact ⟨t + 1, by go_num, by omega, hG⟩
              case measure => simp [intOf]; omega
            have hfit : fitT ph t ph.length = true := by rw [HM.out]; exact hf
            have Ha := Lib.hid (HHa.out t _ htn hG.out)
            rw [HU.out t hfit] at Ha
            clear hf hfit
            obtain ⟨hb1, _⟩ := bit_six t htn u hu6
            obtain ⟨hb2, _⟩ := bit_six t htn (u % 32) (by omega)
            rw [Nat.mod_eq_of_lt (show u < 32 by omega)] at hb2
            generalize t.testBit u = tb at *
            go_wp2_with fail
            refine Ha.out.mono ?_
            rintro e y1 ⟨rfl, L1⟩
            have hG2 := Lib.hid (hG.out.trans L1)
            clear L1
            obtain ⟨ad, rfl, _, d1, d2⟩ := HC.out.gr hG2.out j _ HX.out
            simp only at d1 d2
            cases tb
            · cases x2
              · go_wp2_with fail
                go_quiet (fail)
                have hG3 := Lib.hid (hG2.out.drewN nq)
                go_wp2
                go_roundw
                case rel => exact ⟨t + 1, by go_num, by omega, hG3⟩
                case measure => simp [intOf]; omega
              · go_wp2_with fail
                go_quiet (fail)
                have hG3 := Lib.hid (hG2.out.drewN nq)
                go_wp2
                go_roundw
                case rel => exact ⟨t + 1, by go_num, by omega, hG3⟩
                case measure => simp [intOf]; omega
            · cases x2
              · go_wp2_with fail
                go_quiet (fail)
                have hG3 := Lib.hid (hG2.out.drewN nq)
                go_wp2
                go_roundw
                case rel => exact ⟨t + 1, by go_num, by omega, hG3⟩
                case measure => simp [intOf]; omega
              · go_wp2_with fail
                go_quiet (fail)
                have hG3 := Lib.hid (hG2.out.drewN nq)
                go_wp2
                go_roundw
                case rel => exact ⟨t + 1, by go_num, by omega, hG3⟩
                case measure => simp [intOf]; omega
      · go_wp2
        go_ret
        exact Gr.law rfl hG.out
  have hs3' : (s == 3) = false := by simpa using hs3
  by_cases hs1 : s = 1
  · subst hs1
    go_wp2_with fail
    go_loopw [46] (fun i wr => ∃ t : Nat, i = .int .i64 t ∧ t ≤ 64 ∧ Hid (Gr w wr)) (fun i _ => 64 - (intOf i).toNat)
    case atStart => exact ⟨0, rfl, by omega, G8⟩
    case round =>
      obtain ⟨t, rfl, ht, hG⟩ := hrel
      by_cases htn : t < 64
      · have HF0 : Hid (fitT ph t 0 = true) := rfl
        go_wp2_with fail
        go_loopw [8, 51] (fun s8 i wr => ∃ v : Nat, i = .int .i64 v ∧ s8 = .bool (fitT ph t v) ∧ v ≤ m ∧ Hid (Gr w wr)) (fun _ i _ => m - (intOf i).toNat)
        case atStart => exact ⟨0, rfl, by rw [HF0.out], by omega, hG⟩
        case round =>
          obtain ⟨v, rfl, rfl, hv, hG⟩ := hrel
          by_cases hvm : v < m
          · obtain ⟨p, hp⟩ : ∃ p, ph[v]? = some p := ⟨_, List.getElem?_eq_getElem (by rw [HM.out]; omega)⟩
            obtain ⟨adp, rfl, dp⟩ := (HP.out.gr hG.out).at hp
            have HS := Lib.hid (fitT_succ ph t v)
            have HG : Hid (ph.getD v 0 = p) := by rw [List.getD_eq_getElem?_getD, hp]; exact rfl
            rw [HG.out] at HS
            obtain ⟨hb1, hb0⟩ := bit_six t htn v (by omega)
            clear hp HG
            generalize fitT ph t v = q at *
            cases q
            · skip
              go_wp2
              go_roundw
              case rel => exact ⟨v + 1, by go_num, by rw [HS.out]; rfl, by omega, hG⟩
              case measure => simp [intOf]; omega
            by_cases hp1 : p = 1
            · subst hp1
              generalize t.testBit v = tb at *
              cases tb
              · skip
                go_wp2
                go_roundw
                case rel => exact ⟨v + 1, by go_num, by rw [HS.out]; rfl, by omega, hG⟩
                case measure => simp [intOf]; omega
              · skip
                go_wp2
                go_roundw
                case rel => exact ⟨v + 1, by go_num, by rw [HS.out]; rfl, by omega, hG⟩
                case measure => simp [intOf]; omega
            by_cases hp2 : p = 2
            · subst hp2
              generalize t.testBit v = tb at *
              cases tb
              · skip
                go_wp2
                go_roundw
                case rel => exact ⟨v + 1, by go_num, by rw [HS.out]; rfl, by omega, hG⟩
                case measure => simp [intOf]; omega
              · skip
                go_wp2
                go_roundw
                case rel => exact ⟨v + 1, by go_num, by rw [HS.out]; rfl, by omega, hG⟩
                case measure => simp [intOf]; omega
            have g1 : (p != 1) = true := by simpa using hp1
            have g2 : (p != 2) = true := by simpa using hp2
            have HS2 : Hid (fitT ph t (v + 1) = true) := by rw [HS.out]; simp [hp1, hp2]; exact ⟨⟩
            clear hp1 hp2 HS
            go_wp2
            go_roundw
            case rel => exact ⟨v + 1, by go_num, by rw [HS2.out], by omega, hG⟩
            case measure => simp [intOf]; omega
          · obtain rfl : v = m := by omega
            cases hf : fitT ph t v
            · clear hf
              go_wp2
              go_roundw
              case rel => exact ⟨t + 1, by go_num, by omega, hG⟩
              case measure => simp [intOf]; omega
            have hfit : fitT ph t ph.length = true := by rw [HM.out]; exact hf
            have Ha := Lib.hid (HHa.out t _ htn hG.out)
            rw [HI.out.sat rfl t hfit] at Ha
            clear hf hfit
            go_wp2_with fail
            refine Ha.out.mono ?_
            rintro e y1 ⟨rfl, L1⟩
            have hG2 := Lib.hid (hG.out.trans L1)
            clear L1
            go_wp2_with fail
            go_quiet (fail)
            have hG3 := Lib.hid (hG2.out.drewN nq)
            go_wp2
            go_roundw
            case rel => exact ⟨t + 1, by go_num, by omega, hG3⟩
            case measure => simp [intOf]; omega
      · go_wp2
        go_ret
        exact Gr.law rfl hG.out
  by_cases hs2 : s = 2
  · subst hs2
    go_wp2_with fail
    go_loopw [46] (fun i wr => ∃ t : Nat, i = .int .i64 t ∧ t ≤ 64 ∧ Hid (Gr w wr)) (fun i _ => 64 - (intOf i).toNat)
    case atStart => exact ⟨0, rfl, by omega, G8⟩
    case round =>
      obtain ⟨t, rfl, ht, hG⟩ := hrel
      by_cases htn : t < 64
      · have HF0 : Hid (fitT ph t 0 = true) := rfl
        go_wp2_with fail
        go_loopw [8, 51] (fun s8 i wr => ∃ v : Nat, i = .int .i64 v ∧ s8 = .bool (fitT ph t v) ∧ v ≤ m ∧ Hid (Gr w wr)) (fun _ i _ => m - (intOf i).toNat)
        case atStart => exact ⟨0, rfl, by rw [HF0.out], by omega, hG⟩
        case round =>
          obtain ⟨v, rfl, rfl, hv, hG⟩ := hrel
          by_cases hvm : v < m
          · obtain ⟨p, hp⟩ : ∃ p, ph[v]? = some p := ⟨_, List.getElem?_eq_getElem (by rw [HM.out]; omega)⟩
            obtain ⟨adp, rfl, dp⟩ := (HP.out.gr hG.out).at hp
            have HS := Lib.hid (fitT_succ ph t v)
            have HG : Hid (ph.getD v 0 = p) := by rw [List.getD_eq_getElem?_getD, hp]; exact rfl
            rw [HG.out] at HS
            obtain ⟨hb1, hb0⟩ := bit_six t htn v (by omega)
            clear hp HG
            generalize fitT ph t v = q at *
            cases q
            · skip
              go_wp2
              go_roundw
              case rel => exact ⟨v + 1, by go_num, by rw [HS.out]; rfl, by omega, hG⟩
              case measure => simp [intOf]; omega
            by_cases hp1 : p = 1
            · subst hp1
              generalize t.testBit v = tb at *
              cases tb
              · skip
                go_wp2
                go_roundw
                case rel => exact ⟨v + 1, by go_num, by rw [HS.out]; rfl, by omega, hG⟩
                case measure => simp [intOf]; omega
              · skip
                go_wp2
                go_roundw
                case rel => exact ⟨v + 1, by go_num, by rw [HS.out]; rfl, by omega, hG⟩
                case measure => simp [intOf]; omega
            by_cases hp2 : p = 2
            · subst hp2
              generalize t.testBit v = tb at *
              cases tb
              · skip
                go_wp2
                go_roundw
                case rel => exact ⟨v + 1, by go_num, by rw [HS.out]; rfl, by omega, hG⟩
                case measure => simp [intOf]; omega
              · skip
                go_wp2
                go_roundw
                case rel => exact ⟨v + 1, by go_num, by rw [HS.out]; rfl, by omega, hG⟩
                case measure => simp [intOf]; omega
            have g1 : (p != 1) = true := by simpa using hp1
            have g2 : (p != 2) = true := by simpa using hp2
            have HS2 : Hid (fitT ph t (v + 1) = true) := by rw [HS.out]; simp [hp1, hp2]; exact ⟨⟩
            clear hp1 hp2 HS
            go_wp2
            go_roundw
            case rel => exact ⟨v + 1, by go_num, by rw [HS2.out], by omega, hG⟩
            case measure => simp [intOf]; omega
          · obtain rfl : v = m := by omega
            cases hf : fitT ph t v
            · clear hf
              go_wp2
              go_roundw
              case rel => exact ⟨t + 1, by go_num, by omega, hG⟩
              case measure => simp [intOf]; omega
            have hfit : fitT ph t ph.length = true := by rw [HM.out]; exact hf
            have Ha := Lib.hid (HHa.out t _ htn hG.out)
            rw [HI.out.fls rfl t hfit] at Ha
            clear hf hfit
            go_wp2_with fail
            refine Ha.out.mono ?_
            rintro e y1 ⟨rfl, L1⟩
            have hG2 := Lib.hid (hG.out.trans L1)
            clear L1
            go_wp2_with fail
            go_quiet (fail)
            have hG3 := Lib.hid (hG2.out.drewN nq)
            go_wp2
            go_roundw
            case rel => exact ⟨t + 1, by go_num, by omega, hG3⟩
            case measure => simp [intOf]; omega
      · go_wp2
        go_ret
        exact Gr.law rfl hG.out
  have hs1' : (s == 1) = false := by simpa using hs1
  have hs2' : (s == 2) = false := by simpa using hs2
  go_wp2_with fail
  go_loopw [46] (fun i wr => ∃ t : Nat, i = .int .i64 t ∧ t ≤ 64 ∧ Hid (Gr w wr)) (fun i _ => 64 - (intOf i).toNat)
  case atStart => exact ⟨0, rfl, by omega, G8⟩
  case round =>
    obtain ⟨t, rfl, ht, hG⟩ := hrel
    by_cases htn : t < 64
    · have HF0 : Hid (fitT ph t 0 = true) := rfl
      go_wp2_with fail
      go_loopw [8, 51] (fun s8 i wr => ∃ v : Nat, i = .int .i64 v ∧ s8 = .bool (fitT ph t v) ∧ v ≤ m ∧ Hid (Gr w wr)) (fun _ i _ => m - (intOf i).toNat)
      case atStart => exact ⟨0, rfl, by rw [HF0.out], by omega, hG⟩
      case round =>
        obtain ⟨v, rfl, rfl, hv, hG⟩ := hrel
        by_cases hvm : v < m
        · obtain ⟨p, hp⟩ : ∃ p, ph[v]? = some p := ⟨_, List.getElem?_eq_getElem (by rw [HM.out]; omega)⟩
          obtain ⟨adp, rfl, dp⟩ := (HP.out.gr hG.out).at hp
          have HS := Lib.hid (fitT_succ ph t v)
          have HG : Hid (ph.getD v 0 = p) := by rw [List.getD_eq_getElem?_getD, hp]; exact rfl
          rw [HG.out] at HS
          obtain ⟨hb1, hb0⟩ := bit_six t htn v (by omega)
          clear hp HG
          generalize fitT ph t v = q at *
          cases q
          · skip
            go_wp2
            go_roundw
            case rel => exact ⟨v + 1, by go_num, by rw [HS.out]; rfl, by omega, hG⟩
            case measure => simp [intOf]; omega
          by_cases hp1 : p = 1
          · subst hp1
            generalize t.testBit v = tb at *
            cases tb
            · skip
              go_wp2
              go_roundw
              case rel => exact ⟨v + 1, by go_num, by rw [HS.out]; rfl, by omega, hG⟩
              case measure => simp [intOf]; omega
            · skip
              go_wp2
              go_roundw
              case rel => exact ⟨v + 1, by go_num, by rw [HS.out]; rfl, by omega, hG⟩
              case measure => simp [intOf]; omega
          by_cases hp2 : p = 2
          · subst hp2
            generalize t.testBit v = tb at *
            cases tb
            · skip
              go_wp2
              go_roundw
              case rel => exact ⟨v + 1, by go_num, by rw [HS.out]; rfl, by omega, hG⟩
              case measure => simp [intOf]; omega
            · skip
              go_wp2
              go_roundw
              case rel => exact ⟨v + 1, by go_num, by rw [HS.out]; rfl, by omega, hG⟩
              case measure => simp [intOf]; omega
          have g1 : (p != 1) = true := by simpa using hp1
          have g2 : (p != 2) = true := by simpa using hp2
          have HS2 : Hid (fitT ph t (v + 1) = true) := by rw [HS.out]; simp [hp1, hp2]; exact ⟨⟩
          clear hp1 hp2 HS
          go_wp2
          go_roundw
          case rel => exact ⟨v + 1, by go_num, by rw [HS2.out], by omega, hG⟩
          case measure => simp [intOf]; omega
        · obtain rfl : v = m := by omega
          cases hf : fitT ph t v
          · clear hf
            go_wp2
            go_roundw
            case rel => exact ⟨t + 1, by go_num, by omega, hG⟩
            case measure => simp [intOf]; omega
          have hfit : fitT ph t ph.length = true := by rw [HM.out]; exact hf
          have Ha := Lib.hid (HHa.out t _ htn hG.out)
          generalize holds l t = hb at *
          clear hf hfit
          go_wp2_with fail
          refine Ha.out.mono ?_
          rintro e y1 ⟨rfl, L1⟩
          have hG2 := Lib.hid (hG.out.trans L1)
          clear L1
          go_wp2_with fail
          go_quiet (fail)
          have hG3 := Lib.hid (hG2.out.drewN nq)
          go_wp2
          go_roundw
          case rel => exact ⟨t + 1, by go_num, by omega, hG3⟩
          case measure => simp [intOf]; omega
    · go_wp2
      go_ret
      exact Gr.law rfl hG.out
end Go.Proofs.YtgnlbmamolbcfaaDoor

