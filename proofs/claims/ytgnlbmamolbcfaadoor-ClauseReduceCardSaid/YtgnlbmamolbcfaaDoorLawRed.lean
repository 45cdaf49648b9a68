/- The law on Reduce. -/
import Derived.Test.YtgnlbmamolbcfaaDoorRSame
import Derived.Test.YtgnlbmamolbcfaaDoorRRed
set_option linter.unusedVariables false
namespace Go.Proofs.YtgnlbmamolbcfaaDoor
open Go.RowKit Go.Shelf

attribute [local go_sem] Oper.semAt_some

/-- The contract of the reference's Reduce. -/
def RRedOk : Prop := ∀ (w : World) (R : Option Addr) (N C : Nat) (cs : List Cv), cs.length = N → Few cs → Cls w R cs →
    Calls Tryd.prog 31 #[.slice R N C] w fun e w' => ∃ v' os, e = .returned v' ∧ lists os = redT (lists cs) N ∧ (∀ o ∈ os, o ∈ cs) ∧ w'.ownsRow w.heap.size 23 1 v' os.length (os.map sv) ∧ Gr w w'
theorem sixB_of {cs : List Cv} (h : smB cs = true) {v : Cv} (hv : v ∈ cs) : six v.l := sixB_iff.1 (List.all_eq_true.1 h v hv)
theorem red_six {cs os : List Cv} {N : Nat} (h : smB cs = true) (e : lists os = redT (lists cs) N) (hN : (lists cs).length = N) {o : Cv} (ho : o ∈ os) : six o.l := by
  have h1 : o.l ∈ redT (lists cs) N := by rw [← e]; exact List.mem_map.2 ⟨o, ho, rfl⟩
  obtain ⟨i, hi, _, h2⟩ := mem_redT.1 h1
  have h3 : o.l ∈ lists cs := by rw [h2]; exact getD_mem (by omega)
  obtain ⟨v, hv, e2⟩ := List.mem_map.1 h3
  rw [← e2]
  exact sixB_of h hv

set_option maxRecDepth 100000 in
set_option maxHeartbeats 4000000 in
theorem law_reduce0 (hrr : RRedOk) (w : World) (R : Option Addr) (N C : Nat) (cs : List Cv) (hl : cs.length = N) (hn : N ≤ maxLen) (hc : Cls w R cs) (hnil : ∀ v ∈ cs, v.A = none → v.n = 0 ∧ v.c = 0) :
    Calls Tryd.prog 10 #[.slice R N C] w (Law w) := by
  have H0 := Lib.hid (awake_any w)
  have HL := Lib.hid hl
  have HC := Lib.hid hc
  have H1 : Hid (Few cs → ∀ W, Gr w W → Calls Tryd.prog 29 #[.slice R N C] W fun e w' => ∃ v' os, e = .returned v' ∧ lists os = redT (lists cs) N ∧ (∀ o ∈ os, o.n ≤ 12) ∧ w'.ownsRow W.heap.size 23 1 v' os.length (os.map sv) ∧ Good W.heap.size w' os ∧ Gr W w') := fun h W hG => reduce_any W R N C cs hl h (hc.gr hG)
  have H2 : Hid (Few cs → ∀ W, Gr w W → Calls Tryd.prog 31 #[.slice R N C] W fun e w' => ∃ v' os, e = .returned v' ∧ lists os = redT (lists cs) N ∧ (∀ o ∈ os, o ∈ cs) ∧ w'.ownsRow W.heap.size 23 1 v' os.length (os.map sv) ∧ Gr W w') := fun h W hG => hrr W R N C cs hl h (hc.gr hG)
  have HS : Hid (∀ W, Gr w W → Calls Tryd.prog 14 #[.slice R N C] W fun e w' => e = .returned (.bool (smB cs)) ∧ Gr W w') := fun W hG => small_any W R N C cs hl hn (hc.gr hG)
  have HNIL := Lib.hid hnil
  have HLL : Hid ((lists cs).length = N) := by rw [lists_len]; exact hl
  unfold maxLen at hn
  clear hl hc hnil
  go_enter Tryd.func10, Tryd.ntmps10
  go_wp2_with fail
  refine H0.out.mono ?_
  rintro e w2 ⟨rfl, G2⟩
  replace G2 := Lib.hid G2
  by_cases h1 : 12 < N
  · go_wp2
    go_ret
    exact Gr.law rfl G2.out
  go_wp2_with fail
  go_loopw [20] (fun i wr => ∃ t : Nat, i = .int .i64 t ∧ t ≤ N ∧ Hid (∀ v ∈ cs.take t, v.n ≤ 12) ∧ wr = w2) (fun i _ => N - (intOf i).toNat)
  case atStart => exact ⟨0, rfl, Nat.zero_le _, (fun v hv => by simp at hv), rfl⟩
  case round =>
    obtain ⟨t, rfl, ht, hT, rfl⟩ := hrel
    by_cases htn : t < N
    · obtain ⟨v, hv⟩ : ∃ v, cs[t]? = some v := ⟨_, List.getElem?_eq_getElem (by rw [HL.out]; omega)⟩
      obtain ⟨ad, rfl, _, d1, lv, lvm, lvc⟩ := HC.out.gr G2.out t v hv
      have HTT : Hid (cs.take (t + 1) = cs.take t ++ [v]) := by rw [List.take_add_one, hv]; exact rfl
      clear hv lv lvm lvc
      by_cases h12 : 12 < v.n
      · go_wp2
        go_ret
        exact Gr.law rfl G2.out
      · have hT2 : Hid (∀ x ∈ cs.take (t + 1), x.n ≤ 12) := by
          rw [HTT.out]
          intro x hx
          rcases List.mem_append.1 hx with h | h
          · exact hT.out x h
          · rw [List.mem_singleton.1 h]; omega
        go_wp2
        go_roundw
        case rel => exact ⟨t + 1, by go_num, by omega, hT2, by trivial⟩
        case measure => simp [intOf]; omega
    · have hfew : Few cs := ⟨by rw [HL.out]; omega, fun v hv => hT.out v (by rw [List.take_of_length_le (by rw [HL.out]; omega)]; exact hv), HNIL.out⟩
      have HFW := Lib.hid hfew
      replace H1 := Lib.hid (H1.out hfew _ G2.out)
      replace H2 := Lib.hid (H2.out hfew)
      clear hfew hT
      go_wp2_with fail
      refine H1.out.mono ?_
      rintro e w3 ⟨v3, os, rfl, hO, hS, hR, hD, G3⟩
      have G4 := Lib.hid (G2.out.trans G3)
      obtain ⟨A3, c3, rfl⟩ := rw_form hR
      have hO' := Lib.hid hO
      have HC3 : Hid (Cls w3 A3 os) := hD.cls hR (fun o ho => Nat.le_trans (hS o ho) (by unfold maxLen; omega))
      have hk3 : Hid (os.length ≤ 12) := by
        have h9 : os.length = (lists os).length := (lists_len os).symm
        rw [h9, hO]
        have : ∀ M, (redT (lists cs) M).length ≤ M := fun M => by
          induction M with
          | zero => exact Nat.le_refl _
          | succ M ih =>
            rw [redT]
            split
            · rw [List.length_append]; simp; omega
            · omega
        exact Nat.le_trans (this N) (by omega)
      clear hO hS hR hD G3 H1
      go_wp2_with fail
      refine (H2.out _ G4.out).mono ?_
      rintro e w4 ⟨v4, os2, rfl, hO2, hS2, hR2, G5⟩
      have G6 := Lib.hid (G4.out.trans G5)
      obtain ⟨A4, c4, rfl⟩ := rw_form hR2
      have HC4 : Hid (Cls w4 A4 os2) := fun i v hv => by
        have hm := List.mem_of_getElem? hv
        obtain ⟨ad, e, hb, hcell⟩ := Sees.own hR2 i (sv v) (by rw [List.getElem?_map, hv]; rfl)
        obtain ⟨j, hj⟩ := List.mem_iff_getElem?.1 (hS2 v hm)
        obtain ⟨_, _, _, _, q1, q2, q3⟩ := HC.out.gr G6.out j v hj
        exact ⟨ad, e, hb, hcell, q1, q2, q3⟩
      have HOO : Hid (lists os = lists os2) := by rw [hO'.out, hO2]; exact rfl
      have hlen : os2.length = os.length := by rw [← lists_len, ← lists_len, HOO.out]
      rw [hlen] at hR2 ⊢
      have HSM := Lib.hid (sameAll_any w4 A3 A4 os.length c3 c4 os os2 rfl hlen (by have := hk3.out; unfold maxLen; omega) (HC3.out.gr G5) HC4.out HOO.out)
      have HC5 := Lib.hid (HC3.out.gr G5)
      clear hO2 hS2 hR2 G5 hlen HC4
      obtain ⟨M, hM⟩ : ∃ M, M = os.length := ⟨_, rfl⟩
      rw [← hM] at HSM hk3 ⊢
      have HM := Lib.hid hM
      have hM12 : M ≤ 12 := hk3.out
      clear hM
      go_wp2_with fail
      refine HSM.out.mono ?_
      rintro e w5 ⟨rfl, G7⟩
      have G8 := Lib.hid (G6.out.trans G7)
      have HC6 := Lib.hid (HC5.out.gr G7)
      clear G7 HSM
      go_wp2_with fail
      refine (HS.out _ G8.out).mono ?_
      rintro e w6 ⟨rfl, G9⟩
      have HC7 := Lib.hid (HC6.out.gr G9)
      have G10 := Lib.hid (G8.out.trans G9)
      clear G9
      cases hsm : smB cs
      · clear hsm
        go_wp2
        go_ret
        exact Gr.law rfl G10.out
      have HSX : Hid (∀ v ∈ cs, six v.l) := fun v hv => sixB_of hsm hv
      have HSO : Hid (∀ o ∈ os, six o.l) := fun o ho => red_six hsm hO'.out HLL.out ho
      clear hsm
      go_wp2_with fail
      have HLAW : Hid (∀ k, allV (lists cs) k N = allH (lists os) k M) := fun k => by
        have h9 := red_law (lists cs) k
        rw [HLL.out] at h9
        rw [h9, ← hO'.out, lists_len, ← HM.out]
      go_loopw [38] (fun i wr => ∃ k : Nat, i = .int .i64 k ∧ k ≤ 64 ∧ Hid (Gr w6 wr)) (fun i _ => 64 - (intOf i).toNat)
      case atStart => exact ⟨0, rfl, by omega, Gr.refl w6⟩
      case round =>
        obtain ⟨k, rfl, hk, hG⟩ := hrel
        by_cases hk64 : k < 64
        · have HV0 : Hid (allV (lists cs) k 0 = true) := rfl
          have HH0 : Hid (allH (lists os) k 0 = true) := rfl
          have hkd : decide ((k : Int) < 64) = true := by simp; omega
          go_wp2_with fail
          go_loopw [7, 43] (fun s7 i wr => ∃ u : Nat, i = .int .i64 u ∧ s7 = .bool (allV (lists cs) k u) ∧ u ≤ N ∧ Hid (Gr w6 wr)) (fun _ i _ => N - (intOf i).toNat)
          case atStart => exact ⟨0, rfl, by rw [HV0.out], Nat.zero_le _, hG⟩
          case round =>
            obtain ⟨u, rfl, rfl, hu, hG⟩ := hrel
            by_cases hun : u < N
            · obtain ⟨v, hv⟩ : ∃ v, cs[u]? = some v := ⟨_, List.getElem?_eq_getElem (by rw [HL.out]; omega)⟩
              obtain ⟨ad, rfl, _, d1, lv, lvm, lvc⟩ := HC.out.gr (G10.out.trans hG.out) u v hv
              have hv6 := HSX.out v (List.mem_of_getElem? hv)
              have HT := Lib.hid (allV_succ (lists cs) k u)
              rw [lists_at hv] at HT
              have VV : Hid (Calls Tryd.prog 15 #[.slice v.A v.n v.c] wr fun e w' => e = .returned (.bool (vldB v.l)) ∧ Gr wr w') := rvalid_any wr v.A v.n v.c v.l lv lvm lvc
              have VH : Hid (∀ W, Gr wr W → Calls Tryd.prog 16 #[.slice v.A v.n v.c, .int .i64 (k : Nat)] W fun e w' => e = .returned (.bool (holds v.l k)) ∧ Gr W w') := fun W q => holds_any W v.A v.n v.c v.l k hk64 hv6 lv lvm (lvc.gr q)
              clear hv lv lvm lvc hv6
              generalize allV (lists cs) k u = q at *
              generalize vldB v.l = vl at *
              generalize holds v.l k = hh at *
              cases q
              · skip
                go_wp2
                go_roundw
                case rel => exact ⟨u + 1, by go_num, by rw [HT.out]; rfl, by omega, hG⟩
                case measure => simp [intOf]; omega
              go_wp2_with fail
              refine VV.out.mono ?_
              rintro e y1 ⟨rfl, L1⟩
              have hG1 := Lib.hid (hG.out.trans L1)
              replace L1 := Lib.hid L1
              cases vl
              · skip
                go_wp2
                go_roundw
                case rel => exact ⟨u + 1, by go_num, by rw [HT.out]; rfl, by omega, hG1⟩
                case measure => simp [intOf]; omega
              go_wp2_with fail
              refine (VH.out _ L1.out).mono ?_
              rintro e y2 ⟨rfl, L2⟩
              have hG2 := Lib.hid (hG1.out.trans L2)
              clear L2
              cases hh
              · skip
                go_wp2
                go_roundw
                case rel => exact ⟨u + 1, by go_num, by rw [HT.out]; rfl, by omega, hG2⟩
                case measure => simp [intOf]; omega
              · skip
                go_wp2
                go_roundw
                case rel => exact ⟨u + 1, by go_num, by rw [HT.out]; rfl, by omega, hG2⟩
                case measure => simp [intOf]; omega
            · obtain rfl : u = N := by omega
              go_wp2_with fail
              go_loopw [8, 61] (fun s8 i wr => ∃ z : Nat, i = .int .i64 z ∧ s8 = .bool (allH (lists os) k z) ∧ z ≤ M ∧ Hid (Gr w6 wr)) (fun _ i _ => M - (intOf i).toNat)
              case atStart => exact ⟨0, rfl, by rw [HH0.out], Nat.zero_le _, hG⟩
              case round =>
                obtain ⟨z, rfl, rfl, hz, hG⟩ := hrel
                by_cases hzm : z < M
                · obtain ⟨o, ho⟩ : ∃ o, os[z]? = some o := ⟨_, List.getElem?_eq_getElem (by rw [← HM.out]; omega)⟩
                  obtain ⟨ad, rfl, _, d1, lv, lvm, lvc⟩ := HC7.out.gr hG.out z o ho
                  have hv6 := HSO.out o (List.mem_of_getElem? ho)
                  have HT := Lib.hid (allH_succ (lists os) k z)
                  rw [lists_at ho] at HT
                  have VH : Hid (Calls Tryd.prog 16 #[.slice o.A o.n o.c, .int .i64 (k : Nat)] wr fun e w' => e = .returned (.bool (holds o.l k)) ∧ Gr wr w') := holds_any wr o.A o.n o.c o.l k hk64 hv6 lv lvm lvc
                  clear ho lv lvm lvc hv6
                  generalize allH (lists os) k z = q at *
                  generalize holds o.l k = hh at *
                  cases q
                  · go_wp2
                    go_roundw
                    case rel => exact ⟨z + 1, by go_num, by rw [HT.out]; rfl, by omega, hG⟩
                    case measure => simp [intOf]; omega
                  go_wp2_with fail
                  refine VH.out.mono ?_
                  rintro e y2 ⟨rfl, L2⟩
                  have hG2 := Lib.hid (hG.out.trans L2)
                  clear L2
                  cases hh
                  · go_wp2
                    go_roundw
                    case rel => exact ⟨z + 1, by go_num, by rw [HT.out]; rfl, by omega, hG2⟩
                    case measure => simp [intOf]; omega
                  · go_wp2
                    go_roundw
                    case rel => exact ⟨z + 1, by go_num, by rw [HT.out]; rfl, by omega, hG2⟩
                    case measure => simp [intOf]; omega
                · obtain rfl : z = M := by omega
                  rw [HLAW.out k]
                  have hqq : (allH (lists os) k z != allH (lists os) k z) = false := by simp
                  go_wp2
                  go_roundw
                  case rel => exact ⟨k + 1, by go_num, by omega, hG⟩
                  case measure => simp [intOf]; omega
        · go_wp2
          go_ret
          exact Gr.law rfl (G10.out.trans hG.out)
theorem law_reduce (w : World) (R : Option Addr) (N C : Nat) (cs : List Cv) (hl : cs.length = N) (hn : N ≤ maxLen) (hc : Cls w R cs) (hnil : ∀ v ∈ cs, v.A = none → v.n = 0 ∧ v.c = 0) :
    Calls Tryd.prog 10 #[.slice R N C] w (Law w) := law_reduce0 (fun w R N C cs h1 h2 h3 => rreduce_any w R N C cs h1 h2 h3) w R N C cs hl hn hc hnil
end Go.Proofs.YtgnlbmamolbcfaaDoor
