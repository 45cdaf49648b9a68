/- slices.Compact of literals. -/
import Derived.Test.YtgnlbmamolbcfaaDoorMid
import Derived.Test.YtgnlbmamolbcfaaDoorCpt
set_option linter.unusedVariables false
namespace Go.Proofs.YtgnlbmamolbcfaaDoor
open Go.RowKit Go.Shelf

attribute [local go_sem] Oper.semAt_some

set_option maxRecDepth 100000 in
set_option maxHeartbeats 2000000 in
theorem compact1 (w : World) (B g n cap : Nat) (l : List Lit) (row : RowL w B g n cap l) (hn : n ≤ 100000) :
    Calls Tryd.prog 46 #[.slice (some ⟨g, 0, none⟩) n cap] w fun e w' => e = .returned (.slice (some ⟨g, 0, none⟩) (cpt l).length cap) ∧ RowL w' B g (cpt l).length cap (cpt l) ∧ Fr (fun b => b = g) w w' := by
  have hl := row.len
  have hcp := row.cap_le
  have hg := (rw_lt row g rfl).2
  have HL := Lib.hid hl
  have HR := Lib.hid row
  have HSame : Hid ((∀ j, j < n → kpL l j = true) → cpt l = l) := fun h => by
    unfold cpt
    rw [hl, cptU_all (by omega) h, List.take_of_length_le (by omega)]
  clear hl row
  by_cases h2 : n < 2
  · have HA := Lib.hid (HSame.out fun j hj => by
      by_cases e : j = 0
      · subst e; exact kpL_zero l
      · obtain rfl : j = 1 := by omega
        omega)
    go_enter Tryd.func46, Tryd.ntmps46
    go_wp2
    go_ret
    rw [HA.out, HL.out]
    exact ⟨rfl, HR.out, Fr.refl _ _⟩
  · go_enter Tryd.func46, Tryd.ntmps46
    go_wp2
    go_loopw [3] (fun s3 wr => ∃ k q : Nat, 1 ≤ k ∧ k ≤ n ∧ s3 = .int .i64 k ∧ Hid (wr = w.drewN q) ∧ Hid (∀ j, j < k → kpL l j = true)) (fun s3 _ => n - (intOf s3).toNat)
    case atStart => exact ⟨1, 0, Nat.le_refl _, by omega, rfl, rfl, fun j hj => by obtain rfl : j = 0 := by omega
                                                                                   exact kpL_zero l⟩
    case round =>
      obtain ⟨k, q, hk1, hk, rfl, hwr, hall⟩ := hrel
      by_cases hlt : k < n
      · obtain ⟨x, hx⟩ : ∃ x, l[k]? = some x := ⟨_, List.getElem?_eq_getElem (by rw [HL.out]; omega)⟩
        obtain ⟨y, hy⟩ : ∃ y, l[k - 1]? = some y := ⟨_, List.getElem?_eq_getElem (by rw [HL.out]; omega)⟩
        have HR2 : RowL wr B g n cap l := by rw [hwr.out]; exact HR.out.drewN q
        have c1 := HR2.c1 hx
        have c2 := HR2.c2 hx
        have d1 := HR2.c1 hy
        have d2 := HR2.c2 hy
        have HRQ := Lib.hid HR2
        have HX := Lib.hid hx
        have HY := Lib.hid hy
        obtain ⟨x1, x2⟩ := x
        obtain ⟨y1, y2⟩ := y
        clear HR2 hx hy
        simp only at c1 c2 d1 d2
        by_cases hxy : x1 = y1 ∧ x2 = y2
        · obtain ⟨rfl, rfl⟩ := hxy
          have hno := Lib.hid (kpL_no (by omega) (HX.out.trans HY.out.symm))
          go_wp2_with fail
          go_quiet (fail)
          go_wp2
          have hCs : Hid (cptU l (k + 1) = l.take k) := by rw [cptU_skip hno.out, cptU_all (by rw [HL.out]; omega) hall.out]; exact rfl
          have hle : Hid ((l.take k).length = k) := by rw [List.length_take, HL.out, Nat.min_eq_left (by omega)]; exact rfl
          have HI0 : Hid (RowL (wr.drewN nq) B g n cap (mid (cptU l (k + 1)) l)) := by
            rw [hCs.out, mid_start (by rw [HL.out]; omega)]
            exact HRQ.out.drewN nq
          have HF0 : Hid (Fr (fun b => b = g) w (wr.drewN nq)) := by
            rw [hwr.out]
            exact Fr.trans (Fr.drewN _ _ _) (Fr.drewN _ _ _)
          have HK0 : Hid (k = (cptU l (k + 1)).length) := by rw [hCs.out, hle.out]; exact rfl
          have hgr : g < (wr.drewN nq).heap.size := by rw [hwr.out]; exact hg
          clear c1 c2 d1 d2
          generalize wr.drewN nq = W0 at *
          go_loopw [3, 5] (fun s3 s5 wr => ∃ kk k2 : Nat, s3 = .int .i64 kk ∧ s5 = .int .i64 k2 ∧ 1 ≤ k2 ∧ k + k2 ≤ n ∧ kk < k + k2 ∧ Hid (kk = (cptU l (k + k2)).length) ∧ Hid (RowL wr B g n cap (mid (cptU l (k + k2)) l)) ∧ Hid (Fr (fun b => b = g) w wr)) (fun _ s5 _ => n - (intOf s5).toNat)
          case atStart => exact ⟨k, 1, rfl, rfl, Nat.le_refl _, by omega, by omega, HK0, HI0, HF0⟩
          case round =>
            obtain ⟨kk, k2, rfl, rfl, h21, h2n, hkk, hK, hI, hF⟩ := hrel
            have hlow : ∀ j, kk ≤ j → (mid (cptU l (k + k2)) l)[j]? = l[j]? := fun j hj => mid_low (by rw [← hK.out]; exact hj)
            by_cases hlt2 : k + k2 < n
            · obtain ⟨u, hu⟩ : ∃ u, l[k + k2]? = some u := ⟨_, List.getElem?_eq_getElem (by rw [HL.out]; omega)⟩
              obtain ⟨v, hv⟩ : ∃ v, l[k + k2 - 1]? = some v := ⟨_, List.getElem?_eq_getElem (by rw [HL.out]; omega)⟩
              obtain ⟨o, ho⟩ : ∃ o, l[kk]? = some o := ⟨_, List.getElem?_eq_getElem (by rw [HL.out]; omega)⟩
              have c1 := hI.out.c1 ((hlow _ (by omega)).trans hu)
              have c2 := hI.out.c2 ((hlow _ (by omega)).trans hu)
              have d1 := hI.out.c1 ((hlow _ (by omega)).trans hv)
              have d2 := hI.out.c2 ((hlow _ (by omega)).trans hv)
              have e1 := hI.out.c1 ((hlow _ (by omega)).trans ho)
              have e2 := hI.out.c2 ((hlow _ (by omega)).trans ho)
              have f1 := hI.out.fz (kk * 2)
              have f2 := hI.out.fz (kk * 2 + 1)
              rw [show (k + k2) * 2 = k * 2 + k2 * 2 by omega] at c1 c2
              rw [show (k + k2 - 1) * 2 = k * 2 + (k2 - 1) * 2 by omega] at d1 d2
              have HU := Lib.hid hu
              have HV := Lib.hid hv
              have HO := Lib.hid ((hlow _ (Nat.le_refl _)).trans ho)
              obtain ⟨u1, u2⟩ := u
              obtain ⟨v1, v2⟩ := v
              obtain ⟨o1, o2⟩ := o
              clear hu hv ho hlow
              simp only at c1 c2 d1 d2 e1 e2
              by_cases huv : u1 = v1 ∧ u2 = v2
              · obtain ⟨rfl, rfl⟩ := huv
                have hno2 := Lib.hid (kpL_no (by omega) (HU.out.trans HV.out.symm))
                go_wp2_with fail
                go_quiet (fail)
                go_wp2
                go_roundw
                case rel => exact ⟨kk, k2 + 1, rfl, by go_num, by omega, by omega, by omega, by rw [show k + (k2 + 1) = k + k2 + 1 by omega, cptU_skip hno2.out]; exact hK, by rw [show k + (k2 + 1) = k + k2 + 1 by omega, cptU_skip hno2.out]; exact hI.out.drewN nq, hF.out.trans (Fr.drewN _ _ _)⟩
                case measure => simp [intOf]; omega
              · have hyes := Lib.hid (kpL_yes (l := l) (m := k + k2) (fun e => by
                  rw [HU.out, HV.out] at e
                  injection e with e
                  injection e with e1 e2
                  exact huv ⟨e1, e2⟩))
                go_wp2_with fail
                by_cases h1 : u1 = v1
                · have h1' : (u1 == v1) = true := by simpa using h1
                  have h2' : (u2 == v2) = false := by simpa using fun e => huv ⟨h1, e⟩
                  clear huv h1
                  go_quiet (fail)
                  have HI2 : Hid (RowL (((wr.drewN nq).setCell ⟨g, kk * 2, none⟩ (.int .i64 u1)).setCell ⟨g, kk * 2 + 1, none⟩ (.bool u2)) B g n cap (mid (cptU l (k + k2 + 1)) l)) := by
                    have h9 := (hI.out.drewN nq).put HO.out (u1, u2)
                    rw [cptU_keep hyes.out HU.out, ← mid_put (by rw [← hK.out, HL.out]; omega), ← hK.out]
                    exact h9
                  have HF2 : Hid (Fr (fun b => b = g) w (((wr.drewN nq).setCell ⟨g, kk * 2, none⟩ (.int .i64 u1)).setCell ⟨g, kk * 2 + 1, none⟩ (.bool u2))) := ((hF.out.trans (Fr.drewN _ _ nq)).trans (Fr.set _ _ _ rfl)).trans (Fr.set _ _ _ rfl)
                  have HK2 : Hid (kk + 1 = (cptU l (k + k2 + 1)).length) := by rw [cptU_keep hyes.out HU.out, List.length_append, ← hK.out]; exact rfl
                  go_wp2
                  go_roundw
                  case rel => exact ⟨kk + 1, k2 + 1, by go_num, by go_num, by omega, by omega, by omega, HK2, HI2, HF2⟩
                  case measure => simp [intOf]; omega
                · have h1' : (u1 == v1) = false := by simpa using h1
                  clear huv h1
                  go_quiet (fail)
                  have HI2 : Hid (RowL (((wr.drewN nq).setCell ⟨g, kk * 2, none⟩ (.int .i64 u1)).setCell ⟨g, kk * 2 + 1, none⟩ (.bool u2)) B g n cap (mid (cptU l (k + k2 + 1)) l)) := by
                    have h9 := (hI.out.drewN nq).put HO.out (u1, u2)
                    rw [cptU_keep hyes.out HU.out, ← mid_put (by rw [← hK.out, HL.out]; omega), ← hK.out]
                    exact h9
                  have HF2 : Hid (Fr (fun b => b = g) w (((wr.drewN nq).setCell ⟨g, kk * 2, none⟩ (.int .i64 u1)).setCell ⟨g, kk * 2 + 1, none⟩ (.bool u2))) := ((hF.out.trans (Fr.drewN _ _ nq)).trans (Fr.set _ _ _ rfl)).trans (Fr.set _ _ _ rfl)
                  have HK2 : Hid (kk + 1 = (cptU l (k + k2 + 1)).length) := by rw [cptU_keep hyes.out HU.out, List.length_append, ← hK.out]; exact rfl
                  go_wp2
                  go_roundw
                  case rel => exact ⟨kk + 1, k2 + 1, by go_num, by go_num, by omega, by omega, by omega, HK2, HI2, HF2⟩
                  case measure => simp [intOf]; omega
            · have hE : k + k2 = n := by omega
              rw [hE] at hK hI hkk
              obtain ⟨zs, hz⟩ : ∃ zs : Nat → List Value, ∀ ty, (Builtin.clear_ #[23] ty #[.slice (some ⟨g, kk * 2, none⟩) (n - kk) (cap - kk)]).run Tryd.prog wr = .ok (.tuple #[]) (wr.setCells g (kk * 2) (zs ty)) := by
                refine ⟨fun ty => (run_clear wr ty g (kk * 2) (n - kk) (cap - kk) (by omega) hI.out (by omega)).choose, fun ty => ?_⟩
                exact (run_clear wr ty g (kk * 2) (n - kk) (cap - kk) (by omega) hI.out (by omega)).choose_spec
              clear hlow
              go_wp2
              go_ret
              obtain ⟨hr9, hf9⟩ := hI.out.cut (k := kk) (o := kk * 2) (by omega) (zs 0) (Nat.le_refl _)
              have hc9 : cpt l = cptU l n := by unfold cpt; rw [HL.out]
              rw [hc9, ← hK.out]
              rw [hK.out, mid_take, ← hK.out] at hr9
              exact ⟨rfl, hr9, hF.out.trans hf9⟩
        · have hyes := Lib.hid (kpL_yes (l := l) (m := k) (fun e => by
            rw [HX.out, HY.out] at e
            injection e with e
            injection e with e1 e2
            exact hxy ⟨e1, e2⟩))
          have hall2 : Hid (∀ j, j < k + 1 → kpL l j = true) := fun j hj => by
            by_cases e : j = k
            · rw [e]; exact hyes.out
            · exact hall.out j (by omega)
          go_wp2_with fail
          by_cases h1 : x1 = y1
          · have h1' : (x1 == y1) = true := by simpa using h1
            have h2' : (x2 == y2) = false := by simpa using fun e => hxy ⟨h1, e⟩
            clear hxy h1
            go_quiet (fail)
            go_wp2
            go_roundw
            case rel => exact ⟨k + 1, q + nq, by omega, by omega, by go_num, by rw [hwr.out]; exact World.drewN_drewN .., hall2⟩
            case measure => simp [intOf]; omega
          · have h1' : (x1 == y1) = false := by simpa using h1
            clear hxy h1
            go_quiet (fail)
            go_wp2
            go_roundw
            case rel => exact ⟨k + 1, q + nq, by omega, by omega, by go_num, by rw [hwr.out]; exact World.drewN_drewN .., hall2⟩
            case measure => simp [intOf]; omega
      · obtain rfl : k = n := by omega
        have HA := Lib.hid (HSame.out hall.out)
        go_wp2
        go_ret
        rw [HA.out, HL.out, hwr.out]
        exact ⟨rfl, HR.out.drewN q, Fr.drewN _ _ _⟩

theorem compact_any (w : World) (B n : Nat) (v : Value) (l : List Lit) (row : w.ownsRow B 38 2 v n (l.flatMap lc)) (hn : n ≤ 100000) :
    Calls Tryd.prog 46 #[v] w fun e w' => ∃ v' m, e = .returned v' ∧ w'.ownsRow B 38 2 v' m ((cpt l).flatMap lc) ∧ Fr (fun b => v.ownBlock = some b) w w' := by
  by_cases h0 : n = 0
  · subst h0
    have hl := row.1
    rw [flat_len (k := 2) (fun _ => rfl)] at hl
    have hl0 : l = [] := List.length_eq_zero_iff.1 (by omega)
    subst hl0
    obtain ⟨A, c, rfl⟩ := rw_form row
    have HR := Lib.hid row
    clear row hl hn
    go_enter Tryd.func46, Tryd.ntmps46
    go_wp2
    go_ret
    exact ⟨_, 0, rfl, HR.out, Fr.refl _ _⟩
  · obtain ⟨g, cap, rfl⟩ := RowL.some_of row (by omega)
    refine (compact1 w B g n cap l row hn).mono ?_
    rintro e w' ⟨rfl, h1, h2⟩
    exact ⟨_, _, rfl, h1, h2.wide fun b _ e => by rw [e]; rfl⟩
end Go.Proofs.YtgnlbmamolbcfaaDoor
