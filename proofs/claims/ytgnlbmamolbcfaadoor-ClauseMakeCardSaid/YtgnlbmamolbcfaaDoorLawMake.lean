/- The law on Make, Valid and Opposite. -/
import Derived.Test.YtgnlbmamolbcfaaDoorLawRes
import Derived.Test.YtgnlbmamolbcfaaDoorOpp
import Derived.Deep.RegionWith
set_option linter.unusedVariables false
namespace Go.Proofs.YtgnlbmamolbcfaaDoor
open Go.RowKit Go.Shelf

attribute [local go_sem] Oper.semAt_some

theorem mkV_len (l : List Lit) : (mkV l).length ≤ l.length := by
  unfold mkV
  split
  · exact mkR_len l
  · exact Nat.zero_le _
set_option maxRecDepth 100000 in
set_option maxHeartbeats 4000000 in
theorem law_make (w : World) (A : Option Addr) (n c : Nat) (l : List Lit) (hA : A = none → n = 0 ∧ c = 0) (hl : l.length = n) (hn : n ≤ maxLen) (hc : Cs w A l) :
    Calls Tryd.prog 9 #[.slice A n c] w (Law w) := by
  have H0 := Lib.hid (awake_any w)
  have H1 : Hid (n ≤ 60 → ∀ W, Gr w W → Calls Tryd.prog 24 #[.slice A n c] W fun e w' => ∃ v' m, e = .returned (.tuple #[v', .bool (vldB (mkR l))]) ∧ w'.ownsRow W.heap.size 38 2 v' m ((mkV l).flatMap lc) ∧ Gr W w') := fun h W hG => make_any W A n c l hA hl (by omega) (hc.gr hG)
  have H2 : Hid (n ≤ 60 → ∀ W, Gr w W → Calls Tryd.prog 25 #[.slice A n c] W fun e w' => ∃ v' m, e = .returned (.tuple #[v', .bool (vldB (mkR l))]) ∧ w'.ownsRow W.heap.size 38 2 v' m ((mkV l).flatMap lc) ∧ Gr W w') := fun h W hG => rmake_any W A n c l hl (by omega) (hc.gr hG)
  have V1 : Hid (∀ W, Gr w W → Calls Tryd.prog 26 #[.slice A n c] W fun e w' => e = .returned (.bool (vldB l)) ∧ Gr W w') := fun W hG => valid_any W A n c l hl hn (hc.gr hG)
  have V2 : Hid (∀ W, Gr w W → Calls Tryd.prog 15 #[.slice A n c] W fun e w' => e = .returned (.bool (vldB l)) ∧ Gr W w') := fun W hG => rvalid_any W A n c l hl hn (hc.gr hG)
  have HK : Hid ((mkV l).length ≤ n) := by have := mkV_len l; rw [hl] at this; exact this
  have HL := Lib.hid hl
  have HC := Lib.hid hc
  unfold maxLen at hn
  clear hl hc hA
  generalize vldB (mkR l) = ok at *
  generalize mkV l = ml at *
  generalize vldB l = vl at *
  go_enter Tryd.func9, Tryd.ntmps9
  go_wp2_with fail
  refine H0.out.mono ?_
  rintro e w2 ⟨rfl, G2⟩
  replace G2 := Lib.hid G2
  by_cases h1 : 60 < n
  · go_wp2
    go_ret
    exact Gr.law rfl G2.out
  replace H1 := Lib.hid (H1.out (by omega))
  replace H2 := Lib.hid (H2.out (by omega))
  go_wp2_with fail
  refine (H1.out _ G2.out).mono ?_
  rintro e w3 ⟨v3, k3, rfl, r3, G3⟩
  replace G3 := Lib.hid (G2.out.trans G3)
  have hk3 : Hid (k3 = ml.length) := (row_len r3).symm
  obtain ⟨A3, c3, rfl⟩ := rw_form r3
  have HC3 := Lib.hid (Cs.own r3)
  clear r3
  go_wp2_with fail
  refine (H2.out _ G3.out).mono ?_
  rintro e w4 ⟨v4, k4, rfl, r4, G4⟩
  have HC4 := Lib.hid (HC3.out.gr G4)
  replace G4 := Lib.hid (G3.out.trans G4)
  have hk4 : Hid (k4 = ml.length) := (row_len r4).symm
  obtain ⟨A4, c4, rfl⟩ := rw_form r4
  have HS := Lib.hid (rsame_any w4 A3 A4 k3 c3 k4 c4 ml ml hk3.out.symm (by rw [hk3.out]; have := HK.out; unfold maxLen; omega) HC4.out hk4.out.symm (Cs.own r4))
  rw [eqB_yes rfl] at HS
  have hne : (ok != ok) = false := by simp
  have hne2 : (vl != vl) = false := by simp
  clear r4
  go_wp2_with fail
  refine HS.out.mono ?_
  rintro e w5 ⟨rfl, G5⟩
  replace G5 := Lib.hid (G4.out.trans G5)
  go_wp2_with fail
  refine (V1.out _ G5.out).mono ?_
  rintro e w6 ⟨rfl, G6⟩
  replace G6 := Lib.hid (G5.out.trans G6)
  go_wp2_with fail
  refine (V2.out _ G6.out).mono ?_
  rintro e w7 ⟨rfl, G7⟩
  replace G7 := Lib.hid (G6.out.trans G7)
  clear HS V1 V2 H1 H2 HC3 HC4 G3 G4 G5 G6
  go_wp2_with fail
  go_loopw [42] (fun i wr => ∃ t : Nat, i = .int .i64 t ∧ t ≤ n ∧ Hid (Gr w wr)) (fun i _ => n - (intOf i).toNat)
  case atStart => exact ⟨0, rfl, by omega, G7⟩
  case round =>
    obtain ⟨t, rfl, ht, hG⟩ := hrel
    by_cases htn : t < n
    · obtain ⟨x, hx⟩ : ∃ x, l[t]? = some x := ⟨_, List.getElem?_eq_getElem (by rw [HL.out]; omega)⟩
      obtain ⟨ad, rfl, hb, d1, d2⟩ := HC.out.gr hG.out t x hx
      obtain ⟨x1, x2⟩ := x
      simp only at d1 d2
      have HG := Lib.hid (hG.out.alloc (.cells #[.int .i64 x1, .bool x2] 38))
      have HB := Lib.hid (Bk.made wr 38 #[.int .i64 x1, .bool x2])
      have hgl := HB.out.lt
      have e1 := (HB.out.cell 0).trans (show _ = some (Value.int .i64 x1) from rfl)
      have e2 := (HB.out.cell 1).trans (show _ = some (Value.bool x2) from rfl)
      have hq1 : (x1 == x1) = true := by simp
      have hq2 : ((!x2) == (!x2)) = true := by simp
      clear hx hb
      go_wp2_with fail
      have I0 : Hid (Gr w (wr.alloc (.cells #[.int .i64 x1, .bool x2] 38)) ∧ Bk (wr.alloc (.cells #[.int .i64 x1, .bool x2] 38)) wr.heap.size 38 #[.int .i64 x1, .bool x2]) := ⟨HG.out, HB.out⟩
      clear d1 d2 hgl HG HB
      generalize wr.alloc (.cells #[.int .i64 x1, .bool x2] 38) = W1 at *
      generalize wr.heap.size = p at *
      have I0d : Hid (Gr w W1.drew ∧ Bk W1.drew p 38 #[.int .i64 x1, .bool x2]) := ⟨I0.out.1.no (Fr.drew _ _), I0.out.2⟩
      have HU : Hid (∀ X Y, (Gr w X ∧ Bk X p 38 #[.int .i64 x1, .bool x2]) → Gr X Y → (Gr w Y ∧ Bk Y p 38 #[.int .i64 x1, .bool x2])) := fun X Y h k => ⟨h.1.trans k, k.fr.bk h.2 id⟩
      go_region_with (first | (go_at_call 27; refine (opp27 _ _ _).mono ?_; rintro e wx ⟨rfl, Gx⟩; have I1 := Lib.hid (HU.out _ _ (by first | exact I1.out | exact I0d.out | exact I0.out) Gx); have e3 := (I1.out.2.cell 0).trans (show _ = some (Value.int .i64 x1) from rfl); have e4 := (I1.out.2.cell 1).trans (show _ = some (Value.bool x2) from rfl); clear Gx) | (go_at_call 28; refine (opp28 _ _ _).mono ?_; rintro e wx ⟨rfl, Gx⟩; have I1 := Lib.hid (HU.out _ _ (by first | exact I1.out | exact I0d.out | exact I0.out) Gx); have e3 := (I1.out.2.cell 0).trans (show _ = some (Value.int .i64 x1) from rfl); have e4 := (I1.out.2.cell 1).trans (show _ = some (Value.bool x2) from rfl); clear Gx))
      all_goals (go_wp2; go_roundw)
      all_goals first
        | exact ⟨t + 1, by go_num, by omega, Lib.hid I1.out.1⟩
        | (simp [intOf]; omega)
    · go_wp2
      go_ret
      exact Gr.law rfl hG.out
end Go.Proofs.YtgnlbmamolbcfaaDoor
