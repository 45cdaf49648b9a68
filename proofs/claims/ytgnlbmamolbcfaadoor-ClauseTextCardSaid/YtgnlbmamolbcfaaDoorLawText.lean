/- The law on Text. -/
import Derived.Test.YtgnlbmamolbcfaaDoorLawStatus
import Derived.Test.YtgnlbmamolbcfaaDoorRefS
import Derived.Sort.Grow
set_option linter.unusedVariables false
namespace Go.Proofs.YtgnlbmamolbcfaaDoor
open Go.RowKit Go.Shelf

attribute [local go_sem] Oper.semAt_some

theorem gr_grow (w : World) (k : Nat) (os : Array Obj) : Gr w (Go.Sort.grow (w.drewN k) os) := by
  refine ⟨⟨rfl, rfl, rfl, ?_, fun b hb => absurd hb (Nat.not_lt_zero b)⟩, fun b hb _ => ?_⟩
  · rw [Go.Sort.size_grow]
    exact Nat.le_add_right _ _
  · rw [Go.Sort.heap_grow_old _ _ (by exact hb)]
    rfl
theorem tab_gr {w w' : World} {nm : String} {k : IntKind} {zs : List Int} (h : Lib.TabIs Tryd.prog w nm k zs) (hG : Gr w w') : Lib.TabIs Tryd.prog w' nm k zs := by
  unfold Lib.TabIs World.var? at h ⊢
  cases hg : Tryd.prog.globalNamed nm with
  | none => rw [hg] at h; cases h
  | some g =>
    rw [hg] at h
    simp only [Option.bind_some] at h ⊢
    have hlt : g < w.heap.size := by
      rcases Nat.lt_or_ge g w.heap.size with h9 | h9
      · exact h9
      · rw [Array.getElem?_eq_none h9] at h
        cases h
    rw [hG.fr.keep g hlt id]
    exact h
/-- What the law on Text is told of the table. -/
def Tab (w : World) : Prop := ∀ (n : Int), -9223372036854775808 ≤ n → n ≤ 9223372036854775807 → ∀ W, Gr w W → Calls Tryd.prog 39 #[.int .i64 n] W fun e w' => e = .returned (.string ⟨(Lib.itoa n).toArray⟩) ∧ ∃ k os, w' = Go.Sort.grow (W.drewN k) os
theorem ito_tab {w : World} {l : List Lit} (ht : Tab w) (h : ∀ x ∈ l, 0 ≤ x.1 ∧ x.1 < 1024) : Ito w l := fun x hx W hG => by
  obtain ⟨h0, h1⟩ := h x hx
  refine (ht x.1 (by omega) (by omega) W hG).mono ?_
  rintro e w' ⟨rfl, k, os, rfl⟩
  refine ⟨?_, gr_grow _ _ _⟩
  rw [Lib.itoa, if_neg (by omega)]
  rfl
theorem Tab.gr {w w' : World} (h : Tab w) (hG : Gr w w') : Tab w' := fun n h0 h1 W k => h n h0 h1 W (hG.trans k)
theorem vld_rng {l : List Lit} (h : vldB l = true) : ∀ x ∈ l, 0 ≤ x.1 ∧ x.1 < 1024 := fun x hx => by
  obtain ⟨i, hi⟩ := List.mem_iff_getElem?.1 hx
  exact (vldB_iff.1 h).range hi
theorem txt_eq {a b : List Lit} (ha : vldB a = true) (hb : vldB b = true) : ((bts (txt a)).toList == (bts (txt b)).toList) = eqB a b := by
  rw [ByteArray.toList_eq, ByteArray.toList_eq, bts_data, bts_data]
  by_cases h : a = b
  · rw [eqB_yes h, h, beq_self_eq_true]
  · rw [eqB_no h, beq_eq_false_iff_ne]
    exact fun e => h ((txt_inj (vldB_iff.1 ha) (vldB_iff.1 hb)).1 e)

set_option maxRecDepth 100000 in
set_option maxHeartbeats 2000000 in
theorem law_text (w : World) (A B : Option Addr) (n c m cb : Nat) (a b : List Lit) (hl : a.length = n) (hn : n ≤ maxLen) (hc : Cs w A a) (hl2 : b.length = m) (hm : m ≤ maxLen) (hc2 : Cs w B b) (ht : Tab w) :
    Calls Tryd.prog 8 #[.slice A n c, .slice B m cb] w (Law w) := by
  have H0 := Lib.hid (awake_any w)
  have H1 : Hid (∀ W, Gr w W → Calls Tryd.prog 15 #[.slice A n c] W fun e w' => e = .returned (.bool (vldB a)) ∧ Gr W w') := fun W hG => rvalid_any W A n c a hl hn (hc.gr hG)
  have H2 : Hid (∀ W, Gr w W → Calls Tryd.prog 15 #[.slice B m cb] W fun e w' => e = .returned (.bool (vldB b)) ∧ Gr W w') := fun W hG => rvalid_any W B m cb b hl2 hm (hc2.gr hG)
  have H3 : Hid (vldB a = true → n ≤ 30 → ∀ W, Gr w W → Calls Tryd.prog 22 #[.slice A n c] W fun e w' => e = .returned (.string (bts (txt a))) ∧ Gr W w') := fun h1 h2 W hG => text_any W A n c a hl (by omega) (vld_rng h1) (hc.gr hG) (ito_tab (ht.gr hG) (vld_rng h1))
  have H4 : Hid (vldB b = true → m ≤ 30 → ∀ W, Gr w W → Calls Tryd.prog 22 #[.slice B m cb] W fun e w' => e = .returned (.string (bts (txt b))) ∧ Gr W w') := fun h1 h2 W hG => text_any W B m cb b hl2 (by omega) (vld_rng h1) (hc2.gr hG) (ito_tab (ht.gr hG) (vld_rng h1))
  have H5 : Hid (vldB a = true → n ≤ 30 → ∀ W, Gr w W → Calls Tryd.prog 23 #[.slice A n c] W fun e w' => e = .returned (.string (bts (txt a))) ∧ Gr W w') := fun h1 h2 W hG => rtext_any W A n c a hl (by omega) (vld_rng h1) (hc.gr hG)
  have H6 : Hid (∀ W, Gr w W → Calls Tryd.prog 19 #[.slice A n c, .slice B m cb] W fun e w' => e = .returned (.bool (eqB a b)) ∧ Gr W w') := fun W hG => rsame_any W A B n c m cb a b hl hn (hc.gr hG) hl2 (hc2.gr hG)
  have HE : Hid (vldB a = true → vldB b = true → ((bts (txt a)).toList == (bts (txt b)).toList) = eqB a b) := txt_eq
  unfold maxLen at hn hm
  clear hl hc hl2 hc2 ht
  generalize bts (txt a) = sa at *
  generalize bts (txt b) = sb at *
  generalize eqB a b = ab at *
  go_enter Tryd.func8, Tryd.ntmps8
  go_wp2_with fail
  refine H0.out.mono ?_
  rintro e w2 ⟨rfl, G2⟩
  replace G2 := Lib.hid G2
  by_cases h1 : 30 < n
  · go_wp2
    go_ret
    exact Gr.law rfl G2.out
  by_cases h2 : 30 < m
  · go_wp2
    go_ret
    exact Gr.law rfl G2.out
  go_wp2_with fail
  refine (H1.out _ G2.out).mono ?_
  rintro e w3 ⟨rfl, G3⟩
  replace G3 := Lib.hid (G2.out.trans G3)
  cases hva : vldB a
  · clear hva
    go_wp2
    go_ret
    exact Gr.law rfl G3.out
  replace H3 := Lib.hid (H3.out hva (by omega))
  replace H5 := Lib.hid (H5.out hva (by omega))
  replace HE := Lib.hid (HE.out hva)
  clear hva
  go_wp2_with fail
  refine (H2.out _ G3.out).mono ?_
  rintro e w4 ⟨rfl, G4⟩
  replace G4 := Lib.hid (G3.out.trans G4)
  cases hvb : vldB b
  · clear hvb
    go_wp2
    go_ret
    exact Gr.law rfl G4.out
  replace H4 := Lib.hid (H4.out hvb (by omega))
  replace HE := Lib.hid (HE.out hvb)
  clear hvb
  go_wp2_with fail
  refine (H3.out _ G4.out).mono ?_
  rintro e w5 ⟨rfl, G5⟩
  replace G5 := Lib.hid (G4.out.trans G5)
  go_wp2_with fail
  refine (H5.out _ G5.out).mono ?_
  rintro e w6 ⟨rfl, G6⟩
  replace G6 := Lib.hid (G5.out.trans G6)
  have hsa : (sa.toList == sa.toList) = true := beq_self_eq_true _
  go_wp2_with fail
  refine (H3.out _ G6.out).mono ?_
  rintro e w7 ⟨rfl, G7⟩
  replace G7 := Lib.hid (G6.out.trans G7)
  go_wp2_with fail
  refine (H4.out _ G7.out).mono ?_
  rintro e w8 ⟨rfl, G8⟩
  replace G8 := Lib.hid (G7.out.trans G8)
  have he := HE.out
  cases ab
  · go_wp2_with fail
    refine (H6.out _ G8.out).mono ?_
    rintro e w9 ⟨rfl, G9⟩
    replace G9 := Lib.hid (G8.out.trans G9)
    go_wp2
    go_ret
    exact Gr.law rfl G9.out
  · go_wp2_with fail
    refine (H6.out _ G8.out).mono ?_
    rintro e w9 ⟨rfl, G9⟩
    replace G9 := Lib.hid (G8.out.trans G9)
    go_wp2
    go_ret
    exact Gr.law rfl G9.out
end Go.Proofs.YtgnlbmamolbcfaaDoor
