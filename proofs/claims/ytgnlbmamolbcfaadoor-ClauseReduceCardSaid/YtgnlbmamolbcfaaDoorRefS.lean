/- The reference's Subsumes, Holds, Same. -/
import Derived.Test.YtgnlbmamolbcfaaDoorSub
set_option linter.unusedVariables false
namespace Go.Proofs.YtgnlbmamolbcfaaDoor
open Go.RowKit Go.Shelf

attribute [local go_sem] Oper.semAt_some

theorem all_snoc {a : List Lit} {t : Nat} {y : Lit} {f : Lit → Bool} (h : a[t]? = some y) (hc : (a.take t).all f = true) (hf : f y = true) : (a.take (t + 1)).all f = true := by
  rw [List.take_add_one, h, List.all_append, hc]
  simp [hf]
theorem all_no {a : List Lit} {t : Nat} {y : Lit} {f : Lit → Bool} (h : a[t]? = some y) (hf : f y = false) : a.all f = false := by
  rw [List.all_eq_false]
  exact ⟨y, List.mem_of_getElem? h, by simp [hf]⟩
set_option maxRecDepth 100000 in
set_option maxHeartbeats 1000000 in
theorem rsubsumes_any (w : World) (A B : Option Addr) (n c m cb : Nat) (a b : List Lit) (hl : a.length = n) (hn : n ≤ maxLen) (hc : Cs w A a) (hl2 : b.length = m) (hn2 : m ≤ maxLen) (hc2 : Cs w B b) :
    Calls Tryd.prog 13 #[.slice A n c, .slice B m cb] w fun e w' => e = .returned (.bool (subsB a b)) ∧ Gr w w' := by
  have H1 := Lib.hid (rvalid_any w A n c a hl hn hc)
  have H2 : Hid (∀ W, Gr w W → Calls Tryd.prog 15 #[.slice B m cb] W fun e w' => e = .returned (.bool (vldB b)) ∧ Gr W w') := fun W hG => rvalid_any W B m cb b hl2 hn2 (hc2.gr hG)
  have H3 : Hid (∀ x W, Gr w W → Calls Tryd.prog 33 #[.slice B m cb, .agg #[.int .i64 x.1, .bool x.2]] W fun e w' => e = .returned (.bool (b.contains x)) ∧ Gr W w') := fun x W hG => has_any W B m cb b x hl2 hn2 (hc2.gr hG)
  have HS : Hid (subsB a b = (vldB a && (vldB b && within a b))) := rfl
  rw [HS.out]
  have HL := Lib.hid hl
  have HC := Lib.hid hc
  unfold maxLen at hn
  clear hl hc hl2 hn2 hc2 HS
  generalize vldB a = va at *
  generalize vldB b = vb at *
  go_enter Tryd.func13, Tryd.ntmps13
  go_wp2_with fail
  refine H1.out.mono ?_
  rintro e w2 ⟨rfl, G2⟩
  replace G2 := Lib.hid G2
  cases va
  · go_wp2
    go_ret
    exact ⟨rfl, G2.out⟩
  go_wp2_with fail
  refine (H2.out _ G2.out).mono ?_
  rintro e w3 ⟨rfl, G3⟩
  have HG3 := Lib.hid (G2.out.trans G3)
  clear G3
  cases vb
  · go_wp2
    go_ret
    exact ⟨rfl, HG3.out⟩
  go_wp2_with fail
  go_loopw [5] (fun i wr => ∃ t : Nat, i = .int .i64 t ∧ t ≤ n ∧ Hid ((a.take t).all (fun x => b.contains x) = true) ∧ Hid (Gr w wr)) (fun i _ => n - (intOf i).toNat)
  case atStart => exact ⟨0, rfl, Nat.zero_le _, rfl, HG3⟩
  case round =>
    obtain ⟨t, rfl, ht, hB, hG⟩ := hrel
    by_cases htn : t < n
    · obtain ⟨y, hy⟩ : ∃ y, a[t]? = some y := ⟨_, List.getElem?_eq_getElem (by rw [HL.out]; omega)⟩
      obtain ⟨ad, rfl, hb, d1, d2⟩ := HC.out.gr hG.out t y hy
      have HY := Lib.hid hy
      have HCL := Lib.hid (H3.out y wr hG.out)
      have HV : Hid (b.contains y = true → (a.take (t + 1)).all (fun x => b.contains x) = true) := fun h => all_snoc hy hB.out h
      have HW : Hid (b.contains y = false → within a b = false) := fun h => all_no hy h
      generalize b.contains y = bb at *
      obtain ⟨y1, y2⟩ := y
      clear hy hb
      simp only at *
      go_wp2_with fail
      refine HCL.out.mono ?_
      rintro e w4 ⟨rfl, G4⟩
      have HG4 := Lib.hid (hG.out.trans G4)
      clear G4 HCL
      cases bb
      · have h9 := Lib.hid (HW.out rfl)
        go_wp2
        go_ret
        exact ⟨by rw [h9.out]; rfl, HG4.out⟩
      · have h9 := Lib.hid (HV.out rfl)
        go_wp2
        go_roundw
        case rel => exact ⟨t + 1, by go_num, by omega, h9, HG4⟩
        case measure => simp [intOf]; omega
    · go_wp2
      go_ret
      have hV := hB.out
      rw [List.take_of_length_le (by rw [HL.out]; omega)] at hV
      have hV' : within a b = true := hV
      exact ⟨by rw [hV']; rfl, hG.out⟩

def eqB (a b : List Lit) : Bool := decide (a = b)
theorem eqB_no {a b : List Lit} (h : a ≠ b) : eqB a b = false := decide_eq_false h
theorem eqB_yes {a b : List Lit} (h : a = b) : eqB a b = true := decide_eq_true h
set_option maxRecDepth 100000 in
set_option maxHeartbeats 1000000 in
theorem rsame_any (w : World) (A B : Option Addr) (n c m cb : Nat) (a b : List Lit) (hl : a.length = n) (hn : n ≤ maxLen) (hc : Cs w A a) (hl2 : b.length = m) (hc2 : Cs w B b) :
    Calls Tryd.prog 19 #[.slice A n c, .slice B m cb] w fun e w' => e = .returned (.bool (eqB a b)) ∧ Gr w w' := by
  unfold maxLen at hn
  by_cases hnm : n = m
  · subst hnm
    have HL := Lib.hid hl
    have HC := Lib.hid hc
    have HL2 := Lib.hid hl2
    have HC2 := Lib.hid hc2
    clear hl hc hl2 hc2
    go_enter Tryd.func19, Tryd.ntmps19
    go_wp2
    go_loopw [5] (fun i wr => ∃ t : Nat, i = .int .i64 t ∧ t ≤ n ∧ Hid (a.take t = b.take t) ∧ Hid (Gr w wr)) (fun i _ => n - (intOf i).toNat)
    case atStart => exact ⟨0, rfl, Nat.zero_le _, rfl, Gr.refl w⟩
    case round =>
      obtain ⟨t, rfl, ht, hB, hG⟩ := hrel
      by_cases htn : t < n
      · obtain ⟨y, hy⟩ : ∃ y, a[t]? = some y := ⟨_, List.getElem?_eq_getElem (by rw [HL.out]; omega)⟩
        obtain ⟨x, hx⟩ : ∃ x, b[t]? = some x := ⟨_, List.getElem?_eq_getElem (by rw [HL2.out]; omega)⟩
        obtain ⟨ad, rfl, hb, d1, d2⟩ := HC.out.gr hG.out t y hy
        obtain ⟨ad2, rfl, hb2, k1, k2⟩ := HC2.out.gr hG.out t x hx
        obtain ⟨y1, y2⟩ := y
        obtain ⟨x1, x2⟩ := x
        by_cases hxy : y1 = x1 ∧ y2 = x2
        · obtain ⟨rfl, rfl⟩ := hxy
          have HV : Hid (a.take (t + 1) = b.take (t + 1)) := by rw [List.take_add_one, List.take_add_one, hB.out, hy, hx]; exact rfl
          clear hy hb hx hb2
          go_wp2_with fail
          go_quiet (fail)
          have G3 := Lib.hid (hG.out.drewN nq)
          go_wp2
          go_roundw
          case rel => exact ⟨t + 1, by go_num, by omega, HV, G3⟩
          case measure => simp [intOf]; omega
        · have HV := Lib.hid (eqB_no (show a ≠ b from fun e => hxy (by rw [e, hx] at hy; injection hy with hy; injection hy with e1 e2; exact ⟨e1.symm, e2.symm⟩)))
          clear hy hb hx hb2
          go_wp2_with fail
          by_cases h1 : y1 = x1
          · have h1' : (y1 == x1) = true := by simpa using h1
            have h2' : (y2 == x2) = false := by simpa using fun e => hxy ⟨h1, e⟩
            clear hxy h1
            go_quiet (fail)
            go_wp2
            go_ret
            exact ⟨by rw [HV.out]; rfl, hG.out.drewN nq⟩
          · have h1' : (y1 == x1) = false := by simpa using h1
            clear hxy h1
            go_quiet (fail)
            go_wp2
            go_ret
            exact ⟨by rw [HV.out]; rfl, hG.out.drewN nq⟩
      · go_wp2
        go_ret
        have hV := hB.out
        rw [List.take_of_length_le (by rw [HL.out]; omega), List.take_of_length_le (by rw [HL2.out]; omega)] at hV
        exact ⟨by rw [eqB_yes hV]; rfl, hG.out⟩
  · have HV := Lib.hid (eqB_no (show a ≠ b from fun e => hnm (by rw [← hl, ← hl2, e])))
    have h1 : ((n : Int) == m) = false := by simp; omega
    have h2 : ((n : Int) != m) = true := by simp; omega
    clear hnm hl hl2 hc hc2
    go_enter Tryd.func19, Tryd.ntmps19
    go_wp2
    go_ret
    exact ⟨by rw [HV.out]; rfl, Gr.refl w⟩
end Go.Proofs.YtgnlbmamolbcfaaDoor
