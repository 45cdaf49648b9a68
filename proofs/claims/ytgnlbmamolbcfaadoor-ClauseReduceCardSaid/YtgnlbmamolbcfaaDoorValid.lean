/- Clauses in memory; Valid. -/
import Derived.Test.YtgnlbmamolbcfaaDoorChecked
import Derived.Test.YtgnlbmamolbcfaaDoorBase
import Derived.Test.YtgnlbmamolbcfaaDoorCl
import Derived.WalkKit
import Derived.WalkSpells
import Derived.WalkLawsBesides
import Derived.Outline
import Derived.Lib.Hide
import Derived.Deep.QuietTactic
import Derived.BigQuiet
import Derived.LaidEql
import Derived.Handy
import Derived.IntWalk
import Derived.BigRegion
set_option linter.unusedVariables false
namespace Go.Proofs.YtgnlbmamolbcfaaDoor
open Go.RowKit

attribute [local go_sem] Oper.semAt_some

/-- The row at A begins with the literals l. -/
def Cs (w : World) (A : Option Addr) (l : List Lit) : Prop :=
  ∀ (i : Nat) (x : Lit), l[i]? = some x → ∃ ad, A = some ad ∧ ad.block < w.heap.size ∧ w.cell? (ad.add (i * 2)) = some (.int .i64 x.1) ∧ w.cell? ⟨(ad.add (i * 2)).block, (ad.add (i * 2)).off + 1, none⟩ = some (.bool x.2)
theorem Cs.nil {w : World} {A : Option Addr} : Cs w A [] := fun i x h => by simp at h
theorem Cs.gr {w w' : World} {A : Option Addr} {l : List Lit} (h : Cs w A l) (hG : Gr w w') : Cs w' A l := fun i x hx => by
  obtain ⟨ad, rfl, hb, h1, h2⟩ := h i x hx
  have h9 : w'.heap[(ad.add (i * 2)).block]? = w.heap[(ad.add (i * 2)).block]? := hG.below.block _ (by rw [add_blk]; exact hb)
  exact ⟨ad, rfl, Nat.lt_of_lt_of_le hb hG.size, (World.cell?_of_block h9).trans h1, (World.cell?_of_block (by show w'.heap[(ad.add (i * 2)).block]? = _; exact h9)).trans h2⟩
theorem Gr.drewN {w w' : World} (h : Gr w w') (n : Nat) : Gr w (w'.drewN n) := h.no (Fr.drewN _ _ _)
theorem Gr.trans {a b c : World} (h : Gr a b) (k : Gr b c) : Gr a c := h.no k.fr

theorem add_zero (a : Addr) : a.add 0 = a := by unfold Addr.add; simp
theorem bad_at {l : List Lit} {i : Nat} {x : Lit} (h : l[i]? = some x) : bad l i = (decide (x.1 < 0) || (decide (1024 ≤ x.1) || (decide (0 < i) && decide (x.1 ≤ (l.getD (i - 1) (0, false)).1)))) := by
  rw [bad, List.getD_eq_getElem?_getD, h]
  rfl
theorem vld_no {l : List Lit} {t : Nat} (ht : t < l.length) (h : bad l t = true) : vldB l = false := by
  simp only [vldB, decide_eq_false_iff_not]
  intro hv
  rw [hv t ht] at h
  cases h

set_option maxRecDepth 100000 in
set_option maxHeartbeats 1000000 in
theorem valid_any (w : World) (A : Option Addr) (n c : Nat) (l : List Lit) (hl : l.length = n) (hn : n ≤ maxLen) (hc : Cs w A l) :
    Calls Tryd.prog 26 #[.slice A n c] w fun e w' => e = .returned (.bool (vldB l)) ∧ Gr w w' := by
  unfold maxLen at hn
  have HL := Lib.hid hl
  have HC := Lib.hid hc
  clear hl hc
  go_enter Tryd.func26, Tryd.ntmps26
  go_wp2
  go_loopw [7] (fun i wr => ∃ t : Nat, i = .int .i64 t ∧ t ≤ n ∧ Hid (∀ j, j < t → bad l j = false) ∧ Hid (Gr w wr)) (fun i _ => n - (intOf i).toNat)
  case atStart => exact ⟨0, rfl, Nat.zero_le _, (fun j hj => by omega), Gr.refl w⟩
  case round =>
    obtain ⟨t, rfl, ht, hB, hG⟩ := hrel
    by_cases htn : t < n
    · obtain ⟨x, hx⟩ : ∃ x, l[t]? = some x := ⟨_, List.getElem?_eq_getElem (by rw [HL.out]; omega)⟩
      have hba := bad_at hx
      obtain ⟨ad, rfl, hb, d1, d2⟩ := HC.out.gr hG.out t x hx
      obtain ⟨x1, x2⟩ := x
      have G2 := Lib.hid (hG.out.alloc (.cells #[.int .i64 x1, .bool x2] 38))
      have b2 := Bk.made wr 38 #[.int .i64 x1, .bool x2]
      have c21 : (wr.alloc (.cells #[.int .i64 x1, .bool x2] 38)).cell? ⟨wr.heap.size, 0, none⟩ = some (.int .i64 x1) := (b2.cell 0).trans rfl
      have HVN : Hid (bad l t = true → vldB l = false) := fun h => vld_no (by rw [HL.out]; exact htn) h
      have HBA := Lib.hid hba
      have HNX : Hid (bad l t = false → ∀ j, j < t + 1 → bad l j = false) := fun h j hj => by
        by_cases e : j = t
        · rw [e]; exact h
        · exact hB.out j (by omega)
      clear hba hx hb b2
      go_wp2_with fail
      by_cases h1 : x1 < 0
      · go_quiet (fail)
        have HV := Lib.hid (HVN.out (by rw [HBA.out]; simp [h1]))
        go_wp2
        go_ret
        exact ⟨by rw [HV.out]; rfl, G2.out.drewN nq⟩
      by_cases h2 : 1024 ≤ x1
      · go_quiet (fail)
        have HV := Lib.hid (HVN.out (by rw [HBA.out]; simp [h2]))
        go_wp2
        go_ret
        exact ⟨by rw [HV.out]; rfl, G2.out.drewN nq⟩
      have g1 : ¬ x1 < 0 := h1
      have g2 : ¬ 1024 ≤ x1 := h2
      cases t with
      | zero =>
        have HV := Lib.hid (HNX.out (by rw [HBA.out]; simp [g1, g2]))
        go_quiet (fail)
        have G3 := Lib.hid (G2.out.drewN nq)
        go_wp2
        go_roundw
        case rel => exact ⟨0 + 1, by go_num, by omega, HV, G3⟩
        case measure => simp [intOf]; omega
      | succ s =>
        obtain ⟨y, hy⟩ : ∃ y, l[s]? = some y := ⟨_, List.getElem?_eq_getElem (by rw [HL.out]; omega)⟩
        have hgy : Hid (l.getD (s + 1 - 1) (0, false) = y) := by rw [Nat.add_sub_cancel, List.getD_eq_getElem?_getD, hy]; exact rfl
        obtain ⟨ad', e', hb', k1, _⟩ := HC.out.gr G2.out s y hy
        cases e'
        obtain ⟨y1, y2⟩ := y
        have hw1 : IntKind.i64.wrap ((s : Int) + 1 - 1) = (s : Int) := by rw [IntWalk.i64_in _ (by omega)]; omega
        have hw2 : IntKind.i64.wrap (((s + 1 : Nat) : Int) - 1) = (s : Int) := by rw [IntWalk.i64_in _ (by omega)]; omega
        by_cases h3 : x1 ≤ y1
        · have HV := Lib.hid (HVN.out (by rw [HBA.out, hgy.out]; simp [h3]))
          clear hy hb'
          go_quiet (fail)
          clear hw1 hw2
          go_wp2
          go_ret
          exact ⟨by rw [HV.out]; rfl, G2.out.drewN nq⟩
        · have HV := Lib.hid (HNX.out (by rw [HBA.out, hgy.out]; simp [g1, g2, h3]))
          clear hy hb'
          go_quiet (fail)
          clear hw1 hw2
          have G3 := Lib.hid (G2.out.drewN nq)
          go_wp2
          go_roundw
          case rel => exact ⟨s + 1 + 1, by go_num, by omega, HV, G3⟩
          case measure => simp [intOf]; omega
    · go_wp2
      go_ret
      have hV : vldB l = true := vldB_iff.2 fun j hj => hB.out j (by rw [HL.out] at hj; omega)
      exact ⟨by rw [hV]; rfl, hG.out⟩

set_option maxRecDepth 100000 in
set_option maxHeartbeats 1000000 in
theorem rvalid_any (w : World) (A : Option Addr) (n c : Nat) (l : List Lit) (hl : l.length = n) (hn : n ≤ maxLen) (hc : Cs w A l) :
    Calls Tryd.prog 15 #[.slice A n c] w fun e w' => e = .returned (.bool (vldB l)) ∧ Gr w w' := by
  unfold maxLen at hn
  have HL := Lib.hid hl
  have HC := Lib.hid hc
  clear hl hc
  go_enter Tryd.func15, Tryd.ntmps15
  go_wp2
  go_loopw [3] (fun i wr => ∃ t : Nat, i = .int .i64 t ∧ t ≤ n ∧ Hid (∀ j, j < t → bad l j = false) ∧ Hid (Gr w wr)) (fun i _ => n - (intOf i).toNat)
  case atStart => exact ⟨0, rfl, Nat.zero_le _, (fun j hj => by omega), Gr.refl w⟩
  case round =>
    obtain ⟨t, rfl, ht, hB, hG⟩ := hrel
    by_cases htn : t < n
    · obtain ⟨x, hx⟩ : ∃ x, l[t]? = some x := ⟨_, List.getElem?_eq_getElem (by rw [HL.out]; omega)⟩
      have hba := bad_at hx
      obtain ⟨ad, rfl, hb, d1, d2⟩ := HC.out.gr hG.out t x hx
      obtain ⟨x1, x2⟩ := x
      have G2 := hG
      have HVN : Hid (bad l t = true → vldB l = false) := fun h => vld_no (by rw [HL.out]; exact htn) h
      have HBA := Lib.hid hba
      have HNX : Hid (bad l t = false → ∀ j, j < t + 1 → bad l j = false) := fun h j hj => by
        by_cases e : j = t
        · rw [e]; exact h
        · exact hB.out j (by omega)
      clear hba hx hb
      go_wp2_with fail
      by_cases h1 : x1 < 0
      · go_quiet (fail)
        have HV := Lib.hid (HVN.out (by rw [HBA.out]; simp [h1]))
        go_wp2
        go_ret
        exact ⟨by rw [HV.out]; rfl, G2.out.drewN nq⟩
      by_cases h2 : 1024 ≤ x1
      · go_quiet (fail)
        have HV := Lib.hid (HVN.out (by rw [HBA.out]; simp [h2]))
        go_wp2
        go_ret
        exact ⟨by rw [HV.out]; rfl, G2.out.drewN nq⟩
      have g1 : ¬ x1 < 0 := h1
      have g2 : ¬ 1024 ≤ x1 := h2
      cases t with
      | zero =>
        rw [Nat.zero_mul, add_zero] at d1
        have HV := Lib.hid (HNX.out (by rw [HBA.out]; simp [g1, g2]))
        go_quiet (fail)
        have G3 := Lib.hid (G2.out.drewN nq)
        go_wp2
        go_roundw
        case rel => exact ⟨0 + 1, by go_num, by omega, HV, G3⟩
        case measure => simp [intOf]; omega
      | succ s =>
        obtain ⟨y, hy⟩ : ∃ y, l[s]? = some y := ⟨_, List.getElem?_eq_getElem (by rw [HL.out]; omega)⟩
        have hgy : Hid (l.getD (s + 1 - 1) (0, false) = y) := by rw [Nat.add_sub_cancel, List.getD_eq_getElem?_getD, hy]; exact rfl
        obtain ⟨ad', e', hb', k1, _⟩ := HC.out.gr G2.out s y hy
        cases e'
        obtain ⟨y1, y2⟩ := y
        have hw1 : IntKind.i64.wrap ((s : Int) + 1 - 1) = (s : Int) := by rw [IntWalk.i64_in _ (by omega)]; omega
        have hw2 : IntKind.i64.wrap (((s + 1 : Nat) : Int) - 1) = (s : Int) := by rw [IntWalk.i64_in _ (by omega)]; omega
        by_cases h3 : x1 ≤ y1
        · have HV := Lib.hid (HVN.out (by rw [HBA.out, hgy.out]; simp [h3]))
          clear hy hb'
          go_quiet (fail)
          clear hw1 hw2
          go_wp2
          go_ret
          exact ⟨by rw [HV.out]; rfl, G2.out.drewN nq⟩
        · have HV := Lib.hid (HNX.out (by rw [HBA.out, hgy.out]; simp [g1, g2, h3]))
          clear hy hb'
          go_quiet (fail)
          clear hw1 hw2
          have G3 := Lib.hid (G2.out.drewN nq)
          go_wp2
          go_roundw
          case rel => exact ⟨s + 1 + 1, by go_num, by omega, HV, G3⟩
          case measure => simp [intOf]; omega
    · go_wp2
      go_ret
      have hV : vldB l = true := vldB_iff.2 fun j hj => hB.out j (by rw [HL.out] at hj; omega)
      exact ⟨by rw [hV]; rfl, hG.out⟩
end Go.Proofs.YtgnlbmamolbcfaaDoor
