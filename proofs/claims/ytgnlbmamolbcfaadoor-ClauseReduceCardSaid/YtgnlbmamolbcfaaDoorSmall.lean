/- small: all units of some clauses are less than 6. -/
import Derived.Test.YtgnlbmamolbcfaaDoorHolds
set_option linter.unusedVariables false
namespace Go.Proofs.YtgnlbmamolbcfaaDoor
open Go.RowKit Go.Shelf

attribute [local go_sem] Oper.semAt_some

def sixL (x : Lit) : Bool := decide (0 ≤ x.1) && decide (x.1 < 6)
def sixB (l : List Lit) : Bool := l.all sixL
theorem sixB_iff {l : List Lit} : sixB l = true ↔ six l := by simp [sixB, sixL, six]
/-- A clause in a slice value. -/
structure Cv where
  A : Option Addr
  n : Nat
  c : Nat
  l : List Lit
/-- The row at R begins with the clauses cs. -/
def Cls (w : World) (R : Option Addr) (cs : List Cv) : Prop := ∀ (i : Nat) (v : Cv), cs[i]? = some v → ∃ ad, R = some ad ∧ ad.block < w.heap.size ∧ w.cell? (ad.add i) = some (.slice v.A v.n v.c) ∧ v.l.length = v.n ∧ v.n ≤ maxLen ∧ Cs w v.A v.l
theorem Cls.gr {w w' : World} {R : Option Addr} {cs : List Cv} (h : Cls w R cs) (hG : Gr w w') : Cls w' R cs := fun i v hv => by
  obtain ⟨ad, rfl, hb, h1, h2, h3, h4⟩ := h i v hv
  have h9 : w'.heap[(ad.add i).block]? = w.heap[(ad.add i).block]? := hG.below.block _ (by rw [add_blk]; exact hb)
  exact ⟨ad, rfl, Nat.lt_of_lt_of_le hb hG.size, (World.cell?_of_block h9).trans h1, h2, h3, h4.gr hG⟩
def smB (cs : List Cv) : Bool := cs.all fun v => sixB v.l
theorem sm_snoc {cs : List Cv} {t : Nat} {v : Cv} (h : cs[t]? = some v) (hc : smB (cs.take t) = true) (hf : sixB v.l = true) : smB (cs.take (t + 1)) = true := by
  unfold smB at hc ⊢
  rw [List.take_add_one, h, List.all_append, hc]
  simp [hf]
theorem sm_no {cs : List Cv} {t : Nat} {v : Cv} (h : cs[t]? = some v) (hf : sixB v.l = false) : smB cs = false := by
  unfold smB
  rw [List.all_eq_false]
  exact ⟨v, List.mem_of_getElem? h, by simp [hf]⟩

set_option maxRecDepth 100000 in
set_option maxHeartbeats 1000000 in
theorem small_any (w : World) (R : Option Addr) (N C : Nat) (cs : List Cv) (hl : cs.length = N) (hN : N ≤ maxLen) (hc : Cls w R cs) :
    Calls Tryd.prog 14 #[.slice R N C] w fun e w' => e = .returned (.bool (smB cs)) ∧ Gr w w' := by
  unfold maxLen at hN
  have HL := Lib.hid hl
  have HC := Lib.hid hc
  clear hl hc
  go_enter Tryd.func14, Tryd.ntmps14
  go_wp2
  go_loopw [9] (fun i wr => ∃ t : Nat, i = .int .i64 t ∧ t ≤ N ∧ Hid (smB (cs.take t) = true) ∧ Hid (Gr w wr)) (fun i _ => N - (intOf i).toNat)
  case atStart => exact ⟨0, rfl, Nat.zero_le _, rfl, Gr.refl w⟩
  case round =>
    obtain ⟨t, rfl, ht, hB, hG⟩ := hrel
    by_cases htn : t < N
    · obtain ⟨v, hv⟩ : ∃ v, cs[t]? = some v := ⟨_, List.getElem?_eq_getElem (by rw [HL.out]; omega)⟩
      obtain ⟨ad, rfl, hb, d1, h2, h3, h4⟩ := HC.out.gr hG.out t v hv
      have HY : Hid (sixB v.l = true → smB (cs.take (t + 1)) = true) := fun h => sm_snoc hv hB.out h
      have HNo : Hid (sixB v.l = false → smB cs = false) := fun h => sm_no hv h
      obtain ⟨A, n, c, l⟩ := v
      simp only at *
      have HL2 := Lib.hid h2
      have HC2 := Lib.hid h4
      unfold maxLen at h3
      clear hv hb h2 h4
      go_wp2_with fail
      go_loopw [15] (fun i wx => ∃ s : Nat, i = .int .i64 s ∧ s ≤ n ∧ Hid ((l.take s).all sixL = true) ∧ Hid (Gr wr wx)) (fun i _ => n - (intOf i).toNat)
      case atStart => exact ⟨0, rfl, Nat.zero_le _, rfl, Gr.refl _⟩
      case round =>
        obtain ⟨s, rfl, hs, hA, hG2⟩ := hrel
        by_cases hsn : s < n
        · obtain ⟨y, hy⟩ : ∃ y, l[s]? = some y := ⟨_, List.getElem?_eq_getElem (by rw [HL2.out]; omega)⟩
          obtain ⟨ad2, rfl, hb, k1, k2⟩ := HC2.out.gr hG2.out s y hy
          have hyes : Hid (sixL y = true → (l.take (s + 1)).all sixL = true) := fun h => all_snoc hy hA.out h
          have hno : Hid (sixL y = false → sixB l = false) := fun h => all_no hy h
          obtain ⟨y1, y2⟩ := y
          have HG3 := Lib.hid (hG2.out.alloc (.cells #[.int .i64 y1, .bool y2] 38))
          have b2 := Bk.made wr 38 #[.int .i64 y1, .bool y2]
          clear hy hb
          by_cases h1 : y1 < 0
          · have h9 := Lib.hid (HNo.out (hno.out (by simp [sixL]; omega)))
            go_wp2
            go_ret
            exact ⟨by rw [h9.out]; rfl, hG.out.trans HG3.out⟩
          by_cases h2 : 6 ≤ y1
          · have h9 := Lib.hid (HNo.out (hno.out (by simp [sixL]; omega)))
            go_wp2
            go_ret
            exact ⟨by rw [h9.out]; rfl, hG.out.trans HG3.out⟩
          · have h9 := Lib.hid (hyes.out (by simp [sixL]; omega))
            go_wp2
            go_roundw
            case rel => exact ⟨s + 1, by go_num, by omega, h9, HG3⟩
            case measure => simp [intOf]; omega
        · have h9 : Hid (smB (cs.take (t + 1)) = true) := by
            have := hA.out
            rw [List.take_of_length_le (by rw [HL2.out]; omega)] at this
            exact HY.out this
          have HG3 := Lib.hid (hG.out.trans hG2.out)
          go_wp2
          go_roundw
          case rel => exact ⟨t + 1, by go_num, by omega, h9, HG3⟩
          case measure => simp [intOf]; omega
    · go_wp2
      go_ret
      have hV := hB.out
      rw [List.take_of_length_le (by rw [HL.out]; omega)] at hV
      exact ⟨by rw [hV]; rfl, hG.out⟩
end Go.Proofs.YtgnlbmamolbcfaaDoor
