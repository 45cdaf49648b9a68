/- The reference's Holds. -/
import Derived.Test.YtgnlbmamolbcfaaDoorRefS
set_option linter.unusedVariables false
namespace Go.Proofs.YtgnlbmamolbcfaaDoor
open Go.RowKit Go.Shelf

attribute [local go_sem] Oper.semAt_some

theorem bit_all : ∀ k, k < 64 → ∀ u, u < 6 → (bits .and .i64 ((k : Nat) / 2 ^ (u % 32) : Int) 1 == 1) = k.testBit u := by decide +kernel
theorem holds_snoc {l : List Lit} {t k : Nat} {y : Lit} (h : l[t]? = some y) (hc : holds (l.take t) k = false) (hf : (k.testBit y.1.toNat == y.2) = false) : holds (l.take (t + 1)) k = false := by
  unfold holds at hc ⊢
  rw [List.take_add_one, h, List.any_append, hc]
  simp [hf]
theorem holds_yes {l : List Lit} {t k : Nat} {y : Lit} (h : l[t]? = some y) (hf : (k.testBit y.1.toNat == y.2) = true) : holds l k = true := List.any_eq_true.2 ⟨y, List.mem_of_getElem? h, hf⟩
set_option maxRecDepth 100000 in
set_option maxHeartbeats 1000000 in
theorem holds_any (w : World) (A : Option Addr) (n c : Nat) (l : List Lit) (k : Nat) (hk : k < 64) (hs : six l) (hl : l.length = n) (hn : n ≤ maxLen) (hc : Cs w A l) :
    Calls Tryd.prog 16 #[.slice A n c, .int .i64 k] w fun e w' => e = .returned (.bool (holds l k)) ∧ Gr w w' := by
  unfold maxLen at hn
  have HL := Lib.hid hl
  have HC := Lib.hid hc
  have HS := Lib.hid hs
  clear hl hc hs
  go_enter Tryd.func16, Tryd.ntmps16
  go_wp2
  go_loopw [5] (fun i wr => ∃ t : Nat, i = .int .i64 t ∧ t ≤ n ∧ Hid (holds (l.take t) k = false) ∧ Hid (Gr w wr)) (fun i _ => n - (intOf i).toNat)
  case atStart => exact ⟨0, rfl, Nat.zero_le _, rfl, Gr.refl w⟩
  case round =>
    obtain ⟨t, rfl, ht, hB, hG⟩ := hrel
    by_cases htn : t < n
    · obtain ⟨y, hy⟩ : ∃ y, l[t]? = some y := ⟨_, List.getElem?_eq_getElem (by rw [HL.out]; omega)⟩
      obtain ⟨ad, rfl, hb, d1, d2⟩ := HC.out.gr hG.out t y hy
      obtain ⟨h0, h6⟩ := HS.out y (List.mem_of_getElem? hy)
      have HY := Lib.hid hy
      obtain ⟨y1, y2⟩ := y
      obtain ⟨u, rfl⟩ : ∃ u : Nat, y1 = u := ⟨y1.toNat, by simp at h0; omega⟩
      simp only at h0 h6
      clear hy hb
      go_wp2_with fail
      go_quiet (fail)
      have G3 := Lib.hid (hG.out.drewN nq)
      have HBT := Lib.hid (bit_all k hk u (by omega))
      go_wp2
      · rename_i hcond
        have hf : (k.testBit u == y2) = true := by rw [← HBT.out]; exact hcond
        go_ret
        exact ⟨by rw [holds_yes HY.out (by simpa using hf)]; rfl, G3.out⟩
      · rename_i hcond
        have hf : (k.testBit u == y2) = false := by rw [← HBT.out]; exact hcond
        have HV := Lib.hid (holds_snoc HY.out hB.out (by simpa using hf))
        go_roundw
        case rel => exact ⟨t + 1, by go_num, by omega, HV, G3⟩
        case measure => simp [intOf]; omega
    · go_wp2
      go_ret
      have hV := hB.out
      rw [List.take_of_length_le (by rw [HL.out]; omega)] at hV
      exact ⟨by rw [hV]; rfl, hG.out⟩
end Go.Proofs.YtgnlbmamolbcfaaDoor
