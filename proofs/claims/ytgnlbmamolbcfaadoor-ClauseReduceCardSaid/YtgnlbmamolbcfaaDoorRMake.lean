/- The reference's Make. -/
import Derived.Test.YtgnlbmamolbcfaaDoorIns
set_option linter.unusedVariables false
namespace Go.Proofs.YtgnlbmamolbcfaaDoor
open Go.RowKit Go.Shelf

attribute [local go_sem] Oper.semAt_some

theorem insP_len (x : Lit) : ∀ l : List Lit, (insP x l).length = l.length + 1
  | [] => rfl
  | y :: r => by
    unfold insP
    split
    · rfl
    · rw [List.length_cons, insP_len x r]; rfl
theorem ins_len (l : List Lit) (x : Lit) : (ins l x).length ≤ l.length + 1 := by
  unfold ins
  split
  · omega
  · rw [insP_len]; exact Nat.le_refl _
theorem fold_snoc {l : List Lit} {t : Nat} {y : Lit} (h : l[t]? = some y) : mkR (l.take (t + 1)) = ins (mkR (l.take t)) y := by
  rw [mkR, List.take_add_one, h, Option.toList_some, List.foldl_append]
  rfl
theorem row_up {w w' : World} {B n : Nat} {v : Value} {xs : List Value} (h : w.ownsRow B 38 2 v n xs) (k : Gr w w') : w'.ownsRow B 38 2 v n xs := row_gr h k

set_option maxRecDepth 100000 in
set_option maxHeartbeats 4000000 in
theorem rmake_any (w : World) (A : Option Addr) (n c : Nat) (l : List Lit) (hl : l.length = n) (hn : n ≤ 80000) (hc : Cs w A l) :
    Calls Tryd.prog 25 #[.slice A n c] w fun e w' => ∃ v' m, e = .returned (.tuple #[v', .bool (vldB (mkR l))]) ∧ w'.ownsRow w.heap.size 38 2 v' m ((mkV l).flatMap lc) ∧ Gr w w' := by
  have HL := Lib.hid hl
  have HC := Lib.hid hc
  clear hl hc
  have R0 : Hid (w.ownsRow w.heap.size 38 2 (.slice none 0 0) 0 ((mkR (l.take 0)).flatMap lc)) := ⟨rfl, .inl ⟨rfl, rfl⟩⟩
  go_enter Tryd.func25, Tryd.ntmps25
  go_wp2
  go_loopw [4, 5] (fun s4 i wr => ∃ (t k : Nat), i = .int .i64 t ∧ t ≤ n ∧ k ≤ t ∧ Hid (wr.ownsRow w.heap.size 38 2 s4 k ((mkR (l.take t)).flatMap lc)) ∧ Hid (Gr w wr)) (fun _ i _ => n - (intOf i).toNat)
  case atStart => exact ⟨0, 0, rfl, Nat.zero_le _, Nat.le_refl _, R0, Gr.refl w⟩
  case round =>
    obtain ⟨t, k, rfl, ht, hk, hR, hG⟩ := hrel
    by_cases htn : t < n
    · obtain ⟨y, hy⟩ : ∃ y, l[t]? = some y := ⟨_, List.getElem?_eq_getElem (by rw [HL.out]; omega)⟩
      obtain ⟨ad, rfl, hb, d1, d2⟩ := HC.out.gr hG.out t y hy
      have HCL := Lib.hid (insert_any wr w.heap.size k u4 _ y hR.out (by omega) hG.out.size)
      have HF := Lib.hid (fold_snoc hy)
      have HK := Lib.hid (row_len hR.out)
      obtain ⟨y1, y2⟩ := y
      clear hy hb
      simp only at *
      go_wp2_with fail
      refine HCL.out.mono ?_
      rintro e w2 ⟨v2, m2, rfl, r2, G2⟩
      have HR2 := Lib.hid r2
      have HG2 := Lib.hid (hG.out.trans G2)
      have hm2 : m2 ≤ t + 1 := by
        have h1 := row_len r2
        have h2 := ins_len (mkR (l.take t)) (y1, y2)
        rw [HK.out] at h2
        omega
      clear r2 G2 HCL
      rw [← HF.out] at HR2
      go_wp2
      go_roundw
      case rel => exact ⟨t + 1, m2, by go_num, by omega, hm2, HR2, HG2⟩
      case measure => simp [intOf]; omega
    · have htt : Hid (l.take t = l) := List.take_of_length_le (by rw [HL.out]; omega)
      rw [htt.out] at hR
      obtain ⟨A4, c4, hv4⟩ := rw_form hR.out
      rw [hv4] at hR
      have HX := Lib.hid (rvalid_any wr A4 k c4 (mkR l) (row_len hR.out) (by unfold maxLen; omega) (Cs.own hR.out))
      subst hv4
      go_wp2_with fail
      refine HX.out.mono ?_
      rintro e w2 ⟨rfl, G2⟩
      have HG2 := Lib.hid (hG.out.trans G2)
      have HR2 := Lib.hid (row_gr hR.out G2)
      clear G2 HX
      cases hv : vldB (mkR l)
      · have HV := Lib.hid hv
        have hmv : Hid (mkV l = []) := by unfold mkV; rw [hv]; exact rfl
        clear hv
        go_wp2
        go_returns
        exact ⟨_, 0, by rw [HV.out]; rfl, by rw [hmv.out]; exact ⟨rfl, .inl ⟨rfl, rfl⟩⟩, HG2.out⟩
      · have HV := Lib.hid hv
        have hmv : Hid (mkV l = mkR l) := by unfold mkV; rw [hv, if_pos rfl]; exact rfl
        clear hv
        go_wp2
        go_returns
        exact ⟨_, k, by rw [HV.out]; rfl, by rw [hmv.out]; exact HR2.out, HG2.out⟩
end Go.Proofs.YtgnlbmamolbcfaaDoor
