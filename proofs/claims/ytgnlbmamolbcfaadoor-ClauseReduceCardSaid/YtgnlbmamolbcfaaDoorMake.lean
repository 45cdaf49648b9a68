/- Make. -/
import Derived.Test.YtgnlbmamolbcfaaDoorDel
import Derived.Test.YtgnlbmamolbcfaaDoorSortU
set_option linter.unusedVariables false
namespace Go.Proofs.YtgnlbmamolbcfaaDoor
open Go.RowKit Go.Shelf

attribute [local go_sem] Oper.semAt_some

theorem row_len {w : World} {B n : Nat} {v : Value} {l : List Lit} (h : w.ownsRow B 38 2 v n (l.flatMap lc)) : l.length = n := by
  have := h.1
  rw [flat_len (k := 2) (fun _ => rfl)] at this
  omega
theorem row_gr {w w' : World} {B n : Nat} {v : Value} {xs : List Value} (h : w.ownsRow B 38 2 v n xs) (k : Gr w w') : w'.ownsRow B 38 2 v n xs := rw_keep h fun b e => k.fr.keep b (rw_lt h b e).2 id
theorem gr_own {w0 w w' : World} {B n : Nat} {v : Value} {xs : List Value} (h : Gr w0 w) (r : w.ownsRow B 38 2 v n xs) (hB : w0.heap.size ≤ B) (k : Fr (fun b => v.ownBlock = some b) w w') : Gr w0 w' := h.step k fun b _ e => Nat.le_trans hB (rw_lt r b e).1
set_option maxRecDepth 100000 in
set_option maxHeartbeats 1000000 in
theorem make_any (w : World) (A : Option Addr) (n c : Nat) (l : List Lit) (hA : A = none → n = 0 ∧ c = 0) (hl : l.length = n) (hn : n ≤ 100000) (hc : Cs w A l) :
    Calls Tryd.prog 24 #[.slice A n c] w fun e w' => ∃ v' m, e = .returned (.tuple #[v', .bool (vldB (mkR l))]) ∧ w'.ownsRow w.heap.size 38 2 v' m ((mkV l).flatMap lc) ∧ Gr w w' := by
  have H1 := Lib.hid (clone42 w A n c l hA hl hn hc)
  clear hA hl hc
  go_enter Tryd.func24, Tryd.ntmps24
  go_wp2_with fail
  refine H1.out.mono ?_
  rintro e w1 ⟨v1, rfl, r1, G1⟩
  have hl1 := row_len r1
  have H2 := Lib.hid (sortU w1 _ n v1 l r1 hl1 hn)
  have HG1 := Lib.hid G1
  have HR1 := Lib.hid r1
  clear r1 G1 H1
  go_wp2_with fail
  refine H2.out.mono ?_
  rintro e w2 ⟨rfl, l', hp, ha, r2, F2⟩
  have HG2 := Lib.hid (gr_own HG1.out HR1.out (Nat.le_refl _) F2)
  have H3 := Lib.hid (compact_any w2 _ n v1 l' r2 hn)
  have HR2 := Lib.hid r2
  have HM := Lib.hid (cpt_mk hp ha)
  clear r2 F2 hp ha H2
  go_wp2_with fail
  refine H3.out.mono ?_
  rintro e w3 ⟨v3, m, rfl, r3, F3⟩
  have HG3 := Lib.hid (gr_own HG2.out HR2.out (Nat.le_refl _) F3)
  have HR3 := Lib.hid r3
  obtain ⟨A3, c3, rfl⟩ := rw_form r3
  have hlm : m ≤ n := by
    have h1 := row_len r3
    have h2 := cptU_le l' l'.length
    have h3 := row_len HR2.out
    unfold cpt at h1
    omega
  have H4 := Lib.hid (valid_any w3 A3 m c3 (cpt l') (row_len r3) (by unfold maxLen; omega) (Cs.own r3))
  clear r3 F3 H3
  go_wp2_with fail
  refine H4.out.mono ?_
  rintro e w4 ⟨rfl, G4⟩
  have HG4 := Lib.hid (HG3.out.trans G4)
  have HR4 := Lib.hid (row_gr HR3.out G4)
  clear G4 H4
  cases hv : vldB (mkR l)
  · have hvc : Hid (vldB (cpt l') = false) := HM.out.1.trans hv
    have hmv : Hid (mkV l = []) := by unfold mkV; rw [hv]; exact rfl
    rw [hvc.out]
    have HV := Lib.hid hv
    clear hv
    go_wp2
    go_returns
    exact ⟨_, 0, by rw [HV.out]; rfl, by rw [hmv.out]; exact ⟨rfl, .inl ⟨rfl, rfl⟩⟩, HG4.out⟩
  · have hvc : Hid (vldB (cpt l') = true) := HM.out.1.trans hv
    have hmv : Hid (mkV l = cpt l') := by unfold mkV; rw [hv, if_pos rfl, HM.out.2 hv]; exact rfl
    rw [hvc.out]
    have HV := Lib.hid hv
    clear hv
    go_wp2
    go_returns
    exact ⟨_, m, by rw [HV.out]; rfl, by rw [hmv.out]; exact HR4.out, HG4.out⟩
end Go.Proofs.YtgnlbmamolbcfaaDoor
