/- The reference's Status. -/
import Derived.Test.YtgnlbmamolbcfaaDoorStatus
set_option linter.unusedVariables false
namespace Go.Proofs.YtgnlbmamolbcfaaDoor
open Go.RowKit Go.Shelf

attribute [local go_sem] Oper.semAt_some

set_option maxRecDepth 100000 in
set_option maxHeartbeats 2000000 in
theorem rvalue_any (w : World) (P : Option Addr) (m cm u : Nat) (y2 : Bool) (ph : List Int) (hm : ph.length = m) (hmn : m ≤ maxLen) (hp : Ps w P ph) :
    Calls Tryd.prog 38 #[.agg #[.int .i64 u, .bool y2], .slice P m cm] w fun e w' => e = .returned (.int .i64 (lval ph ((u : Int), y2))) ∧ Gr w w' := by
  have HM := Lib.hid hm
  have HP := Lib.hid hp
  unfold maxLen at hmn
  clear hm hp
  have HG3 := Lib.hid ((Gr.refl w).alloc (.cells #[.int .i64 u, .bool y2] 38))
  by_cases hum : u < m
  · obtain ⟨p, hp⟩ : ∃ p, ph[u]? = some p := ⟨_, List.getElem?_eq_getElem (by rw [HM.out]; omega)⟩
    obtain ⟨adp, rfl, dp⟩ := (HP.out.gr HG3.out).at hp
    have HPH : Hid (phs ph (u : Int) = p) := by unfold phs; rw [Int.toNat_natCast, List.getD_eq_getElem?_getD, hp]; exact rfl
    have hd : decide (m ≤ u) = false := by simp; omega
    have b3 := Bk.made w 38 #[.int .i64 u, .bool y2]
    have c31 : (w.alloc (.cells #[.int .i64 u, .bool y2] 38)).cell? ⟨w.heap.size, 0, none⟩ = some (.int .i64 u) := (b3.cell 0).trans rfl
    have c32 : (w.alloc (.cells #[.int .i64 u, .bool y2] 38)).cell? ⟨w.heap.size, 1, none⟩ = some (.bool y2) := (b3.cell 1).trans rfl
    clear hp b3
    by_cases hp1 : p = 1
    · subst hp1
      cases y2
      · have hlv : Hid (lval ph ((u : Int), false) = -1) := by unfold lval; rw [HPH.out]; exact rfl
        go_enter Tryd.func38, Tryd.ntmps38
        go_wp2
        go_quiet (fail)
        go_wp2
        go_ret
        exact ⟨by rw [hlv.out]; rfl, HG3.out.drewN nq⟩
      · have hlv : Hid (lval ph ((u : Int), true) = 1) := by unfold lval; rw [HPH.out]; exact rfl
        go_enter Tryd.func38, Tryd.ntmps38
        go_wp2
        go_quiet (fail)
        go_wp2
        go_ret
        exact ⟨by rw [hlv.out]; rfl, HG3.out.drewN nq⟩
    by_cases hp2 : p = 2
    · subst hp2
      cases y2
      · have hlv : Hid (lval ph ((u : Int), false) = 1) := by unfold lval; rw [HPH.out]; exact rfl
        go_enter Tryd.func38, Tryd.ntmps38
        go_wp2
        go_quiet (fail)
        go_wp2
        go_ret
        exact ⟨by rw [hlv.out]; rfl, HG3.out.drewN nq⟩
      · have hlv : Hid (lval ph ((u : Int), true) = -1) := by unfold lval; rw [HPH.out]; exact rfl
        go_enter Tryd.func38, Tryd.ntmps38
        go_wp2
        go_quiet (fail)
        go_wp2
        go_ret
        exact ⟨by rw [hlv.out]; rfl, HG3.out.drewN nq⟩
    have g1 : (p != 1) = true := by simpa using hp1
    have g2 : (p != 2) = true := by simpa using hp2
    have hlv : Hid (lval ph ((u : Int), y2) = 0) := by unfold lval; rw [HPH.out, if_neg (by omega)]; exact rfl
    go_enter Tryd.func38, Tryd.ntmps38
    go_wp2
    go_ret
    exact ⟨by rw [hlv.out]; rfl, HG3.out⟩
  · have HPH : Hid (phs ph (u : Int) = 0) := by unfold phs; rw [Int.toNat_natCast, List.getD_eq_getElem?_getD, List.getElem?_eq_none (by rw [HM.out]; omega)]; exact rfl
    have hlv : Hid (lval ph ((u : Int), y2) = 0) := by unfold lval; rw [HPH.out, if_neg (by omega)]; exact rfl
    have hd : decide (m ≤ u) = true := by simp; omega
    go_enter Tryd.func38, Tryd.ntmps38
    go_wp2
    go_ret
    exact ⟨by rw [hlv.out]; rfl, HG3.out⟩
theorem lval_cases (ph : List Int) (x : Lit) : lval ph x = 1 ∨ lval ph x = 0 ∨ lval ph x = -1 := by
  unfold lval
  split
  · split <;> simp
  · simp
/-- The two ways of counting the open literals. -/
def Cor (k : Nat) (a s o : Int) : Prop := (k = 0 ∧ s = 2 ∧ o = -1) ∨ (k = 1 ∧ s = 3 ∧ o = a) ∨ (2 ≤ k ∧ s = 4 ∧ o = -1)
theorem cor_open {ph : List Int} {l : List Lit} {y : Lit} {r : Int × Int} {t k : Nat} {a s o : Int} (hc : Cor k a s o) (h : r = stR ph (y :: l) t s o) (hv : lval ph y = 0) : ∃ s' o', Cor (k + 1) t s' o' ∧ r = stR ph l (t + 1) s' o' := by
  rw [stR, hv, if_neg (by decide), if_pos rfl] at h
  rcases hc with ⟨rfl, rfl, rfl⟩ | ⟨rfl, rfl, rfl⟩ | ⟨h1, rfl, rfl⟩
  · exact ⟨3, t, .inr (.inl ⟨rfl, rfl, rfl⟩), by rw [h, if_pos rfl]⟩
  · exact ⟨4, -1, .inr (.inr ⟨by omega, rfl, rfl⟩), by rw [h, if_neg (by decide)]⟩
  · exact ⟨4, -1, .inr (.inr ⟨by omega, rfl, rfl⟩), by rw [h, if_neg (by decide)]⟩
set_option maxRecDepth 100000 in
set_option maxHeartbeats 2000000 in
theorem rstatus_any (w : World) (A P : Option Addr) (n c m cm : Nat) (l : List Lit) (ph : List Int) (hl : l.length = n) (hn : n ≤ maxLen) (hc : Cs w A l) (hm : ph.length = m) (hmn : m ≤ maxLen) (hp : Ps w P ph) :
    Calls Tryd.prog 21 #[.slice A n c, .slice P m cm] w fun e w' => e = .returned (.tuple #[.int .i64 (statP ph l).1, .int .i64 (statP ph l).2]) ∧ Gr w w' := by
  have H1 := Lib.hid (rvalid_any w A n c l hl hn hc)
  have H2 : Hid (∀ (u : Nat) (y2 : Bool) (W : World), Gr w W → Calls Tryd.prog 38 #[.agg #[.int .i64 u, .bool y2], .slice P m cm] W fun e w' => e = .returned (.int .i64 (lval ph ((u : Int), y2))) ∧ Gr W w') := fun u y2 W hG => rvalue_any W P m cm u y2 ph hm hmn (hp.gr hG)
  have HL := Lib.hid hl
  have HC := Lib.hid hc
  unfold maxLen at hn
  clear hl hc hm hp hmn
  cases hv : vldB l
  · have HS : Hid (statP ph l = (0, -1)) := by unfold statP; rw [hv]; exact rfl
    rw [hv] at H1
    clear hv
    go_enter Tryd.func21, Tryd.ntmps21
    go_wp2_with fail
    refine H1.out.mono ?_
    rintro e w2 ⟨rfl, G2⟩
    replace G2 := Lib.hid G2
    go_wp2
    go_returns
    exact ⟨by rw [HS.out]; rfl, G2.out⟩
  · have HS : Hid (statP ph l = stR ph l 0 2 (-1)) := by unfold statP; rw [hv]; exact rfl
    have HV := Lib.hid (vldB_iff.1 hv)
    rw [hv] at H1
    clear hv
    go_enter Tryd.func21, Tryd.ntmps21
    go_wp2_with fail
    refine H1.out.mono ?_
    rintro e w2 ⟨rfl, G2⟩
    replace G2 := Lib.hid G2
    go_wp2_with fail
    go_loopw [6, 7, 8] (fun kv av i wr => ∃ (t k : Nat) (a s' o' : Int), i = .int .i64 t ∧ kv = .int .i64 k ∧ av = .int .i64 a ∧ t ≤ n ∧ k ≤ t ∧ Hid (Cor k a s' o') ∧ Hid (statP ph l = stR ph (l.drop t) t s' o') ∧ Hid (Gr w wr)) (fun _ _ i _ => n - (intOf i).toNat)
    case atStart => exact ⟨0, 0, -1, 2, -1, rfl, rfl, rfl, Nat.zero_le _, Nat.le_refl _, .inl ⟨rfl, rfl, rfl⟩, HS, G2⟩
    case round =>
      obtain ⟨t, k, a, s', o', rfl, rfl, rfl, ht, hkt, hcor, hB, hG⟩ := hrel
      by_cases htn : t < n
      · obtain ⟨y, hy⟩ : ∃ y, l[t]? = some y := ⟨_, List.getElem?_eq_getElem (by rw [HL.out]; omega)⟩
        obtain ⟨ad, rfl, hb, d1, d2⟩ := HC.out.gr hG.out t y hy
        obtain ⟨hy0, hy9⟩ := HV.out.range hy
        have hd : l.drop t = y :: l.drop (t + 1) := by
          obtain ⟨h9, h8⟩ := List.getElem?_eq_some_iff.1 hy
          rw [List.drop_eq_getElem_cons h9, h8]
        have hB' := hB.out
        rw [hd] at hB'
        have HB2 := Lib.hid hB'
        obtain ⟨y1, y2⟩ := y
        obtain ⟨u, rfl⟩ : ∃ u : Nat, y1 = u := ⟨y1.toNat, by simp at hy0; omega⟩
        have HCL := Lib.hid (H2.out u y2 wr hG.out)
        clear hy hb hd hB' hB
        go_wp2_with fail
        refine HCL.out.mono ?_
        rintro e w3 ⟨rfl, G3⟩
        have HG3 := Lib.hid (hG.out.trans G3)
        clear G3 HCL d1 d2
        rcases lval_cases ph ((u : Int), y2) with hv | hv | hv
        · have h9 : Hid (statP ph l = (1, -1)) := by rw [HB2.out, stR, hv]; exact rfl
          rw [hv]
          clear hv
          go_wp2
          go_returns
          exact ⟨by rw [h9.out]; rfl, HG3.out⟩
        · obtain ⟨s2, o2, hc2, h9⟩ := cor_open hcor.out HB2.out hv
          replace hc2 := Lib.hid hc2
          replace h9 := Lib.hid h9
          rw [hv]
          clear hv
          go_wp2
          go_roundw
          case rel => exact ⟨t + 1, k + 1, t, s2, o2, by go_num, by go_num, rfl, by omega, by omega, hc2, h9, HG3⟩
          case measure => simp [intOf]; omega
        · have h9 : Hid (statP ph l = stR ph (l.drop (t + 1)) (t + 1) s' o') := by rw [HB2.out, stR, hv]; exact rfl
          rw [hv]
          clear hv
          go_wp2
          go_roundw
          case rel => exact ⟨t + 1, k, a, s', o', by go_num, rfl, rfl, by omega, by omega, hcor, h9, HG3⟩
          case measure => simp [intOf]; omega
      · have h9 := hB.out
        rw [List.drop_of_length_le (by rw [HL.out]; omega), stR] at h9
        have H9 := Lib.hid h9
        clear h9 hB
        rcases hcor.out with ⟨rfl, rfl, rfl⟩ | ⟨rfl, rfl, rfl⟩ | ⟨h1, rfl, rfl⟩
        · go_wp2
          go_returns
          exact ⟨by rw [H9.out]; rfl, hG.out⟩
        · go_wp2
          go_returns
          exact ⟨by rw [H9.out]; rfl, hG.out⟩
        · have e0 : ((k : Int) == 0) = false := by simp; omega
          have e1 : ((k : Int) == 1) = false := by simp; omega
          go_wp2
          go_returns
          exact ⟨by rw [H9.out]; rfl, hG.out⟩
end Go.Proofs.YtgnlbmamolbcfaaDoor
