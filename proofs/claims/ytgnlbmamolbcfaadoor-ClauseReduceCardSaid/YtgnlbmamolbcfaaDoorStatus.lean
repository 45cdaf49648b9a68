/- Status. -/
import Derived.Test.YtgnlbmamolbcfaaDoorSmall
set_option linter.unusedVariables false
namespace Go.Proofs.YtgnlbmamolbcfaaDoor
open Go.RowKit Go.Shelf

attribute [local go_sem] Oper.semAt_some

/-- The phase of a unit. -/
def phs (ph : List Int) (u : Int) : Int := ph.getD u.toNat 0
/-- 1: true, 0: open, -1: false. -/
def lval (ph : List Int) (x : Lit) : Int := if phs ph x.1 = 1 ∨ phs ph x.1 = 2 then (if decide (phs ph x.1 = 1) = x.2 then 1 else -1) else 0
def stR (ph : List Int) : List Lit → Nat → Int → Int → Int × Int
  | [], _, s, o => (s, o)
  | x :: l, i, s, o => if lval ph x = 1 then (1, -1) else if lval ph x = 0 then (if s = 2 then stR ph l (i + 1) 3 i else stR ph l (i + 1) 4 (-1)) else stR ph l (i + 1) s o
def statP (ph : List Int) (l : List Lit) : Int × Int := if vldB l then stR ph l 0 2 (-1) else (0, -1)
/-- The row at A begins with the numbers ph. -/
def Ps (w : World) (A : Option Addr) (ph : List Int) : Prop := Sees w w.heap.size A (ph.map (Value.int .i64))
theorem Ps.gr {w w' : World} {A : Option Addr} {ph : List Int} (h : Ps w A ph) (hG : Gr w w') : Ps w' A ph := Sees.go h hG.below
theorem Ps.at {w : World} {A : Option Addr} {ph : List Int} (h : Ps w A ph) {i : Nat} {p : Int} (hp : ph[i]? = some p) : ∃ ad, A = some ad ∧ w.cell? (ad.add i) = some (.int .i64 p) := by
  obtain ⟨ad, h1, _, h2⟩ := h i (.int .i64 p) (by rw [List.getElem?_map, hp]; rfl)
  exact ⟨ad, h1, h2⟩

set_option maxRecDepth 100000 in
set_option maxHeartbeats 2000000 in
theorem status_any (w : World) (A P : Option Addr) (n c m cm : Nat) (l : List Lit) (ph : List Int) (hl : l.length = n) (hn : n ≤ maxLen) (hc : Cs w A l) (hm : ph.length = m) (hmn : m ≤ maxLen) (hp : Ps w P ph) :
    Calls Tryd.prog 20 #[.slice A n c, .slice P m cm] w fun e w' => e = .returned (.tuple #[.int .i64 (statP ph l).1, .int .i64 (statP ph l).2]) ∧ Gr w w' := by
  have H1 := Lib.hid (valid_any w A n c l hl hn hc)
  have HL := Lib.hid hl
  have HC := Lib.hid hc
  have HM := Lib.hid hm
  have HP := Lib.hid hp
  unfold maxLen at hn hmn
  clear hl hc hm hp
  cases hv : vldB l
  · have HS : Hid (statP ph l = (0, -1)) := by unfold statP; rw [hv]; exact rfl
    rw [hv] at H1
    clear hv
    go_enter Tryd.func20, Tryd.ntmps20
    go_wp2_with fail
    refine H1.out.mono ?_
    rintro e w2 ⟨rfl, G2⟩
    replace G2 := Lib.hid G2
    go_wp2
    go_returns
    exact ⟨by rw [HS.out]; rfl, G2.out⟩
  · have HS : Hid (statP ph l = stR ph l 0 2 (-1)) := by unfold statP; rw [hv]; exact rfl
    have HV := Lib.hid (vldB_iff.1 hv)
    rw [hv] at H1
    clear hv
    go_enter Tryd.func20, Tryd.ntmps20
    go_wp2_with fail
    refine H1.out.mono ?_
    rintro e w2 ⟨rfl, G2⟩
    replace G2 := Lib.hid G2
    go_wp2_with fail
    go_loopw [4, 5, 14] (fun s o i wr => ∃ (t : Nat) (s' o' : Int), i = .int .i64 t ∧ s = .int .i64 s' ∧ o = .int .i64 o' ∧ t ≤ n ∧ Hid (statP ph l = stR ph (l.drop t) t s' o') ∧ Hid (Gr w wr)) (fun _ _ i _ => n - (intOf i).toNat)
    case atStart => exact ⟨0, 2, -1, rfl, rfl, rfl, Nat.zero_le _, HS, G2⟩
    case round =>
      obtain ⟨t, s', o', rfl, rfl, rfl, ht, hB, hG⟩ := hrel
      by_cases htn : t < n
      · obtain ⟨y, hy⟩ : ∃ y, l[t]? = some y := ⟨_, List.getElem?_eq_getElem (by rw [HL.out]; omega)⟩
        obtain ⟨ad, rfl, hb, d1, d2⟩ := HC.out.gr hG.out t y hy
        obtain ⟨hy0, hy9⟩ := HV.out.range hy
        have hd : l.drop t = y :: l.drop (t + 1) := by
          obtain ⟨h9, h8⟩ := List.getElem?_eq_some_iff.1 hy
          rw [List.drop_eq_getElem_cons h9, h8]
        have hB' := hB.out
        rw [hd, stR] at hB'
        have HB2 := Lib.hid hB'
        obtain ⟨y1, y2⟩ := y
        obtain ⟨u, rfl⟩ : ∃ u : Nat, y1 = u := ⟨y1.toNat, by simp at hy0; omega⟩
        have HG3 := Lib.hid (hG.out.alloc (.cells #[.int .i64 u, .bool y2] 38))
        have b3 := Bk.made wr 38 #[.int .i64 u, .bool y2]
        clear hy hb hd hB' hB
        by_cases hum : u < m
        · obtain ⟨p, hp⟩ : ∃ p, ph[u]? = some p := ⟨_, List.getElem?_eq_getElem (by rw [HM.out]; omega)⟩
          obtain ⟨adp, rfl, dp⟩ := (HP.out.gr HG3.out).at hp
          have HPH : Hid (phs ph (u : Int) = p) := by unfold phs; rw [Int.toNat_natCast, List.getD_eq_getElem?_getD, hp]; exact rfl
          clear hp
          by_cases hp1 : p = 1
          · subst hp1
            cases y2
            · have hlv : Hid (lval ph ((u : Int), false) = -1) := by unfold lval; rw [HPH.out]; exact rfl
              have h9 : Hid (statP ph l = stR ph (l.drop (t + 1)) (t + 1) s' o') := by rw [HB2.out, hlv.out]; exact rfl
              go_wp2
              go_roundw
              case rel => exact ⟨t + 1, s', o', by go_num, rfl, rfl, by omega, h9, HG3⟩
              case measure => simp [intOf]; omega
            · have hlv : Hid (lval ph ((u : Int), true) = 1) := by unfold lval; rw [HPH.out]; exact rfl
              have h9 : Hid (statP ph l = (1, -1)) := by rw [HB2.out, hlv.out]; exact rfl
              go_wp2
              go_returns
              exact ⟨by rw [h9.out]; rfl, HG3.out⟩
          by_cases hp2 : p = 2
          · subst hp2
            cases y2
            · have hlv : Hid (lval ph ((u : Int), false) = 1) := by unfold lval; rw [HPH.out]; exact rfl
              have h9 : Hid (statP ph l = (1, -1)) := by rw [HB2.out, hlv.out]; exact rfl
              go_wp2
              go_returns
              exact ⟨by rw [h9.out]; rfl, HG3.out⟩
            · have hlv : Hid (lval ph ((u : Int), true) = -1) := by unfold lval; rw [HPH.out]; exact rfl
              have h9 : Hid (statP ph l = stR ph (l.drop (t + 1)) (t + 1) s' o') := by rw [HB2.out, hlv.out]; exact rfl
              go_wp2
              go_roundw
              case rel => exact ⟨t + 1, s', o', by go_num, rfl, rfl, by omega, h9, HG3⟩
              case measure => simp [intOf]; omega
          have g1 : (p != 1) = true := by simpa using hp1
          have g2 : (p != 2) = true := by simpa using hp2
          have g3 : (p == 1) = false := by simpa using hp1
          · have hlv : Hid (lval ph ((u : Int), y2) = 0) := by unfold lval; rw [HPH.out, if_neg (by omega)]; exact rfl
            by_cases hs2 : s' = 2
            · subst hs2
              have h9 : Hid (statP ph l = stR ph (l.drop (t + 1)) (t + 1) 3 t) := by rw [HB2.out, hlv.out]; exact rfl
              go_wp2
              go_roundw
              case rel => exact ⟨t + 1, 3, t, by go_num, rfl, rfl, by omega, h9, HG3⟩
              case measure => simp [intOf]; omega
            · have h9 : Hid (statP ph l = stR ph (l.drop (t + 1)) (t + 1) 4 (-1)) := by rw [HB2.out, hlv.out, if_neg (by decide), if_pos rfl, if_neg hs2]; exact rfl
              have hs2' : (s' == 2) = false := by simpa using hs2
              go_wp2
              go_roundw
              case rel => exact ⟨t + 1, 4, -1, by go_num, rfl, rfl, by omega, h9, HG3⟩
              case measure => simp [intOf]; omega
        · obtain ⟨p, hp⟩ : ∃ p : Int, p = 0 := ⟨_, rfl⟩
          have HPH : Hid (phs ph (u : Int) = 0) := by unfold phs; rw [Int.toNat_natCast, List.getD_eq_getElem?_getD, List.getElem?_eq_none (by rw [HM.out]; omega)]; exact rfl
          clear hp
          · have hlv : Hid (lval ph ((u : Int), y2) = 0) := by unfold lval; rw [HPH.out, if_neg (by omega)]; exact rfl
            by_cases hs2 : s' = 2
            · subst hs2
              have h9 : Hid (statP ph l = stR ph (l.drop (t + 1)) (t + 1) 3 t) := by rw [HB2.out, hlv.out]; exact rfl
              go_wp2
              go_roundw
              case rel => exact ⟨t + 1, 3, t, by go_num, rfl, rfl, by omega, h9, HG3⟩
              case measure => simp [intOf]; omega
            · have h9 : Hid (statP ph l = stR ph (l.drop (t + 1)) (t + 1) 4 (-1)) := by rw [HB2.out, hlv.out, if_neg (by decide), if_pos rfl, if_neg hs2]; exact rfl
              have hs2' : (s' == 2) = false := by simpa using hs2
              go_wp2
              go_roundw
              case rel => exact ⟨t + 1, 4, -1, by go_num, rfl, rfl, by omega, h9, HG3⟩
              case measure => simp [intOf]; omega
      · go_wp2
        go_returns
        have h9 := hB.out
        rw [List.drop_of_length_le (by rw [HL.out]; omega), stR] at h9
        exact ⟨by rw [h9]; rfl, hG.out⟩
end Go.Proofs.YtgnlbmamolbcfaaDoor
