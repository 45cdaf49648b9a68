/- The reference's insert and Make. -/
import Derived.Test.YtgnlbmamolbcfaaDoorRes
import Derived.Test.YtgnlbmamolbcfaaDoorMakeP
set_option linter.unusedVariables false
namespace Go.Proofs.YtgnlbmamolbcfaaDoor
open Go.RowKit Go.Shelf

attribute [local go_sem] Oper.semAt_some

theorem lc_arr (y : Lit) : ∀ u ∈ (#[Value.int .i64 y.1, .bool y.2] : Array Value).toList, u.oneCell' = true := by
  intro u hu
  simp at hu
  rcases hu with rfl | rfl <;> rfl
/-- A row gets one more literal, out of a new block. -/
theorem push1 {w' : World} {B m : Nat} {v' : Value} {o : List Lit} {y : Lit} (h : w'.ownsRow B 38 2 v' m (o.flatMap lc ++ (#[Value.int .i64 y.1, .bool y.2] : Array Value).toList)) : w'.ownsRow B 38 2 v' m ((o ++ [y]).flatMap lc) := by
  rw [List.flatMap_append]
  exact h
theorem insP_yes {x y : Lit} {r : List Lit} (h : x.1 < y.1) : insP x (y :: r) = x :: y :: r := by rw [insP, if_pos h]
theorem insP_no {x y : Lit} {r : List Lit} (h : ¬ x.1 < y.1) : insP x (y :: r) = y :: insP x r := by rw [insP, if_neg h]
theorem ins_has {l : List Lit} {x : Lit} (h : l.contains x = true) : ins l x = l := by rw [ins, if_pos h]
theorem ins_new {l : List Lit} {x : Lit} (h : l.contains x = false) : ins l x = insP x l := by rw [ins, if_neg (by rw [h]; decide)]

theorem own_keep {W w3 : World} {B n p : Nat} {v : Value} {xs : List Value} {cs : Array Value} (r : W.ownsRow B 38 2 v n xs) (F : Fr (fun b => v.ownBlock = some b) W w3) (hb : Bk W p 38 cs) (hp : p < B) : Bk w3 p 38 cs := F.bk hb fun e => by
  have := (rw_lt r p e).1
  omega

set_option maxRecDepth 100000 in
set_option maxHeartbeats 4000000 in
theorem insert_any (w : World) (B n : Nat) (v : Value) (l : List Lit) (x : Lit) (row : w.ownsRow B 38 2 v n (l.flatMap lc)) (hn : n ≤ 90000) (hB : B ≤ w.heap.size) :
    Calls Tryd.prog 47 #[v, .agg #[.int .i64 x.1, .bool x.2]] w fun e w' => ∃ v' m, e = .returned v' ∧ w'.ownsRow B 38 2 v' m ((ins l x).flatMap lc) ∧ Gr w w' := by
  obtain ⟨A, c, rfl⟩ := rw_form row
  obtain ⟨x1, x2⟩ := x
  have hl := row_len row
  have hc := Cs.own row
  have G1 := (Gr.refl w).alloc (.cells #[.int .i64 x1, .bool x2] 38)
  have HX := Lib.hid (has_any _ A n c l (x1, x2) hl (by unfold maxLen; omega) (hc.gr G1))
  have HG1 := Lib.hid G1
  have HB1 := Lib.hid (Bk.made w 38 #[.int .i64 x1, .bool x2])
  have HL := Lib.hid hl
  have HR := Lib.hid row
  have HC := Lib.hid hc
  have hsz : Hid ((w.alloc (.cells #[.int .i64 x1, .bool x2] 38)).heap.size = w.heap.size + 1) := World.size_alloc ..
  clear hl hc row G1
  simp only
  go_enter Tryd.func47, Tryd.ntmps47
  go_wp2_with fail
  refine HX.out.mono ?_
  rintro e w1 ⟨rfl, G1⟩
  have G2 := Lib.hid (HG1.out.trans G1)
  have B2 := Lib.hid (G1.fr.bk HB1.out id)
  have hs1 : w.heap.size + 1 ≤ w1.heap.size := by have := G1.size; rw [hsz.out] at this; exact this
  clear G1 HX HG1 HB1 hsz
  cases hh : l.contains (x1, x2)
  · have HN := Lib.hid (ins_new hh)
    clear hh
    have R0 : Hid (w1.ownsRow (w.heap.size + 1) 38 2 (.slice none 0 0) 0 (([] : List Lit).flatMap lc)) := ⟨rfl, .inl ⟨rfl, rfl⟩⟩
    have I0 : Hid (insP (x1, x2) l = [] ++ insP (x1, x2) (l.drop 0)) := rfl
    obtain ⟨p, hp⟩ : ∃ p, p = w.heap.size := ⟨_, rfl⟩
    rw [← hp] at B2
    have HP := Lib.hid hp
    have hp1 : p + 1 ≤ w1.heap.size := by omega
    rw [← hp]
    have q1 := (B2.out.cell 0).trans (show _ = some (Value.int .i64 x1) from rfl)
    have q2 := (B2.out.cell 1).trans (show _ = some (Value.bool x2) from rfl)
    clear hs1 hp
    go_wp2_with fail
    clear q1 q2
    go_loopw [5, 6, 7] (fun s5 s6 i wr => ∃ (t k : Nat) (dn : Bool) (o : List Lit), i = .int .i64 t ∧ s6 = .bool dn ∧ t ≤ n ∧ k ≤ t + 1 ∧ Hid (wr.ownsRow (w.heap.size + 1) 38 2 s5 k (o.flatMap lc)) ∧ Hid (insP (x1, x2) l = o ++ (if dn then l.drop t else insP (x1, x2) (l.drop t))) ∧ Hid (dn = false → k ≤ t) ∧ Hid (Gr w wr) ∧ Hid (Bk wr p 38 #[.int .i64 x1, .bool x2])) (fun _ _ i _ => n - (intOf i).toNat)
    case atStart => exact ⟨0, 0, false, [], rfl, rfl, Nat.zero_le _, Nat.zero_le _, R0, I0, fun _ => Nat.le_refl _, G2, B2⟩
    case round =>
      obtain ⟨t, k, dn, o, rfl, rfl, ht, hk, hR, hI, hD, hG, hQ⟩ := hrel
      have q1 := (hQ.out.cell 0).trans (show _ = some (Value.int .i64 x1) from rfl)
      have q2 := (hQ.out.cell 1).trans (show _ = some (Value.bool x2) from rfl)
      have hpl := hQ.out.lt
      by_cases htn : t < n
      · obtain ⟨y, hy⟩ : ∃ y, l[t]? = some y := ⟨_, List.getElem?_eq_getElem (by rw [HL.out]; omega)⟩
        obtain ⟨ad, rfl, hb, d1, d2⟩ := HC.out.gr hG.out t y hy
        have hd : l.drop t = y :: l.drop (t + 1) := by
          obtain ⟨h9, h8⟩ := List.getElem?_eq_some_iff.1 hy
          rw [List.drop_eq_getElem_cons h9, h8]
        have HD := Lib.hid hd
        obtain ⟨y1, y2⟩ := y
        have hRB : w.heap.size + 1 ≤ wr.heap.size := by have := HP.out; omega
        have HY := Lib.hid hy
        clear hy hb
        cases dn
        · have hk2 := hD.out rfl
          simp only at d1 d2
          by_cases h1 : x1 < y1
          · have hI2 : Hid (insP (x1, x2) l = ((o ++ [(x1, x2)]) ++ [(y1, y2)]) ++ l.drop (t + 1)) := by rw [hI.out, if_neg (by decide), HD.out, insP_yes h1]; simp; exact ⟨⟩
            go_wp2_with fail
            go_quiet (fail)
            have R9 := Lib.hid (rw_keep (w' := wr.drewN nq) hR.out fun _ _ => rfl)
            have G9 := Lib.hid (hG.out.drewN nq)
            have Q9 : Hid (Bk (wr.drewN nq) p 38 #[.int .i64 x1, .bool x2]) := hQ.out
            have R9B : w.heap.size + 1 ≤ (wr.drewN nq).heap.size := hRB
            clear q1 q2 d1 d2 hpl
            generalize wr.drewN nq = W9 at *
            have q1 := (Q9.out.cell 0).trans (show _ = some (Value.int .i64 x1) from rfl)
            have q2 := (Q9.out.cell 1).trans (show _ = some (Value.bool x2) from rfl)
            have hpl := Q9.out.lt
            go_wp2_with (first | (at_builtin; refine wpList_appS1 (w := W9) elemC rfl (.tmp 30) (.tmp 32) rfl (w.heap.size + 1) u5 k (o.flatMap lc) #[.int .i64 x1, .bool x2] rfl rfl rfl R9.out (lc_arr (x1, x2)) (by unfold maxLen; omega) (by omega) R9B ?_; intro r3 w3 hr3 hF3 _; have R3 := Lib.hid (push1 (y := (x1, x2)) hr3); have G3 := Lib.hid (gr_own G9.out R9.out (Nat.le_succ _) hF3); have Q3 := Lib.hid (own_keep R9.out hF3 Q9.out (by rw [HP.out]; exact Nat.lt_succ_self _)); have R3B : w.heap.size + 1 ≤ w3.heap.size := Nat.le_trans R9B hF3.size; clear hr3 hF3; clear q1 q2 hpl; obtain ⟨ad', e', hb', d1, d2⟩ := HC.out.gr G3.out t (y1, y2) HY.out; cases e'; simp only at d1 d2) | (at_builtin; refine wpList_appS1 (w := w3) elemC rfl (.tmp 34) (.tmp 39) rfl (w.heap.size + 1) r3 (k + 1) ((o ++ [(x1, x2)]).flatMap lc) #[.int .i64 y1, .bool y2] rfl rfl rfl R3.out (lc_arr (y1, y2)) (by unfold maxLen; omega) (by omega) R3B ?_; intro r4 w4 hr4 hF4 _))
            have R4 := Lib.hid (push1 (y := (y1, y2)) hr4)
            have G4 := Lib.hid (gr_own G3.out R3.out (Nat.le_succ _) hF4)
            have Q4 := Lib.hid (own_keep R3.out hF4 Q3.out (by rw [HP.out]; exact Nat.lt_succ_self _))
            have R4B : w.heap.size + 1 ≤ w4.heap.size := Nat.le_trans R3B hF4.size
            clear hr4 hF4
            go_roundw
            case rel => exact ⟨t + 1, k + 1 + 1, true, _, by go_num, rfl, by omega, by omega, R4, hI2, (fun h => by cases h), G4, Q4⟩
            case measure => simp [intOf]; omega
          · have hI2 : Hid (insP (x1, x2) l = (o ++ [(y1, y2)]) ++ insP (x1, x2) (l.drop (t + 1))) := by rw [hI.out, if_neg (by decide), HD.out, insP_no h1]; simp; exact ⟨⟩
            go_wp2_with fail
            go_quiet (fail)
            have R9 := Lib.hid (rw_keep (w' := wr.drewN nq) hR.out fun _ _ => rfl)
            have G9 := Lib.hid (hG.out.drewN nq)
            have Q9 : Hid (Bk (wr.drewN nq) p 38 #[.int .i64 x1, .bool x2]) := hQ.out
            have R9B : w.heap.size + 1 ≤ (wr.drewN nq).heap.size := hRB
            clear q1 q2 d1 d2 hpl
            generalize wr.drewN nq = W9 at *
            obtain ⟨ad', e', hb', d1, d2⟩ := HC.out.gr G9.out t (y1, y2) HY.out
            cases e'
            simp only at d1 d2
            go_wp2_with (at_builtin; refine wpList_appS1 (w := W9) elemC rfl (.tmp 34) (.tmp 39) rfl (w.heap.size + 1) u5 k (o.flatMap lc) #[.int .i64 y1, .bool y2] rfl rfl rfl R9.out (lc_arr (y1, y2)) (by unfold maxLen; omega) (by omega) R9B ?_; intro r4 w4 hr4 hF4 _)
            have R4 := Lib.hid (push1 (y := (y1, y2)) hr4)
            have G4 := Lib.hid (gr_own G9.out R9.out (Nat.le_succ _) hF4)
            have Q4 := Lib.hid (own_keep R9.out hF4 Q9.out (by rw [HP.out]; exact Nat.lt_succ_self _))
            have R4B : w.heap.size + 1 ≤ w4.heap.size := Nat.le_trans R9B hF4.size
            clear hr4 hF4
            go_roundw
            case rel => exact ⟨t + 1, k + 1, false, _, by go_num, rfl, by omega, by omega, R4, hI2, (fun _ => by omega), G4, Q4⟩
            case measure => simp [intOf]; omega
        · have hI2 : Hid (insP (x1, x2) l = (o ++ [(y1, y2)]) ++ l.drop (t + 1)) := by rw [hI.out, if_pos rfl, HD.out]; simp; exact ⟨⟩
          simp only at d1 d2
          go_wp2_with fail
          go_quiet (fail)
          have R9 := Lib.hid (rw_keep (w' := wr.drewN nq) hR.out fun _ _ => rfl)
          have G9 := Lib.hid (hG.out.drewN nq)
          have Q9 : Hid (Bk (wr.drewN nq) p 38 #[.int .i64 x1, .bool x2]) := hQ.out
          have R9B : w.heap.size + 1 ≤ (wr.drewN nq).heap.size := hRB
          clear q1 q2 d1 d2 hpl
          generalize wr.drewN nq = W9 at *
          obtain ⟨ad', e', hb', d1, d2⟩ := HC.out.gr G9.out t (y1, y2) HY.out
          cases e'
          simp only at d1 d2
          go_wp2_with (at_builtin; refine wpList_appS1 (w := W9) elemC rfl (.tmp 34) (.tmp 39) rfl (w.heap.size + 1) u5 k (o.flatMap lc) #[.int .i64 y1, .bool y2] rfl rfl rfl R9.out (lc_arr (y1, y2)) (by unfold maxLen; omega) (by omega) R9B ?_; intro r4 w4 hr4 hF4 _)
          have R4 := Lib.hid (push1 (y := (y1, y2)) hr4)
          have G4 := Lib.hid (gr_own G9.out R9.out (Nat.le_succ _) hF4)
          have Q4 := Lib.hid (own_keep R9.out hF4 Q9.out (by rw [HP.out]; exact Nat.lt_succ_self _))
          have R4B : w.heap.size + 1 ≤ w4.heap.size := Nat.le_trans R9B hF4.size
          clear hr4 hF4
          go_roundw
          case rel => exact ⟨t + 1, k + 1, true, _, by go_num, rfl, by omega, by omega, R4, hI2, (fun h => by cases h), G4, Q4⟩
          case measure => simp [intOf]; omega
      · have hRB : w.heap.size + 1 ≤ wr.heap.size := by have := HP.out; omega
        have hdr : Hid (l.drop t = []) := List.drop_of_length_le (by rw [HL.out]; omega)
        cases dn
        · have hI2 : Hid (ins l (x1, x2) = o ++ [(x1, x2)]) := by rw [HN.out, hI.out, if_neg (by decide), hdr.out]; exact rfl
          go_wp2_with (at_builtin; refine wpList_appS1 (w := wr) elemC rfl (.tmp 43) (.tmp 45) rfl (w.heap.size + 1) u5 k (o.flatMap lc) #[.int .i64 x1, .bool x2] rfl rfl rfl hR.out (lc_arr (x1, x2)) (by unfold maxLen; omega) (by omega) hRB ?_; intro r4 w4 hr4 hF4 _)
          have R4 := Lib.hid (push1 (y := (x1, x2)) hr4)
          have G4 := Lib.hid (gr_own hG.out hR.out (Nat.le_succ _) hF4)
          have Q4 := Lib.hid (own_keep hR.out hF4 hQ.out (by rw [HP.out]; exact Nat.lt_succ_self _))
          have R4B : w.heap.size + 1 ≤ w4.heap.size := Nat.le_trans hRB hF4.size
          clear hr4 hF4
          go_ret
          first
            | exact ⟨r4, _, rfl, by rw [hI2.out]; exact rw_base R4.out (by omega), G4.out⟩
            | exact ⟨_, rfl, ⟨_, by rw [hI2.out]; exact rw_base R4.out (by omega)⟩, G4.out⟩
        · have hI2 : Hid (ins l (x1, x2) = o) := by rw [HN.out, hI.out, if_pos rfl, hdr.out, List.append_nil]; exact rfl
          go_wp2
          go_ret
          first
            | exact ⟨_, _, rfl, by rw [hI2.out]; exact rw_base hR.out (by omega), hG.out⟩
            | exact ⟨_, rfl, ⟨_, by rw [hI2.out]; exact rw_base hR.out (by omega)⟩, hG.out⟩
  · have HN := Lib.hid (ins_has hh)
    clear hh
    go_wp2
    go_ret
    exact ⟨_, n, rfl, by rw [HN.out]; exact row_gr HR.out G2.out, G2.out⟩
end Go.Proofs.YtgnlbmamolbcfaaDoor
