/- Push of the reference. -/
import Derived.Test.YtnepkpcoglfejaaRef
set_option linter.unusedVariables false
namespace Go.Proofs.Ytnepkpcoglfejaa
open Go.RowKit Go.Sort Go.Shelf

attribute [local go_sem] Oper.semAt_some

theorem Rp.drewN {w : World} {A : Option Addr} {l : List (Int × Int)} {q : Nat} {x : Int × Int} {o : List (Int × Int)} {v : Value} {W : World} (h : Rp w A l q x o v W) (n : Nat) : Rp w A l q x o v (W.drewN n) :=
  ⟨rw_keep h.row fun _ _ => rfl, h.bx, h.rf.no (Fr.drewN _ _ _), h.gr.no (Fr.drewN _ _ _), h.hq, h.d, h.hA⟩

set_option maxRecDepth 100000 in
set_option maxHeartbeats 1000000 in
theorem rpush_any (w : World) (A : Option Addr) (n c : Nat) (l : List (Int × Int)) (x : Int × Int) (hl : l.length = n) (hn : n ≤ 1000) (hR : Rf w A l) :
    Calls Try.prog 21 #[.slice A n c, .agg #[.int .i64 x.1, .int .i64 x.2]] w fun e w' => ∃ v, e = .returned v ∧ w'.ownsRow w.heap.size 27 2 v (n + 1) ((insK x l).flatMap itC) ∧ Gr w w' := by
  obtain ⟨x1, x2⟩ := x
  have h0 : Rp w A l w.heap.size (x1, x2) [] (.slice none 0 0) (w.alloc (.cells #[.int .i64 x1, .int .i64 x2] 27)) :=
    ⟨⟨rfl, .inl ⟨rfl, rfl⟩⟩, Bk.made _ _ _, hR.no (Fr.alloc _ _ _), (Gr.refl w).alloc _, Nat.le_refl _, by simp [Value.ownBlock], fun ad e hne => by
      obtain ⟨y, l', rfl⟩ := List.exists_cons_of_ne_nil hne
      obtain ⟨ad', cs, h1, h2, _⟩ := hR 0 y rfl
      rw [e] at h1
      cases h1
      exact h2.lt⟩
  have HL := Lib.hid hl
  have H0 := Lib.hid h0
  clear h0 hR hl
  simp only
  go_enter Try.func21, Try.ntmps21
  go_wp2_with fail
  generalize hq : w.heap.size = q at *
  go_loopw [5, 6, 7] (fun v d i wr => ∃ t : Nat, i = .int .i64 t ∧ t ≤ n ∧ d = .bool (rfold (x1, x2) l t).2 ∧ Hid (Rp w A l q (x1, x2) (rfold (x1, x2) l t).1 v wr)) (fun _ _ i _ => n - (intOf i).toNat)
  case atStart => exact ⟨0, rfl, Nat.zero_le _, rfl, H0⟩
  case round =>
    obtain ⟨t, rfl, ht, rfl, hP⟩ := hrel
    have hfl := rfold_len (x1, x2) l t (by rw [HL.out]; exact ht)
    by_cases htn : t < n
    · obtain ⟨y, hy⟩ : ∃ y, l[t]? = some y := ⟨_, List.getElem?_eq_getElem (by rw [HL.out]; omega)⟩
      have hsu := rfold_succ (x := (x1, x2)) hy
      obtain ⟨ad, cs, rfl, hb, cy1, cy2⟩ := hP.out.rf t y hy
      obtain ⟨y1, y2⟩ := y
      have cx1 : wr.cell? ⟨q, 0, none⟩ = some (.int .i64 x1) := (hP.out.bx.cell 0).trans rfl
      have cx2 : wr.cell? ⟨q, 1, none⟩ = some (.int .i64 x2) := (hP.out.bx.cell 1).trans rfl
      have hql : q < wr.heap.size := hP.out.bx.lt
      have hal : ad.block < wr.heap.size := hb.lt
      have hal' : (ad.add (t * 2)).block < wr.heap.size := by rw [add_blk]; exact hal
      have hwr : q ≤ wr.heap.size := Nat.le_of_lt hql
      generalize hr : rfold (x1, x2) l t = r at *
      obtain ⟨o, d⟩ := r
      simp only at hP hfl
      have hol : o.length ≤ n + 1 := by split at hfl <;> omega
      clear hr hb
      have HY := Lib.hid hy
      have HSU := Lib.hid hsu
      clear hy hsu hfl
      cases d
      · by_cases hlt : x1 < y1
        · go_wp2_with fail
          go_quiet (fail)
          have hP' := hP.out.drewN nq
          have HP' := Lib.hid hP'
          have HRO := Lib.hid hP'.row
          rw [hq] at HRO
          have hB' : q ≤ (wr.drewN nq).heap.size := hwr
          clear hP' hP
          generalize hol' : o.length = ol at *
          have HOL := Lib.hid hol'
          clear hol'
          go_wp2_with (first
            | (at_builtin; refine wpList_appS1 (w := wr.drewN nq) elemR rfl (.tmp 26) (.tmp 28) rfl q u5 ol (o.flatMap itC) #[.int .i64 x1, .int .i64 x2] rfl rfl rfl HRO.out (by intro u hu; simp at hu; rcases hu with rfl | rfl <;> rfl) (by unfold maxLen; omega) (by omega) hB' ?_; intro v9 w9 hr9 hF9 ho9; have P9 := HP'.out.app (y := (x1, x2)) (by rw [hq, HOL.out]; exact hr9) hF9 ho9; have R9 : Rf w9 (some ad) l := P9.rf; obtain ⟨_, _, e9, hb9, c91, c92⟩ := R9 t _ HY.out; cases e9; have hz9 : q ≤ w9.heap.size := Nat.le_of_lt P9.bx.lt; have hP9 := Lib.hid P9; have HRO9 := Lib.hid hP9.out.row; rw [hq, List.length_append, HOL.out] at HRO9; clear hr9 hF9 ho9 P9 R9 hb9)
            | (at_builtin; refine wpList_appS1 (w := w9) elemR rfl (.tmp 30) (.tmp 35) rfl q v9 (ol + 1) ((o ++ [(x1, x2)]).flatMap itC) #[.int .i64 y1, .int .i64 y2] rfl rfl rfl HRO9.out (by intro u hu; simp at hu; rcases hu with rfl | rfl <;> rfl) (by unfold maxLen; omega) (by omega) hz9 ?_; intro v8 w8 hr8 hF8 ho8; have hP8 := Lib.hid (hP9.out.app (y := (y1, y2)) (by rw [hq, List.length_append, HOL.out]; exact hr8) hF8 ho8); clear hr8 hF8 ho8))
          go_roundw
          case rel => exact ⟨t + 1, by go_num, by omega, by rw [HSU.out, rstep, if_pos ⟨rfl, hlt⟩], by rw [HSU.out, rstep, if_pos ⟨rfl, hlt⟩]; simp only [List.append_assoc] at hP8; exact hP8⟩
          case measure => simp [intOf]; omega
        · go_wp2_with fail
          go_quiet (fail)
          have HP' := Lib.hid (hP.out.drewN nq)
          have HRO := Lib.hid HP'.out.row
          rw [hq] at HRO
          have hB' : q ≤ (wr.drewN nq).heap.size := hwr
          clear hP
          generalize hol' : o.length = ol at *
          have HOL := Lib.hid hol'
          clear hol'
          go_wp2_with (at_builtin; refine wpList_appS1 (w := wr.drewN nq) elemR rfl (.tmp 30) (.tmp 35) rfl q u5 ol (o.flatMap itC) #[.int .i64 y1, .int .i64 y2] rfl rfl rfl HRO.out (by intro u hu; simp at hu; rcases hu with rfl | rfl <;> rfl) (by unfold maxLen; omega) (by omega) hB' ?_; intro v8 w8 hr8 hF8 ho8; have hP8 := Lib.hid (HP'.out.app (y := (y1, y2)) (by rw [hq, HOL.out]; exact hr8) hF8 ho8); clear hr8 hF8 ho8)
          go_roundw
          case rel => exact ⟨t + 1, by go_num, by omega, by rw [HSU.out, rstep, if_neg (fun e => by have h9 : x1 < y1 := e.2; omega)], by rw [HSU.out, rstep, if_neg (fun e => by have h9 : x1 < y1 := e.2; omega)]; exact hP8⟩
          case measure => simp [intOf]; omega
      · go_wp2_with fail
        go_quiet (fail)
        have HP' := Lib.hid (hP.out.drewN nq)
        have HRO := Lib.hid HP'.out.row
        rw [hq] at HRO
        have hB' : q ≤ (wr.drewN nq).heap.size := hwr
        clear hP
        generalize hol' : o.length = ol at *
        have HOL := Lib.hid hol'
        clear hol'
        go_wp2_with (at_builtin; refine wpList_appS1 (w := wr.drewN nq) elemR rfl (.tmp 30) (.tmp 35) rfl q u5 ol (o.flatMap itC) #[.int .i64 y1, .int .i64 y2] rfl rfl rfl HRO.out (by intro u hu; simp at hu; rcases hu with rfl | rfl <;> rfl) (by unfold maxLen; omega) (by omega) hB' ?_; intro v8 w8 hr8 hF8 ho8; have hP8 := Lib.hid (HP'.out.app (y := (y1, y2)) (by rw [hq, HOL.out]; exact hr8) hF8 ho8); clear hr8 hF8 ho8)
        go_roundw
        case rel => exact ⟨t + 1, by go_num, by omega, by rw [HSU.out, rstep, if_neg (fun e => by cases e.1)], by rw [HSU.out, rstep, if_neg (fun e => by cases e.1)]; exact hP8⟩
        case measure => simp [intOf]; omega
    · obtain rfl : t = n := by omega
      have hra := rfold_all (x1, x2) l
      rw [HL.out] at hra
      have hwr : q ≤ wr.heap.size := Nat.le_of_lt hP.out.bx.lt
      have cx1 : wr.cell? ⟨q, 0, none⟩ = some (.int .i64 x1) := (hP.out.bx.cell 0).trans rfl
      have cx2 : wr.cell? ⟨q, 1, none⟩ = some (.int .i64 x2) := (hP.out.bx.cell 1).trans rfl
      have hql : q < wr.heap.size := hP.out.bx.lt
      generalize hr : rfold (x1, x2) l t = r at *
      obtain ⟨o, d⟩ := r
      simp only at hP hfl hra
      have HRA := Lib.hid hra
      have HFL := Lib.hid hfl
      have hol : o.length ≤ t + 1 := by split at hfl <;> omega
      clear hr hra hfl
      cases d
      · have HRO := Lib.hid hP.out.row
        rw [hq] at HRO
        generalize hol' : o.length = ol at *
        have HOL := Lib.hid hol'
        clear hol'
        go_wp2_with (at_builtin; refine wpList_appS1 (w := wr) elemR rfl (.tmp 39) (.tmp 41) rfl q u5 ol (o.flatMap itC) #[.int .i64 x1, .int .i64 x2] rfl rfl rfl HRO.out (by intro u hu; simp at hu; rcases hu with rfl | rfl <;> rfl) (by unfold maxLen; omega) (by omega) hwr ?_; intro v8 w8 hr8 hF8 ho8; have hP8 := Lib.hid (hP.out.app (y := (x1, x2)) (by rw [hq, HOL.out]; exact hr8) hF8 ho8); clear hr8 hF8 ho8)
        go_ret
        have h9 := hP8.out.row
        have h8 := HFL.out
        have h7 := HRA.out
        simp only [Bool.false_eq_true, if_false] at h8 h7
        rw [h7, insK_len, HL.out] at h9
        exact ⟨_, rfl, h9, hP8.out.gr⟩
      · go_wp2
        go_ret
        have h9 := hP.out.row
        have h8 := HFL.out
        have h7 := HRA.out
        simp only [if_true] at h8 h7
        rw [h7, insK_len, HL.out, hq] at h9
        exact ⟨_, rfl, h9, hP.out.gr⟩
end Go.Proofs.Ytnepkpcoglfejaa
