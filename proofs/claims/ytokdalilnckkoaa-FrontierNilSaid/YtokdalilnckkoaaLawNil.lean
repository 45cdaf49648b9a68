/- The walk of FrontierNil. -/
import Derived.Test.YtokdalilnckkoaaAwake
namespace Go.Proofs.Ytokdalilnckkoaa
open Go.RowKit Go.Shelf

attribute [local go_sem] Oper.semAt_some

theorem FmI.dfr {w w' : World} (h : FmI w w') {D : Nat} {x : Option (List Deferred)} (hd : w.heap[D]? = some (.deferred x)) : w'.heap[D]? = some (.deferred x) :=
  (h.keep D (Array.getElem?_eq_some_iff.1 hd).1 fun cs t e => by rw [hd] at e; cases e).trans hd

set_option maxRecDepth 100000 in
set_option maxHeartbeats 1000000 in
theorem law_nil (x : Int) (w : World) : Calls Try.prog 6 #[.int .i64 x] w fun e w' => e = .returned (.bool true) ∧ Below w.heap.size w w' := by
  refine calls_of_wp_marks Try.func6 rfl ?_
  simp only [Try.ntmps6, List.size_toArray, List.length_cons, List.length_nil, Nat.reduceAdd, Nat.reduceSub, Array.replicate_succ, Array.replicate_zero, List.push_toArray, List.append_toArray, List.nil_append, List.cons_append]
  go_wp2_with fail
  refine (awake_any _).mono ?_
  rintro e w1 ⟨rfl, hB1⟩
  have hX1 : Boxed w1 w.heap.size 4 (.bool false) := Bk.below (Boxed.new w 4 (.bool false)) hB1 (by simp)
  have hB1' : Below w.heap.size w w1 := ((Below.refl _ w).alloc (Nat.le_refl _) _).trans (hB1.mono (by simp))
  have hs1 : w.heap.size + 1 ≤ w1.heap.size := by have := hB1.size; simpa using this
  clear hB1
  replace hX1 := Lib.hid hX1
  replace hB1' := Lib.hid hB1'
  replace hs1 := Lib.hid hs1
  go_wp2_with fail
  refine (allI _ _).mono ?_
  rintro e w2 ⟨rfl, rfl⟩
  go_wp2_with fail
  have hb := cell_new_l w1 (.pointer none) 24
  have hB0 : Below w1.heap.size w1 (w1.alloc (.cells #[.pointer none] 24)) := (Below.refl _ w1).alloc (Nat.le_refl _) _
  refine wpIn_wide.1 (wpIn_rangeFunc_ownF (F := Fence.wide) (n := 9) rfl (by decide) (gf := 35) (lb := #[.pointer (some ⟨w1.heap.size, 0, none⟩)]) rfl trivial (enters_of Try.func35 (by kernel_rfl) rfl)
    (iternilI w1 8 w1.heap.size _ (by decide) hB0 (by simp) hb.1) belowK_t (belowK_b (by simp)) (Below.refl _ _) (fun _ => rfl)
    (fun _ W => Boxed W w.heap.size 4 (.bool false) ∧ Below w1.heap.size w1 W)
    (fun _ _ _ => False)
    (OwnFrom.and (Own.from (boxed_own _ _ _) _) (ownFrom_below (Nat.le_refl _) (by simp)))
    (fun _ _ _ _ _ hs _ _ => hs)
    ⟨hX1.out.alloc _, hB0⟩
    ?a1 ?assign ?body ?done ?stop)
  case assign =>
    intro l x W K hK
    gi_wp2
    simpa using hK
  case body =>
    rintro l pre x W _ hlt
    simp at hlt
  case done =>
    rintro D ys W hD rfl ⟨hX, hB⟩ hK
    have hwD : w.heap.size ≤ D := by
      have h1 := hs1.out
      simp only [World.size_alloc] at hD
      omega
    replace hwD := Lib.hid hwD
    have B2 : Hid (Below w.heap.size w W) := Lib.hid (hB1'.out.trans (hB.mono (by have := hs1.out; omega)))
    have X2 := Lib.hid hX
    have D2 := Lib.hid hK
    clear hD hB hX hK hb hB0 hs1
    go_wp2_with fail
    refine (run_nil _).mono ?_
    rintro e w' ⟨rfl, rfl⟩
    go_wp2_with fail
    refine (result_nil _).mono ?_
    rintro e w' ⟨rfl, rfl⟩
    go_wp2_with fail
    refine (e_newI w W B2.out).mono ?_
    rintro e w3 ⟨rfl, E3, F3⟩
    replace E3 := Lib.hid E3
    have X3 : Hid (Boxed w3 w.heap.size 4 (.bool false)) := Lib.hid (F3.bk X2.out (by decide))
    have D3 := Lib.hid (F3.dfr D2.out)
    clear F3 B2 X2 D2
    generalize W.heap.size = g at *
    go_wp2_with fail
    refine (e_pushI w w3 _ _ _ E3.out x).mono ?_
    rintro e w4 ⟨rfl, E4, F4⟩
    replace E4 := Lib.hid E4
    have X4 : Hid (Boxed w4 w.heap.size 4 (.bool false)) := Lib.hid (F4.bk X3.out (by decide))
    have D4 := Lib.hid (F4.dfr D3.out)
    clear F4 E3 X3 D3
    generalize w3.heap.size = c at *
    go_wp2_with fail
    refine (e_showI w w4 _ _ _ E4.out 0 _ _ rfl).mono ?_
    rintro e w5 ⟨rfl, E5, F5⟩
    replace E5 := Lib.hid E5
    have X5 : Hid (Boxed w5 w.heap.size 4 (.bool false)) := Lib.hid (F5.bk X4.out (by decide))
    have D5 := Lib.hid (F5.dfr D4.out)
    clear F5 E4 X4 D4
    have g1 : resOf (opPush c) = 0 := rfl
    rw [g1]
    generalize evI _ = v5
    go_wp2_with fail
    refine (push_nil _ _).mono ?_
    rintro e w' ⟨rfl, rfl⟩
    go_wp2_with fail
    refine (take_nil _).mono ?_
    rintro e w' ⟨rfl, rfl⟩
    go_wp2_with fail
    refine (done_nil _).mono ?_
    rintro e w' ⟨rfl, rfl⟩
    go_wp2_with fail
    refine (lenI none [] w5 (iternilI w5) (by simp)).mono ?_
    rintro e w6 ⟨rfl, hb6⟩
    have E6 := Lib.hid (E5.out.grow hb6)
    have X6 : Hid (Boxed w6 w.heap.size 4 (.bool false)) := Lib.hid ((FmI.below hb6).bk X5.out (by decide))
    have D6 := Lib.hid ((FmI.below hb6).dfr D5.out)
    clear hb6 E5 X5 D5
    go_wp2_with fail
    refine (pending_nil _).mono ?_
    rintro e w' ⟨rfl, rfl⟩
    go_wp2_with fail
    refine (step_nil _).mono ?_
    rintro e w' ⟨rfl, rfl⟩
    go_wp2_with fail
    refine (finished_nil _).mono ?_
    rintro e w' ⟨rfl, rfl⟩
    go_wp2_with fail
    refine (finishedI _ _ _ _ _ _ _ (E6.out.rel.op_at (i := 0) rfl)).mono ?_
    rintro e w' ⟨rfl, rfl⟩
    have g2 : (opPush c).fin = false := rfl
    rw [g2]
    go_wp2_with fail
    refine (e_lenI w w6 _ _ _ E6.out [] rfl (by simp)).mono ?_
    rintro e w7 ⟨rfl, E7, F7⟩
    have X7 : Boxed w7 w.heap.size 4 (.bool false) := F7.bk X6.out (by decide)
    have D7 := Lib.hid (F7.dfr D6.out)
    replace E7 := Lib.hid E7
    have hc7 := X7.cell
    have hf7 := X7.frozen
    clear F7 E6 X6 D6
    go_wp2
    have hK' := (KeepsOthers.setCell w7 ⟨w.heap.size, 0, none⟩ (.bool true)).same D _ D7.out rfl
    refine ⟨by simp, .inl ⟨_, _, rfl, run_takeDeferred hK', ?_⟩⟩
    have hc5 := cell_kept (World.cell?_setCell_same' w7 ⟨w.heap.size, 0, none⟩ (.bool true) (by rw [hc7]; rfl)) (grownBy_putObj' _ D (.deferred none)) (fun r e => by cases e; exact ⟨_, hK', rfl⟩)
    refine ⟨.bool true, ?_, rfl, (E7.out.bel.setCell (p := ⟨w.heap.size, 0, none⟩) (Nat.le_refl _) _).trans (belowK_b (w := w) (Nat.le_refl _) _ D _ _ hwD.out hK' rfl rfl)⟩
    simp [results, go_sem, hc5]
  case stop =>
    rintro D c pre W _ _ h _
    exact h.elim

end Go.Proofs.Ytokdalilnckkoaa
