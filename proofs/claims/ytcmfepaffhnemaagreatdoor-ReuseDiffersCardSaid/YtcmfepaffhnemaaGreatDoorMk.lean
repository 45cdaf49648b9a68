/- reuse.Entries, the parts of a search. -/
import Derived.Test.YtcmfepaffhnemaaGreatDoorMj
import Derived.Deep.RegionHeld3
import Derived.Laws.LoneSync
import Derived.Carry
import Derived.Test.YtcmfepaffhnemaaGreatDoorLaid
import Derived.Test.YtcmfepaffhnemaaGreatDoorMc
set_option linter.unusedSimpArgs false
set_option linter.unusedVariables false
namespace Go.Proofs.YtcmfepaffhnemaaGreatDoor
open Go.RowKit

attribute [local go_sem] Oper.semAt_some

theorem Bk.put10 {w : World} {p t : Nat} {a b c d e f g h i j : Value} (hh : Bk w p t #[a, b, c, d, e, f, g, h, i, j]) (x0 x1 x2 x3 x4 x5 x6 x7 x8 x9 : Value) : Bk ((((((((((w.setCell ⟨p, 0, none⟩ x0).setCell ⟨p, 1, none⟩ x1).setCell ⟨p, 2, none⟩ x2).setCell ⟨p, 3, none⟩ x3).setCell ⟨p, 4, none⟩ x4).setCell ⟨p, 5, none⟩ x5).setCell ⟨p, 6, none⟩ x6).setCell ⟨p, 7, none⟩ x7).setCell ⟨p, 8, none⟩ x8).setCell ⟨p, 9, none⟩ x9) p t #[x0, x1, x2, x3, x4, x5, x6, x7, x8, x9] ∧ Fr (fun b => b = p) w ((((((((((w.setCell ⟨p, 0, none⟩ x0).setCell ⟨p, 1, none⟩ x1).setCell ⟨p, 2, none⟩ x2).setCell ⟨p, 3, none⟩ x3).setCell ⟨p, 4, none⟩ x4).setCell ⟨p, 5, none⟩ x5).setCell ⟨p, 6, none⟩ x6).setCell ⟨p, 7, none⟩ x7).setCell ⟨p, 8, none⟩ x8).setCell ⟨p, 9, none⟩ x9) := by
  refine ⟨?_, ((((((((((Fr.set w ⟨p, 0, none⟩ x0 rfl : Fr (fun b => b = p) w _)).trans (Fr.set _ ⟨p, 1, none⟩ x1 rfl)).trans (Fr.set _ ⟨p, 2, none⟩ x2 rfl)).trans (Fr.set _ ⟨p, 3, none⟩ x3 rfl)).trans (Fr.set _ ⟨p, 4, none⟩ x4 rfl)).trans (Fr.set _ ⟨p, 5, none⟩ x5 rfl)).trans (Fr.set _ ⟨p, 6, none⟩ x6 rfl)).trans (Fr.set _ ⟨p, 7, none⟩ x7 rfl)).trans (Fr.set _ ⟨p, 8, none⟩ x8 rfl)).trans (Fr.set _ ⟨p, 9, none⟩ x9 rfl)⟩
  have := ((((((((((Bk.put hh 0 x0).put 1 x1).put 2 x2).put 3 x3).put 4 x4).put 5 x5).put 6 x6).put 7 x7).put 8 x8).put 9 x9)
  simpa using this
def Mults.At (l : List Mm) (v : Value) (W : World) : Prop := ∃ x : Sv, v = x.v ∧ Mults W x l
theorem Mults.At.gr {W W' : World} {v : Value} {l : List Mm} (h : Mults.At l v W) (G : Gr W W') : Mults.At l v W' := by
  obtain ⟨r, e, hr⟩ := h
  exact ⟨r, e, hr.gr G⟩
theorem Mults.At.is {W : World} {x : Sv} {l : List Mm} (h : Mults.At l x.v W) : Mults W x l := by
  obtain ⟨s, e, hs⟩ := h
  rw [Sv.inj e]; exact hs
theorem made0 (c : Array Value) : madeCells c 0 = #[] := by simp [madeCells]
theorem makeB0 (w : World) : (Instr.makeSlice 124 (.int .i64 0) (.int .i64 0)).run Tryz.prog w = .ok (.slice (some ⟨w.heap.size, 0, none⟩) 0 0) (w.alloc (.cells #[] 4)) := by
  obtain ⟨i0, hi, hz0, hz1, hz2⟩ := info_parts (show (Tryz.prog.info? 4).map (fun i => (i.zero, i.size, i.bytes)) = some (some (.bool false), 1, 1) from by kernel_rfl)
  have := run_make (P := Tryz.prog) w 124 4 i0 _ (by kernel_rfl) hi hz0 .i64 .i64 0 0 (by omega) (Int.le_refl _) (by rw [hz2]; omega) (by omega)
  rw [hz1, show Int.toNat 0 = 0 from rfl, Nat.zero_mul, made0] at this
  exact this
theorem makeI0 (w : World) : (Instr.makeSlice 28 (.int .i64 0) (.int .i64 0)).run Tryz.prog w = .ok (.slice (some ⟨w.heap.size, 0, none⟩) 0 0) (w.alloc (.cells #[] 3)) := by
  obtain ⟨i0, hi, hz0, hz1, hz2⟩ := info_parts (show (Tryz.prog.info? 3).map (fun i => (i.zero, i.size, i.bytes)) = some (some (.int .i64 0), 1, 8) from by kernel_rfl)
  have := run_make (P := Tryz.prog) w 28 3 i0 _ (by kernel_rfl) hi hz0 .i64 .i64 0 0 (by omega) (Int.le_refl _) (by rw [hz2]; omega) (by omega)
  rw [hz1, show Int.toNat 0 = 0 from rfl, Nat.zero_mul, made0] at this
  exact this
set_option maxRecDepth 100000 in
set_option maxHeartbeats 4000000 in
theorem mone0 (w : World) (m : Nat) :
    Calls Tryz.prog 89 #[.pointer (some ⟨m, 0, none⟩), .int .i64 0] w fun e w' => e = .returned (.tuple #[]) ∧ Gr w w' := by
  go_enter Tryz.func89, Tryz.ntmps89
  go_wp2
  (try simp only [Exit.inBlock, Exit.then])
  first | (refine bodyPost_ret (results_none rfl _ _ _) rfl ?_) | (refine bodyPost_end (results_none rfl _ _ _) rfl ?_)
  exact ⟨rfl, Gr.refl w⟩

set_option maxRecDepth 100000 in
set_option maxHeartbeats 4000000 in
theorem madd0 (w : World) (m : Nat) (p : Sv) (hp : Mults w p pf0) :
    Calls Tryz.prog 59 #[.pointer (some ⟨m, 0, none⟩), .slice p.A p.n p.c] w fun e w' => e = .returned (.tuple #[]) ∧ Gr w w' := by
  have hn : 1 = p.n := hp.len
  obtain ⟨t, ad, ht, hA, d0, d1, d2, d3, d4, d5, d6⟩ := hp.head
  obtain ⟨pA, pn, pc⟩ := p
  simp only at hn hA d0 d1 d2 d3
  subst hn hA
  have az := add_zero ad
  clear ht hp
  obtain ⟨B1, GB⟩ := made1 w 84 #[.int .i64 1, .int .i64 0, .int .i64 0, .int .i64 0, .bool t.coef.neg, .slice t.coef.num.A t.coef.num.n t.coef.num.c, .slice t.coef.den.A t.coef.den.n t.coef.den.c]
  have DB := Lib.hid B1
  have HG := Lib.hid GB
  obtain ⟨c0, c1, c2, c3, c4, c5, c6⟩ := B1.c7
  clear B1 GB
  go_enter Tryz.func59, Tryz.ntmps59
  go_wp2_with fail
  refine wp_loop_rounds 2 ?_
  rw [rounds_succ]
  go_wp2_with fail
  refine (mone0 _ m).mono ?_
  rintro e w1 ⟨rfl, G1⟩
  replace HG := Lib.hid (HG.out.trans G1)
  replace DB := Lib.hid (G1.bk DB.out)
  clear c0 c1 c2 c3 c4 c5 c6 G1
  generalize w.heap.size = tb at *
  obtain ⟨c0, c1, c2, c3, c4, c5, c6⟩ := DB.out.c7
  go_wp2_with fail
  refine (mone0 _ m).mono ?_
  rintro e w2 ⟨rfl, G1⟩
  replace HG := Lib.hid (HG.out.trans G1)
  clear c0 c1 c2 c3 c4 c5 c6 G1
  go_wp2
  rw [rounds_succ]
  go_wp2
  (try simp only [Exit.inBlock, Exit.then])
  first | (refine bodyPost_ret (results_none rfl _ _ _) rfl ?_) | (refine bodyPost_end (results_none rfl _ _ _) rfl ?_)
  exact ⟨rfl, HG.out⟩

set_option maxRecDepth 100000 in
set_option maxHeartbeats 4000000 in
theorem renumber0 (w : World) (p s : Sv) (hp : Mults w p pf0) :
    Calls Tryz.prog 60 #[.slice p.A p.n p.c, .slice s.A s.n s.c] w fun e w' => ∃ y : Sv, e = .returned y.v ∧ Mults w' y pf0 ∧ Gr w w' := by
  have hn : 1 = p.n := hp.len
  have HN : Hid (p.n ≤ 1000000) := Lib.hid (by omega)
  have HP := Lib.hid hp
  clear hp hn
  go_enter Tryz.func60, Tryz.ntmps60
  go_wp2_with fail
  refine (Mults.clone w p pf0 HP.out HN.out).mono ?_
  rintro e w1 ⟨y, rfl, hy, G1⟩
  have HY := Lib.hid hy
  have HG := Lib.hid G1
  have hn1 : 1 = y.n := hy.len
  obtain ⟨t, ad, ht, hA, d0, d1, d2, d3, d4, d5, d6⟩ := hy.head
  obtain ⟨yA, yn, yc⟩ := y
  simp only at hn1 hA d0 d1 d2 d3
  subst hn1 hA
  have az := add_zero ad
  clear hy G1 ht
  simp only [Sv.v]
  go_wp2_with fail
  refine wp_loop_rounds 2 ?_
  rw [rounds_succ]
  go_wp2
  rw [rounds_succ]
  go_wp2
  go_ret
  exact ⟨⟨some ad, 1, yc⟩, rfl, HY.out, HG.out⟩

set_option maxRecDepth 100000 in
set_option maxHeartbeats 4000000 in
theorem reduce0 (w : World) (p : Sv) (hp : Mults w p pf0) :
    Calls Tryz.prog 35 #[entV p] w fun e w' => ∃ y : Sv, e = .returned (entV y) ∧ Mults w' y pf0 ∧ Gr w w' := by
  obtain ⟨B1, B2, G⟩ := made2 w 90 90 (#[.slice none 0 0, .slice none 0 0, .int .i64 0, .int .i64 0, .bool false, .slice none 0 0, .slice none 0 0, .slice none 0 0, .bool false, .slice p.A p.n p.c]) (#[.slice none 0 0, .slice none 0 0, .int .i64 0, .int .i64 0, .bool false, .slice none 0 0, .slice none 0 0, .slice none 0 0, .bool false, .slice none 0 0])
  have HG := Lib.hid G
  have D_x0 := Lib.hid B1
  have D_r := Lib.hid B2
  clear G B1 B2
  have HP := Lib.hid hp
  clear hp
  go_enter Tryz.func35, Tryz.ntmps35
  go_upto_region 1 with fail
  generalize hW : (w.alloc (.cells #[.slice none 0 0, .slice none 0 0, .int .i64 0, .int .i64 0, .bool false, .slice none 0 0, .slice none 0 0, .slice none 0 0, .bool false, .slice p.A p.n p.c] 90)).alloc (.cells #[.slice none 0 0, .slice none 0 0, .int .i64 0, .int .i64 0, .bool false, .slice none 0 0, .slice none 0 0, .slice none 0 0, .bool false, .slice none 0 0] 90) = W at *
  clear hW
  have N_x0 : Hid (w.heap.size ≤ w.heap.size) := (by show w.heap.size ≤ w.heap.size; omega)
  have N_r : Hid (w.heap.size ≤ w.heap.size + 1) := (by show w.heap.size ≤ w.heap.size + 1; omega)
  generalize w.heap.size + 1 = r at *
  have hS0 := (Gr.refl W).drew.keep (D_x0.out.cell 1)
  refine wp_region_E (fun W => W.cell? ⟨w.heap.size, 1, none⟩ = some (.slice none 0 0)) (by kernel_rfl) ?_
  show anyE _ _ _ _ 11 _ _ _
  refine anyE.takeL (i := 0) (v := ?wv35) rfl (by kernel_rfl) (by kernel_rfl) (by kernel_rfl) (fun _ _ _ h => h) (Or.inl ⟨by rfl, ?wy35⟩) hS0 ?wr35
  case wy35 => (intro w' hS'; obtain e1 := hS'; go_simp; try with_reducible rfl)
  try simp only [Act.put, List.setIfInBounds_toArray, List.set_cons_zero, List.set_cons_succ]
  refine anyE.takeL (i := 1) (v := ?wv36) rfl (by kernel_rfl) (by kernel_rfl) (by kernel_rfl) (fun _ _ _ h => h) (Or.inl ⟨by rfl, ?wy36⟩) hS0 ?wr36
  case wy36 => (intro w' hS'; obtain e1 := hS'; go_simp; try with_reducible rfl)
  try simp only [Act.put, List.setIfInBounds_toArray, List.set_cons_zero, List.set_cons_succ]
  refine anyE.takeL (i := 2) (v := ?wv37) rfl (by kernel_rfl) (by kernel_rfl) (by kernel_rfl) (fun _ _ _ h => h) (Or.inl ⟨by rfl, ?wy37⟩) hS0 ?wr37
  case wy37 => (intro w' hS'; obtain e1 := hS'; go_simp; try with_reducible rfl)
  try simp only [Act.put, List.setIfInBounds_toArray, List.set_cons_zero, List.set_cons_succ]
  refine anyE.takeL (i := 3) (v := ?wv38) rfl (by kernel_rfl) (by kernel_rfl) (by kernel_rfl) (fun _ _ _ h => h) (Or.inl ⟨by rfl, ?wy38⟩) hS0 ?wr38
  case wy38 => (intro w' hS'; obtain e1 := hS'; go_simp; try with_reducible rfl)
  try simp only [Act.put, List.setIfInBounds_toArray, List.set_cons_zero, List.set_cons_succ]
  refine anyE.takeL (i := 4) (v := ?wv39) rfl (by kernel_rfl) (by kernel_rfl) (by kernel_rfl) (fun _ _ _ h => h) (Or.inl ⟨by rfl, ?wy39⟩) hS0 ?wr39
  case wy39 => (intro w' hS'; obtain e1 := hS'; go_simp; try with_reducible rfl)
  try simp only [Act.put, List.setIfInBounds_toArray, List.set_cons_zero, List.set_cons_succ]
  refine anyE.takeL (i := 5) (v := ?wv40) rfl (by kernel_rfl) (by kernel_rfl) (by kernel_rfl) (fun _ _ _ h => h) (Or.inl ⟨by rfl, ?wy40⟩) hS0 ?wr40
  case wy40 => (intro w' hS'; obtain e1 := hS'; go_simp; try with_reducible rfl)
  try simp only [Act.put, List.setIfInBounds_toArray, List.set_cons_zero, List.set_cons_succ]
  refine anyE.takeL (i := 6) (v := ?wv41) rfl (by kernel_rfl) (by kernel_rfl) (by kernel_rfl) (fun _ _ _ h => h) (Or.inl ⟨by rfl, ?wy41⟩) hS0 ?wr41
  case wy41 => (intro w' hS'; obtain e1 := hS'; go_simp; try with_reducible rfl)
  try simp only [Act.put, List.setIfInBounds_toArray, List.set_cons_zero, List.set_cons_succ]
  have mb := makeB0 W.drew
  have GA := ((Gr.refl W).alloc (.cells #[] 4)).drew
  have X1 := Lib.hid (GA.bk D_x0.out)
  have R1 := Lib.hid (GA.bk D_r.out)
  have HG1 := Lib.hid (HG.out.trans GA)
  clear GA
  refine anyE.one 7 rfl (by kernel_rfl) (by rfl) (fun K hK => ?_)
  go_simp
  refine hK.out _ _ ⟨Or.inl (X1.out.cell 1), ?_⟩
  clear hK K
  try simp only [Act.put, List.setIfInBounds_toArray, List.set_cons_zero, List.set_cons_succ]
  clear mb hS0
  generalize hw2 : (W.alloc (.cells #[] 4)).drew = w2 at *
  clear hw2
  have hS2 := X1.out.cell 1
  refine anyE.takeL (i := 8) (v := ?wv42) rfl (by kernel_rfl) (by kernel_rfl) (by kernel_rfl) (fun _ _ _ h => h) (Or.inl ⟨by rfl, ?wy42⟩) hS2 ?wr42
  case wy42 => (intro w' hS'; obtain e1 := hS'; go_simp; try with_reducible rfl)
  try simp only [Act.put, List.setIfInBounds_toArray, List.set_cons_zero, List.set_cons_succ]
  obtain ⟨B1, GB⟩ := made1 w2 126 #[.slice none 0 0, .slice (some ⟨W.heap.size, 0, none⟩) 0 0]
  have DM := Lib.hid B1
  have X2 := Lib.hid (GB.bk X1.out)
  have R2 := Lib.hid (GB.bk R1.out)
  have HG3 := Lib.hid (HG1.out.trans GB)
  clear B1 GB hS2
  refine anyE.one 9 rfl (by kernel_rfl) (by rfl) (fun K hK => ?_)
  go_simp
  refine hK.out _ _ ⟨Or.inl (X2.out.cell 1), ?_⟩
  clear hK K
  try simp only [Act.put, List.setIfInBounds_toArray, List.set_cons_zero, List.set_cons_succ]
  generalize hw3 : w2.alloc (.cells #[.slice none 0 0, .slice (some ⟨W.heap.size, 0, none⟩) 0 0] 126) = w3 at *
  clear hw3
  generalize W.heap.size = bb at *
  generalize w2.heap.size = mb at *
  have hS2 := X2.out.cell 1
  refine anyE.takeL (i := 10) (v := ?wv43) rfl (by kernel_rfl) (by kernel_rfl) (by kernel_rfl) (fun _ _ _ h => h) (Or.inl ⟨by rfl, ?wy43⟩) hS2 ?wr43
  case wy43 => (intro w' hS'; obtain e1 := hS'; go_simp; try with_reducible rfl)
  try simp only [Act.put, List.setIfInBounds_toArray, List.set_cons_zero, List.set_cons_succ]
  refine anyE.done (by kernel_rfl) ?_
  have HP3 := Lib.hid (HP.out.gr (HG3.out))
  clear hS2 X1 R1 HG1 D_x0 D_r HG
  obtain ⟨e0, e1, e2, e3, e4, e5, e6, e7, e8, e9⟩ := X2.out.c10
  go_wp2_with fail
  refine (madd0 w3 mb p HP3.out).mono ?_
  rintro e w4 ⟨rfl, G1⟩
  have mi := makeI0 w4
  obtain ⟨BI, GI⟩ := made1 w4 3 #[]
  have GG := G1.trans GI
  have X3 := Lib.hid (GG.bk X2.out)
  have R3 := Lib.hid (GG.bk R2.out)
  have HG4 := Lib.hid (HG3.out.trans GG)
  have m1 := G1.keep (DM.out.cell 1)
  have n1 := GG.keep (DM.out.cell 1)
  clear BI GI GG G1 e0 e1 e2 e3 e4 e5 e6 e7 e8 e9 X2 R2 HG3 DM HP3
  go_wp2_with fail
  refine wp_loop_rounds 1 ?_
  rw [rounds_succ]
  go_wp2_with fail
  go_upto_region 12 with fail
  clear mi m1 n1
  generalize w4.alloc (.cells #[] 3) = W at *
  generalize w4.heap.size = ib at *
  obtain ⟨e0, e1, e2, e3, e4, e5, e6, e7, e8, e9⟩ := X3.out.c10
  refine wp_region_any (by kernel_rfl) ?_
  have kc := Lib.hid (fun (W' : World) (G : Gr W.drew W') => And.intro (G.keep e0) (And.intro (G.keep e1) (And.intro (G.keep e2) (And.intro (G.keep e3) (And.intro (G.keep e4) (And.intro (G.keep e5) (And.intro (G.keep e6) (And.intro (G.keep e7) (And.intro (G.keep e8) (G.keep e9))))))))))
  have hst : ∀ p ∈ ([(9, Mults.At (pf0)), (12, NewAt 90 #[.slice none 0 0, .slice none 0 0, .int .i64 0, .int .i64 0, .bool false, .slice none 0 0, .slice none 0 0, .slice none 0 0, .bool false, .slice none 0 0] W.heap.size)] : List (Nat × (Value → World → Prop))), ∀ (u : Value) (wA0 wB0 : World), Gr W.drew wA0 → Gr wA0 wB0 → p.2 u wA0 → p.2 u wB0 := by
    intro p hp u wA0 wB0 h0 G h
    simp only [List.mem_cons, List.not_mem_nil, or_false] at hp
    rcases hp with rfl | rfl
    · exact Mults.At.gr h G
    · exact NewAt.gr h G
  refine wpAny_walk (m := 1) (last := #[true, true, true, true, true, true, true, true, true, true, true, true, true, false]) [0, 1, 2, 3, 4, 5, 6, 7, 8, 9, 10, 11, 12] [(9, Mults.At (pf0)), (12, NewAt 90 #[.slice none 0 0, .slice none 0 0, .int .i64 0, .int .i64 0, .bool false, .slice none 0 0, .slice none 0 0, .slice none 0 0, .bool false, .slice none 0 0] W.heap.size)] (by kernel_rfl) (by decide) (by kernel_rfl) hst ?_
  clear hst
  refine Walk.take (v := ?wv44) rfl rfl (Or.inl ⟨by rfl, ?wy44⟩) ?wr44
  case wy44 => (intro w' hw'; obtain ⟨e0, e1, e2, e3, e4, e5, e6, e7, e8, e9⟩ := kc.out w' hw'; go_simp; try with_reducible rfl)
  try simp only [Act.put, List.setIfInBounds_toArray, List.set_cons_zero, List.set_cons_succ]
  refine Walk.take (v := ?wv45) rfl rfl (Or.inl ⟨by rfl, ?wy45⟩) ?wr45
  case wy45 => (intro w' hw'; obtain ⟨e0, e1, e2, e3, e4, e5, e6, e7, e8, e9⟩ := kc.out w' hw'; go_simp; try with_reducible rfl)
  try simp only [Act.put, List.setIfInBounds_toArray, List.set_cons_zero, List.set_cons_succ]
  refine Walk.take (v := ?wv46) rfl rfl (Or.inl ⟨by rfl, ?wy46⟩) ?wr46
  case wy46 => (intro w' hw'; obtain ⟨e0, e1, e2, e3, e4, e5, e6, e7, e8, e9⟩ := kc.out w' hw'; go_simp; try with_reducible rfl)
  try simp only [Act.put, List.setIfInBounds_toArray, List.set_cons_zero, List.set_cons_succ]
  refine Walk.take (v := ?wv47) rfl rfl (Or.inl ⟨by rfl, ?wy47⟩) ?wr47
  case wy47 => (intro w' hw'; obtain ⟨e0, e1, e2, e3, e4, e5, e6, e7, e8, e9⟩ := kc.out w' hw'; go_simp; try with_reducible rfl)
  try simp only [Act.put, List.setIfInBounds_toArray, List.set_cons_zero, List.set_cons_succ]
  refine Walk.take (v := ?wv48) rfl rfl (Or.inl ⟨by rfl, ?wy48⟩) ?wr48
  case wy48 => (intro w' hw'; obtain ⟨e0, e1, e2, e3, e4, e5, e6, e7, e8, e9⟩ := kc.out w' hw'; go_simp; try with_reducible rfl)
  try simp only [Act.put, List.setIfInBounds_toArray, List.set_cons_zero, List.set_cons_succ]
  refine Walk.take (v := ?wv49) rfl rfl (Or.inl ⟨by rfl, ?wy49⟩) ?wr49
  case wy49 => (intro w' hw'; obtain ⟨e0, e1, e2, e3, e4, e5, e6, e7, e8, e9⟩ := kc.out w' hw'; go_simp; try with_reducible rfl)
  try simp only [Act.put, List.setIfInBounds_toArray, List.set_cons_zero, List.set_cons_succ]
  refine Walk.take (v := ?wv50) rfl rfl (Or.inl ⟨by rfl, ?wy50⟩) ?wr50
  case wy50 => (intro w' hw'; obtain ⟨e0, e1, e2, e3, e4, e5, e6, e7, e8, e9⟩ := kc.out w' hw'; go_simp; try with_reducible rfl)
  try simp only [Act.put, List.setIfInBounds_toArray, List.set_cons_zero, List.set_cons_succ]
  refine Walk.take (v := ?wv51) rfl rfl (Or.inl ⟨by rfl, ?wy51⟩) ?wr51
  case wy51 => (intro w' hw'; obtain ⟨e0, e1, e2, e3, e4, e5, e6, e7, e8, e9⟩ := kc.out w' hw'; go_simp; try with_reducible rfl)
  try simp only [Act.put, List.setIfInBounds_toArray, List.set_cons_zero, List.set_cons_succ]
  refine Walk.take (v := ?wv52) rfl rfl (Or.inl ⟨by rfl, ?wy52⟩) ?wr52
  case wy52 => (intro w' hw'; obtain ⟨e0, e1, e2, e3, e4, e5, e6, e7, e8, e9⟩ := kc.out w' hw'; go_simp; try with_reducible rfl)
  try simp only [Act.put, List.setIfInBounds_toArray, List.set_cons_zero, List.set_cons_succ]
  refine Walk.do rfl rfl (by rfl) (fun W1 G1 F1 => ?ws53) (fun v hv => ?wr53)
  case ws53 =>
    obtain ⟨e0, e1, e2, e3, e4, e5, e6, e7, e8, e9⟩ := kc.out W1 G1
    refine doesAt_enter (f := 60) (args := #[.slice p.A p.n p.c, .slice (some ⟨ib, 0, none⟩) 0 0]) (by go_simp; try (first | with_reducible rfl | rfl)) ?_
    refine (renumber0 W1 p ⟨some ⟨ib, 0, none⟩, 0, 0⟩ (HP.out.gr (HG4.out.trans G1.of_drew))).mono ?_
    rintro e w' ⟨y, rfl, hi, G⟩
    exact ⟨_, rfl, G, y, rfl, hi⟩
  obtain ⟨_, -, -, ⟨y, rfl, -⟩⟩ := hv
  try simp only [Act.put, List.setIfInBounds_toArray, List.set_cons_zero, List.set_cons_succ]
  refine Walk.take (v := ?wv54) rfl rfl (Or.inl ⟨by rfl, ?wy54⟩) ?wr54
  case wy54 => (intro w' hw'; obtain ⟨e0, e1, e2, e3, e4, e5, e6, e7, e8, e9⟩ := kc.out w' hw'; go_simp; try with_reducible rfl)
  try simp only [Act.put, List.setIfInBounds_toArray, List.set_cons_zero, List.set_cons_succ]
  refine Walk.take (v := ?wv55) rfl rfl (Or.inl ⟨by rfl, ?wy55⟩) ?wr55
  case wy55 => (intro w' hw'; obtain ⟨e0, e1, e2, e3, e4, e5, e6, e7, e8, e9⟩ := kc.out w' hw'; go_simp; try with_reducible rfl)
  try simp only [Act.put, List.setIfInBounds_toArray, List.set_cons_zero, List.set_cons_succ]
  refine Walk.do rfl rfl (by rfl) (fun W1 G1 F1 => ?ws56) (fun v hv => ?wr56)
  case ws56 =>
    obtain ⟨e0, e1, e2, e3, e4, e5, e6, e7, e8, e9⟩ := kc.out W1 G1
    refine doesAt_value (v := .pointer (some ⟨W1.heap.size, 0, none⟩)) (W' := W1.alloc (.cells #[.slice none 0 0, .slice none 0 0, .int .i64 0, .int .i64 0, .bool false, .slice none 0 0, .slice none 0 0, .slice none 0 0, .bool false, .slice none 0 0] 90)) (by go_simp; try (first | with_reducible rfl | rfl)) ?_
    exact ⟨(Gr.refl W1).alloc _, NewAt.made W1 _ _ _ (Nat.le_trans (Nat.le_refl _) G1.of_drew.size)⟩
  obtain ⟨_, -, -, ⟨o, rfl, -, -⟩⟩ := hv
  try simp only [Act.put, List.setIfInBounds_toArray, List.set_cons_zero, List.set_cons_succ]
  refine Walk.done (fun W1 G1 F1 => ?_)
  have hy := F1 _ (List.mem_of_getElem? (i := 0) rfl)
  have ho := F1 _ (List.mem_of_getElem? (i := 1) rfl)
  clear F1
  have kc1 := kc.out W1 G1
  clear kc e0 e1 e2 e3 e4 e5 e6 e7 e8 e9
  obtain ⟨e0, e1, e2, e3, e4, e5, e6, e7, e8, e9⟩ := kc1
  refine wpAny_one 13 rfl (by kernel_rfl) (by rfl) (fun K hK => ?_)
  have hN := ho.is
  have fz := hN.1.frozen
  obtain ⟨o0, o1, o2, o3, o4, o5, o6, o7, o8, o9⟩ := hN.1.c10
  go_simp
  refine hK.out _ _ ?_
  clear hK K
  try simp only [Act.put, List.setIfInBounds_toArray, List.set_cons_zero, List.set_cons_succ]
  refine wpAny_end (by kernel_rfl) ?_
  obtain ⟨ho, hoN⟩ := ho.is
  obtain ⟨B5, F5⟩ := ho.put10 (.slice none 0 0) (.slice none 0 0) (.int .i64 0) (.int .i64 0) (.bool false) (.slice none 0 0) (.slice none 0 0) (.slice none 0 0) (.bool false) (.slice y.A y.n y.c)
  have HGO := Lib.hid (Nat.le_trans HG4.out.size hoN)
  have hro := Lib.hid (show ¬ o = r from fun e => Nat.lt_irrefl _ (Nat.lt_of_lt_of_le (e ▸ R3.out.lt) hoN))
  have HG5 := Lib.hid ((HG4.out.trans G1.of_drew).fr_at F5 HGO.out)
  have HY5 := Lib.hid (hy.is.st F5 ho (by decide) (by decide))
  have DO := Lib.hid B5
  replace X3 := Lib.hid (F5.bk (G1.of_drew.bk X3.out) (Nat.ne_of_lt (Nat.lt_of_lt_of_le X3.out.lt hoN)))
  replace R3 := Lib.hid (F5.bk (G1.of_drew.bk R3.out) (Nat.ne_of_lt (Nat.lt_of_lt_of_le R3.out.lt hoN)))
  clear ho hoN hy G1 B5 F5 e0 e1 e2 e3 e4 e5 e6 e7 e8 e9 HG4
  generalize (((((((((W1.setCell ⟨o, 0, none⟩ (.slice none 0 0)).setCell ⟨o, 1, none⟩ (.slice none 0 0)).setCell ⟨o, 2, none⟩ (.int .i64 0)).setCell ⟨o, 3, none⟩ (.int .i64 0)).setCell ⟨o, 4, none⟩ (.bool false)).setCell ⟨o, 5, none⟩ (.slice none 0 0)).setCell ⟨o, 6, none⟩ (.slice none 0 0)).setCell ⟨o, 7, none⟩ (.slice none 0 0)).setCell ⟨o, 8, none⟩ (.bool false)).setCell ⟨o, 9, none⟩ (.slice y.A y.n y.c) = w7 at *
  obtain ⟨e0, e1, e2, e3, e4, e5, e6, e7, e8, e9⟩ := X3.out.c10
  obtain ⟨o0, o1, o2, o3, o4, o5, o6, o7, o8, o9⟩ := DO.out.c10
  obtain ⟨r0, r1, r2, r3, r4, r5, r6, r7, r8, r9⟩ := R3.out.c10
  have fzr := R3.out.frozen
  obtain ⟨B5, F5⟩ := R3.out.put10 (.slice none 0 0) (.slice none 0 0) (.int .i64 0) (.int .i64 0) (.bool false) (.slice none 0 0) (.slice none 0 0) (.slice none 0 0) (.bool false) (.slice y.A y.n y.c)
  have H5 := Lib.hid F5
  obtain ⟨d0, d1, d2, d3, d4, d5, d6, d7, d8, d9⟩ := B5.c10
  clear F5 B5
  go_wp2_with fail
  refine wp_loop_rounds 1 ?_
  rw [rounds_succ]
  go_wp2
  generalize (((((((((w7.setCell ⟨r, 0, none⟩ (.slice none 0 0)).setCell ⟨r, 1, none⟩ (.slice none 0 0)).setCell ⟨r, 2, none⟩ (.int .i64 0)).setCell ⟨r, 3, none⟩ (.int .i64 0)).setCell ⟨r, 4, none⟩ (.bool false)).setCell ⟨r, 5, none⟩ (.slice none 0 0)).setCell ⟨r, 6, none⟩ (.slice none 0 0)).setCell ⟨r, 7, none⟩ (.slice none 0 0)).setCell ⟨r, 8, none⟩ (.bool false)).setCell ⟨r, 9, none⟩ (.slice y.A y.n y.c) = W5 at *
  (try simp only [Exit.inBlock, Exit.then])
  refine bodyPost_ret (by simp [results, Tryz.results35, go_sem, d0, d1, d2, d3, d4, d5, d6, d7, d8, d9]; try rfl) rfl ?_
  exact ⟨y, rfl, HY5.out.st H5.out R3.out (by decide) (by decide), HG5.out.fr_at H5.out N_r.out⟩

end Go.Proofs.YtcmfepaffhnemaaGreatDoor

set_option linter.unusedVariables false
namespace Go.Proofs.YtcmfepaffhnemaaGreatDoor
open Go.RowKit

attribute [local go_sem] Oper.semAt_some

/-- What is kept. -/
def kept (k : Q) : List (List Mm) := if 0 ≤ k.sign then [pf0] else []
theorem Ents.head {w : World} {x : Sv} {s : List Mm} {l : List (List Mm)} (h : Ents w x (s :: l)) : ∃ (y : Sv) (ad : Addr), Mults w y s ∧ x.A = some ad ∧ w.cell? ad = some (.slice none 0 0) ∧ w.cell? ⟨ad.block, ad.off + 1, none⟩ = some (.slice none 0 0) ∧ w.cell? ⟨ad.block, ad.off + 2, none⟩ = some (.int .i64 0) ∧ w.cell? ⟨ad.block, ad.off + 3, none⟩ = some (.int .i64 0) ∧ w.cell? ⟨ad.block, ad.off + 4, none⟩ = some (.bool false) ∧ w.cell? ⟨ad.block, ad.off + 5, none⟩ = some (.slice none 0 0) ∧ w.cell? ⟨ad.block, ad.off + 6, none⟩ = some (.slice none 0 0) ∧ w.cell? ⟨ad.block, ad.off + 7, none⟩ = some (.slice none 0 0) ∧ w.cell? ⟨ad.block, ad.off + 8, none⟩ = some (.bool false) ∧ w.cell? ⟨ad.block, ad.off + 9, none⟩ = some (.slice y.A y.n y.c) := by
  obtain ⟨y, hy, hc⟩ := Rows.at entCs_len h (i := 0) rfl
  obtain ⟨ad, hA, _, c0⟩ := hc 0 _ rfl
  obtain ⟨ad1, h1, _, c1⟩ := hc 1 _ rfl
  obtain ⟨ad2, h2, _, c2⟩ := hc 2 _ rfl
  obtain ⟨ad3, h3, _, c3⟩ := hc 3 _ rfl
  obtain ⟨ad4, h4, _, c4⟩ := hc 4 _ rfl
  obtain ⟨ad5, h5, _, c5⟩ := hc 5 _ rfl
  obtain ⟨ad6, h6, _, c6⟩ := hc 6 _ rfl
  obtain ⟨ad7, h7, _, c7⟩ := hc 7 _ rfl
  obtain ⟨ad8, h8, _, c8⟩ := hc 8 _ rfl
  obtain ⟨ad9, h9, _, c9⟩ := hc 9 _ rfl
  rw [hA] at h1 h2 h3 h4 h5 h6 h7 h8 h9
  cases h1; cases h2; cases h3; cases h4; cases h5; cases h6; cases h7; cases h8; cases h9
  rw [add_in _ _ (by decide), Nat.zero_mul, add_zero] at c1 c2 c3 c4 c5 c6 c7 c8 c9
  rw [Nat.zero_mul, add_zero] at c0
  exact ⟨y, ad, hy, hA, c0, c1, c2, c3, c4, c5, c6, c7, c8, c9⟩
theorem Ents.len {w : World} {x : Sv} {l : List (List Mm)} (h : Ents w x l) : l.length = x.n := Rows.len entCs_len (by decide) h
theorem Ents.gr {w w' : World} {x : Sv} {l : List (List Mm)} (h : Ents w x l) (G : Gr w w') : Ents w' x l := Rows.gr (fun h G => Mults.gr h G) h G
set_option maxRecDepth 100000 in
set_option maxHeartbeats 4000000 in
theorem entries0_any (w : World) (q : Qv) (x : Qm) (k : Q) (p : Sv) (hq : q.Is w x) (hx : x.Va) (hlo : x.lo[0]? = some Q.zero) (hg : x.goal = goal0 k) (hk : Cst k) (hp : Mults w p pf0) :
    Calls Tryz.prog 14 #[.agg #[.int .i64 q.g.inputs, .slice q.g.units.A q.g.units.n q.g.units.c, .slice q.g.outs.A q.g.outs.n q.g.outs.c, .slice q.lo.A q.lo.n q.lo.c, .slice q.hi.A q.hi.n q.hi.c, .slice none 0 0, .slice q.goal.terms.A q.goal.terms.n q.goal.terms.c, .bool q.goal.const.neg, .slice q.goal.const.num.A q.goal.const.num.n q.goal.const.num.c, .slice q.goal.const.den.A q.goal.const.den.n q.goal.const.den.c], leafV p] w fun e w' => ∃ z : Sv, e = .returned (.tuple #[z.v, .int .i64 0]) ∧ Ents w' z (kept k) ∧ Gr w w' := by
  have HN : Hid (p.n ≤ 1000000) := Lib.hid (by have : 1 = p.n := hp.len; omega)
  obtain ⟨B1, B2, G⟩ := made2 w 45 55 (#[.int .i64 q.g.inputs, .slice q.g.units.A q.g.units.n q.g.units.c, .slice q.g.outs.A q.g.outs.n q.g.outs.c, .slice q.lo.A q.lo.n q.lo.c, .slice q.hi.A q.hi.n q.hi.c, .slice none 0 0, .slice q.goal.terms.A q.goal.terms.n q.goal.terms.c, .bool q.goal.const.neg, .slice q.goal.const.num.A q.goal.const.num.n q.goal.const.num.c, .slice q.goal.const.den.A q.goal.const.den.n q.goal.const.den.c]) (#[.slice none 0 0, .int .i64 0, .int .i64 0, .bool false, .slice none 0 0, .slice none 0 0, .slice none 0 0, .bool false, .slice p.A p.n p.c])
  have HG := Lib.hid G
  have D_p0 := Lib.hid B1
  have D_n0 := Lib.hid B2
  clear G B1 B2
  have HQ := Lib.hid hq
  have HX := Lib.hid hx
  have HLO := Lib.hid hlo
  have HGO := Lib.hid hg
  have HK := Lib.hid hk
  have HP := Lib.hid hp
  clear hq hx hlo hg hk hp
  obtain ⟨q0, q1, q2, q3, q4, q5, q6, q7, q8, q9⟩ := D_p0.out.c10
  go_enter Tryz.func14, Tryz.ntmps14
  go_wp2_with fail
  generalize hW : (w.alloc (.cells #[.int .i64 q.g.inputs, .slice q.g.units.A q.g.units.n q.g.units.c, .slice q.g.outs.A q.g.outs.n q.g.outs.c, .slice q.lo.A q.lo.n q.lo.c, .slice q.hi.A q.hi.n q.hi.c, .slice none 0 0, .slice q.goal.terms.A q.goal.terms.n q.goal.terms.c, .bool q.goal.const.neg, .slice q.goal.const.num.A q.goal.const.num.n q.goal.const.num.c, .slice q.goal.const.den.A q.goal.const.den.n q.goal.const.den.c] 45)).alloc (.cells #[.slice none 0 0, .int .i64 0, .int .i64 0, .bool false, .slice none 0 0, .slice none 0 0, .slice none 0 0, .bool false, .slice p.A p.n p.c] 55) = W at *
  clear hW
  have N_p0 : Hid (w.heap.size ≤ w.heap.size) := (by show w.heap.size ≤ w.heap.size; omega)
  have N_n0 : Hid (w.heap.size ≤ w.heap.size + 1) := (by show w.heap.size ≤ w.heap.size + 1; omega)
  generalize w.heap.size + 1 = n0 at *
  refine (qvalid_any W ⟨q.g, q.lo, q.hi, Sv.none, q.goal⟩ x (HQ.out.gr HG.out).nil HX.out).mono ?_
  rintro e w1 ⟨rfl, G1⟩
  replace D_p0 := Lib.hid (G1.bk D_p0.out)
  replace D_n0 := Lib.hid (G1.bk D_n0.out)
  replace HG := Lib.hid (HG.out.trans G1)
  clear G1 q0 q1 q2 q3 q4 q5 q6 q7 q8 q9
  obtain ⟨a0, a1, a2, a3, a4, a5, a6, a7, a8⟩ := D_n0.out.c9
  go_wp2_with fail
  refine (tvalid0 w1 p).mono ?_
  rintro e w2 ⟨rfl, G1⟩
  replace D_p0 := Lib.hid (G1.bk D_p0.out)
  replace D_n0 := Lib.hid (G1.bk D_n0.out)
  replace HG := Lib.hid (HG.out.trans G1)
  clear G1 a0 a1 a2 a3 a4 a5 a6 a7 a8
  obtain ⟨a0, a1, a2, a3, a4, a5, a6, a7, a8⟩ := D_n0.out.c9
  go_wp2_with fail
  refine (sentries0 w2 p pf0 (HP.out.gr HG.out) HN.out).mono ?_
  rintro e w3 ⟨z, rfl, hz, G1⟩
  have hn1 : 1 = z.n := hz.len
  obtain ⟨y0, ad, hy0, hA, c0, c1, c2, c3, c4, c5, c6, c7, c8, c9⟩ := hz.head
  obtain ⟨zA, zn, zc⟩ := z
  simp only at hn1 hA
  subst hn1 hA
  have az := add_zero ad
  have HY0 := Lib.hid hy0
  replace HG := Lib.hid (HG.out.trans G1)
  replace D_p0 := Lib.hid (G1.bk D_p0.out)
  clear hz hy0 G1 a0 a1 a2 a3 a4 a5 a6 a7 a8 D_n0
  simp only [Sv.v]
  obtain ⟨B1, GB⟩ := made1 w3 90 #[.slice none 0 0, .slice none 0 0, .int .i64 0, .int .i64 0, .bool false, .slice none 0 0, .slice none 0 0, .slice none 0 0, .bool false, .slice y0.A y0.n y0.c]
  have DX := Lib.hid B1
  have HY1 := Lib.hid (HY0.out.gr GB)
  have D_p1 := Lib.hid (GB.bk D_p0.out)
  have HG1 := Lib.hid (HG.out.trans GB)
  have HSZ := Lib.hid HG.out.size
  have hpx := Lib.hid (show ¬ w.heap.size = w3.heap.size from fun e => Nat.lt_irrefl _ (e ▸ D_p0.out.lt))
  obtain ⟨e0, e1, e2, e3, e4, e5, e6, e7, e8, e9⟩ := DX.out.c10
  clear B1 GB HY0 HG D_p0
  go_wp2_with fail
  refine wp_loop_rounds 2 ?_
  rw [rounds_succ]
  go_wp2_with fail
  clear c0 c1 c2 c3 c4 c5 c6 c7 c8 c9 e0 e1 e2 e3 e4 e5 e6 e7 e8 e9
  refine (reduce0 _ y0 HY1.out).mono ?_
  rintro e w4 ⟨y, rfl, hy, G1⟩
  have DX1 := G1.bk DX.out
  obtain ⟨B5, F5⟩ := DX1.put10 (.slice none 0 0) (.slice none 0 0) (.int .i64 0) (.int .i64 0) (.bool false) (.slice none 0 0) (.slice none 0 0) (.slice none 0 0) (.bool false) (.slice y.A y.n y.c)
  have fz := DX1.frozen
  obtain ⟨z0, z1, z2, z3, z4, z5, z6, z7, z8, z9⟩ := DX1.c10
  have HNX := Lib.hid HSZ.out
  have HY5 := Lib.hid (hy.st F5 DX1 (by decide) (by decide))
  have DX5 := Lib.hid B5
  have D_p5 := Lib.hid (F5.bk (G1.bk D_p1.out) hpx.out)
  have HG5 := Lib.hid ((HG1.out.trans G1).fr_at F5 HNX.out)
  obtain ⟨e0, e1, e2, e3, e4, e5, e6, e7, e8, e9⟩ := DX5.out.c10
  obtain ⟨q0, q1, q2, q3, q4, q5, q6, q7, q8, q9⟩ := D_p5.out.c10
  clear DX1 hy G1 F5 B5 DX D_p1 HG1 HY1
  go_wp2_with fail
  clear z0 z1 z2 z3 z4 z5 z6 z7 z8 z9 fz
  generalize (((((((((w4.setCell ⟨w3.heap.size, 0, none⟩ (.slice none 0 0)).setCell ⟨w3.heap.size, 1, none⟩ (.slice none 0 0)).setCell ⟨w3.heap.size, 2, none⟩ (.int .i64 0)).setCell ⟨w3.heap.size, 3, none⟩ (.int .i64 0)).setCell ⟨w3.heap.size, 4, none⟩ (.bool false)).setCell ⟨w3.heap.size, 5, none⟩ (.slice none 0 0)).setCell ⟨w3.heap.size, 6, none⟩ (.slice none 0 0)).setCell ⟨w3.heap.size, 7, none⟩ (.slice none 0 0)).setCell ⟨w3.heap.size, 8, none⟩ (.bool false)).setCell ⟨w3.heap.size, 9, none⟩ (.slice y.A y.n y.c) = w5 at *
  generalize w3.heap.size = xb at *
  have H6 := applies0_any w5 q x k y (HQ.out.gr HG5.out) HX.out HLO.out HGO.out HK.out HY5.out
  obtain ⟨b, hb⟩ : ∃ b, b = decide (0 ≤ k.sign) := ⟨_, rfl⟩
  rw [← hb] at H6
  have HB := Lib.hid hb
  clear hb
  refine H6.mono ?_
  rintro e w6 ⟨rfl, G1⟩
  have HG6 := Lib.hid (HG5.out.trans G1)
  have HY6 := Lib.hid (HY5.out.gr G1)
  have DX6 := Lib.hid (G1.bk DX5.out)
  clear G1 H6 HG5 HY5 DX5 D_p5 e0 e1 e2 e3 e4 e5 e6 e7 e8 e9 q0 q1 q2 q3 q4 q5 q6 q7 q8 q9
  obtain ⟨e0, e1, e2, e3, e4, e5, e6, e7, e8, e9⟩ := DX6.out.c10
  cases b
  · have hE : Hid (kept k = []) := if_neg (of_decide_eq_false HB.out.symm)
    go_wp2
    rw [rounds_succ]
    go_wp2
    (try simp only [Exit.inBlock, Exit.then])
    refine bodyPost_ret (by simp [results, Tryz.results14, go_sem]; try rfl) rfl ?_
    exact ⟨Sv.none, rfl, by rw [hE.out]; exact Rows.empty, HG6.out⟩
  · have hE : Hid (kept k = [pf0]) := if_pos (of_decide_eq_true HB.out.symm)
    obtain ⟨B1, GB⟩ := made1 w6 90 #[.slice none 0 0, .slice none 0 0, .int .i64 0, .int .i64 0, .bool false, .slice none 0 0, .slice none 0 0, .slice none 0 0, .bool false, .slice y.A y.n y.c]
    have BC := Lib.hid (bk_cells B1)
    have HO : Hid ((w6.alloc (.cells #[.slice none 0 0, .slice none 0 0, .int .i64 0, .int .i64 0, .bool false, .slice none 0 0, .slice none 0 0, .slice none 0 0, .bool false, .slice y.A y.n y.c] 90)).ownsRow w6.heap.size 90 10 (.slice none 0 0) 0 []) := ⟨rfl, .inl ⟨rfl, rfl⟩⟩
    have HY7 := Lib.hid (HY6.out.gr GB)
    have HG7 := Lib.hid (HG6.out.trans GB)
    clear B1 GB
    go_wp2_with (at_builtin; refine wpList_appS elemE rfl _ _ rfl w6.heap.size (.slice none 0 0) 0 [] rfl HO.out ⟨w6.heap.size, 0, none⟩ 1 1 (entCs y) rfl rfl BC.out (entCs_one y) (by decide) (by decide) (by simp) ?_; intro v' w7 g1 g2 g3; have GR : Gr _ w7 := Gr.of ((Below.refl _ _).grown g2 (Nat.le_refl _) (fun k e => by cases e)); have HG8 := Lib.hid (HG7.out.trans GR); have HY8 := Lib.hid (HY7.out.gr GR); rw [Nat.zero_add, List.nil_append] at g1; obtain ⟨zz, rfl, hzn, hz, hzt⟩ := Sv.of_row g1 (by decide); have HZ := Lib.hid hz; have HZT := Lib.hid hzt; clear g1 g2 g3 GR hzn hz hzt)
    go_wp2
    rw [rounds_succ]
    go_wp2
    (try simp only [Exit.inBlock, Exit.then])
    refine bodyPost_ret (by simp [results, Tryz.results14, go_sem]; try rfl) rfl ?_
    refine ⟨zz, rfl, ?_, HG8.out⟩
    rw [hE.out]
    exact ⟨[(y, pf0)], by simpa using HZ.out, rfl, (fun p hp => by rw [List.mem_singleton.1 hp]; exact HY8.out), HZT.out⟩

end Go.Proofs.YtcmfepaffhnemaaGreatDoor

set_option linter.unusedVariables false
namespace Go.Proofs.YtcmfepaffhnemaaGreatDoor
open Go.RowKit

attribute [local go_sem] Oper.semAt_some
theorem aload_run (w : World) (a : Addr) (x : Int) (h : w.cell? a = some (.int .i64 x)) : (callFunc 148 #[.pointer (some a)]).run Tryz.prog w = .ok (.value (.int .i64 x)) w :=
  run_call_load (fn := Tryz.f148) (by kernel_rfl) (by kernel_rfl) (by kernel_rfl) (by kernel_rfl) .i64 (by kernel_rfl) h
set_option maxRecDepth 100000 in
set_option maxHeartbeats 4000000 in
theorem aload_any (w : World) (b o : Nat) (x : Int) (h : w.cell? ⟨b, o, none⟩ = some (.int .i64 x)) :
    Calls Tryz.prog 104 #[.pointer (some ⟨b, o, none⟩)] w fun e w' => e = .returned (.int .i64 x) ∧ Gr w w' := by
  have hr := aload_run w _ x h
  go_enter Tryz.func104, Tryz.ntmps104
  go_wp2
  go_ret
  exact ⟨rfl, Gr.refl w⟩

set_option maxRecDepth 100000 in
set_option maxHeartbeats 4000000 in
theorem get0 (w : World) :
    Calls Tryz.prog 96 #[.int .i64 0] w fun e w' => e = .returned (.tuple #[.iface 227 (.agg #[]), .bool true]) ∧ Gr w w' := by
  go_enter Tryz.func96, Tryz.ntmps96
  go_wp2
  refine bodyPost_ret (by simp [results, Tryz.results96, go_sem]; try rfl) rfl ?_
  exact ⟨rfl, Gr.refl w⟩

set_option maxRecDepth 100000 in
set_option maxHeartbeats 4000000 in
theorem shifted0 (w : World) (p : Sv) (hp : Mults w p pf0) :
    Calls Tryz.prog 223 #[.slice p.A p.n p.c, .int .i64 0] w fun e w' => ∃ y : Sv, e = .returned y.v ∧ Mults w' y pf0 ∧ Gr w w' := by
  have hn : 1 = p.n := hp.len
  have HN : Hid (p.n ≤ 1000000) := Lib.hid (by omega)
  have HP := Lib.hid hp
  clear hp hn
  go_enter Tryz.func223, Tryz.ntmps223
  go_wp2_with fail
  refine (Mults.clone w p pf0 HP.out HN.out).mono ?_
  rintro e w1 ⟨y, rfl, hy, G1⟩
  have HY := Lib.hid hy
  have HG := Lib.hid G1
  have hn1 : 1 = y.n := hy.len
  obtain ⟨t, ad, ht, hA, d0, d1, d2, d3, d4, d5, d6⟩ := hy.head
  obtain ⟨yA, yn, yc⟩ := y
  simp only at hn1 hA d0 d1 d2 d3
  subst hn1 hA
  have az := add_zero ad
  clear hy G1 ht
  simp only [Sv.v]
  go_wp2_with fail
  refine wp_loop_rounds 2 ?_
  rw [rounds_succ]
  go_wp2
  rw [rounds_succ]
  go_wp2
  go_ret
  exact ⟨⟨some ad, 1, yc⟩, rfl, HY.out, HG.out⟩

set_option maxRecDepth 100000 in
set_option maxHeartbeats 4000000 in
theorem sproves0 (w : World) (q : Qv) (x : Qm) (k : Q) (p : Sv) (hq : q.Is w x) (hx : x.Va) (hlo : x.lo[0]? = some Q.zero) (hg : x.goal = goal0 k) (hk : Cst k) (hp : Mults w p pf0) :
    Calls Tryz.prog 222 #[scV q, leafV p] w fun e w' => e = .returned (.bool (decide (0 ≤ k.sign))) ∧ Gr w w' := by
  obtain ⟨B1, B2, G⟩ := made2 w 130 55 (#[.int .i64 q.g.inputs, .slice q.g.units.A q.g.units.n q.g.units.c, .slice q.g.outs.A q.g.outs.n q.g.outs.c, .slice q.lo.A q.lo.n q.lo.c, .slice q.hi.A q.hi.n q.hi.c, .slice none 0 0, .slice q.goal.terms.A q.goal.terms.n q.goal.terms.c, .bool q.goal.const.neg, .slice q.goal.const.num.A q.goal.const.num.n q.goal.const.num.c, .slice q.goal.const.den.A q.goal.const.den.n q.goal.const.den.c, .slice none 0 0, .slice none 0 0]) (#[.slice none 0 0, .int .i64 0, .int .i64 0, .bool false, .slice none 0 0, .slice none 0 0, .slice none 0 0, .bool false, .slice p.A p.n p.c])
  have HG := Lib.hid G
  have D_p0 := Lib.hid B1
  have D_n0 := Lib.hid B2
  clear G B1 B2
  have HQ := Lib.hid hq
  have HX := Lib.hid hx
  have HLO := Lib.hid hlo
  have HGO := Lib.hid hg
  have HK := Lib.hid hk
  have HP := Lib.hid hp
  clear hq hx hlo hg hk hp
  obtain ⟨s0, s1, s2, s3, s4, s5, s6, s7, s8, s9, s10, s11⟩ := D_p0.out.c12
  go_enter Tryz.func222, Tryz.ntmps222
  go_wp2_with fail
  generalize hW : (w.alloc (.cells #[.int .i64 q.g.inputs, .slice q.g.units.A q.g.units.n q.g.units.c, .slice q.g.outs.A q.g.outs.n q.g.outs.c, .slice q.lo.A q.lo.n q.lo.c, .slice q.hi.A q.hi.n q.hi.c, .slice none 0 0, .slice q.goal.terms.A q.goal.terms.n q.goal.terms.c, .bool q.goal.const.neg, .slice q.goal.const.num.A q.goal.const.num.n q.goal.const.num.c, .slice q.goal.const.den.A q.goal.const.den.n q.goal.const.den.c, .slice none 0 0, .slice none 0 0] 130)).alloc (.cells #[.slice none 0 0, .int .i64 0, .int .i64 0, .bool false, .slice none 0 0, .slice none 0 0, .slice none 0 0, .bool false, .slice p.A p.n p.c] 55) = W at *
  clear hW
  have N_p0 : Hid (w.heap.size ≤ w.heap.size) := (by show w.heap.size ≤ w.heap.size; omega)
  have N_n0 : Hid (w.heap.size ≤ w.heap.size + 1) := (by show w.heap.size ≤ w.heap.size + 1; omega)
  generalize w.heap.size + 1 = n0 at *
  refine (scope0_any W q x (HQ.out.gr HG.out) HX.out).mono ?_
  rintro e w1 ⟨rfl, G1⟩
  replace HG := Lib.hid (HG.out.trans G1)
  replace D_p0 := Lib.hid (G1.bk D_p0.out)
  replace D_n0 := Lib.hid (G1.bk D_n0.out)
  clear G1 s0 s1 s2 s3 s4 s5 s6 s7 s8 s9 s10 s11
  obtain ⟨s0, s1, s2, s3, s4, s5, s6, s7, s8, s9, s10, s11⟩ := D_p0.out.c12
  obtain ⟨a0, a1, a2, a3, a4, a5, a6, a7, a8⟩ := D_n0.out.c9
  go_wp2_with fail
  refine (proves0_any w1 q x q.goal k p (HQ.out.gr HG.out) HX.out HLO.out (by have := (HQ.out.gr HG.out).goal; rw [HGO.out] at this; exact this) HK.out (HP.out.gr HG.out)).mono ?_
  rintro e w2 ⟨rfl, G1⟩
  replace HG := Lib.hid (HG.out.trans G1)
  clear G1 s0 s1 s2 s3 s4 s5 s6 s7 s8 s9 s10 s11 a0 a1 a2 a3 a4 a5 a6 a7 a8
  go_wp2
  go_ret
  exact ⟨rfl, HG.out⟩

set_option maxRecDepth 100000 in
set_option maxHeartbeats 4000000 in
theorem twice0 (w : World) :
    Calls Tryz.prog 171 #[.slice none 0 0] w fun e w' => e = .returned (.bool false) ∧ Gr w w' := by
  have hmm := @run_makeMap Tryz.prog
  go_enter Tryz.func171, Tryz.ntmps171
  go_wp2_with fail
  go_rounds 1
  go_ret
  exact ⟨rfl, (Gr.refl w).alloc _⟩

theorem makeI1 (w : World) : (Instr.makeSlice 28 (.int .i64 1024) (.int .i64 1024)).run Tryz.prog w = .ok (.slice (some ⟨w.heap.size, 0, none⟩) 1024 1024) (w.alloc (.cells (madeCells #[Value.int .i64 0] 1024) 3)) := by
  obtain ⟨i0, hi, hz0, hz1, hz2⟩ := info_parts (show (Tryz.prog.info? 3).map (fun i => (i.zero, i.size, i.bytes)) = some (some (.int .i64 0), 1, 8) from by kernel_rfl)
  have := run_make (P := Tryz.prog) w 28 3 i0 _ (by kernel_rfl) hi hz0 .i64 .i64 1024 1024 (by omega) (Int.le_refl _) (by rw [hz2]; omega) (by omega)
  rw [hz1, show Int.toNat 1024 = 1024 from rfl, Nat.mul_one] at this
  exact this
set_option maxRecDepth 100000 in
set_option maxHeartbeats 4000000 in
theorem path0 (w : World) :
    Calls Tryz.prog 134 #[.slice none 0 0, .int .i64 1024] w fun e w' => ∃ y : Sv, e = .returned (.tuple #[y.v, .int .i64 0]) ∧ Gr w w' := by
  go_enter Tryz.func134, Tryz.ntmps134
  go_wp2_with fail
  refine wp_loop_rounds 1 ?_
  rw [rounds_succ]
  go_wp2_with fail
  refine (twice0 w).mono ?_
  rintro e w1 ⟨rfl, G1⟩
  have mi := makeI1 w1
  have HG := Lib.hid G1
  clear G1
  go_wp2_with fail
  refine wp_loop_rounds 1 ?_
  rw [rounds_succ]
  go_wp2
  refine bodyPost_ret (by simp [results, Tryz.results134, go_sem]; try rfl) rfl ?_
  exact ⟨⟨some ⟨w1.heap.size, 0, none⟩, 1024, 1024⟩, rfl, HG.out.alloc _⟩

set_option maxRecDepth 100000 in
set_option maxHeartbeats 4000000 in
theorem key0 (w : World) :
    Calls Tryz.prog 97 #[.slice none 0 0] w fun e w' => e = .returned (.tuple #[.string ⟨#[]⟩, .bool true]) ∧ Gr w w' := by
  go_enter Tryz.func97, Tryz.ntmps97
  go_wp2_with fail
  refine (path0 w).mono ?_
  rintro e w1 ⟨y, rfl, G1⟩
  have HG := Lib.hid G1
  clear G1
  go_wp2_with fail
  refine wp_loop_rounds 1 ?_
  rw [rounds_succ]
  go_wp2_with fail
  have hb : Lib.IsBuilder 235 5 w.heap.size w1.heap.size [] (w1.alloc (.cells #[.pointer none, .slice none 0 0] 235)) := .inl ⟨HG.out.size, .slice none 0 0, Bk.made _ _ _, World.ownsRow_nil _ _ _ _, by simp [Value.ownBlock]⟩
  refine (Tryz.Builder_String_empty w.heap.size w1.heap.size _ hb (by simp [World.size_alloc]; have := HG.out.size; omega)).mono ?_
  rintro e w2 ⟨rfl, hB⟩
  have HG2 := Lib.hid (Gr.of ((HG.out.alloc _).below.trans hB) : Gr w w2)
  clear hB hb
  go_wp2
  refine bodyPost_ret (by simp [results, Tryz.results97, go_sem]; try rfl) rfl ?_
  exact ⟨rfl, HG2.out⟩

end Go.Proofs.YtcmfepaffhnemaaGreatDoor

set_option linter.unusedVariables false
namespace Go.Proofs.YtcmfepaffhnemaaGreatDoor
open Go.RowKit

attribute [local go_sem] Oper.semAt_some
theorem Bk.c13 {w : World} {p t : Nat} {x0 x1 x2 x3 x4 x5 x6 x7 x8 x9 x10 x11 x12 : Value} (h : Bk w p t #[x0, x1, x2, x3, x4, x5, x6, x7, x8, x9, x10, x11, x12]) : w.cell? ⟨p, 0, none⟩ = some x0 ∧ w.cell? ⟨p, 1, none⟩ = some x1 ∧ w.cell? ⟨p, 2, none⟩ = some x2 ∧ w.cell? ⟨p, 3, none⟩ = some x3 ∧ w.cell? ⟨p, 4, none⟩ = some x4 ∧ w.cell? ⟨p, 5, none⟩ = some x5 ∧ w.cell? ⟨p, 6, none⟩ = some x6 ∧ w.cell? ⟨p, 7, none⟩ = some x7 ∧ w.cell? ⟨p, 8, none⟩ = some x8 ∧ w.cell? ⟨p, 9, none⟩ = some x9 ∧ w.cell? ⟨p, 10, none⟩ = some x10 ∧ w.cell? ⟨p, 11, none⟩ = some x11 ∧ w.cell? ⟨p, 12, none⟩ = some x12 := ⟨h.cell 0, h.cell 1, h.cell 2, h.cell 3, h.cell 4, h.cell 5, h.cell 6, h.cell 7, h.cell 8, h.cell 9, h.cell 10, h.cell 11, h.cell 12⟩
theorem Bk.c25 {w : World} {p t : Nat} {x0 x1 x2 x3 x4 x5 x6 x7 x8 x9 x10 x11 x12 x13 x14 x15 x16 x17 x18 x19 x20 x21 x22 x23 x24 : Value} (h : Bk w p t #[x0, x1, x2, x3, x4, x5, x6, x7, x8, x9, x10, x11, x12, x13, x14, x15, x16, x17, x18, x19, x20, x21, x22, x23, x24]) : w.cell? ⟨p, 0, none⟩ = some x0 ∧ w.cell? ⟨p, 1, none⟩ = some x1 ∧ w.cell? ⟨p, 2, none⟩ = some x2 ∧ w.cell? ⟨p, 3, none⟩ = some x3 ∧ w.cell? ⟨p, 4, none⟩ = some x4 ∧ w.cell? ⟨p, 5, none⟩ = some x5 ∧ w.cell? ⟨p, 6, none⟩ = some x6 ∧ w.cell? ⟨p, 7, none⟩ = some x7 ∧ w.cell? ⟨p, 8, none⟩ = some x8 ∧ w.cell? ⟨p, 9, none⟩ = some x9 ∧ w.cell? ⟨p, 10, none⟩ = some x10 ∧ w.cell? ⟨p, 11, none⟩ = some x11 ∧ w.cell? ⟨p, 12, none⟩ = some x12 ∧ w.cell? ⟨p, 13, none⟩ = some x13 ∧ w.cell? ⟨p, 14, none⟩ = some x14 ∧ w.cell? ⟨p, 15, none⟩ = some x15 ∧ w.cell? ⟨p, 16, none⟩ = some x16 ∧ w.cell? ⟨p, 17, none⟩ = some x17 ∧ w.cell? ⟨p, 18, none⟩ = some x18 ∧ w.cell? ⟨p, 19, none⟩ = some x19 ∧ w.cell? ⟨p, 20, none⟩ = some x20 ∧ w.cell? ⟨p, 21, none⟩ = some x21 ∧ w.cell? ⟨p, 22, none⟩ = some x22 ∧ w.cell? ⟨p, 23, none⟩ = some x23 ∧ w.cell? ⟨p, 24, none⟩ = some x24 := ⟨h.cell 0, h.cell 1, h.cell 2, h.cell 3, h.cell 4, h.cell 5, h.cell 6, h.cell 7, h.cell 8, h.cell 9, h.cell 10, h.cell 11, h.cell 12, h.cell 13, h.cell 14, h.cell 15, h.cell 16, h.cell 17, h.cell 18, h.cell 19, h.cell 20, h.cell 21, h.cell 22, h.cell 23, h.cell 24⟩
set_option maxRecDepth 100000 in
set_option maxHeartbeats 4000000 in
theorem begin0 (w : World) (q : Qv) (x : Qm) (hq : q.Is w x) (hx : x.Va) :
    Calls Tryz.prog 64 #[.agg #[.int .i64 q.g.inputs, .slice q.g.units.A q.g.units.n q.g.units.c, .slice q.g.outs.A q.g.outs.n q.g.outs.c, .slice q.lo.A q.lo.n q.lo.c, .slice q.hi.A q.hi.n q.hi.c, .slice none 0 0, .slice q.goal.terms.A q.goal.terms.n q.goal.terms.c, .bool q.goal.const.neg, .slice q.goal.const.num.A q.goal.const.num.n q.goal.const.num.c, .slice q.goal.const.den.A q.goal.const.den.n q.goal.const.den.c], .agg #[.int .i64 0, .int .i64 0, .bool false, .bool false, .int .i64 0, .int .i64 10, .int .i64 0]] w fun e w' => ∃ r v : Nat, e = .returned (.tuple #[.pointer (some ⟨r, 0, none⟩), .int .i64 0]) ∧ w.heap.size ≤ r ∧ w.heap.size ≤ v ∧ r ≠ v ∧ Bk w' r 154 #[.int .i64 q.g.inputs, .slice q.g.units.A q.g.units.n q.g.units.c, .slice q.g.outs.A q.g.outs.n q.g.outs.c, .slice q.lo.A q.lo.n q.lo.c, .slice q.hi.A q.hi.n q.hi.c, .slice none 0 0, .slice q.goal.terms.A q.goal.terms.n q.goal.terms.c, .bool q.goal.const.neg, .slice q.goal.const.num.A q.goal.const.num.n q.goal.const.num.c, .slice q.goal.const.den.A q.goal.const.den.n q.goal.const.den.c, .int .i64 0, .int .i64 0, .bool false, .bool false, .int .i64 0, .int .i64 10, .int .i64 0, .iface 227 (.agg #[]), .pointer (some ⟨v, 0, none⟩), .slice none 0 0, .pointer none, .int .i64 0, .int .i64 0, .int .i64 0, .pointer none] ∧ Bk w' v 189 #[.slice none 0 0, .int .i64 0, .int .i64 0, .bool false, .slice none 0 0, .slice none 0 0, .slice none 0 0, .bool false, .slice none 0 0, .slice none 0 0] ∧ Gr w w' := by
  obtain ⟨B1, B2, G⟩ := made2 w 45 66 (#[.int .i64 q.g.inputs, .slice q.g.units.A q.g.units.n q.g.units.c, .slice q.g.outs.A q.g.outs.n q.g.outs.c, .slice q.lo.A q.lo.n q.lo.c, .slice q.hi.A q.hi.n q.hi.c, .slice none 0 0, .slice q.goal.terms.A q.goal.terms.n q.goal.terms.c, .bool q.goal.const.neg, .slice q.goal.const.num.A q.goal.const.num.n q.goal.const.num.c, .slice q.goal.const.den.A q.goal.const.den.n q.goal.const.den.c]) (#[.int .i64 0, .int .i64 0, .bool false, .bool false, .int .i64 0, .int .i64 10, .int .i64 0])
  have HG := Lib.hid G
  have D_p0 := Lib.hid B1
  have D_o0 := Lib.hid B2
  clear G B1 B2
  have HQ := Lib.hid hq
  have HX := Lib.hid hx
  clear hq hx
  obtain ⟨q0, q1, q2, q3, q4, q5, q6, q7, q8, q9⟩ := D_p0.out.c10
  obtain ⟨o0, o1, o2, o3, o4, o5, o6⟩ := D_o0.out.c7
  go_enter Tryz.func64, Tryz.ntmps64
  go_wp2_with fail
  generalize hW : (w.alloc (.cells #[.int .i64 q.g.inputs, .slice q.g.units.A q.g.units.n q.g.units.c, .slice q.g.outs.A q.g.outs.n q.g.outs.c, .slice q.lo.A q.lo.n q.lo.c, .slice q.hi.A q.hi.n q.hi.c, .slice none 0 0, .slice q.goal.terms.A q.goal.terms.n q.goal.terms.c, .bool q.goal.const.neg, .slice q.goal.const.num.A q.goal.const.num.n q.goal.const.num.c, .slice q.goal.const.den.A q.goal.const.den.n q.goal.const.den.c] 45)).alloc (.cells #[.int .i64 0, .int .i64 0, .bool false, .bool false, .int .i64 0, .int .i64 10, .int .i64 0] 66) = W at *
  clear hW
  have N_p0 : Hid (w.heap.size ≤ w.heap.size) := (by show w.heap.size ≤ w.heap.size; omega)
  have N_o0 : Hid (w.heap.size ≤ w.heap.size + 1) := (by show w.heap.size ≤ w.heap.size + 1; omega)
  generalize w.heap.size + 1 = o0 at *
  refine (get0 W).mono ?_
  rintro e w1 ⟨rfl, G1⟩
  replace HG := Lib.hid (HG.out.trans G1)
  replace D_p0 := Lib.hid (G1.bk D_p0.out)
  replace D_o0 := Lib.hid (G1.bk D_o0.out)
  clear G1 q0 q1 q2 q3 q4 q5 q6 q7 q8 q9 o0 o1 o2 o3 o4 o5 o6
  obtain ⟨q0, q1, q2, q3, q4, q5, q6, q7, q8, q9⟩ := D_p0.out.c10
  obtain ⟨o0, o1, o2, o3, o4, o5, o6⟩ := D_o0.out.c7
  go_wp2_with fail
  refine (qvalid_any w1 ⟨q.g, q.lo, q.hi, Sv.none, q.goal⟩ x (HQ.out.gr HG.out).nil HX.out).mono ?_
  rintro e w2 ⟨rfl, G1⟩
  replace HG := Lib.hid (HG.out.trans G1)
  replace D_p0 := Lib.hid (G1.bk D_p0.out)
  replace D_o0 := Lib.hid (G1.bk D_o0.out)
  clear G1 q0 q1 q2 q3 q4 q5 q6 q7 q8 q9 o0 o1 o2 o3 o4 o5 o6
  obtain ⟨q0, q1, q2, q3, q4, q5, q6, q7, q8, q9⟩ := D_p0.out.c10
  obtain ⟨o0, o1, o2, o3, o4, o5, o6⟩ := D_o0.out.c7
  go_wp2
  refine bodyPost_ret (by simp [results, Tryz.results64, go_sem]; try rfl) rfl ?_
  obtain ⟨B1, B2, GB⟩ := made2 w2 189 154 #[.slice none 0 0, .int .i64 0, .int .i64 0, .bool false, .slice none 0 0, .slice none 0 0, .slice none 0 0, .bool false, .slice none 0 0, .slice none 0 0] #[.int .i64 q.g.inputs, .slice q.g.units.A q.g.units.n q.g.units.c, .slice q.g.outs.A q.g.outs.n q.g.outs.c, .slice q.lo.A q.lo.n q.lo.c, .slice q.hi.A q.hi.n q.hi.c, .slice none 0 0, .slice q.goal.terms.A q.goal.terms.n q.goal.terms.c, .bool q.goal.const.neg, .slice q.goal.const.num.A q.goal.const.num.n q.goal.const.num.c, .slice q.goal.const.den.A q.goal.const.den.n q.goal.const.den.c, .int .i64 0, .int .i64 0, .bool false, .bool false, .int .i64 0, .int .i64 10, .int .i64 0, .iface 227 (.agg #[]), .pointer (some ⟨w2.heap.size, 0, none⟩), .slice none 0 0, .pointer none, .int .i64 0, .int .i64 0, .int .i64 0, .pointer none]
  exact ⟨w2.heap.size + 1, w2.heap.size, rfl, Nat.le_succ_of_le HG.out.size, HG.out.size, Nat.succ_ne_self _, B2, B1, HG.out.trans GB⟩
end Go.Proofs.YtcmfepaffhnemaaGreatDoor

set_option linter.unusedVariables false
namespace Go.Proofs.YtcmfepaffhnemaaGreatDoor
open Go.RowKit

attribute [local go_sem] Oper.semAt_some
theorem made_maps (W : World) (t : TypeId) (cs : Array Value) : Ob ((((W.alloc (.map #[] 0)).alloc (.map #[] 0)).alloc (.map #[] 0)).alloc (.cells cs t)) W.heap.size (.map #[] 0) ∧ Ob ((((W.alloc (.map #[] 0)).alloc (.map #[] 0)).alloc (.map #[] 0)).alloc (.cells cs t)) (W.heap.size + 1) (.map #[] 0) ∧ Ob ((((W.alloc (.map #[] 0)).alloc (.map #[] 0)).alloc (.map #[] 0)).alloc (.cells cs t)) (W.heap.size + 1 + 1) (.map #[] 0) ∧ Bk ((((W.alloc (.map #[] 0)).alloc (.map #[] 0)).alloc (.map #[] 0)).alloc (.cells cs t)) (W.heap.size + 1 + 1 + 1) t cs ∧ Gr W ((((W.alloc (.map #[] 0)).alloc (.map #[] 0)).alloc (.map #[] 0)).alloc (.cells cs t)) := by
  have s1 : (W.alloc (.map #[] 0)).heap.size = W.heap.size + 1 := World.size_alloc ..
  have s2 : ((W.alloc (.map #[] 0)).alloc (.map #[] 0)).heap.size = W.heap.size + 1 + 1 := by rw [World.size_alloc, s1]
  have s3 : (((W.alloc (.map #[] 0)).alloc (.map #[] 0)).alloc (.map #[] 0)).heap.size = W.heap.size + 1 + 1 + 1 := by rw [World.size_alloc, s2]
  have a1 := Ob.made W (.map #[] 0)
  have a2 := Ob.made (W.alloc (.map #[] 0)) (.map #[] 0)
  have a3 := Ob.made ((W.alloc (.map #[] 0)).alloc (.map #[] 0)) (.map #[] 0)
  have a4 := Bk.made (((W.alloc (.map #[] 0)).alloc (.map #[] 0)).alloc (.map #[] 0)) t cs
  rw [s1] at a2
  rw [s2] at a3
  rw [s3] at a4
  have g := fun (w : World) (o : Obj) => (Gr.refl w).alloc o
  exact ⟨((a1.gr (g _ _)).gr (g _ _)).gr (g _ _), (a2.gr (g _ _)).gr (g _ _), a3.gr (g _ _), a4, (((Gr.refl W).alloc _).alloc _).alloc _ |>.alloc _⟩
set_option maxRecDepth 100000 in
set_option maxHeartbeats 4000000 in
theorem index0 (w : World) (q : Qv) (z : Sv) (hz : Ents w z [pf0]) :
    Calls Tryz.prog 65 #[.agg #[.int .i64 q.g.inputs, .slice q.g.units.A q.g.units.n q.g.units.c, .slice q.g.outs.A q.g.outs.n q.g.outs.c, .slice q.lo.A q.lo.n q.lo.c, .slice q.hi.A q.hi.n q.hi.c, .slice none 0 0, .slice q.goal.terms.A q.goal.terms.n q.goal.terms.c, .bool q.goal.const.neg, .slice q.goal.const.num.A q.goal.const.num.n q.goal.const.num.c, .slice q.goal.const.den.A q.goal.const.den.n q.goal.const.den.c], .slice z.A z.n z.c] w fun e w' => ∃ (k m1 m2 m3 : Nat) (y : Sv), e = .returned (.pointer (some ⟨k, 0, none⟩)) ∧ w.heap.size ≤ k ∧ w.heap.size ≤ m3 ∧ m3 ≠ k ∧ Bk w' k 194 #[.int .i64 q.g.inputs, .slice q.g.units.A q.g.units.n q.g.units.c, .slice q.g.outs.A q.g.outs.n q.g.outs.c, .slice q.lo.A q.lo.n q.lo.c, .slice q.hi.A q.hi.n q.hi.c, .slice none 0 0, .slice q.goal.terms.A q.goal.terms.n q.goal.terms.c, .bool q.goal.const.neg, .slice q.goal.const.num.A q.goal.const.num.n q.goal.const.num.c, .slice q.goal.const.den.A q.goal.const.den.n q.goal.const.den.c, .map (some m1), .map (some m2), .map (some m3)] ∧ Ob w' m1 (.map #[{ key := .string ⟨#[]⟩, val := .slice y.A y.n y.c, born := 0 }] 1) ∧ Ents w' y [pf0] ∧ Ob w' m2 (.map #[] 0) ∧ Ob w' m3 (.map #[] 0) ∧ Gr w w' := by
  have hmm := @run_makeMap Tryz.prog
  obtain ⟨B1, G⟩ := made1 w 45 (#[.int .i64 q.g.inputs, .slice q.g.units.A q.g.units.n q.g.units.c, .slice q.g.outs.A q.g.outs.n q.g.outs.c, .slice q.lo.A q.lo.n q.lo.c, .slice q.hi.A q.hi.n q.hi.c, .slice none 0 0, .slice q.goal.terms.A q.goal.terms.n q.goal.terms.c, .bool q.goal.const.neg, .slice q.goal.const.num.A q.goal.const.num.n q.goal.const.num.c, .slice q.goal.const.den.A q.goal.const.den.n q.goal.const.den.c])
  have HG := Lib.hid G
  have D_p0 := Lib.hid B1
  clear G B1
  have HZ := Lib.hid (hz.gr HG.out)
  clear hz
  go_enter Tryz.func65, Tryz.ntmps65
  go_upto_region 1 with fail
  generalize hW : w.alloc (.cells #[.int .i64 q.g.inputs, .slice q.g.units.A q.g.units.n q.g.units.c, .slice q.g.outs.A q.g.outs.n q.g.outs.c, .slice q.lo.A q.lo.n q.lo.c, .slice q.hi.A q.hi.n q.hi.c, .slice none 0 0, .slice q.goal.terms.A q.goal.terms.n q.goal.terms.c, .bool q.goal.const.neg, .slice q.goal.const.num.A q.goal.const.num.n q.goal.const.num.c, .slice q.goal.const.den.A q.goal.const.den.n q.goal.const.den.c] 45) = W at *
  clear hW
  have N_p0 : Hid (w.heap.size ≤ w.heap.size) := (by show w.heap.size ≤ w.heap.size; omega)
  obtain ⟨q0, q1, q2, q3, q4, q5, q6, q7, q8, q9⟩ := D_p0.out.c10
  go_wp2_with fail
  obtain ⟨O1, O2, O3, B4, GB⟩ := made_maps W 194 #[.int .i64 q.g.inputs, .slice q.g.units.A q.g.units.n q.g.units.c, .slice q.g.outs.A q.g.outs.n q.g.outs.c, .slice q.lo.A q.lo.n q.lo.c, .slice q.hi.A q.hi.n q.hi.c, .slice none 0 0, .slice q.goal.terms.A q.goal.terms.n q.goal.terms.c, .bool q.goal.const.neg, .slice q.goal.const.num.A q.goal.const.num.n q.goal.const.num.c, .slice q.goal.const.den.A q.goal.const.den.n q.goal.const.den.c, .map (some W.heap.size), .map (some (W.heap.size + 1)), .map (some (W.heap.size + 1 + 1))]
  have A1 := Lib.hid O1
  have A2 := Lib.hid O2
  have A3 := Lib.hid O3
  have AK := Lib.hid B4
  have HGA := Lib.hid (HG.out.trans GB)
  have HZA := Lib.hid (HZ.out.gr GB)
  have hk1 : w.heap.size ≤ W.heap.size + 1 + 1 + 1 := by have := HG.out.size; omega
  have hm3 : w.heap.size ≤ W.heap.size + 1 + 1 := by have := HG.out.size; omega
  have hm1 : w.heap.size ≤ W.heap.size := HG.out.size
  have hk3 : W.heap.size + 1 + 1 ≠ W.heap.size + 1 + 1 + 1 := by omega
  have hk2 : W.heap.size + 1 ≠ W.heap.size := by omega
  have hk4 : W.heap.size + 1 + 1 ≠ W.heap.size := by omega
  have hk5 : W.heap.size + 1 + 1 + 1 ≠ W.heap.size := by omega
  have HK1 := Lib.hid hk1
  have HM3 := Lib.hid hm3
  have HM1 := Lib.hid hm1
  have HK3 := Lib.hid hk3
  have HK2 := Lib.hid hk2
  have HK4 := Lib.hid hk4
  have HK5 := Lib.hid hk5
  clear hk1 hm3 hm1 hk3 hk2 hk4 hk5 O1 O2 O3 B4 GB D_p0 HG HZ q0 q1 q2 q3 q4 q5 q6 q7 q8 q9 hmm
  generalize ((((W.alloc (.map #[] 0)).alloc (.map #[] 0)).alloc (.map #[] 0)).alloc (.cells #[.int .i64 q.g.inputs, .slice q.g.units.A q.g.units.n q.g.units.c, .slice q.g.outs.A q.g.outs.n q.g.outs.c, .slice q.lo.A q.lo.n q.lo.c, .slice q.hi.A q.hi.n q.hi.c, .slice none 0 0, .slice q.goal.terms.A q.goal.terms.n q.goal.terms.c, .bool q.goal.const.neg, .slice q.goal.const.num.A q.goal.const.num.n q.goal.const.num.c, .slice q.goal.const.den.A q.goal.const.den.n q.goal.const.den.c, .map (some W.heap.size), .map (some (W.heap.size + 1)), .map (some (W.heap.size + 1 + 1))] 194)) = w3 at *
  generalize W.heap.size + 1 + 1 + 1 = kb at *
  generalize W.heap.size + 1 + 1 = m3 at *
  generalize W.heap.size + 1 = m2 at *
  generalize W.heap.size = m1 at *
  have hn1 : 1 = z.n := HZA.out.len
  obtain ⟨y, ad, hy0, hA, c0, c1, c2, c3, c4, c5, c6, c7, c8, c9⟩ := HZA.out.head
  obtain ⟨zA, zn, zc⟩ := z
  simp only at hn1 hA
  subst hn1 hA
  have az := add_zero ad
  obtain ⟨B1, GB⟩ := made1 w3 90 #[.slice none 0 0, .slice none 0 0, .int .i64 0, .int .i64 0, .bool false, .slice none 0 0, .slice none 0 0, .slice none 0 0, .bool false, .slice y.A y.n y.c]
  have DX := Lib.hid B1
  have HYA := Lib.hid (hy0.gr GB)
  have GG := Lib.hid GB
  have e0 := B1.cell 0
  have xk := Lib.hid (show ¬ w3.heap.size = m1 from fun e => Nat.lt_irrefl _ (e ▸ A1.out.lt))
  clear B1 GB hy0 HZA
  refine wp_loop_rounds 2 ?_
  rw [rounds_succ]
  go_wp2_with fail
  clear c0 c1 c2 c3 c4 c5 c6 c7 c8 c9
  refine (key0 _).mono ?_
  rintro e w5 ⟨rfl, G1⟩
  have GD := GG.out.trans G1
  have D5X := Lib.hid (G1.bk DX.out)
  have D5K := Lib.hid (GD.bk AK.out)
  have D5M := Lib.hid (A1.out.gr GD)
  have D52 := Lib.hid (A2.out.gr GD)
  have D53 := Lib.hid (A3.out.gr GD)
  have HY0 := Lib.hid (HYA.out.gr G1)
  have HG0 := Lib.hid (HGA.out.trans GD)
  have x7 := G1.keep (DX.out.cell 7)
  clear GD G1 GG DX AK A1 A2 A3 HYA HGA e0
  generalize w3.heap.size = xb at *
  go_wp2_with fail
  go_upto_region 7 with fail
  clear x7
  have gd := (Gr.refl w5).drew
  have hS0 := And.intro (gd.keep (D5K.out.cell 10)) (And.intro (D5M.out.gr gd) (gd.bk D5X.out).c10)
  clear gd
  refine wp_region_E (fun W => W.cell? ⟨kb, 10, none⟩ = some (.map (some m1)) ∧ Ob W m1 (.map #[] 0) ∧ W.cell? ⟨xb, 0, none⟩ = some (.slice none 0 0) ∧ W.cell? ⟨xb, 1, none⟩ = some (.slice none 0 0) ∧ W.cell? ⟨xb, 2, none⟩ = some (.int .i64 0) ∧ W.cell? ⟨xb, 3, none⟩ = some (.int .i64 0) ∧ W.cell? ⟨xb, 4, none⟩ = some (.bool false) ∧ W.cell? ⟨xb, 5, none⟩ = some (.slice none 0 0) ∧ W.cell? ⟨xb, 6, none⟩ = some (.slice none 0 0) ∧ W.cell? ⟨xb, 7, none⟩ = some (.slice none 0 0) ∧ W.cell? ⟨xb, 8, none⟩ = some (.bool false) ∧ W.cell? ⟨xb, 9, none⟩ = some (.slice y.A y.n y.c)) (by kernel_rfl) ?_
  show anyE _ _ _ _ 15 _ _ _
  refine anyE.takeL (i := 0) (v := ?wv57) rfl (by kernel_rfl) (by kernel_rfl) (by kernel_rfl) (fun _ _ _ h => h) (Or.inl ⟨by rfl, ?wy57⟩) hS0 ?wr57
  case wy57 => (intro w' hS'; obtain ⟨k10, hm, e0, e1, e2, e3, e4, e5, e6, e7, e8, e9⟩ := hS'; go_simp; try with_reducible rfl)
  try simp only [Act.put, List.setIfInBounds_toArray, List.set_cons_zero, List.set_cons_succ]
  refine anyE.takeL (i := 1) (v := ?wv58) rfl (by kernel_rfl) (by kernel_rfl) (by kernel_rfl) (fun _ _ _ h => h) (Or.inl ⟨by rfl, ?wy58⟩) hS0 ?wr58
  case wy58 => (intro w' hS'; obtain ⟨k10, hm, e0, e1, e2, e3, e4, e5, e6, e7, e8, e9⟩ := hS'; go_simp; try with_reducible rfl)
  try simp only [Act.put, List.setIfInBounds_toArray, List.set_cons_zero, List.set_cons_succ]
  refine anyE.takeL (i := 2) (v := ?wv59) rfl (by kernel_rfl) (by kernel_rfl) (by kernel_rfl) (fun _ _ _ h => h) (Or.inl ⟨by rfl, ?wy59⟩) hS0 ?wr59
  case wy59 => (intro w' hS'; obtain ⟨k10, hm, e0, e1, e2, e3, e4, e5, e6, e7, e8, e9⟩ := hS'; go_simp; try with_reducible rfl)
  try simp only [Act.put, List.setIfInBounds_toArray, List.set_cons_zero, List.set_cons_succ]
  refine anyE.takeL (i := 3) (v := ?wv60) rfl (by kernel_rfl) (by kernel_rfl) (by kernel_rfl) (fun _ _ _ h => h) (Or.inl ⟨by rfl, ?wy60⟩) hS0 ?wr60
  case wy60 => (intro w' hS'; obtain ⟨k10, hm, e0, e1, e2, e3, e4, e5, e6, e7, e8, e9⟩ := hS'; go_simp; try with_reducible rfl)
  try simp only [Act.put, List.setIfInBounds_toArray, List.set_cons_zero, List.set_cons_succ]
  refine anyE.takeL (i := 4) (v := ?wv61) rfl (by kernel_rfl) (by kernel_rfl) (by kernel_rfl) (fun _ _ _ h => h) (Or.inl ⟨by rfl, ?wy61⟩) hS0 ?wr61
  case wy61 => (intro w' hS'; obtain ⟨k10, hm, e0, e1, e2, e3, e4, e5, e6, e7, e8, e9⟩ := hS'; go_simp; try with_reducible rfl)
  try simp only [Act.put, List.setIfInBounds_toArray, List.set_cons_zero, List.set_cons_succ]
  refine anyE.takeL (i := 5) (v := ?wv62) rfl (by kernel_rfl) (by kernel_rfl) (by kernel_rfl) (fun _ _ _ h => h) (Or.inl ⟨by rfl, ?wy62⟩) hS0 ?wr62
  case wy62 => (intro w' hS'; obtain ⟨k10, hm, e0, e1, e2, e3, e4, e5, e6, e7, e8, e9⟩ := hS'; go_simp; try with_reducible rfl)
  try simp only [Act.put, List.setIfInBounds_toArray, List.set_cons_zero, List.set_cons_succ]
  refine anyE.takeL (i := 6) (v := ?wv63) rfl (by kernel_rfl) (by kernel_rfl) (by kernel_rfl) (fun _ _ _ h => h) (Or.inl ⟨by rfl, ?wy63⟩) hS0 ?wr63
  case wy63 => (intro w' hS'; obtain ⟨k10, hm, e0, e1, e2, e3, e4, e5, e6, e7, e8, e9⟩ := hS'; go_simp; try with_reducible rfl)
  try simp only [Act.put, List.setIfInBounds_toArray, List.set_cons_zero, List.set_cons_succ]
  refine anyE.takeL (i := 7) (v := ?wv64) rfl (by kernel_rfl) (by kernel_rfl) (by kernel_rfl) (fun _ _ _ h => h) (Or.inl ⟨by rfl, ?wy64⟩) hS0 ?wr64
  case wy64 => (intro w' hS'; obtain ⟨k10, hm, e0, e1, e2, e3, e4, e5, e6, e7, e8, e9⟩ := hS'; go_simp; try with_reducible rfl)
  try simp only [Act.put, List.setIfInBounds_toArray, List.set_cons_zero, List.set_cons_succ]
  refine anyE.takeL (i := 8) (v := ?wv65) rfl (by kernel_rfl) (by kernel_rfl) (by kernel_rfl) (fun _ _ _ h => h) (Or.inl ⟨by rfl, ?wy65⟩) hS0 ?wr65
  case wy65 => (intro w' hS'; obtain ⟨k10, hm, e0, e1, e2, e3, e4, e5, e6, e7, e8, e9⟩ := hS'; go_simp; try with_reducible rfl)
  try simp only [Act.put, List.setIfInBounds_toArray, List.set_cons_zero, List.set_cons_succ]
  refine anyE.takeL (i := 9) (v := ?wv66) rfl (by kernel_rfl) (by kernel_rfl) (by kernel_rfl) (fun _ _ _ h => h) (Or.inl ⟨by rfl, ?wy66⟩) hS0 ?wr66
  case wy66 => (intro w' hS'; obtain ⟨k10, hm, e0, e1, e2, e3, e4, e5, e6, e7, e8, e9⟩ := hS'; go_simp; try with_reducible rfl)
  try simp only [Act.put, List.setIfInBounds_toArray, List.set_cons_zero, List.set_cons_succ]
  refine anyE.takeL (i := 10) (v := .slice none 0 0) rfl (by kernel_rfl) (by kernel_rfl) (by kernel_rfl) (fun _ _ _ h => h) (Or.inl ⟨by rfl, ?wlook⟩) hS0 ?rlook
  case wlook => (intro w' hS'; obtain ⟨k10, hm, e0, e1, e2, e3, e4, e5, e6, e7, e8, e9⟩ := hS'; have hl := look0 (P := Tryz.prog) (w := w') (t := 190) (kt := 9) (et := 58) (s := ⟨#[]⟩) (z := .slice none 0 0) (by kernel_rfl) (by kernel_rfl) (by kernel_rfl) hm; go_simp)
  try simp only [Act.put, List.setIfInBounds_toArray, List.set_cons_zero, List.set_cons_succ]
  refine anyE.takeL (i := 11) (v := ?wv67) rfl (by kernel_rfl) (by kernel_rfl) (by kernel_rfl) (fun _ _ _ h => h) (Or.inl ⟨by rfl, ?wy67⟩) hS0 ?wr67
  case wy67 => (intro w' hS'; obtain ⟨k10, hm, e0, e1, e2, e3, e4, e5, e6, e7, e8, e9⟩ := hS'; go_simp; try with_reducible rfl)
  try simp only [Act.put, List.setIfInBounds_toArray, List.set_cons_zero, List.set_cons_succ]
  have GA := ((Gr.refl w5).alloc (.cells #[.slice none 0 0, .slice none 0 0, .int .i64 0, .int .i64 0, .bool false, .slice none 0 0, .slice none 0 0, .slice none 0 0, .bool false, .slice y.A y.n y.c] 90)).drew
  have HY1 := Lib.hid (HY0.out.gr GA)
  have D1K := Lib.hid (GA.bk D5K.out)
  have D1X := Lib.hid (GA.bk D5X.out)
  have D1M := Lib.hid (D5M.out.gr GA)
  have D12 := Lib.hid (D52.out.gr GA)
  have D13 := Lib.hid (D53.out.gr GA)
  have HG1 := Lib.hid (HG0.out.trans GA)
  have BC := Lib.hid (made_cells w5 90 #[.slice none 0 0, .slice none 0 0, .int .i64 0, .int .i64 0, .bool false, .slice none 0 0, .slice none 0 0, .slice none 0 0, .bool false, .slice y.A y.n y.c])
  clear GA hS0
  refine anyE.one 12 rfl (by kernel_rfl) (by rfl) (fun K hK => ?_)
  go_simp
  refine hK.out _ _ ⟨Or.inl (⟨D1K.out.cell 10, D1M.out, D1X.out.cell 0, D1X.out.cell 1, D1X.out.cell 2, D1X.out.cell 3, D1X.out.cell 4, D1X.out.cell 5, D1X.out.cell 6, D1X.out.cell 7, D1X.out.cell 8, D1X.out.cell 9⟩), ?_⟩
  clear hK K
  try simp only [Act.put, List.setIfInBounds_toArray, List.set_cons_zero, List.set_cons_succ]
  generalize hw6 : (w5.alloc (.cells #[.slice none 0 0, .slice none 0 0, .int .i64 0, .int .i64 0, .bool false, .slice none 0 0, .slice none 0 0, .slice none 0 0, .bool false, .slice y.A y.n y.c] 90)).drew = w6 at *
  clear hw6
  have HSZ := Lib.hid HG1.out.size
  refine anyE.one 13 rfl (by kernel_rfl) (by rfl) (fun K hK => ?_)
  refine Own.app1 elemE _ _ (by rfl) (by rfl) (Own.nil w6 w.heap.size : OwnE w6 w.heap.size Sv.none []) ⟨w5.heap.size, 0, none⟩ 1 y _ (by rfl) HY1.out rfl BC.out (entCs_one y) (by decide) (by decide) HSZ.out (fun w' F => OwnE.step (Own.nil w6 w.heap.size) F) (fun z w7 hzn hz hF => ?_)
  have hF0 : Fr (fun _ => False) w6 w7 := hF.wide (fun b _ e => by cases e)
  have HZ := Lib.hid hz
  have D2K := Lib.hid (hF0.bk D1K.out (fun h => h))
  have D2X := Lib.hid (hF0.bk D1X.out (fun h => h))
  have D2M := Lib.hid (D1M.out.fr hF0 (fun h => h))
  have D22 := Lib.hid (D12.out.fr hF0 (fun h => h))
  have D23 := Lib.hid (D13.out.fr hF0 (fun h => h))
  have HG2 := Lib.hid (HG1.out.no hF0)
  clear hF hF0 hz hzn
  refine hK.out _ _ ⟨Or.inl (⟨D2K.out.cell 10, D2M.out, D2X.out.cell 0, D2X.out.cell 1, D2X.out.cell 2, D2X.out.cell 3, D2X.out.cell 4, D2X.out.cell 5, D2X.out.cell 6, D2X.out.cell 7, D2X.out.cell 8, D2X.out.cell 9⟩), ?_⟩
  clear hK K
  try simp only [Act.put, List.setIfInBounds_toArray, List.set_cons_zero, List.set_cons_succ]
  refine anyE.one 14 rfl (by kernel_rfl) (by rfl) (fun K hK => ?_)
  have hu := upd0 (P := Tryz.prog) (w := w7) (t := 190) (kt := 9) (et := 58) (s := ⟨#[]⟩) (v := .slice z.A z.n z.c) (by kernel_rfl) (by kernel_rfl) D2M.out
  go_simp
  refine hK.out _ _ ⟨Or.inr (by kernel_rfl), ?_⟩
  clear hK K
  try simp only [Act.put, List.setIfInBounds_toArray, List.set_cons_zero, List.set_cons_succ]
  refine anyE.done (by kernel_rfl) ?_
  have F5 := putObj.fr w7 m1 (.map #[{ key := .string ⟨#[]⟩, val := .slice z.A z.n z.c, born := 0 }] 1)
  have hno : ∀ t, ∀ b cs fr, b = m1 → w7.heap[b]? ≠ some (.cells cs t fr) := fun t b cs fr e hh => by
    subst e
    have h9 := D2M.out
    unfold Ob at h9
    rw [h9] at hh
    cases hh
  have HZ5 := Lib.hid (Own.go HZ.out (fun q a ha => ha.tf F5 (hno _) (hno _)) (fun b hb => F5.keep b (HZ.out.lt b hb).2 fun e => by
    obtain ⟨ts, t1, _⟩ := HZ.out
    obtain ⟨cur, hc⟩ := rw_bk t1 b hb
    exact hno _ b _ _ e hc))
  have D5K := Lib.hid (F5.bk D2K.out HK5.out)
  have D5M := Lib.hid (putObj.ob (o' := (.map #[{ key := .string ⟨#[]⟩, val := .slice z.A z.n z.c, born := 0 }] 1)) D2M.out)
  have D52 := Lib.hid (D22.out.fr F5 HK2.out)
  have D53 := Lib.hid (D23.out.fr F5 HK4.out)
  have D5X := Lib.hid (F5.bk D2X.out (fun e => by have h9 := D2M.out; have h8 := D2X.out; rw [e] at h8; unfold Ob at h9; unfold Bk at h8; rw [h9] at h8; cases h8))
  have HG5 := Lib.hid (HG2.out.step F5 (fun b _ e => by rw [e]; exact HM1.out))
  clear F5 hno D2K D2M D22 D23 D2X HG2 HZ
  generalize putObj w7 m1 (.map #[{ key := .string ⟨#[]⟩, val := .slice z.A z.n z.c, born := 0 }] 1) = w8 at *
  have x0 := D5X.out.cell 0
  go_wp2_with fail
  refine wp_loop_rounds 1 ?_
  rw [rounds_succ]
  go_wp2
  rw [rounds_succ]
  go_wp2
  go_ret
  exact ⟨kb, m1, m2, m3, z, rfl, HK1.out, HM3.out, HK3.out, D5K.out, D5M.out, HZ5.out.rows (by decide), D52.out, D53.out, HG5.out⟩
end Go.Proofs.YtcmfepaffhnemaaGreatDoor
