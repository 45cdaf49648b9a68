/- The search on the example. -/
import Derived.Test.YtcmfepaffhnemaaGreatDoorMk
import Derived.Deep.RegionHeld3
set_option linter.unusedSimpArgs false
set_option linter.unusedVariables false
namespace Go.Proofs.YtcmfepaffhnemaaGreatDoor
open Go.RowKit

attribute [local go_sem] Oper.semAt_some
theorem Bk.put9 {w : World} {p t : Nat} {a0 a1 a2 a3 a4 a5 a6 a7 a8 : Value} (hh : Bk w p t #[a0, a1, a2, a3, a4, a5, a6, a7, a8]) (x0 x1 x2 x3 x4 x5 x6 x7 x8 : Value) : Bk (((((((((w.setCell ⟨p, 0, none⟩ x0).setCell ⟨p, 1, none⟩ x1).setCell ⟨p, 2, none⟩ x2).setCell ⟨p, 3, none⟩ x3).setCell ⟨p, 4, none⟩ x4).setCell ⟨p, 5, none⟩ x5).setCell ⟨p, 6, none⟩ x6).setCell ⟨p, 7, none⟩ x7).setCell ⟨p, 8, none⟩ x8) p t #[x0, x1, x2, x3, x4, x5, x6, x7, x8] ∧ Fr (fun b => b = p) w (((((((((w.setCell ⟨p, 0, none⟩ x0).setCell ⟨p, 1, none⟩ x1).setCell ⟨p, 2, none⟩ x2).setCell ⟨p, 3, none⟩ x3).setCell ⟨p, 4, none⟩ x4).setCell ⟨p, 5, none⟩ x5).setCell ⟨p, 6, none⟩ x6).setCell ⟨p, 7, none⟩ x7).setCell ⟨p, 8, none⟩ x8) := by
  refine ⟨?_, (((((((((Fr.set w ⟨p, 0, none⟩ x0 rfl : Fr (fun b => b = p) w _)).trans (Fr.set _ ⟨p, 1, none⟩ x1 rfl)).trans (Fr.set _ ⟨p, 2, none⟩ x2 rfl)).trans (Fr.set _ ⟨p, 3, none⟩ x3 rfl)).trans (Fr.set _ ⟨p, 4, none⟩ x4 rfl)).trans (Fr.set _ ⟨p, 5, none⟩ x5 rfl)).trans (Fr.set _ ⟨p, 6, none⟩ x6 rfl)).trans (Fr.set _ ⟨p, 7, none⟩ x7 rfl)).trans (Fr.set _ ⟨p, 8, none⟩ x8 rfl)⟩
  have := (((((((((Bk.put hh 0 x0).put 1 x1).put 2 x2).put 3 x3).put 4 x4).put 5 x5).put 6 x6).put 7 x7).put 8 x8)
  simpa using this
set_option maxRecDepth 100000 in
set_option maxHeartbeats 4000000 in
theorem graft0 (w : World) (q : Qv) (x : Qm) (k : Q) (kb m1 m2 m3 : Nat) (z : Sv) (hq : q.Is w x) (hx : x.Va) (hlo : x.lo[0]? = some Q.zero) (hg : x.goal = goal0 k) (hk : Cst k) (hs : 0 ≤ k.sign) (hkb : Bk w kb 194 #[.int .i64 q.g.inputs, .slice q.g.units.A q.g.units.n q.g.units.c, .slice q.g.outs.A q.g.outs.n q.g.outs.c, .slice q.lo.A q.lo.n q.lo.c, .slice q.hi.A q.hi.n q.hi.c, .slice none 0 0, .slice q.goal.terms.A q.goal.terms.n q.goal.terms.c, .bool q.goal.const.neg, .slice q.goal.const.num.A q.goal.const.num.n q.goal.const.num.c, .slice q.goal.const.den.A q.goal.const.den.n q.goal.const.den.c, .map (some m1), .map (some m2), .map (some m3)]) (h1 : Ob w m1 (.map #[{ key := .string ⟨#[]⟩, val := .slice z.A z.n z.c, born := 0 }] 1)) (hz : Ents w z [pf0]) (h3 : Ob w m3 (.map #[] 0)) :
    Calls Tryz.prog 176 #[.pointer (some ⟨kb, 0, none⟩), scV q] w fun e w' => ∃ (v : Nat) (y : Sv), e = .returned (.tuple #[.pointer (some ⟨v, 0, none⟩), .bool true]) ∧ w.heap.size ≤ v ∧ Bk w' v 189 #[.slice none 0 0, .int .i64 0, .int .i64 0, .bool false, .slice none 0 0, .slice none 0 0, .slice none 0 0, .bool false, .slice y.A y.n y.c, .slice none 0 0] ∧ Mults w' y pf0 ∧ Gr w w' := by
  obtain ⟨B1, G⟩ := made1 w 130 (#[.int .i64 q.g.inputs, .slice q.g.units.A q.g.units.n q.g.units.c, .slice q.g.outs.A q.g.outs.n q.g.outs.c, .slice q.lo.A q.lo.n q.lo.c, .slice q.hi.A q.hi.n q.hi.c, .slice none 0 0, .slice q.goal.terms.A q.goal.terms.n q.goal.terms.c, .bool q.goal.const.neg, .slice q.goal.const.num.A q.goal.const.num.n q.goal.const.num.c, .slice q.goal.const.den.A q.goal.const.den.n q.goal.const.den.c, .slice none 0 0, .slice none 0 0])
  have HG := Lib.hid G
  have D_p0 := Lib.hid B1
  clear G B1
  have HQ := Lib.hid hq
  have HX := Lib.hid hx
  have HLO := Lib.hid hlo
  have HGO := Lib.hid hg
  have HK := Lib.hid hk
  have HS := Lib.hid hs
  have HKB := Lib.hid (HG.out.bk hkb)
  have H1 := Lib.hid (h1.gr HG.out)
  have H3 := Lib.hid (h3.gr HG.out)
  have HZ := Lib.hid (hz.gr HG.out)
  clear hq hx hlo hg hk hs hkb h1 h3 hz
  obtain ⟨s0, s1, s2, s3, s4, s5, s6, s7, s8, s9, s10, s11⟩ := D_p0.out.c12
  go_enter Tryz.func176, Tryz.ntmps176
  go_wp2_with fail
  generalize hW : w.alloc (.cells #[.int .i64 q.g.inputs, .slice q.g.units.A q.g.units.n q.g.units.c, .slice q.g.outs.A q.g.outs.n q.g.outs.c, .slice q.lo.A q.lo.n q.lo.c, .slice q.hi.A q.hi.n q.hi.c, .slice none 0 0, .slice q.goal.terms.A q.goal.terms.n q.goal.terms.c, .bool q.goal.const.neg, .slice q.goal.const.num.A q.goal.const.num.n q.goal.const.num.c, .slice q.goal.const.den.A q.goal.const.den.n q.goal.const.den.c, .slice none 0 0, .slice none 0 0] 130) = W at *
  clear hW
  have N_p0 : Hid (w.heap.size ≤ w.heap.size) := (by show w.heap.size ≤ w.heap.size; omega)
  refine (key0 W).mono ?_
  rintro e w2 ⟨rfl, G1⟩
  replace HG := Lib.hid (HG.out.trans G1)
  replace D_p0 := Lib.hid (G1.bk D_p0.out)
  replace HKB := Lib.hid (G1.bk HKB.out)
  replace H1 := Lib.hid (H1.out.gr G1)
  replace H3 := Lib.hid (H3.out.gr G1)
  replace HZ := Lib.hid (HZ.out.gr G1)
  clear G1 s0 s1 s2 s3 s4 s5 s6 s7 s8 s9 s10 s11
  obtain ⟨k0, k1, k2, k3, k4, k5, k6, k7, k8, k9, k10, k11, k12⟩ := HKB.out.c13
  have hl3 := look0 (P := Tryz.prog) (w := w2) (t := 192) (kt := 9) (et := 4) (s := ⟨#[]⟩) (z := .bool false) (by kernel_rfl) (by kernel_rfl) (by kernel_rfl) H3.out
  have hl1 := look1 (P := Tryz.prog) (w := w2) (t := 190) (kt := 9) (et := 58) (s := ⟨#[]⟩) (v := .slice z.A z.n z.c) (by decide) (by kernel_rfl) (by kernel_rfl) H1.out
  have hn1 : 1 = z.n := HZ.out.len
  obtain ⟨y0, ad, hy0, hA, c0, c1, c2, c3, c4, c5, c6, c7, c8, c9⟩ := HZ.out.head
  obtain ⟨zA, zn, zc⟩ := z
  simp only at hn1 hA hl1
  subst hn1 hA
  have az := add_zero ad
  go_wp2_with fail
  refine wp_loop_rounds 2 ?_
  rw [rounds_succ]
  go_wp2_with fail
  go_upto_region 9 with fail
  obtain ⟨B1, GB⟩ := made1 w2 90 #[.slice none 0 0, .slice none 0 0, .int .i64 0, .int .i64 0, .bool false, .slice none 0 0, .slice none 0 0, .slice none 0 0, .bool false, .slice y0.A y0.n y0.c]
  have DX := Lib.hid B1
  have HY := Lib.hid (hy0.gr GB)
  replace HG := Lib.hid (HG.out.trans GB)
  replace D_p0 := Lib.hid (GB.bk D_p0.out)
  replace HKB := Lib.hid (GB.bk HKB.out)
  clear B1 GB hy0 HZ H1 H3 hl1 hl3 c0 c1 c2 c3 c4 c5 c6 c7 c8 c9 k0 k1 k2 k3 k4 k5 k6 k7 k8 k9 k10 k11 k12
  generalize w2.alloc (.cells #[.slice none 0 0, .slice none 0 0, .int .i64 0, .int .i64 0, .bool false, .slice none 0 0, .slice none 0 0, .slice none 0 0, .bool false, .slice y0.A y0.n y0.c] 90) = w3 at *
  generalize w2.heap.size = xb at *
  obtain ⟨k0, k1, k2, k3, k4, k5, k6, k7, k8, k9, k10, k11, k12⟩ := HKB.out.c13
  obtain ⟨e0, e1, e2, e3, e4, e5, e6, e7, e8, e9⟩ := DX.out.c10
  refine wp_region_any (by kernel_rfl) ?_
  have kc := Lib.hid (fun (W' : World) (G : Gr w3.drew W') => And.intro (G.keep k0) (And.intro (G.keep k1) (And.intro (G.keep k2) (And.intro (G.keep k3) (And.intro (G.keep k4) (And.intro (G.keep k5) (And.intro (G.keep k6) (And.intro (G.keep k7) (And.intro (G.keep k8) (And.intro (G.keep k9) (And.intro (G.keep e0) (And.intro (G.keep e1) (And.intro (G.keep e2) (And.intro (G.keep e3) (And.intro (G.keep e4) (And.intro (G.keep e5) (And.intro (G.keep e6) (And.intro (G.keep e7) (And.intro (G.keep e8) (G.keep e9))))))))))))))))))))
  have hst : ∀ p ∈ ([(12, fun v _ => v = .bool true)] : List (Nat × (Value → World → Prop))), ∀ (u : Value) (wA0 wB0 : World), Gr w3.drew wA0 → Gr wA0 wB0 → p.2 u wA0 → p.2 u wB0 := by
    intro p hp u wA0 wB0 h0 G h
    simp only [List.mem_cons, List.not_mem_nil, or_false] at hp
    subst hp
    · exact h
  refine wpAny_walk (m := 0) (last := #[true, true, true, true, true, true, true, true, true, true, true, true, true, true]) [0, 1, 2, 3, 4, 5, 6, 7, 8, 9, 10, 11, 12, 13] [(12, fun v _ => v = .bool true)] (by kernel_rfl) (by decide) (by kernel_rfl) hst ?_
  clear hst
  refine Walk.take (v := ?wv68) rfl rfl (Or.inl ⟨by rfl, ?wy68⟩) ?wr68
  case wy68 => (intro w' hw'; obtain ⟨k0, k1, k2, k3, k4, k5, k6, k7, k8, k9, e0, e1, e2, e3, e4, e5, e6, e7, e8, e9⟩ := kc.out w' hw'; go_simp; try with_reducible rfl)
  try simp only [Act.put, List.setIfInBounds_toArray, List.set_cons_zero, List.set_cons_succ]
  refine Walk.take (v := ?wv69) rfl rfl (Or.inl ⟨by rfl, ?wy69⟩) ?wr69
  case wy69 => (intro w' hw'; obtain ⟨k0, k1, k2, k3, k4, k5, k6, k7, k8, k9, e0, e1, e2, e3, e4, e5, e6, e7, e8, e9⟩ := kc.out w' hw'; go_simp; try with_reducible rfl)
  try simp only [Act.put, List.setIfInBounds_toArray, List.set_cons_zero, List.set_cons_succ]
  refine Walk.take (v := ?wv70) rfl rfl (Or.inl ⟨by rfl, ?wy70⟩) ?wr70
  case wy70 => (intro w' hw'; obtain ⟨k0, k1, k2, k3, k4, k5, k6, k7, k8, k9, e0, e1, e2, e3, e4, e5, e6, e7, e8, e9⟩ := kc.out w' hw'; go_simp; try with_reducible rfl)
  try simp only [Act.put, List.setIfInBounds_toArray, List.set_cons_zero, List.set_cons_succ]
  refine Walk.take (v := ?wv71) rfl rfl (Or.inl ⟨by rfl, ?wy71⟩) ?wr71
  case wy71 => (intro w' hw'; obtain ⟨k0, k1, k2, k3, k4, k5, k6, k7, k8, k9, e0, e1, e2, e3, e4, e5, e6, e7, e8, e9⟩ := kc.out w' hw'; go_simp; try with_reducible rfl)
  try simp only [Act.put, List.setIfInBounds_toArray, List.set_cons_zero, List.set_cons_succ]
  refine Walk.take (v := ?wv72) rfl rfl (Or.inl ⟨by rfl, ?wy72⟩) ?wr72
  case wy72 => (intro w' hw'; obtain ⟨k0, k1, k2, k3, k4, k5, k6, k7, k8, k9, e0, e1, e2, e3, e4, e5, e6, e7, e8, e9⟩ := kc.out w' hw'; go_simp; try with_reducible rfl)
  try simp only [Act.put, List.setIfInBounds_toArray, List.set_cons_zero, List.set_cons_succ]
  refine Walk.take (v := ?wv73) rfl rfl (Or.inl ⟨by rfl, ?wy73⟩) ?wr73
  case wy73 => (intro w' hw'; obtain ⟨k0, k1, k2, k3, k4, k5, k6, k7, k8, k9, e0, e1, e2, e3, e4, e5, e6, e7, e8, e9⟩ := kc.out w' hw'; go_simp; try with_reducible rfl)
  try simp only [Act.put, List.setIfInBounds_toArray, List.set_cons_zero, List.set_cons_succ]
  refine Walk.take (v := ?wv74) rfl rfl (Or.inl ⟨by rfl, ?wy74⟩) ?wr74
  case wy74 => (intro w' hw'; obtain ⟨k0, k1, k2, k3, k4, k5, k6, k7, k8, k9, e0, e1, e2, e3, e4, e5, e6, e7, e8, e9⟩ := kc.out w' hw'; go_simp; try with_reducible rfl)
  try simp only [Act.put, List.setIfInBounds_toArray, List.set_cons_zero, List.set_cons_succ]
  refine Walk.take (v := ?wv75) rfl rfl (Or.inl ⟨by rfl, ?wy75⟩) ?wr75
  case wy75 => (intro w' hw'; obtain ⟨k0, k1, k2, k3, k4, k5, k6, k7, k8, k9, e0, e1, e2, e3, e4, e5, e6, e7, e8, e9⟩ := kc.out w' hw'; go_simp; try with_reducible rfl)
  try simp only [Act.put, List.setIfInBounds_toArray, List.set_cons_zero, List.set_cons_succ]
  refine Walk.take (v := ?wv76) rfl rfl (Or.inl ⟨by rfl, ?wy76⟩) ?wr76
  case wy76 => (intro w' hw'; obtain ⟨k0, k1, k2, k3, k4, k5, k6, k7, k8, k9, e0, e1, e2, e3, e4, e5, e6, e7, e8, e9⟩ := kc.out w' hw'; go_simp; try with_reducible rfl)
  try simp only [Act.put, List.setIfInBounds_toArray, List.set_cons_zero, List.set_cons_succ]
  refine Walk.take (v := ?wv77) rfl rfl (Or.inl ⟨by rfl, ?wy77⟩) ?wr77
  case wy77 => (intro w' hw'; obtain ⟨k0, k1, k2, k3, k4, k5, k6, k7, k8, k9, e0, e1, e2, e3, e4, e5, e6, e7, e8, e9⟩ := kc.out w' hw'; go_simp; try with_reducible rfl)
  try simp only [Act.put, List.setIfInBounds_toArray, List.set_cons_zero, List.set_cons_succ]
  refine Walk.take (v := ?wv78) rfl rfl (Or.inl ⟨by rfl, ?wy78⟩) ?wr78
  case wy78 => (intro w' hw'; obtain ⟨k0, k1, k2, k3, k4, k5, k6, k7, k8, k9, e0, e1, e2, e3, e4, e5, e6, e7, e8, e9⟩ := kc.out w' hw'; go_simp; try with_reducible rfl)
  try simp only [Act.put, List.setIfInBounds_toArray, List.set_cons_zero, List.set_cons_succ]
  refine Walk.take (v := ?wv79) rfl rfl (Or.inl ⟨by rfl, ?wy79⟩) ?wr79
  case wy79 => (intro w' hw'; obtain ⟨k0, k1, k2, k3, k4, k5, k6, k7, k8, k9, e0, e1, e2, e3, e4, e5, e6, e7, e8, e9⟩ := kc.out w' hw'; go_simp; try with_reducible rfl)
  try simp only [Act.put, List.setIfInBounds_toArray, List.set_cons_zero, List.set_cons_succ]
  refine Walk.do rfl rfl (by rfl) (fun W1 G1 F1 => ?ws80) (fun v hv => ?wr80)
  case ws80 =>
    obtain ⟨k0, k1, k2, k3, k4, k5, k6, k7, k8, k9, e0, e1, e2, e3, e4, e5, e6, e7, e8, e9⟩ := kc.out W1 G1
    refine doesAt_enter (f := 222) (args := #[scV q, leafV y0]) (by go_simp; try (first | with_reducible rfl | rfl)) ?_
    refine ((show Calls _ _ _ _ (fun e w' => e = .returned (.bool true) ∧ Gr W1 w') from by have := sproves0 W1 q x k y0 (HQ.out.gr (HG.out.trans G1.of_drew)) HX.out HLO.out HGO.out HK.out (HY.out.gr G1.of_drew); rw [decide_eq_true HS.out] at this; exact this)).mono ?_
    rintro e w' ⟨rfl, G⟩
    exact ⟨_, rfl, G, rfl⟩
  obtain ⟨_, -, -, rfl⟩ := hv
  try simp only [Act.put, List.setIfInBounds_toArray, List.set_cons_zero, List.set_cons_succ]
  refine Walk.take (v := ?wv81) rfl rfl (Or.inl ⟨by rfl, ?wy81⟩) ?wr81
  case wy81 => (intro w' hw'; obtain ⟨k0, k1, k2, k3, k4, k5, k6, k7, k8, k9, e0, e1, e2, e3, e4, e5, e6, e7, e8, e9⟩ := kc.out w' hw'; go_simp; try with_reducible rfl)
  try simp only [Act.put, List.setIfInBounds_toArray, List.set_cons_zero, List.set_cons_succ]
  refine Walk.done (fun W1 G1 F1 => ?_)
  clear F1
  have kc1 := kc.out W1 G1
  clear kc k0 k1 k2 k3 k4 k5 k6 k7 k8 k9 e0 e1 e2 e3 e4 e5 e6 e7 e8 e9
  obtain ⟨k0, k1, k2, k3, k4, k5, k6, k7, k8, k9, e0, e1, e2, e3, e4, e5, e6, e7, e8, e9⟩ := kc1
  refine wpAny_end (by kernel_rfl) ?_
  replace HG := Lib.hid (HG.out.trans G1.of_drew)
  replace D_p0 := Lib.hid (G1.of_drew.bk D_p0.out)
  replace DX := Lib.hid (G1.of_drew.bk DX.out)
  replace HY := Lib.hid (HY.out.gr G1.of_drew)
  clear G1 e0 e1 e2 e3 e4 e5 e6 e7 e8 e9 k0 k1 k2 k3 k4 k5 k6 k7 k8 k9 k10 k11 k12 HKB
  generalize W1 = w4 at *
  go_wp2_with fail
  go_upto_region 10 with fail
  obtain ⟨e0, e1, e2, e3, e4, e5, e6, e7, e8, e9⟩ := DX.out.c10
  obtain ⟨s0, s1, s2, s3, s4, s5, s6, s7, s8, s9, s10, s11⟩ := D_p0.out.c12
  clear s0 s1 s2 s3 s4 s5 s6 s7 s8 s9 s10
  refine wp_region_any (by kernel_rfl) ?_
  have kc := Lib.hid (fun (W' : World) (G : Gr w4.drew W') => And.intro (G.keep e0) (And.intro (G.keep e1) (And.intro (G.keep e2) (And.intro (G.keep e3) (And.intro (G.keep e4) (And.intro (G.keep e5) (And.intro (G.keep e6) (And.intro (G.keep e7) (And.intro (G.keep e8) (And.intro (G.keep e9) (G.keep s11)))))))))))
  have hst : ∀ p ∈ ([(9, Mults.At (pf0)), (11, NewAt 55 #[.slice none 0 0, .int .i64 0, .int .i64 0, .bool false, .slice none 0 0, .slice none 0 0, .slice none 0 0, .bool false, .slice none 0 0] w4.heap.size)] : List (Nat × (Value → World → Prop))), ∀ (u : Value) (wA0 wB0 : World), Gr w4.drew wA0 → Gr wA0 wB0 → p.2 u wA0 → p.2 u wB0 := by
    intro p hp u wA0 wB0 h0 G h
    simp only [List.mem_cons, List.not_mem_nil, or_false] at hp
    rcases hp with rfl | rfl
    · exact Mults.At.gr h G
    · exact NewAt.gr h G
  refine wpAny_walk (m := 1) (last := #[true, true, true, true, true, true, true, true, true, true, true, true, false]) [0, 1, 2, 3, 4, 5, 6, 7, 8, 9, 10, 11] [(9, Mults.At (pf0)), (11, NewAt 55 #[.slice none 0 0, .int .i64 0, .int .i64 0, .bool false, .slice none 0 0, .slice none 0 0, .slice none 0 0, .bool false, .slice none 0 0] w4.heap.size)] (by kernel_rfl) (by decide) (by kernel_rfl) hst ?_
  clear hst
  refine Walk.take (v := ?wv82) rfl rfl (Or.inl ⟨by rfl, ?wy82⟩) ?wr82
  case wy82 => (intro w' hw'; obtain ⟨e0, e1, e2, e3, e4, e5, e6, e7, e8, e9, s11⟩ := kc.out w' hw'; go_simp; try with_reducible rfl)
  try simp only [Act.put, List.setIfInBounds_toArray, List.set_cons_zero, List.set_cons_succ]
  refine Walk.take (v := ?wv83) rfl rfl (Or.inl ⟨by rfl, ?wy83⟩) ?wr83
  case wy83 => (intro w' hw'; obtain ⟨e0, e1, e2, e3, e4, e5, e6, e7, e8, e9, s11⟩ := kc.out w' hw'; go_simp; try with_reducible rfl)
  try simp only [Act.put, List.setIfInBounds_toArray, List.set_cons_zero, List.set_cons_succ]
  refine Walk.take (v := ?wv84) rfl rfl (Or.inl ⟨by rfl, ?wy84⟩) ?wr84
  case wy84 => (intro w' hw'; obtain ⟨e0, e1, e2, e3, e4, e5, e6, e7, e8, e9, s11⟩ := kc.out w' hw'; go_simp; try with_reducible rfl)
  try simp only [Act.put, List.setIfInBounds_toArray, List.set_cons_zero, List.set_cons_succ]
  refine Walk.take (v := ?wv85) rfl rfl (Or.inl ⟨by rfl, ?wy85⟩) ?wr85
  case wy85 => (intro w' hw'; obtain ⟨e0, e1, e2, e3, e4, e5, e6, e7, e8, e9, s11⟩ := kc.out w' hw'; go_simp; try with_reducible rfl)
  try simp only [Act.put, List.setIfInBounds_toArray, List.set_cons_zero, List.set_cons_succ]
  refine Walk.take (v := ?wv86) rfl rfl (Or.inl ⟨by rfl, ?wy86⟩) ?wr86
  case wy86 => (intro w' hw'; obtain ⟨e0, e1, e2, e3, e4, e5, e6, e7, e8, e9, s11⟩ := kc.out w' hw'; go_simp; try with_reducible rfl)
  try simp only [Act.put, List.setIfInBounds_toArray, List.set_cons_zero, List.set_cons_succ]
  refine Walk.take (v := ?wv87) rfl rfl (Or.inl ⟨by rfl, ?wy87⟩) ?wr87
  case wy87 => (intro w' hw'; obtain ⟨e0, e1, e2, e3, e4, e5, e6, e7, e8, e9, s11⟩ := kc.out w' hw'; go_simp; try with_reducible rfl)
  try simp only [Act.put, List.setIfInBounds_toArray, List.set_cons_zero, List.set_cons_succ]
  refine Walk.take (v := ?wv88) rfl rfl (Or.inl ⟨by rfl, ?wy88⟩) ?wr88
  case wy88 => (intro w' hw'; obtain ⟨e0, e1, e2, e3, e4, e5, e6, e7, e8, e9, s11⟩ := kc.out w' hw'; go_simp; try with_reducible rfl)
  try simp only [Act.put, List.setIfInBounds_toArray, List.set_cons_zero, List.set_cons_succ]
  refine Walk.take (v := ?wv89) rfl rfl (Or.inl ⟨by rfl, ?wy89⟩) ?wr89
  case wy89 => (intro w' hw'; obtain ⟨e0, e1, e2, e3, e4, e5, e6, e7, e8, e9, s11⟩ := kc.out w' hw'; go_simp; try with_reducible rfl)
  try simp only [Act.put, List.setIfInBounds_toArray, List.set_cons_zero, List.set_cons_succ]
  refine Walk.take (v := ?wv90) rfl rfl (Or.inl ⟨by rfl, ?wy90⟩) ?wr90
  case wy90 => (intro w' hw'; obtain ⟨e0, e1, e2, e3, e4, e5, e6, e7, e8, e9, s11⟩ := kc.out w' hw'; go_simp; try with_reducible rfl)
  try simp only [Act.put, List.setIfInBounds_toArray, List.set_cons_zero, List.set_cons_succ]
  refine Walk.do rfl rfl (by rfl) (fun W1 G1 F1 => ?ws91) (fun v hv => ?wr91)
  case ws91 =>
    obtain ⟨e0, e1, e2, e3, e4, e5, e6, e7, e8, e9, s11⟩ := kc.out W1 G1
    refine doesAt_enter (f := 223) (args := #[.slice y0.A y0.n y0.c, .int .i64 0]) (by go_simp; try (first | with_reducible rfl | rfl)) ?_
    refine (shifted0 W1 y0 (HY.out.gr G1.of_drew)).mono ?_
    rintro e w' ⟨y2, rfl, hi, G⟩
    exact ⟨_, rfl, G, y2, rfl, hi⟩
  obtain ⟨_, -, -, ⟨y2, rfl, -⟩⟩ := hv
  try simp only [Act.put, List.setIfInBounds_toArray, List.set_cons_zero, List.set_cons_succ]
  refine Walk.take (v := ?wv92) rfl rfl (Or.inl ⟨by rfl, ?wy92⟩) ?wr92
  case wy92 => (intro w' hw'; obtain ⟨e0, e1, e2, e3, e4, e5, e6, e7, e8, e9, s11⟩ := kc.out w' hw'; go_simp; try with_reducible rfl)
  try simp only [Act.put, List.setIfInBounds_toArray, List.set_cons_zero, List.set_cons_succ]
  refine Walk.do rfl rfl (by rfl) (fun W1 G1 F1 => ?ws93) (fun v hv => ?wr93)
  case ws93 =>
    obtain ⟨e0, e1, e2, e3, e4, e5, e6, e7, e8, e9, s11⟩ := kc.out W1 G1
    refine doesAt_value (v := .pointer (some ⟨W1.heap.size, 0, none⟩)) (W' := W1.alloc (.cells #[.slice none 0 0, .int .i64 0, .int .i64 0, .bool false, .slice none 0 0, .slice none 0 0, .slice none 0 0, .bool false, .slice none 0 0] 55)) (by go_simp; try (first | with_reducible rfl | rfl)) ?_
    exact ⟨(Gr.refl W1).alloc _, NewAt.made W1 _ _ _ (Nat.le_trans (Nat.le_refl _) G1.of_drew.size)⟩
  obtain ⟨_, -, -, ⟨o, rfl, -, -⟩⟩ := hv
  try simp only [Act.put, List.setIfInBounds_toArray, List.set_cons_zero, List.set_cons_succ]
  refine Walk.done (fun W1 G1 F1 => ?_)
  have hy := F1 _ (List.mem_of_getElem? (i := 0) rfl)
  have ho := F1 _ (List.mem_of_getElem? (i := 1) rfl)
  clear F1
  have kc1 := kc.out W1 G1
  clear kc e0 e1 e2 e3 e4 e5 e6 e7 e8 e9 s11
  obtain ⟨e0, e1, e2, e3, e4, e5, e6, e7, e8, e9, s11⟩ := kc1
  refine wpAny_one 12 rfl (by kernel_rfl) (by rfl) (fun K hK => ?_)
  have hN := ho.is
  have fz := hN.1.frozen
  obtain ⟨o0, o1, o2, o3, o4, o5, o6, o7, o8⟩ := hN.1.c9
  go_simp
  refine hK.out _ _ ?_
  clear hK K
  try simp only [Act.put, List.setIfInBounds_toArray, List.set_cons_zero, List.set_cons_succ]
  refine wpAny_end (by kernel_rfl) ?_
  obtain ⟨ho, hoN⟩ := ho.is
  obtain ⟨B5, F5⟩ := ho.put9 (.slice none 0 0) (.int .i64 0) (.int .i64 0) (.bool false) (.slice none 0 0) (.slice none 0 0) (.slice none 0 0) (.bool false) (.slice y2.A y2.n y2.c)
  have HGO2 := Lib.hid (Nat.le_trans HG.out.size hoN)
  have HG5 := Lib.hid ((HG.out.trans G1.of_drew).fr_at F5 HGO2.out)
  have HY5 := Lib.hid (hy.is.st F5 ho (by decide) (by decide))
  have DO := Lib.hid B5
  replace DX := Lib.hid (F5.bk (G1.of_drew.bk DX.out) (Nat.ne_of_lt (Nat.lt_of_lt_of_le DX.out.lt hoN)))
  clear ho hoN hy G1 B5 F5 e0 e1 e2 e3 e4 e5 e6 e7 e8 e9 s11 HG D_p0
  generalize ((((((((W1.setCell ⟨o, 0, none⟩ (.slice none 0 0)).setCell ⟨o, 1, none⟩ (.int .i64 0)).setCell ⟨o, 2, none⟩ (.int .i64 0)).setCell ⟨o, 3, none⟩ (.bool false)).setCell ⟨o, 4, none⟩ (.slice none 0 0)).setCell ⟨o, 5, none⟩ (.slice none 0 0)).setCell ⟨o, 6, none⟩ (.slice none 0 0)).setCell ⟨o, 7, none⟩ (.bool false)).setCell ⟨o, 8, none⟩ (.slice y2.A y2.n y2.c) = w7 at *
  obtain ⟨e0, e1, e2, e3, e4, e5, e6, e7, e8, e9⟩ := DX.out.c10
  obtain ⟨o0, o1, o2, o3, o4, o5, o6, o7, o8⟩ := DO.out.c9
  go_wp2_with fail
  refine wp_loop_rounds 1 ?_
  rw [rounds_succ]
  go_wp2
  refine bodyPost_ret (by simp [results, Tryz.results176, go_sem]; try rfl) rfl ?_
  obtain ⟨B1, GB⟩ := made1 w7 189 #[.slice none 0 0, .int .i64 0, .int .i64 0, .bool false, .slice none 0 0, .slice none 0 0, .slice none 0 0, .bool false, .slice y2.A y2.n y2.c, .slice none 0 0]
  exact ⟨w7.heap.size, y2, rfl, HG5.out.size, B1, HY5.out.gr GB, HG5.out.trans GB⟩
end Go.Proofs.YtcmfepaffhnemaaGreatDoor

set_option linter.unusedVariables false
namespace Go.Proofs.YtcmfepaffhnemaaGreatDoor
open Go.RowKit

attribute [local go_sem] Oper.semAt_some

/-- What graft hands back. -/
def Grafted (N : Nat) (v : Value) (W : World) : Prop := ∃ vb : Nat, v = .tuple #[.pointer (some ⟨vb, 0, none⟩), .bool true] ∧ N ≤ vb ∧ ∃ y : Sv, Bk W vb 189 #[.slice none 0 0, .int .i64 0, .int .i64 0, .bool false, .slice none 0 0, .slice none 0 0, .slice none 0 0, .bool false, .slice y.A y.n y.c, .slice none 0 0] ∧ Mults W y pf0
theorem Grafted.gr {N : Nat} {v : Value} {W W' : World} (h : Grafted N v W) (G : Gr W W') : Grafted N v W' := by
  obtain ⟨vb, e, hn, y, h1, h2⟩ := h
  exact ⟨vb, e, hn, y, G.bk h1, h2.gr G⟩
theorem Grafted.is {N vb : Nat} {W : World} (h : Grafted N (.tuple #[.pointer (some ⟨vb, 0, none⟩), .bool true]) W) : N ≤ vb ∧ ∃ y : Sv, Bk W vb 189 #[.slice none 0 0, .int .i64 0, .int .i64 0, .bool false, .slice none 0 0, .slice none 0 0, .slice none 0 0, .bool false, .slice y.A y.n y.c, .slice none 0 0] ∧ Mults W y pf0 := by
  obtain ⟨vb', e, h⟩ := h
  simp at e
  subst e
  exact h
set_option maxRecDepth 100000 in
set_option maxHeartbeats 4000000 in
theorem ended0 (w : World) (r : Nat) (h1 : w.cell? ⟨r, 22, none⟩ = some (.int .i64 0)) (h2 : w.cell? ⟨r, 23, none⟩ = some (.int .i64 0)) :
    Calls Tryz.prog 101 #[.pointer (some ⟨r, 0, none⟩)] w fun e w' => e = .returned (.bool false) ∧ Gr w w' := by
  go_enter Tryz.func101, Tryz.ntmps101
  go_wp2_with fail
  refine (aload_any _ r 22 0 h1).mono ?_
  rintro e w1 ⟨rfl, G1⟩
  replace h2 := G1.keep h2
  go_wp2_with fail
  refine (aload_any _ r 23 0 h2).mono ?_
  rintro e w2 ⟨rfl, G2⟩
  have HG := Lib.hid (G1.trans G2)
  clear G1 G2 h1 h2
  go_wp2
  go_ret
  exact ⟨rfl, HG.out⟩

set_option maxRecDepth 100000 in
set_option maxHeartbeats 4000000 in
theorem whole0 (w : World) (q : Qv) (r v kb : Nat) (hr : Bk w r 154 #[.int .i64 q.g.inputs, .slice q.g.units.A q.g.units.n q.g.units.c, .slice q.g.outs.A q.g.outs.n q.g.outs.c, .slice q.lo.A q.lo.n q.lo.c, .slice q.hi.A q.hi.n q.hi.c, .slice none 0 0, .slice q.goal.terms.A q.goal.terms.n q.goal.terms.c, .bool q.goal.const.neg, .slice q.goal.const.num.A q.goal.const.num.n q.goal.const.num.c, .slice q.goal.const.den.A q.goal.const.den.n q.goal.const.den.c, .int .i64 0, .int .i64 0, .bool false, .bool false, .int .i64 0, .int .i64 10, .int .i64 0, .iface 227 (.agg #[]), .pointer (some ⟨v, 0, none⟩), .slice none 0 0, .pointer (some ⟨kb, 0, none⟩), .int .i64 0, .int .i64 0, .int .i64 0, .pointer none]) :
    Calls Tryz.prog 100 #[.pointer (some ⟨r, 0, none⟩)] w fun e w' => ∃ p : Nat, e = .returned (.pointer (some ⟨p, 0, none⟩)) ∧ w.heap.size ≤ p ∧ Bk w' p 243 #[.int .i64 q.g.inputs, .slice q.g.units.A q.g.units.n q.g.units.c, .slice q.g.outs.A q.g.outs.n q.g.outs.c, .slice q.lo.A q.lo.n q.lo.c, .slice q.hi.A q.hi.n q.hi.c, .slice none 0 0, .slice q.goal.terms.A q.goal.terms.n q.goal.terms.c, .bool q.goal.const.neg, .slice q.goal.const.num.A q.goal.const.num.n q.goal.const.num.c, .slice q.goal.const.den.A q.goal.const.den.n q.goal.const.den.c, .slice none 0 0, .slice none 0 0, .pointer (some ⟨v, 0, none⟩)] ∧ Gr w w' := by
  have HR := Lib.hid hr
  clear hr
  go_enter Tryz.func100, Tryz.ntmps100
  go_upto_region 1 with fail
  have gd := (Gr.refl w).drew
  have hS0 := (show (fun W => W.cell? ⟨r, 0, none⟩ = some (.int .i64 q.g.inputs) ∧ W.cell? ⟨r, 1, none⟩ = some (.slice q.g.units.A q.g.units.n q.g.units.c) ∧ W.cell? ⟨r, 2, none⟩ = some (.slice q.g.outs.A q.g.outs.n q.g.outs.c) ∧ W.cell? ⟨r, 3, none⟩ = some (.slice q.lo.A q.lo.n q.lo.c) ∧ W.cell? ⟨r, 4, none⟩ = some (.slice q.hi.A q.hi.n q.hi.c) ∧ W.cell? ⟨r, 5, none⟩ = some (.slice none 0 0) ∧ W.cell? ⟨r, 6, none⟩ = some (.slice q.goal.terms.A q.goal.terms.n q.goal.terms.c) ∧ W.cell? ⟨r, 7, none⟩ = some (.bool q.goal.const.neg) ∧ W.cell? ⟨r, 8, none⟩ = some (.slice q.goal.const.num.A q.goal.const.num.n q.goal.const.num.c) ∧ W.cell? ⟨r, 9, none⟩ = some (.slice q.goal.const.den.A q.goal.const.den.n q.goal.const.den.c) ∧ W.cell? ⟨r, 18, none⟩ = some (.pointer (some ⟨v, 0, none⟩))) w.drew from ⟨(gd.bk HR.out).cell 0, (gd.bk HR.out).cell 1, (gd.bk HR.out).cell 2, (gd.bk HR.out).cell 3, (gd.bk HR.out).cell 4, (gd.bk HR.out).cell 5, (gd.bk HR.out).cell 6, (gd.bk HR.out).cell 7, (gd.bk HR.out).cell 8, (gd.bk HR.out).cell 9, (gd.bk HR.out).cell 18⟩)
  clear gd
  refine wp_region_E (fun W => W.cell? ⟨r, 0, none⟩ = some (.int .i64 q.g.inputs) ∧ W.cell? ⟨r, 1, none⟩ = some (.slice q.g.units.A q.g.units.n q.g.units.c) ∧ W.cell? ⟨r, 2, none⟩ = some (.slice q.g.outs.A q.g.outs.n q.g.outs.c) ∧ W.cell? ⟨r, 3, none⟩ = some (.slice q.lo.A q.lo.n q.lo.c) ∧ W.cell? ⟨r, 4, none⟩ = some (.slice q.hi.A q.hi.n q.hi.c) ∧ W.cell? ⟨r, 5, none⟩ = some (.slice none 0 0) ∧ W.cell? ⟨r, 6, none⟩ = some (.slice q.goal.terms.A q.goal.terms.n q.goal.terms.c) ∧ W.cell? ⟨r, 7, none⟩ = some (.bool q.goal.const.neg) ∧ W.cell? ⟨r, 8, none⟩ = some (.slice q.goal.const.num.A q.goal.const.num.n q.goal.const.num.c) ∧ W.cell? ⟨r, 9, none⟩ = some (.slice q.goal.const.den.A q.goal.const.den.n q.goal.const.den.c) ∧ W.cell? ⟨r, 18, none⟩ = some (.pointer (some ⟨v, 0, none⟩))) (by kernel_rfl) ?_
  show anyE _ _ _ _ 12 _ _ _
  refine anyE.takeL (i := 0) (v := ?wv68) rfl (by kernel_rfl) (by kernel_rfl) (by kernel_rfl) (fun _ _ _ h => h) (Or.inl ⟨by rfl, ?wy68⟩) hS0 ?wr68
  case wy68 => (intro w' hS'; obtain ⟨r0, r1, r2, r3, r4, r5, r6, r7, r8, r9, r18⟩ := hS'; go_simp; try with_reducible rfl)
  try simp only [Act.put, List.setIfInBounds_toArray, List.set_cons_zero, List.set_cons_succ]
  refine anyE.takeL (i := 1) (v := ?wv69) rfl (by kernel_rfl) (by kernel_rfl) (by kernel_rfl) (fun _ _ _ h => h) (Or.inl ⟨by rfl, ?wy69⟩) hS0 ?wr69
  case wy69 => (intro w' hS'; obtain ⟨r0, r1, r2, r3, r4, r5, r6, r7, r8, r9, r18⟩ := hS'; go_simp; try with_reducible rfl)
  try simp only [Act.put, List.setIfInBounds_toArray, List.set_cons_zero, List.set_cons_succ]
  refine anyE.takeL (i := 2) (v := ?wv70) rfl (by kernel_rfl) (by kernel_rfl) (by kernel_rfl) (fun _ _ _ h => h) (Or.inl ⟨by rfl, ?wy70⟩) hS0 ?wr70
  case wy70 => (intro w' hS'; obtain ⟨r0, r1, r2, r3, r4, r5, r6, r7, r8, r9, r18⟩ := hS'; go_simp; try with_reducible rfl)
  try simp only [Act.put, List.setIfInBounds_toArray, List.set_cons_zero, List.set_cons_succ]
  refine anyE.takeL (i := 3) (v := ?wv71) rfl (by kernel_rfl) (by kernel_rfl) (by kernel_rfl) (fun _ _ _ h => h) (Or.inl ⟨by rfl, ?wy71⟩) hS0 ?wr71
  case wy71 => (intro w' hS'; obtain ⟨r0, r1, r2, r3, r4, r5, r6, r7, r8, r9, r18⟩ := hS'; go_simp; try with_reducible rfl)
  try simp only [Act.put, List.setIfInBounds_toArray, List.set_cons_zero, List.set_cons_succ]
  refine anyE.takeL (i := 4) (v := ?wv72) rfl (by kernel_rfl) (by kernel_rfl) (by kernel_rfl) (fun _ _ _ h => h) (Or.inl ⟨by rfl, ?wy72⟩) hS0 ?wr72
  case wy72 => (intro w' hS'; obtain ⟨r0, r1, r2, r3, r4, r5, r6, r7, r8, r9, r18⟩ := hS'; go_simp; try with_reducible rfl)
  try simp only [Act.put, List.setIfInBounds_toArray, List.set_cons_zero, List.set_cons_succ]
  refine anyE.takeL (i := 5) (v := ?wv73) rfl (by kernel_rfl) (by kernel_rfl) (by kernel_rfl) (fun _ _ _ h => h) (Or.inl ⟨by rfl, ?wy73⟩) hS0 ?wr73
  case wy73 => (intro w' hS'; obtain ⟨r0, r1, r2, r3, r4, r5, r6, r7, r8, r9, r18⟩ := hS'; go_simp; try with_reducible rfl)
  try simp only [Act.put, List.setIfInBounds_toArray, List.set_cons_zero, List.set_cons_succ]
  refine anyE.takeL (i := 6) (v := ?wv74) rfl (by kernel_rfl) (by kernel_rfl) (by kernel_rfl) (fun _ _ _ h => h) (Or.inl ⟨by rfl, ?wy74⟩) hS0 ?wr74
  case wy74 => (intro w' hS'; obtain ⟨r0, r1, r2, r3, r4, r5, r6, r7, r8, r9, r18⟩ := hS'; go_simp; try with_reducible rfl)
  try simp only [Act.put, List.setIfInBounds_toArray, List.set_cons_zero, List.set_cons_succ]
  refine anyE.takeL (i := 7) (v := ?wv75) rfl (by kernel_rfl) (by kernel_rfl) (by kernel_rfl) (fun _ _ _ h => h) (Or.inl ⟨by rfl, ?wy75⟩) hS0 ?wr75
  case wy75 => (intro w' hS'; obtain ⟨r0, r1, r2, r3, r4, r5, r6, r7, r8, r9, r18⟩ := hS'; go_simp; try with_reducible rfl)
  try simp only [Act.put, List.setIfInBounds_toArray, List.set_cons_zero, List.set_cons_succ]
  refine anyE.takeL (i := 8) (v := ?wv76) rfl (by kernel_rfl) (by kernel_rfl) (by kernel_rfl) (fun _ _ _ h => h) (Or.inl ⟨by rfl, ?wy76⟩) hS0 ?wr76
  case wy76 => (intro w' hS'; obtain ⟨r0, r1, r2, r3, r4, r5, r6, r7, r8, r9, r18⟩ := hS'; go_simp; try with_reducible rfl)
  try simp only [Act.put, List.setIfInBounds_toArray, List.set_cons_zero, List.set_cons_succ]
  refine anyE.takeL (i := 9) (v := ?wv77) rfl (by kernel_rfl) (by kernel_rfl) (by kernel_rfl) (fun _ _ _ h => h) (Or.inl ⟨by rfl, ?wy77⟩) hS0 ?wr77
  case wy77 => (intro w' hS'; obtain ⟨r0, r1, r2, r3, r4, r5, r6, r7, r8, r9, r18⟩ := hS'; go_simp; try with_reducible rfl)
  try simp only [Act.put, List.setIfInBounds_toArray, List.set_cons_zero, List.set_cons_succ]
  have GA := ((Gr.refl w).alloc (.cells #[.int .i64 q.g.inputs, .slice q.g.units.A q.g.units.n q.g.units.c, .slice q.g.outs.A q.g.outs.n q.g.outs.c, .slice q.lo.A q.lo.n q.lo.c, .slice q.hi.A q.hi.n q.hi.c, .slice none 0 0, .slice q.goal.terms.A q.goal.terms.n q.goal.terms.c, .bool q.goal.const.neg, .slice q.goal.const.num.A q.goal.const.num.n q.goal.const.num.c, .slice q.goal.const.den.A q.goal.const.den.n q.goal.const.den.c, .slice none 0 0, .slice none 0 0, .pointer (some ⟨v, 0, none⟩)] 243)).drew
  have D1 := Lib.hid (GA.bk HR.out)
  have HG1 := Lib.hid GA
  have DP := Lib.hid (show Bk ((w.alloc (.cells #[.int .i64 q.g.inputs, .slice q.g.units.A q.g.units.n q.g.units.c, .slice q.g.outs.A q.g.outs.n q.g.outs.c, .slice q.lo.A q.lo.n q.lo.c, .slice q.hi.A q.hi.n q.hi.c, .slice none 0 0, .slice q.goal.terms.A q.goal.terms.n q.goal.terms.c, .bool q.goal.const.neg, .slice q.goal.const.num.A q.goal.const.num.n q.goal.const.num.c, .slice q.goal.const.den.A q.goal.const.den.n q.goal.const.den.c, .slice none 0 0, .slice none 0 0, .pointer (some ⟨v, 0, none⟩)] 243)).drew) w.heap.size 243 #[.int .i64 q.g.inputs, .slice q.g.units.A q.g.units.n q.g.units.c, .slice q.g.outs.A q.g.outs.n q.g.outs.c, .slice q.lo.A q.lo.n q.lo.c, .slice q.hi.A q.hi.n q.hi.c, .slice none 0 0, .slice q.goal.terms.A q.goal.terms.n q.goal.terms.c, .bool q.goal.const.neg, .slice q.goal.const.num.A q.goal.const.num.n q.goal.const.num.c, .slice q.goal.const.den.A q.goal.const.den.n q.goal.const.den.c, .slice none 0 0, .slice none 0 0, .pointer (some ⟨v, 0, none⟩)] from Bk.made _ _ _)
  clear GA hS0
  refine anyE.one 10 rfl (by kernel_rfl) (by rfl) (fun K hK => ?_)
  go_simp
  refine hK.out _ _ ⟨Or.inl (⟨D1.out.cell 0, D1.out.cell 1, D1.out.cell 2, D1.out.cell 3, D1.out.cell 4, D1.out.cell 5, D1.out.cell 6, D1.out.cell 7, D1.out.cell 8, D1.out.cell 9, D1.out.cell 18⟩), ?_⟩
  clear hK K
  try simp only [Act.put, List.setIfInBounds_toArray, List.set_cons_zero, List.set_cons_succ]
  generalize hw2 : (w.alloc (.cells #[.int .i64 q.g.inputs, .slice q.g.units.A q.g.units.n q.g.units.c, .slice q.g.outs.A q.g.outs.n q.g.outs.c, .slice q.lo.A q.lo.n q.lo.c, .slice q.hi.A q.hi.n q.hi.c, .slice none 0 0, .slice q.goal.terms.A q.goal.terms.n q.goal.terms.c, .bool q.goal.const.neg, .slice q.goal.const.num.A q.goal.const.num.n q.goal.const.num.c, .slice q.goal.const.den.A q.goal.const.den.n q.goal.const.den.c, .slice none 0 0, .slice none 0 0, .pointer (some ⟨v, 0, none⟩)] 243)).drew = w2 at *
  clear hw2
  have hS1 := (show (fun W => W.cell? ⟨r, 0, none⟩ = some (.int .i64 q.g.inputs) ∧ W.cell? ⟨r, 1, none⟩ = some (.slice q.g.units.A q.g.units.n q.g.units.c) ∧ W.cell? ⟨r, 2, none⟩ = some (.slice q.g.outs.A q.g.outs.n q.g.outs.c) ∧ W.cell? ⟨r, 3, none⟩ = some (.slice q.lo.A q.lo.n q.lo.c) ∧ W.cell? ⟨r, 4, none⟩ = some (.slice q.hi.A q.hi.n q.hi.c) ∧ W.cell? ⟨r, 5, none⟩ = some (.slice none 0 0) ∧ W.cell? ⟨r, 6, none⟩ = some (.slice q.goal.terms.A q.goal.terms.n q.goal.terms.c) ∧ W.cell? ⟨r, 7, none⟩ = some (.bool q.goal.const.neg) ∧ W.cell? ⟨r, 8, none⟩ = some (.slice q.goal.const.num.A q.goal.const.num.n q.goal.const.num.c) ∧ W.cell? ⟨r, 9, none⟩ = some (.slice q.goal.const.den.A q.goal.const.den.n q.goal.const.den.c) ∧ W.cell? ⟨r, 18, none⟩ = some (.pointer (some ⟨v, 0, none⟩))) w2 from ⟨D1.out.cell 0, D1.out.cell 1, D1.out.cell 2, D1.out.cell 3, D1.out.cell 4, D1.out.cell 5, D1.out.cell 6, D1.out.cell 7, D1.out.cell 8, D1.out.cell 9, D1.out.cell 18⟩)
  refine anyE.takeL (i := 11) (v := ?wv78) rfl (by kernel_rfl) (by kernel_rfl) (by kernel_rfl) (fun _ _ _ h => h) (Or.inl ⟨by rfl, ?wy78⟩) hS1 ?wr78
  case wy78 => (intro w' hS'; obtain ⟨r0, r1, r2, r3, r4, r5, r6, r7, r8, r9, r18⟩ := hS'; go_simp; try with_reducible rfl)
  try simp only [Act.put, List.setIfInBounds_toArray, List.set_cons_zero, List.set_cons_succ]
  refine anyE.done (by kernel_rfl) ?_
  go_wp2
  go_ret
  exact ⟨w.heap.size, rfl, Nat.le_refl _, DP.out, HG1.out⟩

set_option maxRecDepth 100000 in
set_option maxHeartbeats 4000000 in
theorem shut0 (w : World) (q : Qv) (x : Qm) (k : Q) (kb m1 m2 m3 r v : Nat) (z : Sv) (p : Nat) (hq : q.Is w x) (hx : x.Va) (hlo : x.lo[0]? = some Q.zero) (hg : x.goal = goal0 k) (hk : Cst k) (hs : 0 ≤ k.sign) (hkb : Bk w kb 194 #[.int .i64 q.g.inputs, .slice q.g.units.A q.g.units.n q.g.units.c, .slice q.g.outs.A q.g.outs.n q.g.outs.c, .slice q.lo.A q.lo.n q.lo.c, .slice q.hi.A q.hi.n q.hi.c, .slice none 0 0, .slice q.goal.terms.A q.goal.terms.n q.goal.terms.c, .bool q.goal.const.neg, .slice q.goal.const.num.A q.goal.const.num.n q.goal.const.num.c, .slice q.goal.const.den.A q.goal.const.den.n q.goal.const.den.c, .map (some m1), .map (some m2), .map (some m3)]) (h1 : Ob w m1 (.map #[{ key := .string ⟨#[]⟩, val := .slice z.A z.n z.c, born := 0 }] 1)) (hz : Ents w z [pf0]) (h3 : Ob w m3 (.map #[] 0)) (hr : Bk w r 154 #[.int .i64 q.g.inputs, .slice q.g.units.A q.g.units.n q.g.units.c, .slice q.g.outs.A q.g.outs.n q.g.outs.c, .slice q.lo.A q.lo.n q.lo.c, .slice q.hi.A q.hi.n q.hi.c, .slice none 0 0, .slice q.goal.terms.A q.goal.terms.n q.goal.terms.c, .bool q.goal.const.neg, .slice q.goal.const.num.A q.goal.const.num.n q.goal.const.num.c, .slice q.goal.const.den.A q.goal.const.den.n q.goal.const.den.c, .int .i64 0, .int .i64 0, .bool false, .bool false, .int .i64 0, .int .i64 10, .int .i64 0, .iface 227 (.agg #[]), .pointer (some ⟨v, 0, none⟩), .slice none 0 0, .pointer (some ⟨kb, 0, none⟩), .int .i64 0, .int .i64 0, .int .i64 0, .pointer none]) (hv : Bk w v 189 #[.slice none 0 0, .int .i64 0, .int .i64 0, .bool false, .slice none 0 0, .slice none 0 0, .slice none 0 0, .bool false, .slice none 0 0, .slice none 0 0]) (hp : Bk w p 243 #[.int .i64 q.g.inputs, .slice q.g.units.A q.g.units.n q.g.units.c, .slice q.g.outs.A q.g.outs.n q.g.outs.c, .slice q.lo.A q.lo.n q.lo.c, .slice q.hi.A q.hi.n q.hi.c, .slice none 0 0, .slice q.goal.terms.A q.goal.terms.n q.goal.terms.c, .bool q.goal.const.neg, .slice q.goal.const.num.A q.goal.const.num.n q.goal.const.num.c, .slice q.goal.const.den.A q.goal.const.den.n q.goal.const.den.c, .slice none 0 0, .slice none 0 0, .pointer (some ⟨v, 0, none⟩)]) :
    Calls Tryz.prog 138 #[.pointer (some ⟨r, 0, none⟩), .pointer (some ⟨p, 0, none⟩)] w fun e w' => e = .returned (.bool true) ∧ (∃ y : Sv, Bk w' v 189 #[.slice none 0 0, .int .i64 0, .int .i64 0, .bool false, .slice none 0 0, .slice none 0 0, .slice none 0 0, .bool false, .slice y.A y.n y.c, .slice none 0 0] ∧ Mults w' y pf0) ∧ Fr (fun b => b = v) w w' := by
  have HQ := Lib.hid hq
  have HX := Lib.hid hx
  have HLO := Lib.hid hlo
  have HGO := Lib.hid hg
  have HK := Lib.hid hk
  have HS := Lib.hid hs
  have HKB := Lib.hid hkb
  have H1 := Lib.hid h1
  have HZ := Lib.hid hz
  have H3 := Lib.hid h3
  have HR := Lib.hid hr
  have HV := Lib.hid hv
  have HP := Lib.hid hp
  clear hq hx hlo hg hk hs hkb h1 hz h3 hr hv hp
  have r20 := HR.out.cell 20
  simp only [List.getElem?_toArray, List.getElem?_cons_zero, List.getElem?_cons_succ] at r20
  obtain ⟨p0, p1, p2, p3, p4, p5, p6, p7, p8, p9, p10, p11, p12⟩ := HP.out.c13
  go_enter Tryz.func138, Tryz.ntmps138
  go_upto_region 1 with fail
  refine wp_region_any (by kernel_rfl) ?_
  have kc := Lib.hid (fun (W' : World) (G : Gr w.drew W') => And.intro (G.keep r20) (And.intro (G.keep p0) (And.intro (G.keep p1) (And.intro (G.keep p2) (And.intro (G.keep p3) (And.intro (G.keep p4) (And.intro (G.keep p5) (And.intro (G.keep p6) (And.intro (G.keep p7) (And.intro (G.keep p8) (And.intro (G.keep p9) (And.intro (G.keep p10) (G.keep p11)))))))))))))
  have hst : ∀ p ∈ ([(8, Grafted w.heap.size)] : List (Nat × (Value → World → Prop))), ∀ (u : Value) (wA0 wB0 : World), Gr w.drew wA0 → Gr wA0 wB0 → p.2 u wA0 → p.2 u wB0 := by
    intro p hp u wA0 wB0 h0 G h
    simp only [List.mem_cons, List.not_mem_nil, or_false] at hp
    subst hp
    · exact h.gr G
  refine wpAny_walk (m := 0) (last := #[true, true, true, true, true, true, true, true, true, true, true, true, true, true]) [0, 1, 2, 3, 4, 5, 6, 7, 8, 9, 10, 11, 12, 13] [(8, Grafted w.heap.size)] (by kernel_rfl) (by decide) (by kernel_rfl) hst ?_
  clear hst
  refine Walk.take (v := ?wv79) rfl rfl (Or.inl ⟨by rfl, ?wy79⟩) ?wr79
  case wy79 => (intro w' hw'; obtain ⟨r20, p0, p1, p2, p3, p4, p5, p6, p7, p8, p9, p10, p11⟩ := kc.out w' hw'; go_simp; try with_reducible rfl)
  try simp only [Act.put, List.setIfInBounds_toArray, List.set_cons_zero, List.set_cons_succ]
  refine Walk.take (v := ?wv80) rfl rfl (Or.inl ⟨by rfl, ?wy80⟩) ?wr80
  case wy80 => (intro w' hw'; obtain ⟨r20, p0, p1, p2, p3, p4, p5, p6, p7, p8, p9, p10, p11⟩ := kc.out w' hw'; go_simp; try with_reducible rfl)
  try simp only [Act.put, List.setIfInBounds_toArray, List.set_cons_zero, List.set_cons_succ]
  refine Walk.take (v := ?wv81) rfl rfl (Or.inl ⟨by rfl, ?wy81⟩) ?wr81
  case wy81 => (intro w' hw'; obtain ⟨r20, p0, p1, p2, p3, p4, p5, p6, p7, p8, p9, p10, p11⟩ := kc.out w' hw'; go_simp; try with_reducible rfl)
  try simp only [Act.put, List.setIfInBounds_toArray, List.set_cons_zero, List.set_cons_succ]
  refine Walk.take (v := ?wv82) rfl rfl (Or.inl ⟨by rfl, ?wy82⟩) ?wr82
  case wy82 => (intro w' hw'; obtain ⟨r20, p0, p1, p2, p3, p4, p5, p6, p7, p8, p9, p10, p11⟩ := kc.out w' hw'; go_simp; try with_reducible rfl)
  try simp only [Act.put, List.setIfInBounds_toArray, List.set_cons_zero, List.set_cons_succ]
  refine Walk.take (v := ?wv83) rfl rfl (Or.inl ⟨by rfl, ?wy83⟩) ?wr83
  case wy83 => (intro w' hw'; obtain ⟨r20, p0, p1, p2, p3, p4, p5, p6, p7, p8, p9, p10, p11⟩ := kc.out w' hw'; go_simp; try with_reducible rfl)
  try simp only [Act.put, List.setIfInBounds_toArray, List.set_cons_zero, List.set_cons_succ]
  refine Walk.take (v := ?wv84) rfl rfl (Or.inl ⟨by rfl, ?wy84⟩) ?wr84
  case wy84 => (intro w' hw'; obtain ⟨r20, p0, p1, p2, p3, p4, p5, p6, p7, p8, p9, p10, p11⟩ := kc.out w' hw'; go_simp; try with_reducible rfl)
  try simp only [Act.put, List.setIfInBounds_toArray, List.set_cons_zero, List.set_cons_succ]
  refine Walk.take (v := ?wv85) rfl rfl (Or.inl ⟨by rfl, ?wy85⟩) ?wr85
  case wy85 => (intro w' hw'; obtain ⟨r20, p0, p1, p2, p3, p4, p5, p6, p7, p8, p9, p10, p11⟩ := kc.out w' hw'; go_simp; try with_reducible rfl)
  try simp only [Act.put, List.setIfInBounds_toArray, List.set_cons_zero, List.set_cons_succ]
  refine Walk.take (v := ?wv86) rfl rfl (Or.inl ⟨by rfl, ?wy86⟩) ?wr86
  case wy86 => (intro w' hw'; obtain ⟨r20, p0, p1, p2, p3, p4, p5, p6, p7, p8, p9, p10, p11⟩ := kc.out w' hw'; go_simp; try with_reducible rfl)
  try simp only [Act.put, List.setIfInBounds_toArray, List.set_cons_zero, List.set_cons_succ]
  refine Walk.do rfl rfl (by rfl) (fun W1 G1 F1 => ?ws87) (fun v hv => ?wr87)
  case ws87 =>
    obtain ⟨r20, p0, p1, p2, p3, p4, p5, p6, p7, p8, p9, p10, p11⟩ := kc.out W1 G1
    refine doesAt_enter (f := 176) (args := #[.pointer (some ⟨kb, 0, none⟩), scV q]) (by go_simp; try (first | with_reducible rfl | rfl)) ?_
    refine (graft0 W1 q x k kb m1 m2 m3 z (HQ.out.gr G1.of_drew) HX.out HLO.out HGO.out HK.out HS.out (G1.of_drew.bk HKB.out) (H1.out.gr G1.of_drew) (HZ.out.gr G1.of_drew) (H3.out.gr G1.of_drew)).mono ?_
    rintro e w' ⟨vb, y, rfl, hvb, h5, h6, G⟩
    exact ⟨_, rfl, G, vb, rfl, Nat.le_trans G1.of_drew.size hvb, y, h5, h6⟩
  obtain ⟨_, -, -, ⟨vb, rfl, -⟩⟩ := hv
  try simp only [Act.put, List.setIfInBounds_toArray, List.set_cons_zero, List.set_cons_succ]
  refine Walk.take (v := ?wv88) rfl rfl (Or.inl ⟨by rfl, ?wy88⟩) ?wr88
  case wy88 => (intro w' hw'; obtain ⟨r20, p0, p1, p2, p3, p4, p5, p6, p7, p8, p9, p10, p11⟩ := kc.out w' hw'; go_simp; try with_reducible rfl)
  try simp only [Act.put, List.setIfInBounds_toArray, List.set_cons_zero, List.set_cons_succ]
  refine Walk.take (v := ?wv89) rfl rfl (Or.inl ⟨by rfl, ?wy89⟩) ?wr89
  case wy89 => (intro w' hw'; obtain ⟨r20, p0, p1, p2, p3, p4, p5, p6, p7, p8, p9, p10, p11⟩ := kc.out w' hw'; go_simp; try with_reducible rfl)
  try simp only [Act.put, List.setIfInBounds_toArray, List.set_cons_zero, List.set_cons_succ]
  refine Walk.take (v := ?wv90) rfl rfl (Or.inl ⟨by rfl, ?wy90⟩) ?wr90
  case wy90 => (intro w' hw'; obtain ⟨r20, p0, p1, p2, p3, p4, p5, p6, p7, p8, p9, p10, p11⟩ := kc.out w' hw'; go_simp; try with_reducible rfl)
  try simp only [Act.put, List.setIfInBounds_toArray, List.set_cons_zero, List.set_cons_succ]
  refine Walk.take (v := ?wv91) rfl rfl (Or.inl ⟨by rfl, ?wy91⟩) ?wr91
  case wy91 => (intro w' hw'; obtain ⟨r20, p0, p1, p2, p3, p4, p5, p6, p7, p8, p9, p10, p11⟩ := kc.out w' hw'; go_simp; try with_reducible rfl)
  try simp only [Act.put, List.setIfInBounds_toArray, List.set_cons_zero, List.set_cons_succ]
  refine Walk.take (v := ?wv92) rfl rfl (Or.inl ⟨by rfl, ?wy92⟩) ?wr92
  case wy92 => (intro w' hw'; obtain ⟨r20, p0, p1, p2, p3, p4, p5, p6, p7, p8, p9, p10, p11⟩ := kc.out w' hw'; go_simp; try with_reducible rfl)
  try simp only [Act.put, List.setIfInBounds_toArray, List.set_cons_zero, List.set_cons_succ]
  refine Walk.done (fun W1 G1 F1 => ?_)
  have hgr := F1 _ (List.mem_of_getElem? (i := 0) rfl)
  clear F1
  have kc1 := kc.out W1 G1
  clear kc r20 p0 p1 p2 p3 p4 p5 p6 p7 p8 p9 p10 p11
  obtain ⟨r20, p0, p1, p2, p3, p4, p5, p6, p7, p8, p9, p10, p11⟩ := kc1
  refine wpAny_end (by kernel_rfl) ?_
  obtain ⟨hvN, y, hvb, hy⟩ := hgr.is
  have HG := Lib.hid G1.of_drew
  have HVB := Lib.hid hvb
  have HY := Lib.hid hy
  have HP3 := Lib.hid (HG.out.bk HP.out)
  have HV3 := Lib.hid (HG.out.bk HV.out)
  clear hvN hvb hy hgr G1 r20 p0 p1 p2 p3 p4 p5 p6 p7 p8 p9 p10 p11 p12
  generalize W1 = w3 at *
  obtain ⟨p0, p1, p2, p3, p4, p5, p6, p7, p8, p9, p10, p11, p12⟩ := HP3.out.c13
  obtain ⟨v0, v1, v2, v3, v4, v5, v6, v7, v8, v9⟩ := HVB.out.c10
  clear p0 p1 p2 p3 p4 p5 p6 p7 p8 p9 p10 p11
  go_wp2_with fail
  go_upto_region 3 with fail
  refine wp_region_any (by kernel_rfl) ?_
  have kc := Lib.hid (fun (W' : World) (G : Gr w3.drew W') => And.intro (G.keep p12) (And.intro (G.keep v0) (And.intro (G.keep v1) (And.intro (G.keep v2) (And.intro (G.keep v3) (And.intro (G.keep v4) (And.intro (G.keep v5) (And.intro (G.keep v6) (And.intro (G.keep v7) (And.intro (G.keep v8) (G.keep v9)))))))))))
  have hst : ∀ p ∈ ([] : List (Nat × (Value → World → Prop))), ∀ (u : Value) (wA0 wB0 : World), Gr w3.drew wA0 → Gr wA0 wB0 → p.2 u wA0 → p.2 u wB0 := by
    intro p hp; cases hp
  refine wpAny_walk (m := 2) (last := #[true, true, true, true, true, true, true, false, false]) [0, 1, 2, 3, 4, 5, 6] [] (by kernel_rfl) (by decide) (by kernel_rfl) hst ?_
  clear hst
  refine Walk.take (v := ?wv93) rfl rfl (Or.inl ⟨by rfl, ?wy93⟩) ?wr93
  case wy93 => (intro w' hw'; obtain ⟨p12, v0, v1, v2, v3, v4, v5, v6, v7, v8, v9⟩ := kc.out w' hw'; go_simp; try with_reducible rfl)
  try simp only [Act.put, List.setIfInBounds_toArray, List.set_cons_zero, List.set_cons_succ]
  refine Walk.take (v := ?wv94) rfl rfl (Or.inl ⟨by rfl, ?wy94⟩) ?wr94
  case wy94 => (intro w' hw'; obtain ⟨p12, v0, v1, v2, v3, v4, v5, v6, v7, v8, v9⟩ := kc.out w' hw'; go_simp; try with_reducible rfl)
  try simp only [Act.put, List.setIfInBounds_toArray, List.set_cons_zero, List.set_cons_succ]
  refine Walk.take (v := ?wv95) rfl rfl (Or.inl ⟨by rfl, ?wy95⟩) ?wr95
  case wy95 => (intro w' hw'; obtain ⟨p12, v0, v1, v2, v3, v4, v5, v6, v7, v8, v9⟩ := kc.out w' hw'; go_simp; try with_reducible rfl)
  try simp only [Act.put, List.setIfInBounds_toArray, List.set_cons_zero, List.set_cons_succ]
  refine Walk.take (v := ?wv96) rfl rfl (Or.inl ⟨by rfl, ?wy96⟩) ?wr96
  case wy96 => (intro w' hw'; obtain ⟨p12, v0, v1, v2, v3, v4, v5, v6, v7, v8, v9⟩ := kc.out w' hw'; go_simp; try with_reducible rfl)
  try simp only [Act.put, List.setIfInBounds_toArray, List.set_cons_zero, List.set_cons_succ]
  refine Walk.take (v := ?wv97) rfl rfl (Or.inl ⟨by rfl, ?wy97⟩) ?wr97
  case wy97 => (intro w' hw'; obtain ⟨p12, v0, v1, v2, v3, v4, v5, v6, v7, v8, v9⟩ := kc.out w' hw'; go_simp; try with_reducible rfl)
  try simp only [Act.put, List.setIfInBounds_toArray, List.set_cons_zero, List.set_cons_succ]
  refine Walk.take (v := ?wv98) rfl rfl (Or.inl ⟨by rfl, ?wy98⟩) ?wr98
  case wy98 => (intro w' hw'; obtain ⟨p12, v0, v1, v2, v3, v4, v5, v6, v7, v8, v9⟩ := kc.out w' hw'; go_simp; try with_reducible rfl)
  try simp only [Act.put, List.setIfInBounds_toArray, List.set_cons_zero, List.set_cons_succ]
  refine Walk.take (v := ?wv99) rfl rfl (Or.inl ⟨by rfl, ?wy99⟩) ?wr99
  case wy99 => (intro w' hw'; obtain ⟨p12, v0, v1, v2, v3, v4, v5, v6, v7, v8, v9⟩ := kc.out w' hw'; go_simp; try with_reducible rfl)
  try simp only [Act.put, List.setIfInBounds_toArray, List.set_cons_zero, List.set_cons_succ]
  refine Walk.done (fun W1 G1 F1 => ?_)
  clear F1
  have kc1 := kc.out W1 G1
  clear kc p12 v0 v1 v2 v3 v4 v5 v6 v7 v8 v9
  obtain ⟨p12, v0, v1, v2, v3, v4, v5, v6, v7, v8, v9⟩ := kc1
  refine wpAny_one 7 rfl (by kernel_rfl) (by rfl) (fun K hK => ?_)
  go_simp
  refine hK.out _ _ ?_
  clear hK K
  try simp only [Act.put, List.setIfInBounds_toArray, List.set_cons_zero, List.set_cons_succ]
  refine wpAny_one 8 rfl (by kernel_rfl) (by rfl) (fun K hK => ?_)
  have hR5 := G1.of_drew.bk HV3.out
  have fz := hR5.frozen
  obtain ⟨z0, z1, z2, z3, z4, z5, z6, z7, z8, z9⟩ := hR5.c10
  go_simp
  refine hK.out _ _ ?_
  clear hK K
  try simp only [Act.put, List.setIfInBounds_toArray, List.set_cons_zero, List.set_cons_succ]
  refine wpAny_end (by kernel_rfl) ?_
  have hR5 := G1.of_drew.bk HV3.out
  obtain ⟨B5, F5⟩ := hR5.put10 (.slice none 0 0) (.int .i64 0) (.int .i64 0) (.bool false) (.slice none 0 0) (.slice none 0 0) (.slice none 0 0) (.bool false) (.slice y.A y.n y.c) (.slice none 0 0)
  have HV5 := Lib.hid B5
  have HY5 := Lib.hid ((HY.out.gr G1.of_drew).st F5 hR5 (by decide) (by decide))
  have HF5 := Lib.hid (((HG.out.trans G1.of_drew).fr.none.trans F5) : Fr (fun b => b = v) w _)
  clear hR5 B5 F5 G1 p12 v0 v1 v2 v3 v4 v5 v6 v7 v8 v9
  generalize (((((((((W1.setCell ⟨v, 0, none⟩ (.slice none 0 0)).setCell ⟨v, 1, none⟩ (.int .i64 0)).setCell ⟨v, 2, none⟩ (.int .i64 0)).setCell ⟨v, 3, none⟩ (.bool false)).setCell ⟨v, 4, none⟩ (.slice none 0 0)).setCell ⟨v, 5, none⟩ (.slice none 0 0)).setCell ⟨v, 6, none⟩ (.slice none 0 0)).setCell ⟨v, 7, none⟩ (.bool false)).setCell ⟨v, 8, none⟩ (.slice y.A y.n y.c)).setCell ⟨v, 9, none⟩ (.slice none 0 0) = w5 at *
  go_wp2
  go_ret
  exact ⟨rfl, ⟨y, HV5.out, HY5.out⟩, HF5.out⟩

set_option maxRecDepth 100000 in
set_option maxHeartbeats 4000000 in
theorem treat0 (w : World) (q : Qv) (x : Qm) (k : Q) (kb m1 m2 m3 r v : Nat) (z : Sv) (p : Nat) (hq : q.Is w x) (hx : x.Va) (hlo : x.lo[0]? = some Q.zero) (hg : x.goal = goal0 k) (hk : Cst k) (hs : 0 ≤ k.sign) (hkb : Bk w kb 194 #[.int .i64 q.g.inputs, .slice q.g.units.A q.g.units.n q.g.units.c, .slice q.g.outs.A q.g.outs.n q.g.outs.c, .slice q.lo.A q.lo.n q.lo.c, .slice q.hi.A q.hi.n q.hi.c, .slice none 0 0, .slice q.goal.terms.A q.goal.terms.n q.goal.terms.c, .bool q.goal.const.neg, .slice q.goal.const.num.A q.goal.const.num.n q.goal.const.num.c, .slice q.goal.const.den.A q.goal.const.den.n q.goal.const.den.c, .map (some m1), .map (some m2), .map (some m3)]) (h1 : Ob w m1 (.map #[{ key := .string ⟨#[]⟩, val := .slice z.A z.n z.c, born := 0 }] 1)) (hz : Ents w z [pf0]) (h3 : Ob w m3 (.map #[] 0)) (hr : Bk w r 154 #[.int .i64 q.g.inputs, .slice q.g.units.A q.g.units.n q.g.units.c, .slice q.g.outs.A q.g.outs.n q.g.outs.c, .slice q.lo.A q.lo.n q.lo.c, .slice q.hi.A q.hi.n q.hi.c, .slice none 0 0, .slice q.goal.terms.A q.goal.terms.n q.goal.terms.c, .bool q.goal.const.neg, .slice q.goal.const.num.A q.goal.const.num.n q.goal.const.num.c, .slice q.goal.const.den.A q.goal.const.den.n q.goal.const.den.c, .int .i64 0, .int .i64 0, .bool false, .bool false, .int .i64 0, .int .i64 10, .int .i64 0, .iface 227 (.agg #[]), .pointer (some ⟨v, 0, none⟩), .slice none 0 0, .pointer (some ⟨kb, 0, none⟩), .int .i64 0, .int .i64 0, .int .i64 0, .pointer none]) (hv : Bk w v 189 #[.slice none 0 0, .int .i64 0, .int .i64 0, .bool false, .slice none 0 0, .slice none 0 0, .slice none 0 0, .bool false, .slice none 0 0, .slice none 0 0]) (hp : Bk w p 243 #[.int .i64 q.g.inputs, .slice q.g.units.A q.g.units.n q.g.units.c, .slice q.g.outs.A q.g.outs.n q.g.outs.c, .slice q.lo.A q.lo.n q.lo.c, .slice q.hi.A q.hi.n q.hi.c, .slice none 0 0, .slice q.goal.terms.A q.goal.terms.n q.goal.terms.c, .bool q.goal.const.neg, .slice q.goal.const.num.A q.goal.const.num.n q.goal.const.num.c, .slice q.goal.const.den.A q.goal.const.den.n q.goal.const.den.c, .slice none 0 0, .slice none 0 0, .pointer (some ⟨v, 0, none⟩)]) :
    Calls Tryz.prog 102 #[.pointer (some ⟨r, 0, none⟩), .pointer (some ⟨p, 0, none⟩)] w fun e w' => e = .returned (.slice none 0 0) ∧ (∃ y : Sv, Bk w' v 189 #[.slice none 0 0, .int .i64 0, .int .i64 0, .bool false, .slice none 0 0, .slice none 0 0, .slice none 0 0, .bool false, .slice y.A y.n y.c, .slice none 0 0] ∧ Mults w' y pf0) ∧ Fr (fun b => b = v) w w' := by
  go_enter Tryz.func102, Tryz.ntmps102
  go_wp2_with fail
  have r22 := hr.cell 22
  have r23 := hr.cell 23
  simp only [List.getElem?_toArray, List.getElem?_cons_zero, List.getElem?_cons_succ] at r22 r23
  refine (ended0 w r r22 r23).mono ?_
  rintro e w1 ⟨rfl, G⟩
  have H9 := Lib.hid (shut0 w1 q x k kb m1 m2 m3 r v z p (hq.gr G) hx hlo hg hk hs (G.bk hkb) (h1.gr G) (hz.gr G) (h3.gr G) (G.bk hr) (G.bk hv) (G.bk hp))
  have HG := Lib.hid G
  clear hq hx hlo hg hk hs hkb h1 hz h3 hr hv hp G r22 r23
  go_wp2_with fail
  refine H9.out.mono ?_
  rintro e w2 ⟨rfl, ⟨y, h5, h6⟩, F⟩
  have H5 := Lib.hid h5
  have H6 := Lib.hid h6
  have HF := Lib.hid (HG.out.fr.none.trans F : Fr (fun b => b = v) w _)
  clear h5 h6 F H9
  go_wp2
  go_ret
  exact ⟨rfl, ⟨y, H5.out, H6.out⟩, HF.out⟩
end Go.Proofs.YtcmfepaffhnemaaGreatDoor

set_option linter.unusedVariables false
namespace Go.Proofs.YtcmfepaffhnemaaGreatDoor
open Go.RowKit

attribute [local go_sem] Oper.semAt_some
theorem Bk.put12 {w : World} {p t : Nat} {a0 a1 a2 a3 a4 a5 a6 a7 a8 a9 a10 a11 : Value} (hh : Bk w p t #[a0, a1, a2, a3, a4, a5, a6, a7, a8, a9, a10, a11]) (x0 x1 x2 x3 x4 x5 x6 x7 x8 x9 x10 x11 : Value) : Bk ((((((((((((w.setCell ⟨p, 0, none⟩ x0).setCell ⟨p, 1, none⟩ x1).setCell ⟨p, 2, none⟩ x2).setCell ⟨p, 3, none⟩ x3).setCell ⟨p, 4, none⟩ x4).setCell ⟨p, 5, none⟩ x5).setCell ⟨p, 6, none⟩ x6).setCell ⟨p, 7, none⟩ x7).setCell ⟨p, 8, none⟩ x8).setCell ⟨p, 9, none⟩ x9).setCell ⟨p, 10, none⟩ x10).setCell ⟨p, 11, none⟩ x11) p t #[x0, x1, x2, x3, x4, x5, x6, x7, x8, x9, x10, x11] ∧ Fr (fun b => b = p) w ((((((((((((w.setCell ⟨p, 0, none⟩ x0).setCell ⟨p, 1, none⟩ x1).setCell ⟨p, 2, none⟩ x2).setCell ⟨p, 3, none⟩ x3).setCell ⟨p, 4, none⟩ x4).setCell ⟨p, 5, none⟩ x5).setCell ⟨p, 6, none⟩ x6).setCell ⟨p, 7, none⟩ x7).setCell ⟨p, 8, none⟩ x8).setCell ⟨p, 9, none⟩ x9).setCell ⟨p, 10, none⟩ x10).setCell ⟨p, 11, none⟩ x11) := by
  refine ⟨?_, ((((((((((((Fr.set w ⟨p, 0, none⟩ x0 rfl : Fr (fun b => b = p) w _)).trans (Fr.set _ ⟨p, 1, none⟩ x1 rfl)).trans (Fr.set _ ⟨p, 2, none⟩ x2 rfl)).trans (Fr.set _ ⟨p, 3, none⟩ x3 rfl)).trans (Fr.set _ ⟨p, 4, none⟩ x4 rfl)).trans (Fr.set _ ⟨p, 5, none⟩ x5 rfl)).trans (Fr.set _ ⟨p, 6, none⟩ x6 rfl)).trans (Fr.set _ ⟨p, 7, none⟩ x7 rfl)).trans (Fr.set _ ⟨p, 8, none⟩ x8 rfl)).trans (Fr.set _ ⟨p, 9, none⟩ x9 rfl)).trans (Fr.set _ ⟨p, 10, none⟩ x10 rfl)).trans (Fr.set _ ⟨p, 11, none⟩ x11 rfl)⟩
  have := ((((((((((((Bk.put hh 0 x0).put 1 x1).put 2 x2).put 3 x3).put 4 x4).put 5 x5).put 6 x6).put 7 x7).put 8 x8).put 9 x9).put 10 x10).put 11 x11)
  simpa using this
set_option maxRecDepth 100000 in
set_option maxHeartbeats 4000000 in
theorem reverse0 (w : World) :
    Calls Tryz.prog 103 #[.slice none 0 0] w fun e w' => e = .returned (.tuple #[]) ∧ Gr w w' := by
  go_enter Tryz.func103, Tryz.ntmps103
  go_wp2_with fail
  refine wp_loop_rounds 1 ?_
  rw [rounds_succ]
  go_wp2
  (try simp only [Exit.inBlock, Exit.then])
  first | (refine bodyPost_ret (results_none rfl _ _ _) rfl ?_) | (refine bodyPost_end (results_none rfl _ _ _) rfl ?_)
  exact ⟨rfl, Gr.refl w⟩

set_option maxRecDepth 100000 in
set_option maxHeartbeats 4000000 in
theorem depth0 (w : World) (q : Qv) (x : Qm) (k : Q) (kb m1 m2 m3 r v : Nat) (z : Sv) (hq : q.Is w x) (hx : x.Va) (hlo : x.lo[0]? = some Q.zero) (hg : x.goal = goal0 k) (hk : Cst k) (hs : 0 ≤ k.sign) (hkb : Bk w kb 194 #[.int .i64 q.g.inputs, .slice q.g.units.A q.g.units.n q.g.units.c, .slice q.g.outs.A q.g.outs.n q.g.outs.c, .slice q.lo.A q.lo.n q.lo.c, .slice q.hi.A q.hi.n q.hi.c, .slice none 0 0, .slice q.goal.terms.A q.goal.terms.n q.goal.terms.c, .bool q.goal.const.neg, .slice q.goal.const.num.A q.goal.const.num.n q.goal.const.num.c, .slice q.goal.const.den.A q.goal.const.den.n q.goal.const.den.c, .map (some m1), .map (some m2), .map (some m3)]) (h1 : Ob w m1 (.map #[{ key := .string ⟨#[]⟩, val := .slice z.A z.n z.c, born := 0 }] 1)) (hz : Ents w z [pf0]) (h3 : Ob w m3 (.map #[] 0)) (hr : Bk w r 154 #[.int .i64 q.g.inputs, .slice q.g.units.A q.g.units.n q.g.units.c, .slice q.g.outs.A q.g.outs.n q.g.outs.c, .slice q.lo.A q.lo.n q.lo.c, .slice q.hi.A q.hi.n q.hi.c, .slice none 0 0, .slice q.goal.terms.A q.goal.terms.n q.goal.terms.c, .bool q.goal.const.neg, .slice q.goal.const.num.A q.goal.const.num.n q.goal.const.num.c, .slice q.goal.const.den.A q.goal.const.den.n q.goal.const.den.c, .int .i64 0, .int .i64 0, .bool false, .bool false, .int .i64 0, .int .i64 10, .int .i64 0, .iface 227 (.agg #[]), .pointer (some ⟨v, 0, none⟩), .slice none 0 0, .pointer (some ⟨kb, 0, none⟩), .int .i64 0, .int .i64 0, .int .i64 0, .pointer none]) (hv : Bk w v 189 #[.slice none 0 0, .int .i64 0, .int .i64 0, .bool false, .slice none 0 0, .slice none 0 0, .slice none 0 0, .bool false, .slice none 0 0, .slice none 0 0]) :
    Calls Tryz.prog 66 #[.pointer (some ⟨r, 0, none⟩)] w fun e w' => e = .returned (.tuple #[]) ∧ (∃ y : Sv, Bk w' v 189 #[.slice none 0 0, .int .i64 0, .int .i64 0, .bool false, .slice none 0 0, .slice none 0 0, .slice none 0 0, .bool false, .slice y.A y.n y.c, .slice none 0 0] ∧ Mults w' y pf0) ∧ Fr (fun b => b = v) w w' := by
  go_enter Tryz.func66, Tryz.ntmps66
  go_wp2_with fail
  refine (whole0 w q r v kb hr).mono ?_
  rintro e w1 ⟨p, rfl, hpn, hp, G⟩
  obtain ⟨B1, GB⟩ := made1 w1 197 #[.pointer (some ⟨p, 0, none⟩)]
  have G2 := G.trans GB
  have DS := Lib.hid B1
  have HR := Lib.hid (G2.bk hr)
  have H9 := Lib.hid (fun (W : World) (G3 : Gr w W) (hp : Bk W p 243 #[.int .i64 q.g.inputs, .slice q.g.units.A q.g.units.n q.g.units.c, .slice q.g.outs.A q.g.outs.n q.g.outs.c, .slice q.lo.A q.lo.n q.lo.c, .slice q.hi.A q.hi.n q.hi.c, .slice none 0 0, .slice q.goal.terms.A q.goal.terms.n q.goal.terms.c, .bool q.goal.const.neg, .slice q.goal.const.num.A q.goal.const.num.n q.goal.const.num.c, .slice q.goal.const.den.A q.goal.const.den.n q.goal.const.den.c, .slice none 0 0, .slice none 0 0, .pointer (some ⟨v, 0, none⟩)]) => treat0 W q x k kb m1 m2 m3 r v z p (hq.gr G3) hx hlo hg hk hs (G3.bk hkb) (h1.gr G3) (hz.gr G3) (h3.gr G3) (G3.bk hr) (G3.bk hv) hp)
  have HP := Lib.hid (GB.bk hp)
  have HG := Lib.hid G2
  have hvr : ¬ v = r := fun e => by rw [e] at hv; exact Bk.ne hr hv (by decide) rfl
  have hvs : ¬ w1.heap.size = v := fun e => by have := hv.lt; have := G.size; omega
  have HVR := Lib.hid hvr
  have HVS := Lib.hid hvs
  clear hq hx hlo hg hk hs hkb h1 hz h3 hr hv hp G GB B1 G2 hpn hvr hvs
  have s0 := DS.out.c1
  have r22 := HR.out.cell 22
  have r23 := HR.out.cell 23
  simp only [List.getElem?_toArray, List.getElem?_cons_zero, List.getElem?_cons_succ] at r22 r23
  go_wp2_with fail
  refine wp_loop_rounds 2 ?_
  rw [rounds_succ]
  go_wp2_with fail
  refine (ended0 _ r r22 r23).mono ?_
  rintro e w2 ⟨rfl, G⟩
  replace s0 := G.keep s0
  replace HG := Lib.hid (HG.out.trans G)
  replace HP := Lib.hid (G.bk HP.out)
  replace HR := Lib.hid (G.bk HR.out)
  replace DS := Lib.hid (G.bk DS.out)
  clear r22 r23 G
  go_wp2_with fail
  refine (H9.out _ HG.out HP.out).mono ?_
  rintro e w3 ⟨rfl, ⟨y, h5, h6⟩, F⟩
  have H5 := Lib.hid h5
  have H6 := Lib.hid h6
  have HF := Lib.hid (HG.out.fr.none.trans F : Fr (fun b => b = v) w _)
  replace s0 := (F.bk DS.out HVS.out).c1
  clear h5 h6 F H9 HG HP HR
  go_wp2_with fail
  refine (reverse0 w3).mono ?_
  rintro e w4 ⟨rfl, G⟩
  have H7 := Lib.hid (G.bk H5.out)
  have H8 := Lib.hid (H6.out.gr G)
  have HF8 := Lib.hid (HF.out.trans G.fr.none : Fr (fun b => b = v) w _)
  clear G s0 H5 H6 HF
  go_wp2
  rw [rounds_succ]
  go_wp2
  (try simp only [Exit.inBlock, Exit.then])
  first | (refine bodyPost_ret (results_none rfl _ _ _) rfl ?_) | (refine bodyPost_end (results_none rfl _ _ _) rfl ?_)
  exact ⟨rfl, ⟨y, H7.out, H8.out⟩, HF8.out⟩

set_option maxRecDepth 100000 in
set_option maxHeartbeats 4000000 in
theorem tree0 (w : World) (v : Nat) (y : Sv) (hv : Bk w v 189 #[.slice none 0 0, .int .i64 0, .int .i64 0, .bool false, .slice none 0 0, .slice none 0 0, .slice none 0 0, .bool false, .slice y.A y.n y.c, .slice none 0 0]) :
    Calls Tryz.prog 105 #[.pointer (some ⟨v, 0, none⟩)] w fun e w' => e = .returned (leafV y) ∧ Gr w w' := by
  obtain ⟨B1, G⟩ := made1 w 55 (#[.slice none 0 0, .int .i64 0, .int .i64 0, .bool false, .slice none 0 0, .slice none 0 0, .slice none 0 0, .bool false, .slice none 0 0])
  have HG := Lib.hid G
  have D_t := Lib.hid B1
  clear G B1
  have HV := Lib.hid (HG.out.bk hv)
  clear hv
  go_enter Tryz.func105, Tryz.ntmps105
  go_upto_region 1 with fail
  generalize hW : w.alloc (.cells #[.slice none 0 0, .int .i64 0, .int .i64 0, .bool false, .slice none 0 0, .slice none 0 0, .slice none 0 0, .bool false, .slice none 0 0] 55) = W at *
  clear hW
  have N_t : Hid (w.heap.size ≤ w.heap.size) := (by show w.heap.size ≤ w.heap.size; omega)
  obtain ⟨B1, GB⟩ := made1 W 55 #[.slice none 0 0, .int .i64 0, .int .i64 0, .bool false, .slice none 0 0, .slice none 0 0, .slice none 0 0, .bool false, .slice y.A y.n y.c]
  obtain ⟨n0, n1, n2, n3, n4, n5, n6, n7, n8⟩ := B1.c9
  obtain ⟨v0, v1, v2, v3, v4, v5, v6, v7, v8, v9⟩ := HV.out.c10
  have w9 := GB.keep v9
  have DT := Lib.hid (GB.bk D_t.out)
  have HG2 := Lib.hid (HG.out.trans GB)
  have fz := DT.out.frozen
  have t9 := DT.out.c9
  obtain ⟨B5, F5⟩ := DT.out.put9 (.slice none 0 0) (.int .i64 0) (.int .i64 0) (.bool false) (.slice none 0 0) (.slice none 0 0) (.slice none 0 0) (.bool false) (.slice y.A y.n y.c)
  have H5 := Lib.hid F5
  obtain ⟨d0, d1, d2, d3, d4, d5, d6, d7, d8⟩ := B5.c9
  have hne : ¬ W.heap.size = w.heap.size := fun e => Nat.lt_irrefl _ (e ▸ D_t.out.lt)
  clear F5 B5 B1 GB
  go_wp2_with fail
  refine wp_loop_rounds 1 ?_
  rw [rounds_succ]
  obtain ⟨t0, t1, t2, t3, t4, t5, t6, t7, t8⟩ := t9
  go_wp2
  generalize (((((((((W.alloc (.cells #[.slice none 0 0, .int .i64 0, .int .i64 0, .bool false, .slice none 0 0, .slice none 0 0, .slice none 0 0, .bool false, .slice y.A y.n y.c] 55)).setCell ⟨w.heap.size, 0, none⟩ (.slice none 0 0)).setCell ⟨w.heap.size, 1, none⟩ (.int .i64 0)).setCell ⟨w.heap.size, 2, none⟩ (.int .i64 0)).setCell ⟨w.heap.size, 3, none⟩ (.bool false)).setCell ⟨w.heap.size, 4, none⟩ (.slice none 0 0)).setCell ⟨w.heap.size, 5, none⟩ (.slice none 0 0)).setCell ⟨w.heap.size, 6, none⟩ (.slice none 0 0)).setCell ⟨w.heap.size, 7, none⟩ (.bool false)).setCell ⟨w.heap.size, 8, none⟩ (.slice y.A y.n y.c) = W5 at *
  (try simp only [Exit.inBlock, Exit.then])
  refine bodyPost_ret (by simp [results, Tryz.results105, go_sem, d0, d1, d2, d3, d4, d5, d6, d7, d8]; try rfl) rfl ?_
  exact ⟨rfl, HG2.out.fr_at H5.out N_t.out⟩

end Go.Proofs.YtcmfepaffhnemaaGreatDoor

set_option linter.unusedVariables false
namespace Go.Proofs.YtcmfepaffhnemaaGreatDoor
open Go.RowKit

attribute [local go_sem] Oper.semAt_some
theorem Bk.put10of12 {w : World} {p t : Nat} {a0 a1 a2 a3 a4 a5 a6 a7 a8 a9 a10 a11 : Value} (hh : Bk w p t #[a0, a1, a2, a3, a4, a5, a6, a7, a8, a9, a10, a11]) (x0 x1 x2 x3 x4 x5 x6 x7 x8 x9 : Value) : Bk ((((((((((w.setCell ⟨p, 0, none⟩ x0).setCell ⟨p, 1, none⟩ x1).setCell ⟨p, 2, none⟩ x2).setCell ⟨p, 3, none⟩ x3).setCell ⟨p, 4, none⟩ x4).setCell ⟨p, 5, none⟩ x5).setCell ⟨p, 6, none⟩ x6).setCell ⟨p, 7, none⟩ x7).setCell ⟨p, 8, none⟩ x8).setCell ⟨p, 9, none⟩ x9) p t #[x0, x1, x2, x3, x4, x5, x6, x7, x8, x9, a10, a11] ∧ Fr (fun b => b = p) w ((((((((((w.setCell ⟨p, 0, none⟩ x0).setCell ⟨p, 1, none⟩ x1).setCell ⟨p, 2, none⟩ x2).setCell ⟨p, 3, none⟩ x3).setCell ⟨p, 4, none⟩ x4).setCell ⟨p, 5, none⟩ x5).setCell ⟨p, 6, none⟩ x6).setCell ⟨p, 7, none⟩ x7).setCell ⟨p, 8, none⟩ x8).setCell ⟨p, 9, none⟩ x9) := by
  refine ⟨?_, ((((((((((Fr.set w ⟨p, 0, none⟩ x0 rfl : Fr (fun b => b = p) w _)).trans (Fr.set _ ⟨p, 1, none⟩ x1 rfl)).trans (Fr.set _ ⟨p, 2, none⟩ x2 rfl)).trans (Fr.set _ ⟨p, 3, none⟩ x3 rfl)).trans (Fr.set _ ⟨p, 4, none⟩ x4 rfl)).trans (Fr.set _ ⟨p, 5, none⟩ x5 rfl)).trans (Fr.set _ ⟨p, 6, none⟩ x6 rfl)).trans (Fr.set _ ⟨p, 7, none⟩ x7 rfl)).trans (Fr.set _ ⟨p, 8, none⟩ x8 rfl)).trans (Fr.set _ ⟨p, 9, none⟩ x9 rfl)⟩
  have := ((((((((((Bk.put hh 0 x0).put 1 x1).put 2 x2).put 3 x3).put 4 x4).put 5 x5).put 6 x6).put 7 x7).put 8 x8).put 9 x9)
  simpa using this
set_option maxRecDepth 100000 in
set_option maxHeartbeats 4000000 in
theorem outcome0 (w : World) (q : Qv) (r v kb : Nat) (y : Sv) (hr : Bk w r 154 #[.int .i64 q.g.inputs, .slice q.g.units.A q.g.units.n q.g.units.c, .slice q.g.outs.A q.g.outs.n q.g.outs.c, .slice q.lo.A q.lo.n q.lo.c, .slice q.hi.A q.hi.n q.hi.c, .slice none 0 0, .slice q.goal.terms.A q.goal.terms.n q.goal.terms.c, .bool q.goal.const.neg, .slice q.goal.const.num.A q.goal.const.num.n q.goal.const.num.c, .slice q.goal.const.den.A q.goal.const.den.n q.goal.const.den.c, .int .i64 0, .int .i64 0, .bool false, .bool false, .int .i64 0, .int .i64 10, .int .i64 0, .iface 227 (.agg #[]), .pointer (some ⟨v, 0, none⟩), .slice none 0 0, .pointer (some ⟨kb, 0, none⟩), .int .i64 0, .int .i64 0, .int .i64 0, .pointer none]) (hv : Bk w v 189 #[.slice none 0 0, .int .i64 0, .int .i64 0, .bool false, .slice none 0 0, .slice none 0 0, .slice none 0 0, .bool false, .slice y.A y.n y.c, .slice none 0 0]) :
    Calls Tryz.prog 67 #[.pointer (some ⟨r, 0, none⟩)] w fun e w' => e = .returned (.tuple #[.agg #[.int .i64 1, .slice none 0 0, .int .i64 0, .int .i64 0, .bool false, .slice none 0 0, .slice none 0 0, .slice none 0 0, .bool false, .slice y.A y.n y.c, .slice none 0 0, .int .i64 0], .int .i64 0]) ∧ Gr w w' := by
  obtain ⟨B1, G⟩ := made1 w 62 (#[.int .i64 0, .slice none 0 0, .int .i64 0, .int .i64 0, .bool false, .slice none 0 0, .slice none 0 0, .slice none 0 0, .bool false, .slice none 0 0, .slice none 0 0, .int .i64 0])
  have HG := Lib.hid G
  have D_t := Lib.hid B1
  clear G B1
  have HR := Lib.hid (HG.out.bk hr)
  have HV := Lib.hid (HG.out.bk hv)
  clear hr hv
  go_enter Tryz.func67, Tryz.ntmps67
  go_wp2_with fail
  generalize hW : w.alloc (.cells #[.int .i64 0, .slice none 0 0, .int .i64 0, .int .i64 0, .bool false, .slice none 0 0, .slice none 0 0, .slice none 0 0, .bool false, .slice none 0 0, .slice none 0 0, .int .i64 0] 62) = W at *
  clear hW
  have N_t : Hid (w.heap.size ≤ w.heap.size) := (by show w.heap.size ≤ w.heap.size; omega)
  refine (aload_any _ r 23 0 (HR.out.cell 23)).mono ?_
  rintro e w1 ⟨rfl, G⟩
  replace HG := Lib.hid (HG.out.trans G)
  replace HR := Lib.hid (G.bk HR.out)
  replace HV := Lib.hid (G.bk HV.out)
  replace D_t := Lib.hid (G.bk D_t.out)
  clear G
  go_wp2_with fail
  go_upto_region 4 with fail
  refine wp_region_any (by kernel_rfl) ?_
  show wpAny _ _ _ _ 11 _ _ _
  have hst : ∀ p ∈ ([(3, fun v _ => v = .int .i64 0), (7, fun v _ => v = .int .i64 0), (9, NewAt 62 #[.int .i64 0, .slice none 0 0, .int .i64 0, .int .i64 0, .bool false, .slice none 0 0, .slice none 0 0, .slice none 0 0, .bool false, .slice none 0 0, .slice none 0 0, .int .i64 0] w1.heap.size)] : List (Nat × (Value → World → Prop))), ∀ (u : Value) (wA0 wB0 : World), Gr w1.drew wA0 → Gr wA0 wB0 → p.2 u wA0 → p.2 u wB0 := by
    intro p hp u wA0 wB0 h0 G h
    simp only [List.mem_cons, List.not_mem_nil, or_false] at hp
    rcases hp with rfl | rfl | rfl
    · exact h
    · exact h
    · exact NewAt.gr h G
  refine wpAny_walk (m := 1) (last := #[true, true, true, true, true, true, true, true, true, true, false]) [0, 1, 2, 3, 4, 5, 6, 7, 8, 9] [(3, fun v _ => v = .int .i64 0), (7, fun v _ => v = .int .i64 0), (9, NewAt 62 #[.int .i64 0, .slice none 0 0, .int .i64 0, .int .i64 0, .bool false, .slice none 0 0, .slice none 0 0, .slice none 0 0, .bool false, .slice none 0 0, .slice none 0 0, .int .i64 0] w1.heap.size)] (by kernel_rfl) (by decide) (by kernel_rfl) hst ?_
  clear hst
  refine Walk.take (v := ?wv100) rfl rfl (Or.inl ⟨by rfl, ?wy100⟩) ?wr100
  case wy100 => (intro w' hw'; go_simp; try with_reducible rfl)
  try simp only [Act.put, List.setIfInBounds_toArray, List.set_cons_zero, List.set_cons_succ]
  refine Walk.take (v := ?wv101) rfl rfl (Or.inl ⟨by rfl, ?wy101⟩) ?wr101
  case wy101 => (intro w' hw'; go_simp; try with_reducible rfl)
  try simp only [Act.put, List.setIfInBounds_toArray, List.set_cons_zero, List.set_cons_succ]
  refine Walk.take (v := ?wv102) rfl rfl (Or.inl ⟨by rfl, ?wy102⟩) ?wr102
  case wy102 => (intro w' hw'; go_simp; try with_reducible rfl)
  try simp only [Act.put, List.setIfInBounds_toArray, List.set_cons_zero, List.set_cons_succ]
  refine Walk.do rfl rfl (by rfl) (fun W1 G1 F1 => ?ws103) (fun v hv => ?wr103)
  case ws103 =>
    refine doesAt_enter (f := 104) (args := #[.pointer (some ⟨r, 22, none⟩)]) (by go_simp; try (first | with_reducible rfl | rfl)) ?_
    refine (aload_any W1 r 22 0 ((G1.of_drew.bk HR.out).cell 22)).mono ?_
    rintro e w' ⟨rfl, G⟩
    exact ⟨_, rfl, G, rfl⟩
  obtain ⟨_, -, -, rfl⟩ := hv
  try simp only [Act.put, List.setIfInBounds_toArray, List.set_cons_zero, List.set_cons_succ]
  refine Walk.take (v := ?wv104) rfl rfl (Or.inl ⟨by rfl, ?wy104⟩) ?wr104
  case wy104 => (intro w' hw'; go_simp; try with_reducible rfl)
  try simp only [Act.put, List.setIfInBounds_toArray, List.set_cons_zero, List.set_cons_succ]
  refine Walk.take (v := ?wv105) rfl rfl (Or.inl ⟨by rfl, ?wy105⟩) ?wr105
  case wy105 => (intro w' hw'; go_simp; try with_reducible rfl)
  try simp only [Act.put, List.setIfInBounds_toArray, List.set_cons_zero, List.set_cons_succ]
  refine Walk.take (v := ?wv106) rfl rfl (Or.inl ⟨by rfl, ?wy106⟩) ?wr106
  case wy106 => (intro w' hw'; go_simp; try with_reducible rfl)
  try simp only [Act.put, List.setIfInBounds_toArray, List.set_cons_zero, List.set_cons_succ]
  refine Walk.do rfl rfl (by rfl) (fun W1 G1 F1 => ?ws107) (fun v hv => ?wr107)
  case ws107 =>
    refine doesAt_enter (f := 104) (args := #[.pointer (some ⟨r, 21, none⟩)]) (by go_simp; try (first | with_reducible rfl | rfl)) ?_
    refine (aload_any W1 r 21 0 ((G1.of_drew.bk HR.out).cell 21)).mono ?_
    rintro e w' ⟨rfl, G⟩
    exact ⟨_, rfl, G, rfl⟩
  obtain ⟨_, -, -, rfl⟩ := hv
  try simp only [Act.put, List.setIfInBounds_toArray, List.set_cons_zero, List.set_cons_succ]
  refine Walk.take (v := ?wv108) rfl rfl (Or.inl ⟨by rfl, ?wy108⟩) ?wr108
  case wy108 => (intro w' hw'; go_simp; try with_reducible rfl)
  try simp only [Act.put, List.setIfInBounds_toArray, List.set_cons_zero, List.set_cons_succ]
  refine Walk.do rfl rfl (by rfl) (fun W1 G1 F1 => ?ws109) (fun v hv => ?wr109)
  case ws109 =>
    refine doesAt_value (v := .pointer (some ⟨W1.heap.size, 0, none⟩)) (W' := W1.alloc (.cells #[.int .i64 0, .slice none 0 0, .int .i64 0, .int .i64 0, .bool false, .slice none 0 0, .slice none 0 0, .slice none 0 0, .bool false, .slice none 0 0, .slice none 0 0, .int .i64 0] 62)) (by go_simp; try (first | with_reducible rfl | rfl)) ?_
    exact ⟨(Gr.refl W1).alloc _, NewAt.made W1 _ _ _ (Nat.le_trans (Nat.le_refl _) G1.of_drew.size)⟩
  obtain ⟨_, -, -, ⟨o, rfl, -, -⟩⟩ := hv
  try simp only [Act.put, List.setIfInBounds_toArray, List.set_cons_zero, List.set_cons_succ]
  refine Walk.done (fun W1 G1 F1 => ?_)
  have ho := F1 _ (List.mem_of_getElem? (i := 2) rfl)
  clear F1
  refine wpAny_one 10 rfl (by kernel_rfl) (by rfl) (fun K hK => ?_)
  have hN := ho.is
  have fz := hN.1.frozen
  obtain ⟨o0, o1, o2, o3, o4, o5, o6, o7, o8, o9, o10, o11⟩ := hN.1.c12
  go_simp
  refine hK.out _ _ ?_
  clear hK K
  try simp only [Act.put, List.setIfInBounds_toArray, List.set_cons_zero, List.set_cons_succ]
  refine wpAny_end (by kernel_rfl) ?_
  obtain ⟨ho, hoN⟩ := ho.is
  obtain ⟨B5, F5⟩ := ho.put12 (.int .i64 0) (.slice none 0 0) (.int .i64 0) (.int .i64 0) (.bool false) (.slice none 0 0) (.slice none 0 0) (.slice none 0 0) (.bool false) (.slice none 0 0) (.slice none 0 0) (.int .i64 0)
  have HNO := Lib.hid (Nat.le_trans HG.out.size hoN)
  have hot := Lib.hid (show ¬ o = w.heap.size from fun e => Nat.lt_irrefl _ (Nat.lt_of_lt_of_le (e ▸ D_t.out.lt) hoN))
  have HG5 := Lib.hid ((HG.out.trans G1.of_drew).fr_at F5 HNO.out)
  have DO := Lib.hid B5
  replace HR := Lib.hid (F5.bk (G1.of_drew.bk HR.out) (Nat.ne_of_lt (Nat.lt_of_lt_of_le HR.out.lt hoN)))
  replace HV := Lib.hid (F5.bk (G1.of_drew.bk HV.out) (Nat.ne_of_lt (Nat.lt_of_lt_of_le HV.out.lt hoN)))
  replace D_t := Lib.hid (F5.bk (G1.of_drew.bk D_t.out) (Nat.ne_of_lt (Nat.lt_of_lt_of_le D_t.out.lt hoN)))
  clear ho hoN G1 B5 F5 HG
  generalize (((((((((((W1.setCell ⟨o, 0, none⟩ (.int .i64 0)).setCell ⟨o, 1, none⟩ (.slice none 0 0)).setCell ⟨o, 2, none⟩ (.int .i64 0)).setCell ⟨o, 3, none⟩ (.int .i64 0)).setCell ⟨o, 4, none⟩ (.bool false)).setCell ⟨o, 5, none⟩ (.slice none 0 0)).setCell ⟨o, 6, none⟩ (.slice none 0 0)).setCell ⟨o, 7, none⟩ (.slice none 0 0)).setCell ⟨o, 8, none⟩ (.bool false)).setCell ⟨o, 9, none⟩ (.slice none 0 0)).setCell ⟨o, 10, none⟩ (.slice none 0 0)).setCell ⟨o, 11, none⟩ (.int .i64 0) = w5 at *
  have r18 := HR.out.cell 18
  simp only [List.getElem?_toArray, List.getElem?_cons_zero, List.getElem?_cons_succ] at r18
  obtain ⟨o0, o1, o2, o3, o4, o5, o6, o7, o8, o9, o10, o11⟩ := DO.out.c12
  go_wp2_with fail
  refine (tree0 w5 v y HV.out).mono ?_
  rintro e w6 ⟨rfl, G⟩
  have DO6 := G.bk DO.out
  have T6 := G.bk D_t.out
  have HG6 := Lib.hid (HG5.out.trans G)
  obtain ⟨B7, F7⟩ := DO6.put10of12 (.int .i64 1) (.slice none 0 0) (.int .i64 0) (.int .i64 0) (.bool false) (.slice none 0 0) (.slice none 0 0) (.slice none 0 0) (.bool false) (.slice y.A y.n y.c)
  have fzo := DO6.frozen
  have T7 := Lib.hid (F7.bk T6 (fun e => hot.out e.symm))
  have HG7 := Lib.hid (HG6.out.fr_at F7 HNO.out)
  have D7 := Lib.hid B7
  clear o0 o1 o2 o3 o4 o5 o6 o7 o8 o9 o10 o11 r18
  obtain ⟨o0, o1, o2, o3, o4, o5, o6, o7, o8, o9, o10, o11⟩ := DO6.c12
  clear F7 B7 T6 DO6 G HV HR DO D_t HG6 HG5
  go_upto_region 10 with fail
  clear o0 o1 o2 o3 o4 o5 o6 o7 o8 o9 o10 o11 fzo
  generalize (((((((((w6.setCell ⟨o, 0, none⟩ (.int .i64 1)).setCell ⟨o, 1, none⟩ (.slice none 0 0)).setCell ⟨o, 2, none⟩ (.int .i64 0)).setCell ⟨o, 3, none⟩ (.int .i64 0)).setCell ⟨o, 4, none⟩ (.bool false)).setCell ⟨o, 5, none⟩ (.slice none 0 0)).setCell ⟨o, 6, none⟩ (.slice none 0 0)).setCell ⟨o, 7, none⟩ (.slice none 0 0)).setCell ⟨o, 8, none⟩ (.bool false)).setCell ⟨o, 9, none⟩ (.slice y.A y.n y.c) = w7 at *
  have fzt := T7.out.frozen
  obtain ⟨o0, o1, o2, o3, o4, o5, o6, o7, o8, o9, o10, o11⟩ := D7.out.c12
  obtain ⟨t0, t1, t2, t3, t4, t5, t6, t7, t8, t9, t10, t11⟩ := T7.out.c12
  obtain ⟨B8, F8⟩ := T7.out.put12 (.int .i64 1) (.slice none 0 0) (.int .i64 0) (.int .i64 0) (.bool false) (.slice none 0 0) (.slice none 0 0) (.slice none 0 0) (.bool false) (.slice y.A y.n y.c) (.slice none 0 0) (.int .i64 0)
  have H8 := Lib.hid (HG7.out.fr_at F8 (Nat.le_refl _))
  obtain ⟨d0, d1, d2, d3, d4, d5, d6, d7, d8, d9, d10, d11⟩ := B8.c12
  clear B8 F8 T7 D7 HG7
  go_wp2
  generalize (((((((((((w7.setCell ⟨w.heap.size, 0, none⟩ (.int .i64 1)).setCell ⟨w.heap.size, 1, none⟩ (.slice none 0 0)).setCell ⟨w.heap.size, 2, none⟩ (.int .i64 0)).setCell ⟨w.heap.size, 3, none⟩ (.int .i64 0)).setCell ⟨w.heap.size, 4, none⟩ (.bool false)).setCell ⟨w.heap.size, 5, none⟩ (.slice none 0 0)).setCell ⟨w.heap.size, 6, none⟩ (.slice none 0 0)).setCell ⟨w.heap.size, 7, none⟩ (.slice none 0 0)).setCell ⟨w.heap.size, 8, none⟩ (.bool false)).setCell ⟨w.heap.size, 9, none⟩ (.slice y.A y.n y.c)).setCell ⟨w.heap.size, 10, none⟩ (.slice none 0 0)).setCell ⟨w.heap.size, 11, none⟩ (.int .i64 0) = w8 at *
  (try simp only [Exit.inBlock, Exit.then])
  refine bodyPost_ret (by simp [results, Tryz.results67, go_sem, d0, d1, d2, d3, d4, d5, d6, d7, d8, d9, d10, d11]; try rfl) rfl ?_
  exact ⟨rfl, H8.out⟩
end Go.Proofs.YtcmfepaffhnemaaGreatDoor

set_option linter.unusedVariables false
namespace Go.Proofs.YtcmfepaffhnemaaGreatDoor
open Go.RowKit

attribute [local go_sem] Oper.semAt_some

theorem Ents.st {w w' : World} {p t : Nat} {us : Array Value} {x : Sv} {l : List (List Mm)} (h : Ents w x l) (F : Fr (fun b => b = p) w w') (hb : Bk w p t us) (h0 : t ≠ 90) (h1 : t ≠ 84) (h2 : t ≠ 211) : Ents w' x l :=
  Rows.tf h F (fun b cs fr e hh => Bk.not_ty hb h0 cs fr (e ▸ hh)) fun y a hy => hy.st F hb h1 h2
theorem Ob.st {w w' : World} {p t b c : Nat} {us : Array Value} {es : Array MapEntry} (h : Ob w b (.map es c)) (F : Fr (fun b => b = p) w w') (hb : Bk w p t us) : Ob w' b (.map es c) :=
  h.fr F fun e => by
    subst e
    unfold Ob at h
    unfold Bk at hb
    rw [h] at hb
    cases hb
set_option maxRecDepth 100000 in
set_option maxHeartbeats 4000000 in
theorem resume0 (w : World) (q : Qv) (x : Qm) (k : Q) (z : Sv) (hq : q.Is w x) (hx : x.Va) (hlo : x.lo[0]? = some Q.zero) (hg : x.goal = goal0 k) (hk : Cst k) (hs : 0 ≤ k.sign) (hz : Ents w z [pf0]) :
    Calls Tryz.prog 37 #[.agg #[.int .i64 q.g.inputs, .slice q.g.units.A q.g.units.n q.g.units.c, .slice q.g.outs.A q.g.outs.n q.g.outs.c, .slice q.lo.A q.lo.n q.lo.c, .slice q.hi.A q.hi.n q.hi.c, .slice none 0 0, .slice q.goal.terms.A q.goal.terms.n q.goal.terms.c, .bool q.goal.const.neg, .slice q.goal.const.num.A q.goal.const.num.n q.goal.const.num.c, .slice q.goal.const.den.A q.goal.const.den.n q.goal.const.den.c], .agg #[.int .i64 0, .int .i64 0, .bool false, .bool false, .int .i64 0, .int .i64 10, .int .i64 0], .slice z.A z.n z.c] w fun e w' => ∃ y : Sv, e = .returned (.tuple #[.agg #[.int .i64 1, .slice none 0 0, .int .i64 0, .int .i64 0, .bool false, .slice none 0 0, .slice none 0 0, .slice none 0 0, .bool false, .slice y.A y.n y.c, .slice none 0 0, .int .i64 0], .int .i64 0]) ∧ Gr w w' := by
  obtain ⟨B1, B2, B3, G⟩ := made3 w 45 66 62 (#[.int .i64 q.g.inputs, .slice q.g.units.A q.g.units.n q.g.units.c, .slice q.g.outs.A q.g.outs.n q.g.outs.c, .slice q.lo.A q.lo.n q.lo.c, .slice q.hi.A q.hi.n q.hi.c, .slice none 0 0, .slice q.goal.terms.A q.goal.terms.n q.goal.terms.c, .bool q.goal.const.neg, .slice q.goal.const.num.A q.goal.const.num.n q.goal.const.num.c, .slice q.goal.const.den.A q.goal.const.den.n q.goal.const.den.c]) (#[.int .i64 0, .int .i64 0, .bool false, .bool false, .int .i64 0, .int .i64 10, .int .i64 0]) (#[.int .i64 0, .slice none 0 0, .int .i64 0, .int .i64 0, .bool false, .slice none 0 0, .slice none 0 0, .slice none 0 0, .bool false, .slice none 0 0, .slice none 0 0, .int .i64 0])
  have HG := Lib.hid G
  have D_p0 := Lib.hid B1
  have D_o0 := Lib.hid B2
  have D_t := Lib.hid B3
  clear G B1 B2 B3
  have HQ := Lib.hid hq
  have HX := Lib.hid hx
  have HLO := Lib.hid hlo
  have HGO := Lib.hid hg
  have HK := Lib.hid hk
  have HS := Lib.hid hs
  have HZ := Lib.hid hz
  clear hq hx hlo hg hk hs hz
  obtain ⟨q0, q1, q2, q3, q4, q5, q6, q7, q8, q9⟩ := D_p0.out.c10
  obtain ⟨o0, o1, o2, o3, o4, o5, o6⟩ := D_o0.out.c7
  go_enter Tryz.func37, Tryz.ntmps37
  go_wp2_with fail
  generalize hW : ((w.alloc (.cells #[.int .i64 q.g.inputs, .slice q.g.units.A q.g.units.n q.g.units.c, .slice q.g.outs.A q.g.outs.n q.g.outs.c, .slice q.lo.A q.lo.n q.lo.c, .slice q.hi.A q.hi.n q.hi.c, .slice none 0 0, .slice q.goal.terms.A q.goal.terms.n q.goal.terms.c, .bool q.goal.const.neg, .slice q.goal.const.num.A q.goal.const.num.n q.goal.const.num.c, .slice q.goal.const.den.A q.goal.const.den.n q.goal.const.den.c] 45)).alloc (.cells #[.int .i64 0, .int .i64 0, .bool false, .bool false, .int .i64 0, .int .i64 10, .int .i64 0] 66)).alloc (.cells #[.int .i64 0, .slice none 0 0, .int .i64 0, .int .i64 0, .bool false, .slice none 0 0, .slice none 0 0, .slice none 0 0, .bool false, .slice none 0 0, .slice none 0 0, .int .i64 0] 62) = W at *
  clear hW
  have N_p0 : Hid (w.heap.size ≤ w.heap.size) := (by show w.heap.size ≤ w.heap.size; omega)
  have N_o0 : Hid (w.heap.size ≤ w.heap.size + 1) := (by show w.heap.size ≤ w.heap.size + 1; omega)
  have N_t : Hid (w.heap.size ≤ w.heap.size + 1 + 1) := (by show w.heap.size ≤ w.heap.size + 1 + 1; omega)
  generalize w.heap.size + 1 + 1 = t at *
  generalize w.heap.size + 1 = o0 at *
  refine (begin0 W q x (HQ.out.gr HG.out) HX.out).mono ?_
  rintro e w1 ⟨r, v, rfl, hr1, hv1, hrv, hr, hv, G⟩
  have HR := Lib.hid hr
  have HV := Lib.hid hv
  have HRV := Lib.hid hrv
  have HRN := Lib.hid (Nat.le_trans HG.out.size hr1)
  have HVN := Lib.hid (Nat.le_trans HG.out.size hv1)
  have htv := Lib.hid (show ¬ t = v from fun e => by have := D_t.out.lt; omega)
  have htr := Lib.hid (show ¬ t = r from fun e => by have := D_t.out.lt; omega)
  replace HG := Lib.hid (HG.out.trans G)
  replace D_p0 := Lib.hid (G.bk D_p0.out)
  replace D_t := Lib.hid (G.bk D_t.out)
  clear hr hv hrv hr1 hv1 G q0 q1 q2 q3 q4 q5 q6 q7 q8 q9 o0 o1 o2 o3 o4 o5 o6 D_o0
  obtain ⟨q0, q1, q2, q3, q4, q5, q6, q7, q8, q9⟩ := D_p0.out.c10
  go_wp2_with fail
  refine (index0 w1 q z (HZ.out.gr HG.out)).mono ?_
  rintro e w2 ⟨kb, m1, m2, m3, yz, rfl, -, -, -, hkb, h1, hz, h2, h3, G⟩
  have HR2 := G.bk HR.out
  have fz := HR2.frozen
  have r20 := HR2.cell 20
  simp only [List.getElem?_toArray, List.getElem?_cons_zero, List.getElem?_cons_succ] at r20
  have F3 := (Fr.set w2 ⟨r, 20, none⟩ (.pointer (some ⟨kb, 0, none⟩)) rfl : Fr (fun b => b = r) w2 _)
  have B3 := HR2.put 20 (.pointer (some ⟨kb, 0, none⟩))
  have HKB := Lib.hid (F3.bk hkb (fun e => Bk.ne hkb HR2 (by decide) e))
  have H1 := Lib.hid (h1.st F3 HR2)
  have H3 := Lib.hid (h3.st F3 HR2)
  have HZ3 := Lib.hid (hz.st F3 HR2 (by decide) (by decide) (by decide))
  have HV3 := Lib.hid (F3.bk (G.bk HV.out) (fun e => HRV.out e.symm))
  have D_t3 := Lib.hid (F3.bk (G.bk D_t.out) htr.out)
  have HG3 := Lib.hid ((HG.out.trans G).fr_at F3 HRN.out)
  have HR3 : Hid (Bk (w2.setCell ⟨r, 20, none⟩ (.pointer (some ⟨kb, 0, none⟩))) r 154 #[.int .i64 q.g.inputs, .slice q.g.units.A q.g.units.n q.g.units.c, .slice q.g.outs.A q.g.outs.n q.g.outs.c, .slice q.lo.A q.lo.n q.lo.c, .slice q.hi.A q.hi.n q.hi.c, .slice none 0 0, .slice q.goal.terms.A q.goal.terms.n q.goal.terms.c, .bool q.goal.const.neg, .slice q.goal.const.num.A q.goal.const.num.n q.goal.const.num.c, .slice q.goal.const.den.A q.goal.const.den.n q.goal.const.den.c, .int .i64 0, .int .i64 0, .bool false, .bool false, .int .i64 0, .int .i64 10, .int .i64 0, .iface 227 (.agg #[]), .pointer (some ⟨v, 0, none⟩), .slice none 0 0, .pointer (some ⟨kb, 0, none⟩), .int .i64 0, .int .i64 0, .int .i64 0, .pointer none]) := Lib.hid (by simpa using B3)
  clear B3 F3 HR2 hkb h1 h2 h3 hz G HR HV D_t D_p0 HG q0 q1 q2 q3 q4 q5 q6 q7 q8 q9
  go_upto_region 5 with fail
  clear fz r20
  generalize w2.setCell ⟨r, 20, none⟩ (.pointer (some ⟨kb, 0, none⟩)) = w3 at *
  go_wp2_with fail
  refine (depth0 w3 q x k kb m1 m2 m3 r v yz (HQ.out.gr HG3.out) HX.out HLO.out HGO.out HK.out HS.out HKB.out H1.out HZ3.out H3.out HR3.out HV3.out).mono ?_
  rintro e w4 ⟨rfl, ⟨y, hv, hy⟩, F⟩
  have HV4 := Lib.hid hv
  have HR4 := Lib.hid (F.bk HR3.out HRV.out)
  have D_t4 := Lib.hid (F.bk D_t3.out htv.out)
  have HG4 := Lib.hid (HG3.out.fr_at F HVN.out)
  clear hv hy F HR3 HV3 HKB H1 H3 HZ3 D_t3 HG3
  go_wp2_with fail
  refine (outcome0 w4 q r v kb y HR4.out HV4.out).mono ?_
  rintro e w5 ⟨rfl, G⟩
  have T5 := G.bk D_t4.out
  have fzt := T5.frozen
  obtain ⟨t0, t1, t2, t3, t4, t5, t6, t7, t8, t9, t10, t11⟩ := T5.c12
  obtain ⟨B8, F8⟩ := T5.put12 (.int .i64 1) (.slice none 0 0) (.int .i64 0) (.int .i64 0) (.bool false) (.slice none 0 0) (.slice none 0 0) (.slice none 0 0) (.bool false) (.slice y.A y.n y.c) (.slice none 0 0) (.int .i64 0)
  have H8 := Lib.hid ((HG4.out.trans G).fr_at F8 N_t.out)
  obtain ⟨d0, d1, d2, d3, d4, d5, d6, d7, d8, d9, d10, d11⟩ := B8.c12
  clear B8 F8 T5 G HG4 HV4 HR4 D_t4
  go_wp2
  generalize (((((((((((w5.setCell ⟨t, 0, none⟩ (.int .i64 1)).setCell ⟨t, 1, none⟩ (.slice none 0 0)).setCell ⟨t, 2, none⟩ (.int .i64 0)).setCell ⟨t, 3, none⟩ (.int .i64 0)).setCell ⟨t, 4, none⟩ (.bool false)).setCell ⟨t, 5, none⟩ (.slice none 0 0)).setCell ⟨t, 6, none⟩ (.slice none 0 0)).setCell ⟨t, 7, none⟩ (.slice none 0 0)).setCell ⟨t, 8, none⟩ (.bool false)).setCell ⟨t, 9, none⟩ (.slice y.A y.n y.c)).setCell ⟨t, 10, none⟩ (.slice none 0 0)).setCell ⟨t, 11, none⟩ (.int .i64 0) = w8 at *
  (try simp only [Exit.inBlock, Exit.then])
  refine bodyPost_ret (by simp [results, Tryz.results37, go_sem, d0, d1, d2, d3, d4, d5, d6, d7, d8, d9, d10, d11]; try rfl) rfl ?_
  exact ⟨y, rfl, H8.out⟩

set_option maxRecDepth 100000 in
set_option maxHeartbeats 4000000 in
theorem reuse0 (w : World) (q : Qv) (x : Qm) (k : Q) (p : Sv) (hq : q.Is w x) (hx : x.Va) (hlo : x.lo[0]? = some Q.zero) (hg : x.goal = goal0 k) (hk : Cst k) (hs : 0 ≤ k.sign) (hp : Mults w p pf0) :
    Calls Tryz.prog 15 #[.agg #[.int .i64 q.g.inputs, .slice q.g.units.A q.g.units.n q.g.units.c, .slice q.g.outs.A q.g.outs.n q.g.outs.c, .slice q.lo.A q.lo.n q.lo.c, .slice q.hi.A q.hi.n q.hi.c, .slice none 0 0, .slice q.goal.terms.A q.goal.terms.n q.goal.terms.c, .bool q.goal.const.neg, .slice q.goal.const.num.A q.goal.const.num.n q.goal.const.num.c, .slice q.goal.const.den.A q.goal.const.den.n q.goal.const.den.c], leafV p, .agg #[.int .i64 0, .int .i64 0, .bool false, .bool false, .int .i64 0, .int .i64 10, .int .i64 0]] w fun e w' => ∃ y : Sv, e = .returned (.tuple #[.agg #[.int .i64 1, .slice none 0 0, .int .i64 0, .int .i64 0, .bool false, .slice none 0 0, .slice none 0 0, .slice none 0 0, .bool false, .slice y.A y.n y.c, .slice none 0 0, .int .i64 0], .int .i64 1, .int .i64 0]) ∧ Gr w w' := by
  obtain ⟨B1, B2, B3, B4, G⟩ := made4 w 45 55 66 62 (#[.int .i64 q.g.inputs, .slice q.g.units.A q.g.units.n q.g.units.c, .slice q.g.outs.A q.g.outs.n q.g.outs.c, .slice q.lo.A q.lo.n q.lo.c, .slice q.hi.A q.hi.n q.hi.c, .slice none 0 0, .slice q.goal.terms.A q.goal.terms.n q.goal.terms.c, .bool q.goal.const.neg, .slice q.goal.const.num.A q.goal.const.num.n q.goal.const.num.c, .slice q.goal.const.den.A q.goal.const.den.n q.goal.const.den.c]) (#[.slice none 0 0, .int .i64 0, .int .i64 0, .bool false, .slice none 0 0, .slice none 0 0, .slice none 0 0, .bool false, .slice p.A p.n p.c]) (#[.int .i64 0, .int .i64 0, .bool false, .bool false, .int .i64 0, .int .i64 10, .int .i64 0]) (#[.int .i64 0, .slice none 0 0, .int .i64 0, .int .i64 0, .bool false, .slice none 0 0, .slice none 0 0, .slice none 0 0, .bool false, .slice none 0 0, .slice none 0 0, .int .i64 0])
  have HG := Lib.hid G
  have D_p0 := Lib.hid B1
  have D_n0 := Lib.hid B2
  have D_o0 := Lib.hid B3
  have D_t := Lib.hid B4
  clear G B1 B2 B3 B4
  have HQ := Lib.hid hq
  have HX := Lib.hid hx
  have HLO := Lib.hid hlo
  have HGO := Lib.hid hg
  have HK := Lib.hid hk
  have HS := Lib.hid hs
  have HP := Lib.hid hp
  clear hq hx hlo hg hk hs hp
  obtain ⟨q0, q1, q2, q3, q4, q5, q6, q7, q8, q9⟩ := D_p0.out.c10
  obtain ⟨a0, a1, a2, a3, a4, a5, a6, a7, a8⟩ := D_n0.out.c9
  go_enter Tryz.func15, Tryz.ntmps15
  go_wp2_with fail
  generalize hW : (((w.alloc (.cells #[.int .i64 q.g.inputs, .slice q.g.units.A q.g.units.n q.g.units.c, .slice q.g.outs.A q.g.outs.n q.g.outs.c, .slice q.lo.A q.lo.n q.lo.c, .slice q.hi.A q.hi.n q.hi.c, .slice none 0 0, .slice q.goal.terms.A q.goal.terms.n q.goal.terms.c, .bool q.goal.const.neg, .slice q.goal.const.num.A q.goal.const.num.n q.goal.const.num.c, .slice q.goal.const.den.A q.goal.const.den.n q.goal.const.den.c] 45)).alloc (.cells #[.slice none 0 0, .int .i64 0, .int .i64 0, .bool false, .slice none 0 0, .slice none 0 0, .slice none 0 0, .bool false, .slice p.A p.n p.c] 55)).alloc (.cells #[.int .i64 0, .int .i64 0, .bool false, .bool false, .int .i64 0, .int .i64 10, .int .i64 0] 66)).alloc (.cells #[.int .i64 0, .slice none 0 0, .int .i64 0, .int .i64 0, .bool false, .slice none 0 0, .slice none 0 0, .slice none 0 0, .bool false, .slice none 0 0, .slice none 0 0, .int .i64 0] 62) = W at *
  clear hW
  have N_p0 : Hid (w.heap.size ≤ w.heap.size) := (by show w.heap.size ≤ w.heap.size; omega)
  have N_n0 : Hid (w.heap.size ≤ w.heap.size + 1) := (by show w.heap.size ≤ w.heap.size + 1; omega)
  have N_o0 : Hid (w.heap.size ≤ w.heap.size + 1 + 1) := (by show w.heap.size ≤ w.heap.size + 1 + 1; omega)
  have N_t : Hid (w.heap.size ≤ w.heap.size + 1 + 1 + 1) := (by show w.heap.size ≤ w.heap.size + 1 + 1 + 1; omega)
  generalize w.heap.size + 1 + 1 + 1 = t at *
  generalize w.heap.size + 1 + 1 = o0 at *
  generalize w.heap.size + 1 = n0 at *
  refine (entries0_any W q x k p (HQ.out.gr HG.out) HX.out HLO.out HGO.out HK.out (HP.out.gr HG.out)).mono ?_
  rintro e w1 ⟨z, rfl, hz, G⟩
  rw [show kept k = [pf0] from if_pos HS.out] at hz
  have HZ := Lib.hid hz
  have hzn : 1 = z.n := hz.len
  obtain ⟨zA, zn, zc⟩ := z
  simp only at hzn
  subst hzn
  replace HG := Lib.hid (HG.out.trans G)
  replace D_p0 := Lib.hid (G.bk D_p0.out)
  replace D_o0 := Lib.hid (G.bk D_o0.out)
  replace D_t := Lib.hid (G.bk D_t.out)
  clear hz G q0 q1 q2 q3 q4 q5 q6 q7 q8 q9 a0 a1 a2 a3 a4 a5 a6 a7 a8 D_n0
  obtain ⟨q0, q1, q2, q3, q4, q5, q6, q7, q8, q9⟩ := D_p0.out.c10
  obtain ⟨o0, o1, o2, o3, o4, o5, o6⟩ := D_o0.out.c7
  simp only [Sv.v]
  go_wp2_with fail
  refine (resume0 w1 q x k ⟨zA, 1, zc⟩ (HQ.out.gr HG.out) HX.out HLO.out HGO.out HK.out HS.out HZ.out).mono ?_
  rintro e w2 ⟨y, rfl, G⟩
  obtain ⟨B1, GB⟩ := made1 w2 62 #[.int .i64 1, .slice none 0 0, .int .i64 0, .int .i64 0, .bool false, .slice none 0 0, .slice none 0 0, .slice none 0 0, .bool false, .slice y.A y.n y.c, .slice none 0 0, .int .i64 0]
  have T5 := Lib.hid (GB.bk (G.bk D_t.out))
  have DX := Lib.hid B1
  have HG2 := Lib.hid ((HG.out.trans G).trans GB)
  clear B1 GB G HG D_t D_p0 D_o0 q0 q1 q2 q3 q4 q5 q6 q7 q8 q9 o0 o1 o2 o3 o4 o5 o6 HZ
  go_upto_region 5 with fail
  generalize w2.alloc (.cells #[.int .i64 1, .slice none 0 0, .int .i64 0, .int .i64 0, .bool false, .slice none 0 0, .slice none 0 0, .slice none 0 0, .bool false, .slice y.A y.n y.c, .slice none 0 0, .int .i64 0] 62) = w3 at *
  generalize w2.heap.size = xb at *
  have fzt := T5.out.frozen
  obtain ⟨t0, t1, t2, t3, t4, t5, t6, t7, t8, t9, t10, t11⟩ := T5.out.c12
  obtain ⟨x0, x1, x2, x3, x4, x5, x6, x7, x8, x9, x10, x11⟩ := DX.out.c12
  obtain ⟨B8, F8⟩ := T5.out.put12 (.int .i64 1) (.slice none 0 0) (.int .i64 0) (.int .i64 0) (.bool false) (.slice none 0 0) (.slice none 0 0) (.slice none 0 0) (.bool false) (.slice y.A y.n y.c) (.slice none 0 0) (.int .i64 0)
  have H8 := Lib.hid (HG2.out.fr_at F8 N_t.out)
  obtain ⟨d0, d1, d2, d3, d4, d5, d6, d7, d8, d9, d10, d11⟩ := B8.c12
  clear B8 F8 T5 HG2 DX
  go_wp2
  generalize (((((((((((w3.setCell ⟨t, 0, none⟩ (.int .i64 1)).setCell ⟨t, 1, none⟩ (.slice none 0 0)).setCell ⟨t, 2, none⟩ (.int .i64 0)).setCell ⟨t, 3, none⟩ (.int .i64 0)).setCell ⟨t, 4, none⟩ (.bool false)).setCell ⟨t, 5, none⟩ (.slice none 0 0)).setCell ⟨t, 6, none⟩ (.slice none 0 0)).setCell ⟨t, 7, none⟩ (.slice none 0 0)).setCell ⟨t, 8, none⟩ (.bool false)).setCell ⟨t, 9, none⟩ (.slice y.A y.n y.c)).setCell ⟨t, 10, none⟩ (.slice none 0 0)).setCell ⟨t, 11, none⟩ (.int .i64 0) = w8 at *
  (try simp only [Exit.inBlock, Exit.then])
  refine bodyPost_ret (by simp [results, Tryz.results15, go_sem, d0, d1, d2, d3, d4, d5, d6, d7, d8, d9, d10, d11]; try rfl) rfl ?_
  exact ⟨y, rfl, H8.out⟩
end Go.Proofs.YtcmfepaffhnemaaGreatDoor
