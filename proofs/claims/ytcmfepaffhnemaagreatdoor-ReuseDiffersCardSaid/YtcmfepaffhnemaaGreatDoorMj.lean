/- Derivations. -/
import Derived.Test.YtcmfepaffhnemaaGreatDoorMi
import Derived.Test.YtcmfepaffhnemaaGreatDoorMh
import Derived.Deep.RegionHeld3
set_option linter.unusedSimpArgs false
set_option linter.unusedVariables false
namespace Go.Proofs.YtcmfepaffhnemaaGreatDoor
open Go.RowKit

attribute [local go_sem] Oper.semAt_some

/-- A scope: a query without rows, no path, no lemmas. -/
abbrev scV (q : Qv) : Value := .agg #[.int .i64 q.g.inputs, .slice q.g.units.A q.g.units.n q.g.units.c, .slice q.g.outs.A q.g.outs.n q.g.outs.c, .slice q.lo.A q.lo.n q.lo.c, .slice q.hi.A q.hi.n q.hi.c, .slice none 0 0, .slice q.goal.terms.A q.goal.terms.n q.goal.terms.c, .bool q.goal.const.neg, .slice q.goal.const.num.A q.goal.const.num.n q.goal.const.num.c, .slice q.goal.const.den.A q.goal.const.den.n q.goal.const.den.c, .slice none 0 0, .slice none 0 0]
abbrev rowV (i : Nat) : Value := .agg #[.int .i64 1, .int .i64 i, .int .i64 0, .int .i64 0]
theorem Mults.head {w : World} {x : Sv} {s : Mm} {l : List Mm} (h : Mults w x (s :: l)) : ∃ (t : Mv) (ad : Addr), t.Is w s ∧ x.A = some ad ∧ w.cell? ad = some (.int .i64 s.1.kind) ∧ w.cell? ⟨ad.block, ad.off + 1, none⟩ = some (.int .i64 s.1.index) ∧ w.cell? ⟨ad.block, ad.off + 2, none⟩ = some (.int .i64 s.1.lo) ∧ w.cell? ⟨ad.block, ad.off + 3, none⟩ = some (.int .i64 s.1.hi) ∧ w.cell? ⟨ad.block, ad.off + 4, none⟩ = some (.bool t.coef.neg) ∧ w.cell? ⟨ad.block, ad.off + 5, none⟩ = some (.slice t.coef.num.A t.coef.num.n t.coef.num.c) ∧ w.cell? ⟨ad.block, ad.off + 6, none⟩ = some (.slice t.coef.den.A t.coef.den.n t.coef.den.c) := by
  obtain ⟨t, ad, h1, h2, h3, h4, h5, h6, h7, h8, h9⟩ := h.at (i := 0) rfl
  rw [Nat.zero_mul, add_zero] at h3 h4 h5 h6 h7 h8 h9
  exact ⟨t, ad, h1, h2, h3, h4, h5, h6, h7, h8, h9⟩
theorem Bk.c7 {w : World} {p t : Nat} {a b c d e f g : Value} (h : Bk w p t #[a, b, c, d, e, f, g]) : w.cell? ⟨p, 0, none⟩ = some a ∧ w.cell? ⟨p, 1, none⟩ = some b ∧ w.cell? ⟨p, 2, none⟩ = some c ∧ w.cell? ⟨p, 3, none⟩ = some d ∧ w.cell? ⟨p, 4, none⟩ = some e ∧ w.cell? ⟨p, 5, none⟩ = some f ∧ w.cell? ⟨p, 6, none⟩ = some g := ⟨h.cell 0, h.cell 1, h.cell 2, h.cell 3, h.cell 4, h.cell 5, h.cell 6⟩

set_option maxRecDepth 100000 in
set_option maxHeartbeats 4000000 in
theorem plain0 (w : World) (i : Nat) :
    Calls Tryz.prog 209 #[rowV i] w fun e w' => e = .returned (.bool true) ∧ Gr w w' := by
  obtain ⟨B1, G⟩ := made1 w 82 (#[.int .i64 1, .int .i64 i, .int .i64 0, .int .i64 0])
  have HG := Lib.hid G
  have D_a := Lib.hid B1
  clear G B1
  obtain ⟨a0, a1, a2, a3⟩ := D_a.out.c4
  go_enter Tryz.func209, Tryz.ntmps209
  go_upto_region 1 with fail
  generalize hW : w.alloc (.cells #[.int .i64 1, .int .i64 i, .int .i64 0, .int .i64 0] 82) = W at *
  clear hW
  have N_a : Hid (w.heap.size ≤ w.heap.size) := (by show w.heap.size ≤ w.heap.size; omega)
  go_wp2
  go_ret
  exact ⟨rfl, HG.out⟩

set_option maxRecDepth 100000 in
set_option maxHeartbeats 4000000 in
theorem rnumber_any (w : World) (c : Rv) (q : Q) (hc : c.Is w q) (hq : q.Sm) :
    Calls Tryz.prog 211 #[c.v] w fun e w' => ∃ r : Fv, e = .returned r.v ∧ r.Is w' ⟨[], canonQ q⟩ ∧ Gr w w' := by
  obtain ⟨B1, B2, G⟩ := made2 w 41 43 (#[.bool c.neg, .slice c.num.A c.num.n c.num.c, .slice c.den.A c.den.n c.den.c]) (#[.slice none 0 0, .bool false, .slice none 0 0, .slice none 0 0])
  have HG := Lib.hid G
  have D_a := Lib.hid B1
  have D_r := Lib.hid B2
  clear G B1 B2
  have HC := Lib.hid (hc.gr HG.out)
  have HQ := Lib.hid hq
  clear hc hq
  obtain ⟨a0, a1, a2⟩ := D_a.out.c3
  simp only [Rv.v, Fv.v] at *
  go_enter Tryz.func211, Tryz.ntmps211
  go_wp2_with fail
  generalize hW : (w.alloc (.cells #[.bool c.neg, .slice c.num.A c.num.n c.num.c, .slice c.den.A c.den.n c.den.c] 41)).alloc (.cells #[.slice none 0 0, .bool false, .slice none 0 0, .slice none 0 0] 43) = W at *
  clear hW
  have N_a : Hid (w.heap.size ≤ w.heap.size) := (by show w.heap.size ≤ w.heap.size; omega)
  have N_r : Hid (w.heap.size ≤ w.heap.size + 1) := (by show w.heap.size ≤ w.heap.size + 1; omega)
  generalize w.heap.size + 1 = r at *
  refine (canon_any W c q HC.out (Nat.le_trans HQ.out.lo.num (by decide)) (Nat.lt_of_le_of_lt HQ.out.lo.den (by decide))).mono ?_
  rintro e w1 ⟨k, rfl, hk, G1⟩
  have HK := Lib.hid hk
  replace D_r := Lib.hid (G1.bk D_r.out)
  replace HG := Lib.hid (HG.out.trans G1)
  clear hk G1 a0 a1 a2
  obtain ⟨B5, F5⟩ := D_r.out.put4 (.slice none 0 0) (.bool k.neg) (.slice k.num.A k.num.n k.num.c) (.slice k.den.A k.den.n k.den.c)
  have H5 := Lib.hid F5
  obtain ⟨d0, d1, d2, d3⟩ := B5.c4
  clear F5 B5
  obtain ⟨z0, z1, z2, z3⟩ := D_r.out.c4
  have fz := D_r.out.frozen
  go_wp2
  generalize (((w1.setCell ⟨r, 0, none⟩ (.slice none 0 0)).setCell ⟨r, 1, none⟩ (.bool k.neg)).setCell ⟨r, 2, none⟩ (.slice k.num.A k.num.n k.num.c)).setCell ⟨r, 3, none⟩ (.slice k.den.A k.den.n k.den.c) = W5 at *
  (try simp only [Exit.inBlock, Exit.then])
  refine bodyPost_ret (by simp [results, Tryz.results211, go_sem, d0, d1, d2, d3]; try rfl) rfl ?_
  exact ⟨⟨Sv.none, k⟩, rfl, ⟨Rows.empty, HK.out.tf' H5.out D_r.out (by decide)⟩, HG.out.fr_at H5.out N_r.out⟩

set_option maxRecDepth 100000 in
set_option maxHeartbeats 4000000 in
theorem rvar_any (w : World) (v : Int) :
    Calls Tryz.prog 210 #[.int .i64 v] w fun e w' => ∃ r : Fv, e = .returned r.v ∧ r.Is w' ⟨[(v, Q.one)], Q.zero⟩ ∧ Gr w w' := by
  obtain ⟨B1, G⟩ := made1 w 43 (#[.slice none 0 0, .bool false, .slice none 0 0, .slice none 0 0])
  have HG := Lib.hid G
  have D_r := Lib.hid B1
  clear G B1
  go_enter Tryz.func210, Tryz.ntmps210
  go_wp2_with fail
  generalize hW : w.alloc (.cells #[.slice none 0 0, .bool false, .slice none 0 0, .slice none 0 0] 43) = W at *
  clear hW
  have N_r : Hid (w.heap.size ≤ w.heap.size) := (by show w.heap.size ≤ w.heap.size; omega)
  refine (rof_any W 1 (by decide) (by decide)).mono ?_
  rintro e w1 ⟨c, rfl, hc, G1⟩
  rw [ofQ_one] at hc
  have HC := Lib.hid hc
  replace HG := Lib.hid (HG.out.trans G1)
  replace D_r := Lib.hid (G1.bk D_r.out)
  clear hc G1
  obtain ⟨B1, GB⟩ := made1 w1 104 #[.int .i64 v, .bool c.neg, .slice c.num.A c.num.n c.num.c, .slice c.den.A c.den.n c.den.c]
  have R2 := Lib.hid (GB.bk D_r.out)
  have HT : Hid (Terms (w1.alloc (.cells #[.int .i64 v, .bool c.neg, .slice c.num.A c.num.n c.num.c, .slice c.den.A c.den.n c.den.c] 104)) ⟨some ⟨w1.heap.size, 0, none⟩, 1, 1⟩ [(v, Q.one)]) := ⟨[(⟨v, c⟩, (v, Q.one))], ⟨rfl, Nat.le_refl _, by show (1 : Nat) ≤ _; decide, (fun e => by cases e), B1.sees ⟨[], by simp [Tv.cs]⟩⟩, rfl, (fun p hp => by rw [List.mem_singleton.1 hp]; exact ⟨rfl, HC.out.gr GB⟩), (fun ad ha _ => by injection ha with ha; rw [← ha]; exact ⟨_, (0, 0), B1⟩)⟩
  have HG2 := Lib.hid (HG.out.trans GB)
  obtain ⟨z0, z1, z2, z3⟩ := R2.out.c4
  have fz := R2.out.frozen
  obtain ⟨B5, F5⟩ := R2.out.put4 (.slice (some ⟨w1.heap.size, 0, none⟩) 1 1) (.bool false) (.slice none 0 0) (.slice none 0 0)
  have H5 := Lib.hid F5
  obtain ⟨d0, d1, d2, d3⟩ := B5.c4
  clear F5 B5 GB B1
  have hne : ¬ w1.heap.size = w.heap.size := fun e => Nat.lt_irrefl _ (e ▸ D_r.out.lt)
  go_wp2
  generalize hW5 : ((((w1.alloc (.cells #[.int .i64 v, .bool c.neg, .slice c.num.A c.num.n c.num.c, .slice c.den.A c.den.n c.den.c] 104)).setCell ⟨w.heap.size, 0, none⟩ (.slice (some ⟨w1.heap.size, 0, none⟩) 1 1)).setCell ⟨w.heap.size, 1, none⟩ (.bool false)).setCell ⟨w.heap.size, 2, none⟩ (.slice none 0 0)).setCell ⟨w.heap.size, 3, none⟩ (.slice none 0 0) = W5 at *
  (try simp only [Exit.inBlock, Exit.then])
  refine bodyPost_ret (by simp [results, Tryz.results210, go_sem, d0, d1, d2, d3]; try rfl) rfl ?_
  exact ⟨⟨⟨some ⟨w1.heap.size, 0, none⟩, 1, 1⟩, Rv.nil⟩, rfl, ⟨HT.out.tf H5.out (fun b cs fr e hh => Bk.not_ty R2.out (by decide) cs fr (e ▸ hh)) (fun b cs fr e hh => Bk.not_ty R2.out (by decide) cs fr (e ▸ hh)), Rv.Is.zero _⟩, HG2.out.fr_at H5.out N_r.out⟩

set_option maxRecDepth 100000 in
set_option maxHeartbeats 4000000 in
theorem rinput_any (w : World) (q : Qv) (x : Qm) (i : Nat) (a : Q) (hq : q.Is w x) (hlo : x.lo[i]? = some a) (ha : a.Sm) (hi : i < 1000) :
    Calls Tryz.prog 164 #[scV q, rowV i] w fun e w' => ∃ r : Fv, e = .returned (.tuple #[r.v, .bool true]) ∧ r.Is w' (mrg (varF i) ⟨[], canonQ a⟩ Q.mone) ∧ Gr w w' := by
  have hil : i < q.lo.n := by rw [← hq.lo.len]; exact (List.getElem?_eq_some_iff.1 hlo).1
  have hd : decide ((i : Int) < (q.lo.n : Int)) = true := by simp; omega
  have hd2 : decide ((i : Int) < 0) = false := by simp
  obtain ⟨B1, B2, B3, G⟩ := made3 w 130 82 43 (#[.int .i64 q.g.inputs, .slice q.g.units.A q.g.units.n q.g.units.c, .slice q.g.outs.A q.g.outs.n q.g.outs.c, .slice q.lo.A q.lo.n q.lo.c, .slice q.hi.A q.hi.n q.hi.c, .slice none 0 0, .slice q.goal.terms.A q.goal.terms.n q.goal.terms.c, .bool q.goal.const.neg, .slice q.goal.const.num.A q.goal.const.num.n q.goal.const.num.c, .slice q.goal.const.den.A q.goal.const.den.n q.goal.const.den.c, .slice none 0 0, .slice none 0 0]) (#[.int .i64 1, .int .i64 i, .int .i64 0, .int .i64 0]) (#[.slice none 0 0, .bool false, .slice none 0 0, .slice none 0 0])
  have HG := Lib.hid G
  have D_p := Lib.hid B1
  have D_s := Lib.hid B2
  have D_r := Lib.hid B3
  clear G B1 B2 B3
  have HQ := Lib.hid hq
  have HA := Lib.hid ha
  have HLO := Lib.hid hlo
  clear hq ha hlo
  obtain ⟨a0, a1, a2, a3, a4, a5, a6, a7, a8, a9, a10, a11⟩ := D_p.out.c12
  obtain ⟨b0, b1, b2, b3⟩ := D_s.out.c4
  go_enter Tryz.func164, Tryz.ntmps164
  go_upto_region 1 with fail
  generalize hW : ((w.alloc (.cells #[.int .i64 q.g.inputs, .slice q.g.units.A q.g.units.n q.g.units.c, .slice q.g.outs.A q.g.outs.n q.g.outs.c, .slice q.lo.A q.lo.n q.lo.c, .slice q.hi.A q.hi.n q.hi.c, .slice none 0 0, .slice q.goal.terms.A q.goal.terms.n q.goal.terms.c, .bool q.goal.const.neg, .slice q.goal.const.num.A q.goal.const.num.n q.goal.const.num.c, .slice q.goal.const.den.A q.goal.const.den.n q.goal.const.den.c, .slice none 0 0, .slice none 0 0] 130)).alloc (.cells #[.int .i64 1, .int .i64 i, .int .i64 0, .int .i64 0] 82)).alloc (.cells #[.slice none 0 0, .bool false, .slice none 0 0, .slice none 0 0] 43) = W at *
  clear hW
  have N_p : Hid (w.heap.size ≤ w.heap.size) := (by show w.heap.size ≤ w.heap.size; omega)
  have N_s : Hid (w.heap.size ≤ w.heap.size + 1) := (by show w.heap.size ≤ w.heap.size + 1; omega)
  have N_r : Hid (w.heap.size ≤ w.heap.size + 1 + 1) := (by show w.heap.size ≤ w.heap.size + 1 + 1; omega)
  generalize w.heap.size + 1 + 1 = r at *
  generalize w.heap.size + 1 = s at *
  refine wp_region_any (by kernel_rfl) ?_
  have kc := Lib.hid (fun (W' : World) (G : Gr W.drew W') => And.intro (G.keep a0) (And.intro (G.keep a1) (And.intro (G.keep a2) (And.intro (G.keep a3) (And.intro (G.keep a4) (And.intro (G.keep a5) (And.intro (G.keep a6) (And.intro (G.keep a7) (And.intro (G.keep a8) (And.intro (G.keep a9) (And.intro (G.keep a10) (And.intro (G.keep a11) (And.intro (G.keep b0) (And.intro (G.keep b1) (And.intro (G.keep b2) (G.keep b3))))))))))))))))
  have hst : ∀ p ∈ ([(5, NewAt 36 #[.slice none 0 0, .slice none 0 0, .slice none 0 0] W.heap.size)] : List (Nat × (Value → World → Prop))), ∀ (u : Value) (wA0 wB0 : World), Gr W.drew wA0 → Gr wA0 wB0 → p.2 u wA0 → p.2 u wB0 := by
    intro p hp u wA0 wB0 h0 G h
    simp only [List.mem_cons, List.not_mem_nil, or_false] at hp
    subst hp
    · exact NewAt.gr h G
  refine wpAny_walk (m := 1) (last := #[true, true, true, true, true, true, true, false]) [0, 1, 2, 3, 4, 5, 6] [(5, NewAt 36 #[.slice none 0 0, .slice none 0 0, .slice none 0 0] W.heap.size)] (by kernel_rfl) (by decide) (by kernel_rfl) hst ?_
  clear hst
  refine Walk.take (v := ?wv1) rfl rfl (Or.inl ⟨by rfl, ?wy1⟩) ?wr1
  case wy1 => (intro w' hw'; obtain ⟨a0, a1, a2, a3, a4, a5, a6, a7, a8, a9, a10, a11, b0, b1, b2, b3⟩ := kc.out w' hw'; go_simp; try with_reducible rfl)
  try simp only [Act.put, List.setIfInBounds_toArray, List.set_cons_zero, List.set_cons_succ]
  refine Walk.take (v := ?wv2) rfl rfl (Or.inl ⟨by rfl, ?wy2⟩) ?wr2
  case wy2 => (intro w' hw'; obtain ⟨a0, a1, a2, a3, a4, a5, a6, a7, a8, a9, a10, a11, b0, b1, b2, b3⟩ := kc.out w' hw'; go_simp; try with_reducible rfl)
  try simp only [Act.put, List.setIfInBounds_toArray, List.set_cons_zero, List.set_cons_succ]
  refine Walk.take (v := ?wv3) rfl rfl (Or.inl ⟨by rfl, ?wy3⟩) ?wr3
  case wy3 => (intro w' hw'; obtain ⟨a0, a1, a2, a3, a4, a5, a6, a7, a8, a9, a10, a11, b0, b1, b2, b3⟩ := kc.out w' hw'; go_simp; try with_reducible rfl)
  try simp only [Act.put, List.setIfInBounds_toArray, List.set_cons_zero, List.set_cons_succ]
  refine Walk.take (v := ?wv4) rfl rfl (Or.inl ⟨by rfl, ?wy4⟩) ?wr4
  case wy4 => (intro w' hw'; obtain ⟨a0, a1, a2, a3, a4, a5, a6, a7, a8, a9, a10, a11, b0, b1, b2, b3⟩ := kc.out w' hw'; go_simp; try with_reducible rfl)
  try simp only [Act.put, List.setIfInBounds_toArray, List.set_cons_zero, List.set_cons_succ]
  refine Walk.take (v := ?wv5) rfl rfl (Or.inl ⟨by rfl, ?wy5⟩) ?wr5
  case wy5 => (intro w' hw'; obtain ⟨a0, a1, a2, a3, a4, a5, a6, a7, a8, a9, a10, a11, b0, b1, b2, b3⟩ := kc.out w' hw'; go_simp; try with_reducible rfl)
  try simp only [Act.put, List.setIfInBounds_toArray, List.set_cons_zero, List.set_cons_succ]
  refine Walk.do rfl rfl (by rfl) (fun W1 G1 F1 => ?ws6) (fun v hv => ?wr6)
  case ws6 =>
    obtain ⟨a0, a1, a2, a3, a4, a5, a6, a7, a8, a9, a10, a11, b0, b1, b2, b3⟩ := kc.out W1 G1
    refine doesAt_value (v := .pointer (some ⟨W1.heap.size, 0, none⟩)) (W' := W1.alloc (.cells #[.slice none 0 0, .slice none 0 0, .slice none 0 0] 36)) (by go_simp; try (first | with_reducible rfl | rfl)) ?_
    exact ⟨(Gr.refl W1).alloc _, NewAt.made W1 _ _ _ (Nat.le_trans (Nat.le_refl _) G1.of_drew.size)⟩
  obtain ⟨_, -, -, ⟨g, rfl, -, -⟩⟩ := hv
  try simp only [Act.put, List.setIfInBounds_toArray, List.set_cons_zero, List.set_cons_succ]
  refine Walk.take (v := ?wv7) rfl rfl (Or.inl ⟨by rfl, ?wy7⟩) ?wr7
  case wy7 => (intro w' hw'; obtain ⟨a0, a1, a2, a3, a4, a5, a6, a7, a8, a9, a10, a11, b0, b1, b2, b3⟩ := kc.out w' hw'; go_simp; try with_reducible rfl)
  try simp only [Act.put, List.setIfInBounds_toArray, List.set_cons_zero, List.set_cons_succ]
  refine Walk.done (fun W1 G1 F1 => ?_)
  have hg := F1 _ (List.mem_of_getElem? (i := 0) rfl)
  clear F1
  have kc1 := kc.out W1 G1
  clear kc a0 a1 a2 a3 a4 a5 a6 a7 a8 a9 a10 a11 b0 b1 b2 b3
  obtain ⟨a0, a1, a2, a3, a4, a5, a6, a7, a8, a9, a10, a11, b0, b1, b2, b3⟩ := kc1
  refine wpAny_one 7 rfl (by kernel_rfl) (by rfl) (fun K hK => ?_)
  have hN := hg.is
  have fz := hN.1.frozen
  obtain ⟨o0, o1, o2⟩ := hN.1.c3
  go_simp
  refine hK.out _ _ ?_
  clear hK K
  try simp only [Act.put, List.setIfInBounds_toArray, List.set_cons_zero, List.set_cons_succ]
  refine wpAny_end (by kernel_rfl) ?_
  obtain ⟨hg, hgN⟩ := hg.is
  obtain ⟨B5, F5⟩ := hg.put3 (.slice q.lo.A q.lo.n q.lo.c) (.slice q.hi.A q.hi.n q.hi.c) (.slice none 0 0)
  have DG := Lib.hid B5
  have HGL := Lib.hid (Nat.le_trans HG.out.size hgN)
  have hgr := Lib.hid (show ¬ g = r from fun e => Nat.lt_irrefl _ (Nat.lt_of_lt_of_le (e ▸ D_r.out.lt) hgN))
  have HG9 := Lib.hid (((HG.out.trans G1.of_drew)).fr_at F5 HGL.out)
  replace D_p := Lib.hid (F5.bk (G1.of_drew.bk D_p.out) (Nat.ne_of_lt (Nat.lt_of_lt_of_le D_p.out.lt hgN)))
  replace D_s := Lib.hid (F5.bk (G1.of_drew.bk D_s.out) (Nat.ne_of_lt (Nat.lt_of_lt_of_le D_s.out.lt hgN)))
  replace D_r := Lib.hid (F5.bk (G1.of_drew.bk D_r.out) (Nat.ne_of_lt (Nat.lt_of_lt_of_le D_r.out.lt hgN)))
  clear hg hgN G1 B5 F5 a0 a1 a2 a3 a4 a5 a6 a7 a8 a9 a10 a11 b0 b1 b2 b3 HG
  generalize ((W1.setCell ⟨g, 0, none⟩ (.slice q.lo.A q.lo.n q.lo.c)).setCell ⟨g, 1, none⟩ (.slice q.hi.A q.hi.n q.hi.c)).setCell ⟨g, 2, none⟩ (.slice none 0 0) = w2 at *
  have HG := HG9
  clear HG9
  obtain ⟨b0, b1, b2, b3⟩ := D_s.out.c4
  obtain ⟨g0, g1, g2⟩ := DG.out.c3
  go_wp2_with fail
  refine (plain0 w2 i).mono ?_
  rintro e w3 ⟨rfl, G1⟩
  replace HG := Lib.hid (HG.out.trans G1)
  replace D_s := Lib.hid (G1.bk D_s.out)
  replace D_r := Lib.hid (G1.bk D_r.out)
  replace DG := Lib.hid (G1.bk DG.out)
  clear G1 b0 b1 b2 b3 g0 g1 g2 D_p
  obtain ⟨b0, b1, b2, b3⟩ := D_s.out.c4
  obtain ⟨g0, g1, g2⟩ := DG.out.c3
  obtain ⟨t, ad, ht, hA, d0, d1, d2⟩ := (HQ.out.lo.gr HG.out).at HLO.out
  have HT := Lib.hid ht
  have HV1 : Hid (∀ t ∈ (varF (i : Int)).terms, t.2.Lo) := fun t ht => by rw [List.mem_singleton.1 ht]; exact lo_one
  have HV2 : Hid ((canonQ a).Lo) := ⟨Nat.le_trans (HA.out.lo.bd.canon).num (Nat.le_refl _), (HA.out.lo.bd.canon).den⟩
  clear ht
  go_wp2_with fail
  go_upto_region 5 with fail
  refine wp_region_any (by kernel_rfl) ?_
  have kc := Lib.hid (fun (W' : World) (G : Gr w3.drew W') => And.intro (G.keep g0) (And.intro (G.keep g1) (And.intro (G.keep g2) (And.intro (G.keep d0) (And.intro (G.keep d1) (G.keep d2))))))
  have hst : ∀ p ∈ ([(1, Fv.At (varF i)), (7, Fv.At (⟨[], canonQ a⟩)), (8, Fv.At (mrg (varF i) ⟨[], canonQ a⟩ Q.mone))] : List (Nat × (Value → World → Prop))), ∀ (u : Value) (wA0 wB0 : World), Gr w3.drew wA0 → Gr wA0 wB0 → p.2 u wA0 → p.2 u wB0 := by
    intro p hp u wA0 wB0 h0 G h
    simp only [List.mem_cons, List.not_mem_nil, or_false] at hp
    rcases hp with rfl | rfl | rfl
    · exact Fv.At.gr h G
    · exact Fv.At.gr h G
    · exact Fv.At.gr h G
  refine wpAny_walk (m := 2) (last := #[true, true, true, true, true, true, true, true, true, false, false]) [0, 1, 2, 3, 4, 5, 6, 7, 8] [(1, Fv.At (varF i)), (7, Fv.At (⟨[], canonQ a⟩)), (8, Fv.At (mrg (varF i) ⟨[], canonQ a⟩ Q.mone))] (by kernel_rfl) (by decide) (by kernel_rfl) hst ?_
  clear hst
  refine Walk.take (v := ?wv8) rfl rfl (Or.inl ⟨by rfl, ?wy8⟩) ?wr8
  case wy8 => (intro w' hw'; obtain ⟨g0, g1, g2, d0, d1, d2⟩ := kc.out w' hw'; go_simp; try with_reducible rfl)
  try simp only [Act.put, List.setIfInBounds_toArray, List.set_cons_zero, List.set_cons_succ]
  refine Walk.do rfl rfl (by rfl) (fun W1 G1 F1 => ?ws9) (fun v hv => ?wr9)
  case ws9 =>
    obtain ⟨g0, g1, g2, d0, d1, d2⟩ := kc.out W1 G1
    refine doesAt_enter (f := 210) (args := #[.int .i64 i]) (by go_simp; try (first | with_reducible rfl | rfl)) ?_
    refine (rvar_any W1 (i : Int)).mono ?_
    rintro e w' ⟨fv, rfl, hi, G⟩
    exact ⟨_, rfl, G, fv, rfl, hi⟩
  obtain ⟨_, -, -, ⟨fv, rfl, -⟩⟩ := hv
  try simp only [Act.put, List.setIfInBounds_toArray, List.set_cons_zero, List.set_cons_succ]
  refine Walk.take (v := ?wv10) rfl rfl (Or.inl ⟨by rfl, ?wy10⟩) ?wr10
  case wy10 => (intro w' hw'; obtain ⟨g0, g1, g2, d0, d1, d2⟩ := kc.out w' hw'; go_simp; try with_reducible rfl)
  try simp only [Act.put, List.setIfInBounds_toArray, List.set_cons_zero, List.set_cons_succ]
  refine Walk.take (v := ?wv11) rfl rfl (Or.inl ⟨by rfl, ?wy11⟩) ?wr11
  case wy11 => (intro w' hw'; obtain ⟨g0, g1, g2, d0, d1, d2⟩ := kc.out w' hw'; go_simp; try with_reducible rfl)
  try simp only [Act.put, List.setIfInBounds_toArray, List.set_cons_zero, List.set_cons_succ]
  refine Walk.take (v := ?wv12) rfl rfl (Or.inl ⟨by rfl, ?wy12⟩) ?wr12
  case wy12 => (intro w' hw'; obtain ⟨g0, g1, g2, d0, d1, d2⟩ := kc.out w' hw'; go_simp; try with_reducible rfl)
  try simp only [Act.put, List.setIfInBounds_toArray, List.set_cons_zero, List.set_cons_succ]
  refine Walk.take (v := ?wv13) rfl rfl (Or.inl ⟨by rfl, ?wy13⟩) ?wr13
  case wy13 => (intro w' hw'; obtain ⟨g0, g1, g2, d0, d1, d2⟩ := kc.out w' hw'; go_simp; try with_reducible rfl)
  try simp only [Act.put, List.setIfInBounds_toArray, List.set_cons_zero, List.set_cons_succ]
  refine Walk.take (v := ?wv14) rfl rfl (Or.inl ⟨by rfl, ?wy14⟩) ?wr14
  case wy14 => (intro w' hw'; obtain ⟨g0, g1, g2, d0, d1, d2⟩ := kc.out w' hw'; go_simp; try with_reducible rfl)
  try simp only [Act.put, List.setIfInBounds_toArray, List.set_cons_zero, List.set_cons_succ]
  refine Walk.do rfl rfl (by rfl) (fun W1 G1 F1 => ?ws15) (fun v hv => ?wr15)
  case ws15 =>
    obtain ⟨g0, g1, g2, d0, d1, d2⟩ := kc.out W1 G1
    refine doesAt_enter (f := 211) (args := #[.agg #[.bool t.neg, .slice t.num.A t.num.n t.num.c, .slice t.den.A t.den.n t.den.c]]) (by go_simp; try (first | with_reducible rfl | rfl)) ?_
    refine (rnumber_any W1 t a (HT.out.gr G1.of_drew) HA.out).mono ?_
    rintro e w' ⟨fn, rfl, hi, G⟩
    exact ⟨_, rfl, G, fn, rfl, hi⟩
  obtain ⟨_, -, -, ⟨fn, rfl, -⟩⟩ := hv
  try simp only [Act.put, List.setIfInBounds_toArray, List.set_cons_zero, List.set_cons_succ]
  refine Walk.do rfl rfl (by rfl) (fun W1 G1 F1 => ?ws16) (fun v hv => ?wr16)
  case ws16 =>
    obtain ⟨g0, g1, g2, d0, d1, d2⟩ := kc.out W1 G1
    have hv := F1 _ (List.mem_of_getElem? (i := 0) rfl) (List.contains_iff_mem.1 (by kernel_rfl))
    have hv := Fv.At.is hv
    have hn := F1 _ (List.mem_of_getElem? (i := 1) rfl) (List.contains_iff_mem.1 (by kernel_rfl))
    have hn := Fv.At.is hn
    refine doesAt_enter (f := 95) (args := #[.agg #[.slice fv.terms.A fv.terms.n fv.terms.c, .bool fv.const.neg, .slice fv.const.num.A fv.const.num.n fv.const.num.c, .slice fv.const.den.A fv.const.den.n fv.const.den.c], .agg #[.slice fn.terms.A fn.terms.n fn.terms.c, .bool fn.const.neg, .slice fn.const.num.A fn.const.num.n fn.const.num.c, .slice fn.const.den.A fn.const.den.n fn.const.den.c]]) (by go_simp; try (first | with_reducible rfl | rfl)) ?_
    refine (lsub_any W1 fv fn (varF i) ⟨[], canonQ a⟩ hv hn HV1.out (fun t ht => by cases ht) lo_zero HV2.out (by show 1 + 0 ≤ 1000000; decide)).mono ?_
    rintro e w' ⟨fr, rfl, hi, G⟩
    exact ⟨_, rfl, G, fr, rfl, hi⟩
  obtain ⟨_, -, -, ⟨fr, rfl, -⟩⟩ := hv
  try simp only [Act.put, List.setIfInBounds_toArray, List.set_cons_zero, List.set_cons_succ]
  refine Walk.done (fun W1 G1 F1 => ?_)
  have hv := F1 _ (List.mem_of_getElem? (i := 0) rfl)
  have hn := F1 _ (List.mem_of_getElem? (i := 1) rfl)
  have hr := F1 _ (List.mem_of_getElem? (i := 2) rfl)
  clear F1
  have kc1 := kc.out W1 G1
  clear kc g0 g1 g2 d0 d1 d2
  obtain ⟨g0, g1, g2, d0, d1, d2⟩ := kc1
  refine wpAny_one 9 rfl (by kernel_rfl) (by rfl) (fun K hK => ?_)
  have hR5 := G1.of_drew.bk D_r.out
  have fz5 := hR5.frozen
  obtain ⟨z0, z1, z2, z3⟩ := hR5.c4
  go_simp
  refine hK.out _ _ ?_
  clear hK K
  try simp only [Act.put, List.setIfInBounds_toArray, List.set_cons_zero, List.set_cons_succ]
  refine wpAny_one 10 rfl (by kernel_rfl) (by rfl) (fun K hK => ?_)
  go_simp
  refine hK.out _ _ ?_
  clear hK K
  try simp only [Act.put, List.setIfInBounds_toArray, List.set_cons_zero, List.set_cons_succ]
  refine wpAny_end (by kernel_rfl) ?_
  have hR5 := G1.of_drew.bk D_r.out
  obtain ⟨B5, F5⟩ := hR5.put4 (.slice fr.terms.A fr.terms.n fr.terms.c) (.bool fr.const.neg) (.slice fr.const.num.A fr.const.num.n fr.const.num.c) (.slice fr.const.den.A fr.const.den.n fr.const.den.c)
  have H5 := Lib.hid F5
  have D5 := Lib.hid B5
  obtain ⟨d0, d1, d2, d3⟩ := B5.c4
  clear F5 B5
  generalize (((W1.setCell ⟨r, 0, none⟩ (.slice fr.terms.A fr.terms.n fr.terms.c)).setCell ⟨r, 1, none⟩ (.bool fr.const.neg)).setCell ⟨r, 2, none⟩ (.slice fr.const.num.A fr.const.num.n fr.const.num.c)).setCell ⟨r, 3, none⟩ (.slice fr.const.den.A fr.const.den.n fr.const.den.c) = W5 at *
  go_wp2
  (try simp only [Exit.inBlock, Exit.then])
  refine bodyPost_ret (by simp [results, Tryz.results164, go_sem, d0, d1, d2, d3]; try rfl) rfl ?_
  exact ⟨fr, rfl, hr.is.tf' H5.out hR5 (by decide) (by decide), (HG.out.trans G1.of_drew).fr_at H5.out N_r.out⟩

end Go.Proofs.YtcmfepaffhnemaaGreatDoor

set_option linter.unusedVariables false
namespace Go.Proofs.YtcmfepaffhnemaaGreatDoor
open Go.RowKit

attribute [local go_sem] Oper.semAt_some

/-- The form of a row of the region's lower bounds. -/
def loF (i : Nat) (a : Q) : Fm := mrg (varF i) ⟨[], canonQ a⟩ Q.mone
abbrev formTab : Array Value := #[.nilFunc, .func (.func 164) #[] #[], .func (.func 164) #[] #[], .func (.func 164) #[] #[], .func (.func 164) #[] #[], .func (.func 165) #[] #[], .func (.func 165) #[] #[], .func (.func 165) #[] #[], .func (.func 165) #[] #[], .func (.func 165) #[] #[], .func (.func 165) #[] #[], .func (.func 165) #[] #[], .func (.func 165) #[] #[], .func (.func 165) #[] #[]]
theorem Qv.Is.nil {w : World} {q : Qv} {x : Qm} (h : q.Is w x) : Qv.Is w ⟨q.g, q.lo, q.hi, Sv.none, q.goal⟩ x := ⟨h.g, h.lo, h.hi, rfl, h.goal⟩
theorem mrgT_put (c : Q) (n : Nat) (s : Tm) (acc : List Tm) : mrgT c (n + 1) [s] [] acc = putT acc s.1 s.2 := by cases n <;> rfl
set_option maxRecDepth 100000 in
set_option maxHeartbeats 4000000 in
theorem rform_any (w : World) (q : Qv) (x : Qm) (i : Nat) (a : Q) (hq : q.Is w x) (hx : x.Va) (hlo : x.lo[i]? = some a) (ha : a.Sm) (hi : i < 1000) :
    Calls Tryz.prog 130 #[scV q, rowV i] w fun e w' => ∃ r : Fv, e = .returned (.tuple #[r.v, .bool true]) ∧ r.Is w' (loF i a) ∧ Gr w w' := by
  have hro := hq.rows
  obtain ⟨B1, B2, B3, G⟩ := made3 w 130 82 43 (#[.int .i64 q.g.inputs, .slice q.g.units.A q.g.units.n q.g.units.c, .slice q.g.outs.A q.g.outs.n q.g.outs.c, .slice q.lo.A q.lo.n q.lo.c, .slice q.hi.A q.hi.n q.hi.c, .slice none 0 0, .slice q.goal.terms.A q.goal.terms.n q.goal.terms.c, .bool q.goal.const.neg, .slice q.goal.const.num.A q.goal.const.num.n q.goal.const.num.c, .slice q.goal.const.den.A q.goal.const.den.n q.goal.const.den.c, .slice none 0 0, .slice none 0 0]) (#[.int .i64 1, .int .i64 i, .int .i64 0, .int .i64 0]) (#[.slice none 0 0, .bool false, .slice none 0 0, .slice none 0 0])
  have HG := Lib.hid G
  have D_p := Lib.hid B1
  have D_s := Lib.hid B2
  have D_r := Lib.hid B3
  clear G B1 B2 B3
  have HQ := Lib.hid hq
  have HA := Lib.hid ha
  have HLO := Lib.hid hlo
  have HX := Lib.hid hx
  have HI := Lib.hid hi
  have HRO := Lib.hid hro
  clear hq ha hlo hx hi hro
  go_enter Tryz.func130, Tryz.ntmps130
  go_upto_region 1 with fail
  generalize hW : ((w.alloc (.cells #[.int .i64 q.g.inputs, .slice q.g.units.A q.g.units.n q.g.units.c, .slice q.g.outs.A q.g.outs.n q.g.outs.c, .slice q.lo.A q.lo.n q.lo.c, .slice q.hi.A q.hi.n q.hi.c, .slice none 0 0, .slice q.goal.terms.A q.goal.terms.n q.goal.terms.c, .bool q.goal.const.neg, .slice q.goal.const.num.A q.goal.const.num.n q.goal.const.num.c, .slice q.goal.const.den.A q.goal.const.den.n q.goal.const.den.c, .slice none 0 0, .slice none 0 0] 130)).alloc (.cells #[.int .i64 1, .int .i64 i, .int .i64 0, .int .i64 0] 82)).alloc (.cells #[.slice none 0 0, .bool false, .slice none 0 0, .slice none 0 0] 43) = W at *
  clear hW
  have N_p : Hid (w.heap.size ≤ w.heap.size) := (by show w.heap.size ≤ w.heap.size; omega)
  have N_s : Hid (w.heap.size ≤ w.heap.size + 1) := (by show w.heap.size ≤ w.heap.size + 1; omega)
  have N_r : Hid (w.heap.size ≤ w.heap.size + 1 + 1) := (by show w.heap.size ≤ w.heap.size + 1 + 1; omega)
  generalize w.heap.size + 1 + 1 = r at *
  generalize w.heap.size + 1 = s at *
  obtain ⟨B1, GB⟩ := made1 W 272 formTab
  have DT := Lib.hid B1
  replace D_p := Lib.hid (GB.bk D_p.out)
  replace D_s := Lib.hid (GB.bk D_s.out)
  have hgr := Lib.hid (show ¬ W.heap.size = r from fun e => Nat.lt_irrefl _ (e ▸ D_r.out.lt))
  replace D_r := Lib.hid (GB.bk D_r.out)
  replace HG := Lib.hid (HG.out.trans GB)
  clear B1 GB
  obtain ⟨a0, a1, a2, a3, a4, a5, a6, a7, a8, a9, a10, a11⟩ := D_p.out.c12
  obtain ⟨b0, b1, b2, b3⟩ := D_s.out.c4
  go_wp2_with fail
  refine (qvalid_any _ ⟨q.g, q.lo, q.hi, Sv.none, q.goal⟩ x (HQ.out.gr HG.out).nil HX.out).mono ?_
  rintro e w1 ⟨rfl, G1⟩
  replace HG := Lib.hid (HG.out.trans G1)
  replace D_p := Lib.hid (G1.bk D_p.out)
  replace D_s := Lib.hid (G1.bk D_s.out)
  replace D_r := Lib.hid (G1.bk D_r.out)
  have t1 := (G1.bk DT.out).cell 1
  simp only [List.getElem?_toArray, List.getElem?_cons_zero, List.getElem?_cons_succ] at t1
  clear DT G1 a0 a1 a2 a3 a4 a5 a6 a7 a8 a9 a10 a11 b0 b1 b2 b3
  obtain ⟨a0, a1, a2, a3, a4, a5, a6, a7, a8, a9, a10, a11⟩ := D_p.out.c12
  obtain ⟨b0, b1, b2, b3⟩ := D_s.out.c4
  generalize W.heap.size = tb at *
  go_wp2_with fail
  go_upto_region 4 with fail
  refine wp_region_any (by kernel_rfl) ?_
  have kc := Lib.hid (fun (W' : World) (G : Gr w1.drew W') => And.intro (G.keep a0) (And.intro (G.keep a1) (And.intro (G.keep a2) (And.intro (G.keep a3) (And.intro (G.keep a4) (And.intro (G.keep a5) (And.intro (G.keep a6) (And.intro (G.keep a7) (And.intro (G.keep a8) (And.intro (G.keep a9) (And.intro (G.keep a10) (And.intro (G.keep a11) (And.intro (G.keep b0) (And.intro (G.keep b1) (And.intro (G.keep b2) (And.intro (G.keep b3) (G.keep t1)))))))))))))))))
  have hst : ∀ p ∈ ([(6, fun v W => ∃ r : Fv, v = .tuple #[r.v, .bool true] ∧ r.Is W (loF i a))] : List (Nat × (Value → World → Prop))), ∀ (u : Value) (wA0 wB0 : World), Gr w1.drew wA0 → Gr wA0 wB0 → p.2 u wA0 → p.2 u wB0 := by
    intro p hp u wA0 wB0 h0 G h
    simp only [List.mem_cons, List.not_mem_nil, or_false] at hp
    subst hp
    · (obtain ⟨r, e, hr⟩ := h; exact ⟨r, e, hr.gr G⟩)
  refine wpAny_walk (m := 2) (last := #[true, true, true, true, true, true, true, true, true, false, false]) [0, 1, 2, 3, 4, 5, 6, 7, 8] [(6, fun v W => ∃ r : Fv, v = .tuple #[r.v, .bool true] ∧ r.Is W (loF i a))] (by kernel_rfl) (by decide) (by kernel_rfl) hst ?_
  clear hst
  refine Walk.take (v := ?wv1) rfl rfl (Or.inl ⟨by rfl, ?wy1⟩) ?wr1
  case wy1 => (intro w' hw'; obtain ⟨a0, a1, a2, a3, a4, a5, a6, a7, a8, a9, a10, a11, b0, b1, b2, b3, t1⟩ := kc.out w' hw'; go_simp; try with_reducible rfl)
  try simp only [Act.put, List.setIfInBounds_toArray, List.set_cons_zero, List.set_cons_succ]
  refine Walk.take (v := ?wv2) rfl rfl (Or.inl ⟨by rfl, ?wy2⟩) ?wr2
  case wy2 => (intro w' hw'; obtain ⟨a0, a1, a2, a3, a4, a5, a6, a7, a8, a9, a10, a11, b0, b1, b2, b3, t1⟩ := kc.out w' hw'; go_simp; try with_reducible rfl)
  try simp only [Act.put, List.setIfInBounds_toArray, List.set_cons_zero, List.set_cons_succ]
  refine Walk.take (v := ?wv3) rfl rfl (Or.inl ⟨by rfl, ?wy3⟩) ?wr3
  case wy3 => (intro w' hw'; obtain ⟨a0, a1, a2, a3, a4, a5, a6, a7, a8, a9, a10, a11, b0, b1, b2, b3, t1⟩ := kc.out w' hw'; go_simp; try with_reducible rfl)
  try simp only [Act.put, List.setIfInBounds_toArray, List.set_cons_zero, List.set_cons_succ]
  refine Walk.take (v := ?wv4) rfl rfl (Or.inl ⟨by rfl, ?wy4⟩) ?wr4
  case wy4 => (intro w' hw'; obtain ⟨a0, a1, a2, a3, a4, a5, a6, a7, a8, a9, a10, a11, b0, b1, b2, b3, t1⟩ := kc.out w' hw'; go_simp; try with_reducible rfl)
  try simp only [Act.put, List.setIfInBounds_toArray, List.set_cons_zero, List.set_cons_succ]
  refine Walk.take (v := ?wv5) rfl rfl (Or.inl ⟨by rfl, ?wy5⟩) ?wr5
  case wy5 => (intro w' hw'; obtain ⟨a0, a1, a2, a3, a4, a5, a6, a7, a8, a9, a10, a11, b0, b1, b2, b3, t1⟩ := kc.out w' hw'; go_simp; try with_reducible rfl)
  try simp only [Act.put, List.setIfInBounds_toArray, List.set_cons_zero, List.set_cons_succ]
  refine Walk.take (v := ?wv6) rfl rfl (Or.inl ⟨by rfl, ?wy6⟩) ?wr6
  case wy6 => (intro w' hw'; obtain ⟨a0, a1, a2, a3, a4, a5, a6, a7, a8, a9, a10, a11, b0, b1, b2, b3, t1⟩ := kc.out w' hw'; go_simp; try with_reducible rfl)
  try simp only [Act.put, List.setIfInBounds_toArray, List.set_cons_zero, List.set_cons_succ]
  refine Walk.do rfl rfl (by rfl) (fun W1 G1 F1 => ?ws7) (fun v hv => ?wr7)
  case ws7 =>
    obtain ⟨a0, a1, a2, a3, a4, a5, a6, a7, a8, a9, a10, a11, b0, b1, b2, b3, t1⟩ := kc.out W1 G1
    refine doesAt_enter (f := 164) (args := #[scV q, rowV i]) (by go_simp; try (first | with_reducible rfl | rfl)) ?_
    refine (rinput_any W1 q x i a (HQ.out.gr (HG.out.trans G1.of_drew)) HLO.out HA.out HI.out).mono ?_
    rintro e w' ⟨r, rfl, hr, G⟩
    exact ⟨_, rfl, G, r, rfl, hr⟩
  obtain ⟨_, -, -, ⟨fr, rfl, -⟩⟩ := hv
  try simp only [Act.put, List.setIfInBounds_toArray, List.set_cons_zero, List.set_cons_succ]
  refine Walk.take (v := ?wv8) rfl rfl (Or.inl ⟨by rfl, ?wy8⟩) ?wr8
  case wy8 => (intro w' hw'; obtain ⟨a0, a1, a2, a3, a4, a5, a6, a7, a8, a9, a10, a11, b0, b1, b2, b3, t1⟩ := kc.out w' hw'; go_simp; try with_reducible rfl)
  try simp only [Act.put, List.setIfInBounds_toArray, List.set_cons_zero, List.set_cons_succ]
  refine Walk.take (v := ?wv9) rfl rfl (Or.inl ⟨by rfl, ?wy9⟩) ?wr9
  case wy9 => (intro w' hw'; obtain ⟨a0, a1, a2, a3, a4, a5, a6, a7, a8, a9, a10, a11, b0, b1, b2, b3, t1⟩ := kc.out w' hw'; go_simp; try with_reducible rfl)
  try simp only [Act.put, List.setIfInBounds_toArray, List.set_cons_zero, List.set_cons_succ]
  refine Walk.done (fun W1 G1 F1 => ?_)
  have hr := F1 _ (List.mem_of_getElem? (i := 0) rfl)
  clear F1
  have kc1 := kc.out W1 G1
  clear kc a0 a1 a2 a3 a4 a5 a6 a7 a8 a9 a10 a11 b0 b1 b2 b3 t1
  obtain ⟨a0, a1, a2, a3, a4, a5, a6, a7, a8, a9, a10, a11, b0, b1, b2, b3, t1⟩ := kc1
  refine wpAny_one 9 rfl (by kernel_rfl) (by rfl) (fun K hK => ?_)
  have hR5 := G1.of_drew.bk D_r.out
  have fz5 := hR5.frozen
  obtain ⟨z0, z1, z2, z3⟩ := hR5.c4
  go_simp
  refine hK.out _ _ ?_
  clear hK K
  try simp only [Act.put, List.setIfInBounds_toArray, List.set_cons_zero, List.set_cons_succ]
  refine wpAny_one 10 rfl (by kernel_rfl) (by rfl) (fun K hK => ?_)
  go_simp
  refine hK.out _ _ ?_
  clear hK K
  try simp only [Act.put, List.setIfInBounds_toArray, List.set_cons_zero, List.set_cons_succ]
  refine wpAny_end (by kernel_rfl) ?_
  obtain ⟨fr', efr, hr'⟩ := hr
  have hR5 := G1.of_drew.bk D_r.out
  have hr2 : fr.Is W1 (loF i a) := by
    injection efr with e1
    have e2 := congrArg (fun a : Array Value => a[0]?) e1
    simp only [List.getElem?_toArray, List.getElem?_cons_zero, Option.some.injEq] at e2
    rw [Fv.inj e2]; exact hr'
  clear efr hr'
  obtain ⟨B5, F5⟩ := hR5.put4 (.slice fr.terms.A fr.terms.n fr.terms.c) (.bool fr.const.neg) (.slice fr.const.num.A fr.const.num.n fr.const.num.c) (.slice fr.const.den.A fr.const.den.n fr.const.den.c)
  have H5 := Lib.hid F5
  have D5 := Lib.hid B5
  obtain ⟨d0, d1, d2, d3⟩ := B5.c4
  clear F5 B5
  generalize (((W1.setCell ⟨r, 0, none⟩ (.slice fr.terms.A fr.terms.n fr.terms.c)).setCell ⟨r, 1, none⟩ (.bool fr.const.neg)).setCell ⟨r, 2, none⟩ (.slice fr.const.num.A fr.const.num.n fr.const.num.c)).setCell ⟨r, 3, none⟩ (.slice fr.const.den.A fr.const.den.n fr.const.den.c) = W5 at *
  go_wp2
  (try simp only [Exit.inBlock, Exit.then])
  refine bodyPost_ret (by simp [results, Tryz.results130, go_sem, d0, d1, d2, d3]; try rfl) rfl ?_
  exact ⟨fr, rfl, hr2.tf' H5.out hR5 (by decide) (by decide), (HG.out.trans G1.of_drew).fr_at H5.out N_r.out⟩

set_option maxRecDepth 100000 in
set_option maxHeartbeats 4000000 in
theorem canon1_any (w : World) (p : Sv) (i : Nat) (c : Q) (hp : Mults w p [(⟨1, i, 0, 0⟩, c)]) (hc : c.Sm) (hco : c.Ok) (hs : 0 < c.sign) :
    Calls Tryz.prog 129 #[.slice p.A p.n p.c] w fun e w' => e = .returned (.bool true) ∧ Gr w w' := by
  have hn : 1 = p.n := hp.len
  obtain ⟨t, ad, ht, hA, d0, d1, d2, d3, d4, d5, d6⟩ := hp.head
  obtain ⟨pA, pn, pc⟩ := p
  simp only at hn hA d0 d1 d2 d3
  subst hn hA
  have HT := Lib.hid ht
  have HC := Lib.hid hc
  have HCO := Lib.hid hco
  generalize hsg : c.sign = sg at *
  have HSG := Lib.hid hsg
  have n0 : decide (sg ≤ 0) = false := by simp; omega
  have az := add_zero ad
  clear hp ht hc hco hs hsg
  go_enter Tryz.func129, Tryz.ntmps129
  go_wp2_with fail
  refine wp_loop_rounds 2 ?_
  rw [rounds_succ]
  go_wp2_with fail
  go_upto_region 4 with fail
  obtain ⟨B1, GB⟩ := made1 w 84 #[.int .i64 1, .int .i64 i, .int .i64 0, .int .i64 0, .bool t.coef.neg, .slice t.coef.num.A t.coef.num.n t.coef.num.c, .slice t.coef.den.A t.coef.den.n t.coef.den.c]
  have GT := Lib.hid GB
  obtain ⟨c0, c1, c2, c3, c4, c5, c6⟩ := B1.c7
  clear B1 GB d0 d1 d2 d3 d4 d5 d6
  generalize w.alloc (.cells #[.int .i64 1, .int .i64 i, .int .i64 0, .int .i64 0, .bool t.coef.neg, .slice t.coef.num.A t.coef.num.n t.coef.num.c, .slice t.coef.den.A t.coef.den.n t.coef.den.c] 84) = W3 at *
  generalize w.heap.size = tb at *
  refine wp_region_any (by kernel_rfl) ?_
  have kc := Lib.hid (fun (W' : World) (G : Gr W3.drew W') => And.intro (G.keep c0) (And.intro (G.keep c1) (And.intro (G.keep c2) (And.intro (G.keep c3) (And.intro (G.keep c4) (And.intro (G.keep c5) (G.keep c6)))))))
  have hst : ∀ p ∈ ([(2, fun v _ => v = .int .i64 sg), (7, fun v _ => v = .bool true)] : List (Nat × (Value → World → Prop))), ∀ (u : Value) (wA0 wB0 : World), Gr W3.drew wA0 → Gr wA0 wB0 → p.2 u wA0 → p.2 u wB0 := by
    intro p hp u wA0 wB0 h0 G h
    simp only [List.mem_cons, List.not_mem_nil, or_false] at hp
    rcases hp with rfl | rfl
    · exact h
    · exact h
  refine wpAny_walk (m := 0) (last := #[true, true, true, true, true, true, true, true, true, true, true, true, true, true, true, true, true, true, true, true, true, true, true, true, true, true]) [0, 1, 2, 3, 4, 5, 6, 7, 8, 9, 10, 11, 12, 13, 14, 15, 16, 17, 18, 19, 20, 21, 22, 23, 24, 25] [(2, fun v _ => v = .int .i64 sg), (7, fun v _ => v = .bool true)] (by kernel_rfl) (by decide) (by kernel_rfl) hst ?_
  clear hst
  refine Walk.take (v := ?wv10) rfl rfl (Or.inl ⟨by rfl, ?wy10⟩) ?wr10
  case wy10 => (intro w' hw'; obtain ⟨c0, c1, c2, c3, c4, c5, c6⟩ := kc.out w' hw'; go_simp; try with_reducible rfl)
  try simp only [Act.put, List.setIfInBounds_toArray, List.set_cons_zero, List.set_cons_succ]
  refine Walk.take (v := ?wv11) rfl rfl (Or.inl ⟨by rfl, ?wy11⟩) ?wr11
  case wy11 => (intro w' hw'; obtain ⟨c0, c1, c2, c3, c4, c5, c6⟩ := kc.out w' hw'; go_simp; try with_reducible rfl)
  try simp only [Act.put, List.setIfInBounds_toArray, List.set_cons_zero, List.set_cons_succ]
  refine Walk.do rfl rfl (by rfl) (fun W1 G1 F1 => ?ws12) (fun v hv => ?wr12)
  case ws12 =>
    obtain ⟨c0, c1, c2, c3, c4, c5, c6⟩ := kc.out W1 G1
    refine doesAt_enter (f := 68) (args := #[.agg #[.bool t.coef.neg, .slice t.coef.num.A t.coef.num.n t.coef.num.c, .slice t.coef.den.A t.coef.den.n t.coef.den.c]]) (by go_simp; try (first | with_reducible rfl | rfl)) ?_
    refine ((show Calls _ _ _ _ (fun e w' => e = .returned (.int .i64 sg) ∧ Gr W1 w') from by rw [← HSG.out]; exact sign_any W1 t.coef c (HT.out.coef.gr (GT.out.trans G1.of_drew)) (Nat.le_trans HC.out.lo.num (by decide)))).mono ?_
    rintro e w' ⟨rfl, G⟩
    exact ⟨_, rfl, G, rfl⟩
  obtain ⟨_, -, -, rfl⟩ := hv
  try simp only [Act.put, List.setIfInBounds_toArray, List.set_cons_zero, List.set_cons_succ]
  refine Walk.take (v := ?wv13) rfl rfl (Or.inl ⟨by rfl, ?wy13⟩) ?wr13
  case wy13 => (intro w' hw'; obtain ⟨c0, c1, c2, c3, c4, c5, c6⟩ := kc.out w' hw'; go_simp; try with_reducible rfl)
  try simp only [Act.put, List.setIfInBounds_toArray, List.set_cons_zero, List.set_cons_succ]
  refine Walk.take (v := ?wv14) rfl rfl (Or.inl ⟨by rfl, ?wy14⟩) ?wr14
  case wy14 => (intro w' hw'; obtain ⟨c0, c1, c2, c3, c4, c5, c6⟩ := kc.out w' hw'; go_simp; try with_reducible rfl)
  try simp only [Act.put, List.setIfInBounds_toArray, List.set_cons_zero, List.set_cons_succ]
  refine Walk.take (v := ?wv15) rfl rfl (Or.inl ⟨by rfl, ?wy15⟩) ?wr15
  case wy15 => (intro w' hw'; obtain ⟨c0, c1, c2, c3, c4, c5, c6⟩ := kc.out w' hw'; go_simp; try with_reducible rfl)
  try simp only [Act.put, List.setIfInBounds_toArray, List.set_cons_zero, List.set_cons_succ]
  refine Walk.take (v := ?wv16) rfl rfl (Or.inl ⟨by rfl, ?wy16⟩) ?wr16
  case wy16 => (intro w' hw'; obtain ⟨c0, c1, c2, c3, c4, c5, c6⟩ := kc.out w' hw'; go_simp; try with_reducible rfl)
  try simp only [Act.put, List.setIfInBounds_toArray, List.set_cons_zero, List.set_cons_succ]
  refine Walk.do rfl rfl (by rfl) (fun W1 G1 F1 => ?ws17) (fun v hv => ?wr17)
  case ws17 =>
    obtain ⟨c0, c1, c2, c3, c4, c5, c6⟩ := kc.out W1 G1
    refine doesAt_enter (f := 69) (args := #[.agg #[.bool t.coef.neg, .slice t.coef.num.A t.coef.num.n t.coef.num.c, .slice t.coef.den.A t.coef.den.n t.coef.den.c]]) (by go_simp; try (first | with_reducible rfl | rfl)) ?_
    refine (rvalid_any W1 t.coef c (HT.out.coef.gr (GT.out.trans G1.of_drew)) HCO.out (Nat.le_trans HC.out.lo.num (by decide)) (Nat.lt_of_le_of_lt HC.out.lo.den (by decide))).mono ?_
    rintro e w' ⟨rfl, G⟩
    exact ⟨_, rfl, G, rfl⟩
  obtain ⟨_, -, -, rfl⟩ := hv
  try simp only [Act.put, List.setIfInBounds_toArray, List.set_cons_zero, List.set_cons_succ]
  refine Walk.take (v := ?wv18) rfl rfl (Or.inl ⟨by rfl, ?wy18⟩) ?wr18
  case wy18 => (intro w' hw'; obtain ⟨c0, c1, c2, c3, c4, c5, c6⟩ := kc.out w' hw'; go_simp; try with_reducible rfl)
  try simp only [Act.put, List.setIfInBounds_toArray, List.set_cons_zero, List.set_cons_succ]
  refine Walk.take (v := ?wv19) rfl rfl (Or.inl ⟨by rfl, ?wy19⟩) ?wr19
  case wy19 => (intro w' hw'; obtain ⟨c0, c1, c2, c3, c4, c5, c6⟩ := kc.out w' hw'; go_simp; try with_reducible rfl)
  try simp only [Act.put, List.setIfInBounds_toArray, List.set_cons_zero, List.set_cons_succ]
  refine Walk.take (v := ?wv20) rfl rfl (Or.inl ⟨by rfl, ?wy20⟩) ?wr20
  case wy20 => (intro w' hw'; obtain ⟨c0, c1, c2, c3, c4, c5, c6⟩ := kc.out w' hw'; go_simp; try with_reducible rfl)
  try simp only [Act.put, List.setIfInBounds_toArray, List.set_cons_zero, List.set_cons_succ]
  refine Walk.take (v := ?wv21) rfl rfl (Or.inl ⟨by rfl, ?wy21⟩) ?wr21
  case wy21 => (intro w' hw'; obtain ⟨c0, c1, c2, c3, c4, c5, c6⟩ := kc.out w' hw'; go_simp; try with_reducible rfl)
  try simp only [Act.put, List.setIfInBounds_toArray, List.set_cons_zero, List.set_cons_succ]
  refine Walk.take (v := ?wv22) rfl rfl (Or.inl ⟨by rfl, ?wy22⟩) ?wr22
  case wy22 => (intro w' hw'; obtain ⟨c0, c1, c2, c3, c4, c5, c6⟩ := kc.out w' hw'; go_simp; try with_reducible rfl)
  try simp only [Act.put, List.setIfInBounds_toArray, List.set_cons_zero, List.set_cons_succ]
  refine Walk.take (v := ?wv23) rfl rfl (Or.inl ⟨by rfl, ?wy23⟩) ?wr23
  case wy23 => (intro w' hw'; obtain ⟨c0, c1, c2, c3, c4, c5, c6⟩ := kc.out w' hw'; go_simp; try with_reducible rfl)
  try simp only [Act.put, List.setIfInBounds_toArray, List.set_cons_zero, List.set_cons_succ]
  refine Walk.take (v := undef) rfl rfl (Or.inr ⟨by rfl, rfl⟩) ?_
  try simp only [Act.put, List.setIfInBounds_toArray, List.set_cons_zero, List.set_cons_succ]
  refine Walk.take (v := undef) rfl rfl (Or.inr ⟨by rfl, rfl⟩) ?_
  try simp only [Act.put, List.setIfInBounds_toArray, List.set_cons_zero, List.set_cons_succ]
  refine Walk.take (v := undef) rfl rfl (Or.inr ⟨by rfl, rfl⟩) ?_
  try simp only [Act.put, List.setIfInBounds_toArray, List.set_cons_zero, List.set_cons_succ]
  refine Walk.take (v := undef) rfl rfl (Or.inr ⟨by rfl, rfl⟩) ?_
  try simp only [Act.put, List.setIfInBounds_toArray, List.set_cons_zero, List.set_cons_succ]
  refine Walk.take (v := undef) rfl rfl (Or.inr ⟨by rfl, rfl⟩) ?_
  try simp only [Act.put, List.setIfInBounds_toArray, List.set_cons_zero, List.set_cons_succ]
  refine Walk.take (v := undef) rfl rfl (Or.inr ⟨by rfl, rfl⟩) ?_
  try simp only [Act.put, List.setIfInBounds_toArray, List.set_cons_zero, List.set_cons_succ]
  refine Walk.take (v := undef) rfl rfl (Or.inr ⟨by rfl, rfl⟩) ?_
  try simp only [Act.put, List.setIfInBounds_toArray, List.set_cons_zero, List.set_cons_succ]
  refine Walk.take (v := undef) rfl rfl (Or.inr ⟨by rfl, rfl⟩) ?_
  try simp only [Act.put, List.setIfInBounds_toArray, List.set_cons_zero, List.set_cons_succ]
  refine Walk.take (v := undef) rfl rfl (Or.inr ⟨by rfl, rfl⟩) ?_
  try simp only [Act.put, List.setIfInBounds_toArray, List.set_cons_zero, List.set_cons_succ]
  refine Walk.take (v := undef) rfl rfl (Or.inr ⟨by rfl, rfl⟩) ?_
  try simp only [Act.put, List.setIfInBounds_toArray, List.set_cons_zero, List.set_cons_succ]
  refine Walk.take (v := ?wv24) rfl rfl (Or.inl ⟨by rfl, ?wy24⟩) ?wr24
  case wy24 => (intro w' hw'; obtain ⟨c0, c1, c2, c3, c4, c5, c6⟩ := kc.out w' hw'; go_simp; try with_reducible rfl)
  try simp only [Act.put, List.setIfInBounds_toArray, List.set_cons_zero, List.set_cons_succ]
  refine Walk.take (v := ?wv25) rfl rfl (Or.inl ⟨by rfl, ?wy25⟩) ?wr25
  case wy25 => (intro w' hw'; obtain ⟨c0, c1, c2, c3, c4, c5, c6⟩ := kc.out w' hw'; go_simp; try with_reducible rfl)
  try simp only [Act.put, List.setIfInBounds_toArray, List.set_cons_zero, List.set_cons_succ]
  refine Walk.done (fun W1 G1 F1 => ?_)
  clear F1
  have kc1 := kc.out W1 G1
  clear kc c0 c1 c2 c3 c4 c5 c6
  obtain ⟨c0, c1, c2, c3, c4, c5, c6⟩ := kc1
  refine wpAny_end (by kernel_rfl) ?_
  have HG4 := Lib.hid (GT.out.trans G1.of_drew)
  clear G1 c0 c1 c2 c3 c4 c5 c6
  go_wp2
  rw [rounds_succ]
  go_wp2
  go_ret
  exact ⟨rfl, HG4.out⟩

end Go.Proofs.YtcmfepaffhnemaaGreatDoor

set_option linter.unusedVariables false
namespace Go.Proofs.YtcmfepaffhnemaaGreatDoor
open Go.RowKit

attribute [local go_sem] Oper.semAt_some

/-- The proof of the example: the lower bound of input 0, once. -/
abbrev pf0 : List Mm := [(⟨1, 0, 0, 0⟩, Q.one)]
abbrev var0 : Fm := ⟨[(0, Q.one)], Q.zero⟩
theorem loF0 : loF 0 Q.zero = var0 := by decide
theorem scale0 : mrg Fm.zero var0 Q.one = var0 := by decide
theorem var0_lo : ∀ t ∈ var0.terms, t.2.Lo := fun t ht => by rw [List.mem_singleton.1 ht]; exact lo_one
set_option maxRecDepth 100000 in
set_option maxHeartbeats 4000000 in
theorem sum0_any (w : World) (q : Qv) (x : Qm) (p : Sv) (hq : q.Is w x) (hx : x.Va) (hlo : x.lo[0]? = some Q.zero) (hp : Mults w p pf0) :
    Calls Tryz.prog 94 #[scV q, .slice p.A p.n p.c] w fun e w' => ∃ r : Fv, e = .returned (.tuple #[r.v, .int .i64 0]) ∧ r.Is w' var0 ∧ Gr w w' := by
  have hn : 1 = p.n := hp.len
  obtain ⟨pA, pn, pc⟩ := p
  simp only at hn
  subst hn
  obtain ⟨B1, B2, G⟩ := made2 w 130 43 (#[.int .i64 q.g.inputs, .slice q.g.units.A q.g.units.n q.g.units.c, .slice q.g.outs.A q.g.outs.n q.g.outs.c, .slice q.lo.A q.lo.n q.lo.c, .slice q.hi.A q.hi.n q.hi.c, .slice none 0 0, .slice q.goal.terms.A q.goal.terms.n q.goal.terms.c, .bool q.goal.const.neg, .slice q.goal.const.num.A q.goal.const.num.n q.goal.const.num.c, .slice q.goal.const.den.A q.goal.const.den.n q.goal.const.den.c, .slice none 0 0, .slice none 0 0]) (#[.slice none 0 0, .bool false, .slice none 0 0, .slice none 0 0])
  have HG := Lib.hid G
  have D_p0 := Lib.hid B1
  have D_r := Lib.hid B2
  clear G B1 B2
  have HQ := Lib.hid hq
  have HX := Lib.hid hx
  have HLO := Lib.hid hlo
  have HP := Lib.hid hp
  clear hq hx hlo hp
  go_enter Tryz.func94, Tryz.ntmps94
  go_wp2_with fail
  generalize hW : (w.alloc (.cells #[.int .i64 q.g.inputs, .slice q.g.units.A q.g.units.n q.g.units.c, .slice q.g.outs.A q.g.outs.n q.g.outs.c, .slice q.lo.A q.lo.n q.lo.c, .slice q.hi.A q.hi.n q.hi.c, .slice none 0 0, .slice q.goal.terms.A q.goal.terms.n q.goal.terms.c, .bool q.goal.const.neg, .slice q.goal.const.num.A q.goal.const.num.n q.goal.const.num.c, .slice q.goal.const.den.A q.goal.const.den.n q.goal.const.den.c, .slice none 0 0, .slice none 0 0] 130)).alloc (.cells #[.slice none 0 0, .bool false, .slice none 0 0, .slice none 0 0] 43) = W at *
  clear hW
  have N_p0 : Hid (w.heap.size ≤ w.heap.size) := (by show w.heap.size ≤ w.heap.size; omega)
  have N_r : Hid (w.heap.size ≤ w.heap.size + 1) := (by show w.heap.size ≤ w.heap.size + 1; omega)
  generalize w.heap.size + 1 = r at *
  refine (canon1_any W ⟨pA, 1, pc⟩ 0 Q.one (HP.out.gr HG.out) sm_one (by decide) (by decide)).mono ?_
  rintro e w1 ⟨rfl, G1⟩
  obtain ⟨B1, GB⟩ := made1 w1 43 #[.slice none 0 0, .bool false, .slice none 0 0, .slice none 0 0]
  have hne : ∀ b, b < W.heap.size → b ≠ w1.heap.size := fun b hb e => by have := G1.size; omega
  have hpz := Lib.hid (hne _ D_p0.out.lt)
  have hrz := Lib.hid (hne _ D_r.out.lt)
  have DZ := Lib.hid B1
  replace D_p0 := Lib.hid (GB.bk (G1.bk D_p0.out))
  replace D_r := Lib.hid (GB.bk (G1.bk D_r.out))
  have HNZ := Lib.hid (Nat.le_trans HG.out.size G1.size)
  replace HG := Lib.hid ((HG.out.trans G1).trans GB)
  clear B1 GB G1 hne
  go_wp2_with fail
  generalize w1.alloc (.cells #[.slice none 0 0, .bool false, .slice none 0 0, .slice none 0 0] 43) = W2 at *
  generalize w1.heap.size = z at *
  obtain ⟨t, ad, ht, hA, d0, d1, d2, d3, d4, d5, d6⟩ := (HP.out.gr HG.out).head
  simp only at hA d0 d1 d2 d3
  subst hA
  have HT := Lib.hid ht
  have az := add_zero ad
  obtain ⟨B1, GB⟩ := made1 W2 84 #[.int .i64 1, .int .i64 0, .int .i64 0, .int .i64 0, .bool t.coef.neg, .slice t.coef.num.A t.coef.num.n t.coef.num.c, .slice t.coef.den.A t.coef.den.n t.coef.den.c]
  have DM := Lib.hid B1
  have GT := Lib.hid GB
  have D_pm := Lib.hid (GB.bk D_p0.out)
  have D_rm := Lib.hid (GB.bk D_r.out)
  have DZm := Lib.hid (GB.bk DZ.out)
  have HGm := Lib.hid (HG.out.trans GB)
  obtain ⟨a0, a1, a2, a3, a4, a5, a6, a7, a8, a9, a10, a11⟩ := D_pm.out.c12
  obtain ⟨m0, m1, m2, m3, m4, m5, m6⟩ := DM.out.c7
  clear B1 GB ht D_p0 D_r DZ
  refine wp_loop_rounds 2 ?_
  rw [rounds_succ]
  go_wp2_with fail
  refine (rform_any _ q x 0 Q.zero (HQ.out.gr HGm.out) HX.out HLO.out sm_zero (by decide)).mono ?_
  rintro e w5 ⟨fr, rfl, hf, G1⟩
  rw [loF0] at hf
  obtain ⟨B2, GB2⟩ := made1 w5 43 #[.slice fr.terms.A fr.terms.n fr.terms.c, .bool fr.const.neg, .slice fr.const.num.A fr.const.num.n fr.const.num.c, .slice fr.const.den.A fr.const.den.n fr.const.den.c]
  have DF := Lib.hid B2
  have HF := Lib.hid (hf.gr GB2)
  have GT2 := Lib.hid ((GT.out.trans G1).trans GB2)
  have HG2 := Lib.hid ((HGm.out.trans G1).trans GB2)
  have D_r2 := Lib.hid (GB2.bk (G1.bk D_rm.out))
  have DZ2 := Lib.hid (GB2.bk (G1.bk DZm.out))
  have DM2 := Lib.hid (GB2.bk (G1.bk DM.out))
  clear B2 GB2 hf G1 d0 d1 d2 d3 d4 d5 d6 a0 a1 a2 a3 a4 a5 a6 a7 a8 a9 a10 a11 m0 m1 m2 m3 m4 m5 m6 D_pm D_rm DZm DM HGm GT HG
  go_wp2_with fail
  go_upto_region 10 with fail
  generalize w5.alloc (.cells #[.slice fr.terms.A fr.terms.n fr.terms.c, .bool fr.const.neg, .slice fr.const.num.A fr.const.num.n fr.const.num.c, .slice fr.const.den.A fr.const.den.n fr.const.den.c] 43) = W4 at *
  generalize w5.heap.size = fb at *
  generalize W2.heap.size = mb at *
  have HG := HG2
  obtain ⟨z0, z1, z2, z3⟩ := DZ2.out.c4
  obtain ⟨f0, f1, f2, f3⟩ := DF.out.c4
  obtain ⟨m0, m1, m2, m3, m4, m5, m6⟩ := DM2.out.c7
  refine wp_region_any (by kernel_rfl) ?_
  have kc := Lib.hid (fun (W' : World) (G : Gr W4.drew W') => And.intro (G.keep z0) (And.intro (G.keep z1) (And.intro (G.keep z2) (And.intro (G.keep z3) (And.intro (G.keep f0) (And.intro (G.keep f1) (And.intro (G.keep f2) (And.intro (G.keep f3) (And.intro (G.keep m4) (And.intro (G.keep m5) (G.keep m6)))))))))))
  have hst : ∀ p ∈ ([(4, Fv.At (var0)), (5, Fv.At (var0))] : List (Nat × (Value → World → Prop))), ∀ (u : Value) (wA0 wB0 : World), Gr W4.drew wA0 → Gr wA0 wB0 → p.2 u wA0 → p.2 u wB0 := by
    intro p hp u wA0 wB0 h0 G h
    simp only [List.mem_cons, List.not_mem_nil, or_false] at hp
    rcases hp with rfl | rfl
    · exact Fv.At.gr h G
    · exact Fv.At.gr h G
  refine wpAny_walk (m := 1) (last := #[true, true, true, true, true, true, false]) [0, 1, 2, 3, 4, 5] [(4, Fv.At (var0)), (5, Fv.At (var0))] (by kernel_rfl) (by decide) (by kernel_rfl) hst ?_
  clear hst
  refine Walk.take (v := ?wv26) rfl rfl (Or.inl ⟨by rfl, ?wy26⟩) ?wr26
  case wy26 => (intro w' hw'; obtain ⟨z0, z1, z2, z3, f0, f1, f2, f3, m4, m5, m6⟩ := kc.out w' hw'; go_simp; try with_reducible rfl)
  try simp only [Act.put, List.setIfInBounds_toArray, List.set_cons_zero, List.set_cons_succ]
  refine Walk.take (v := ?wv27) rfl rfl (Or.inl ⟨by rfl, ?wy27⟩) ?wr27
  case wy27 => (intro w' hw'; obtain ⟨z0, z1, z2, z3, f0, f1, f2, f3, m4, m5, m6⟩ := kc.out w' hw'; go_simp; try with_reducible rfl)
  try simp only [Act.put, List.setIfInBounds_toArray, List.set_cons_zero, List.set_cons_succ]
  refine Walk.take (v := ?wv28) rfl rfl (Or.inl ⟨by rfl, ?wy28⟩) ?wr28
  case wy28 => (intro w' hw'; obtain ⟨z0, z1, z2, z3, f0, f1, f2, f3, m4, m5, m6⟩ := kc.out w' hw'; go_simp; try with_reducible rfl)
  try simp only [Act.put, List.setIfInBounds_toArray, List.set_cons_zero, List.set_cons_succ]
  refine Walk.take (v := ?wv29) rfl rfl (Or.inl ⟨by rfl, ?wy29⟩) ?wr29
  case wy29 => (intro w' hw'; obtain ⟨z0, z1, z2, z3, f0, f1, f2, f3, m4, m5, m6⟩ := kc.out w' hw'; go_simp; try with_reducible rfl)
  try simp only [Act.put, List.setIfInBounds_toArray, List.set_cons_zero, List.set_cons_succ]
  refine Walk.do rfl rfl (by rfl) (fun W1 G1 F1 => ?ws30) (fun v hv => ?wr30)
  case ws30 =>
    obtain ⟨z0, z1, z2, z3, f0, f1, f2, f3, m4, m5, m6⟩ := kc.out W1 G1
    refine doesAt_enter (f := 127) (args := #[.agg #[.slice fr.terms.A fr.terms.n fr.terms.c, .bool fr.const.neg, .slice fr.const.num.A fr.const.num.n fr.const.num.c, .slice fr.const.den.A fr.const.den.n fr.const.den.c], .agg #[.bool t.coef.neg, .slice t.coef.num.A t.coef.num.n t.coef.num.c, .slice t.coef.den.A t.coef.den.n t.coef.den.c]]) (by go_simp; try (first | with_reducible rfl | rfl)) ?_
    refine ((show Calls _ _ _ _ (fun e w' => ∃ r : Fv, e = .returned r.v ∧ r.Is w' var0 ∧ Gr W1 w') from by have := lscale_any W1 fr t.coef var0 Q.one (HF.out.gr G1.of_drew) (HT.out.coef.gr ((GT2.out.trans G1.of_drew))) var0_lo lo_zero lo_one (by show 1 ≤ 1000000; decide); rw [scale0] at this; exact this)).mono ?_
    rintro e w' ⟨fs, rfl, hi, G⟩
    exact ⟨_, rfl, G, fs, rfl, hi⟩
  obtain ⟨_, -, -, ⟨fs, rfl, -⟩⟩ := hv
  try simp only [Act.put, List.setIfInBounds_toArray, List.set_cons_zero, List.set_cons_succ]
  refine Walk.do rfl rfl (by rfl) (fun W1 G1 F1 => ?ws31) (fun v hv => ?wr31)
  case ws31 =>
    obtain ⟨z0, z1, z2, z3, f0, f1, f2, f3, m4, m5, m6⟩ := kc.out W1 G1
    have hs := F1 _ (List.mem_of_getElem? (i := 0) rfl) (List.contains_iff_mem.1 (by kernel_rfl))
    have hs := Fv.At.is hs
    refine doesAt_enter (f := 131) (args := #[.agg #[.slice none 0 0, .bool false, .slice none 0 0, .slice none 0 0], .agg #[.slice fs.terms.A fs.terms.n fs.terms.c, .bool fs.const.neg, .slice fs.const.num.A fs.const.num.n fs.const.num.c, .slice fs.const.den.A fs.const.den.n fs.const.den.c]]) (by go_simp; try (first | with_reducible rfl | rfl)) ?_
    refine ((show Calls _ _ _ _ (fun e w' => ∃ r : Fv, e = .returned r.v ∧ r.Is w' var0 ∧ Gr W1 w') from by have := ladd_any W1 Fv.nil fs Fm.zero var0 (Fv.Is.zero W1) hs (fun t ht => by cases ht) var0_lo lo_zero lo_zero (by show 0 + 1 ≤ 1000000; decide); rw [scale0] at this; exact this)).mono ?_
    rintro e w' ⟨fm, rfl, hi, G⟩
    exact ⟨_, rfl, G, fm, rfl, hi⟩
  obtain ⟨_, -, -, ⟨fm, rfl, -⟩⟩ := hv
  try simp only [Act.put, List.setIfInBounds_toArray, List.set_cons_zero, List.set_cons_succ]
  refine Walk.done (fun W1 G1 F1 => ?_)
  have hs := F1 _ (List.mem_of_getElem? (i := 0) rfl)
  have hm := F1 _ (List.mem_of_getElem? (i := 1) rfl)
  clear F1
  have kc1 := kc.out W1 G1
  clear kc z0 z1 z2 z3 f0 f1 f2 f3 m4 m5 m6
  obtain ⟨z0, z1, z2, z3, f0, f1, f2, f3, m4, m5, m6⟩ := kc1
  refine wpAny_one 6 rfl (by kernel_rfl) (by rfl) (fun K hK => ?_)
  have hR5 := G1.of_drew.bk DZ2.out
  have fz5 := hR5.frozen
  obtain ⟨z50, z51, z52, z53⟩ := hR5.c4
  go_simp
  refine hK.out _ _ ?_
  clear hK K
  try simp only [Act.put, List.setIfInBounds_toArray, List.set_cons_zero, List.set_cons_succ]
  refine wpAny_end (by kernel_rfl) ?_
  have hR5 := G1.of_drew.bk DZ2.out
  obtain ⟨B5, F5⟩ := hR5.put4 (.slice fm.terms.A fm.terms.n fm.terms.c) (.bool fm.const.neg) (.slice fm.const.num.A fm.const.num.n fm.const.num.c) (.slice fm.const.den.A fm.const.den.n fm.const.den.c)
  have H5 := Lib.hid F5
  have D5 := Lib.hid B5
  obtain ⟨d0, d1, d2, d3⟩ := B5.c4
  clear F5 B5
  generalize (((W1.setCell ⟨z, 0, none⟩ (.slice fm.terms.A fm.terms.n fm.terms.c)).setCell ⟨z, 1, none⟩ (.bool fm.const.neg)).setCell ⟨z, 2, none⟩ (.slice fm.const.num.A fm.const.num.n fm.const.num.c)).setCell ⟨z, 3, none⟩ (.slice fm.const.den.A fm.const.den.n fm.const.den.c) = W7 at *
  have DZ7 := D5
  have D_r7 := Lib.hid (H5.out.bk (G1.of_drew.bk D_r2.out) hrz.out)
  have HM7 := Lib.hid (hm.is.tf' H5.out hR5 (by decide) (by decide))
  have HG7 := Lib.hid ((HG2.out.trans G1.of_drew).fr_at H5.out HNZ.out)
  clear H5 D5 hR5 hm hs G1 d0 d1 d2 d3 z0 z1 z2 z3 f0 f1 f2 f3 m0 m1 m2 m3 m4 m5 m6 HG
  go_wp2
  obtain ⟨B5, F5⟩ := D_r7.out.put4 (.slice fm.terms.A fm.terms.n fm.terms.c) (.bool fm.const.neg) (.slice fm.const.num.A fm.const.num.n fm.const.num.c) (.slice fm.const.den.A fm.const.den.n fm.const.den.c)
  have H5 := Lib.hid F5
  obtain ⟨d0, d1, d2, d3⟩ := B5.c4
  clear F5 B5
  obtain ⟨z0, z1, z2, z3⟩ := D_r7.out.c4
  have fz := D_r7.out.frozen
  obtain ⟨e0, e1, e2, e3⟩ := DZ7.out.c4
  rw [rounds_succ]
  go_wp2
  generalize (((W7.setCell ⟨r, 0, none⟩ (.slice fm.terms.A fm.terms.n fm.terms.c)).setCell ⟨r, 1, none⟩ (.bool fm.const.neg)).setCell ⟨r, 2, none⟩ (.slice fm.const.num.A fm.const.num.n fm.const.num.c)).setCell ⟨r, 3, none⟩ (.slice fm.const.den.A fm.const.den.n fm.const.den.c) = W5 at *
  (try simp only [Exit.inBlock, Exit.then])
  refine bodyPost_ret (by simp [results, Tryz.results94, go_sem, d0, d1, d2, d3]; try rfl) rfl ?_
  exact ⟨fm, rfl, HM7.out.tf' H5.out D_r7.out (by decide) (by decide), HG7.out.fr_at H5.out N_r.out⟩

end Go.Proofs.YtcmfepaffhnemaaGreatDoor

set_option linter.unusedVariables false
namespace Go.Proofs.YtcmfepaffhnemaaGreatDoor
open Go.RowKit

attribute [local go_sem] Oper.semAt_some

/-- The goal of the example. -/
abbrev goal0 (k : Q) : Fm := ⟨[(0, Q.one)], k⟩
/-- A constant of the goal that the example has. -/
structure Cst (k : Q) : Prop where
  ok : k.Ok
  sm : k.Sm
  sub : mrg (goal0 k) var0 Q.mone = ⟨[], k⟩
theorem cst_one : Cst Q.one := ⟨by decide, sm_one, by decide⟩
theorem cst_mone : Cst Q.mone := ⟨by decide, ⟨by decide, by decide⟩, by decide⟩
theorem goal0_ok {k : Q} (hk : k.Ok) (n : Nat) (hn : 1 ≤ n) : (goal0 k).Ok n := ⟨fun i s t hs ht => by (have := (List.getElem?_eq_some_iff.1 ht).1; simp at this), fun t ht => by rw [List.mem_singleton.1 ht]; exact ⟨Int.le_refl _, by show (0 : Int) < n; omega, by decide, by decide⟩, hk⟩
abbrev entV (p : Sv) : Value := .agg #[.slice none 0 0, .slice none 0 0, .int .i64 0, .int .i64 0, .bool false, .slice none 0 0, .slice none 0 0, .slice none 0 0, .bool false, .slice p.A p.n p.c]
set_option maxRecDepth 100000 in
set_option maxHeartbeats 4000000 in
theorem proves0_any (w : World) (q : Qv) (x : Qm) (f : Fv) (k : Q) (p : Sv) (hq : q.Is w x) (hx : x.Va) (hlo : x.lo[0]? = some Q.zero) (hf : f.Is w (goal0 k)) (hk : Cst k) (hp : Mults w p pf0) :
    Calls Tryz.prog 63 #[scV q, f.v, .slice p.A p.n p.c] w fun e w' => e = .returned (.bool (decide (0 ≤ k.sign))) ∧ Gr w w' := by
  obtain ⟨B1, B2, G⟩ := made2 w 130 43 (#[.int .i64 q.g.inputs, .slice q.g.units.A q.g.units.n q.g.units.c, .slice q.g.outs.A q.g.outs.n q.g.outs.c, .slice q.lo.A q.lo.n q.lo.c, .slice q.hi.A q.hi.n q.hi.c, .slice none 0 0, .slice q.goal.terms.A q.goal.terms.n q.goal.terms.c, .bool q.goal.const.neg, .slice q.goal.const.num.A q.goal.const.num.n q.goal.const.num.c, .slice q.goal.const.den.A q.goal.const.den.n q.goal.const.den.c, .slice none 0 0, .slice none 0 0]) (#[.slice f.terms.A f.terms.n f.terms.c, .bool f.const.neg, .slice f.const.num.A f.const.num.n f.const.num.c, .slice f.const.den.A f.const.den.n f.const.den.c])
  have HG := Lib.hid G
  have D_p0 := Lib.hid B1
  have D_f0 := Lib.hid B2
  clear G B1 B2
  have HQ := Lib.hid hq
  have HX := Lib.hid hx
  have HLO := Lib.hid hlo
  have HP := Lib.hid hp
  have HF := Lib.hid (hf.gr HG.out)
  have HK := Lib.hid hk
  clear hq hx hlo hp hf hk
  obtain ⟨a0, a1, a2, a3, a4, a5, a6, a7, a8, a9, a10, a11⟩ := D_p0.out.c12
  simp only [Rv.v, Fv.v] at *
  go_enter Tryz.func63, Tryz.ntmps63
  go_wp2_with fail
  generalize hW : (w.alloc (.cells #[.int .i64 q.g.inputs, .slice q.g.units.A q.g.units.n q.g.units.c, .slice q.g.outs.A q.g.outs.n q.g.outs.c, .slice q.lo.A q.lo.n q.lo.c, .slice q.hi.A q.hi.n q.hi.c, .slice none 0 0, .slice q.goal.terms.A q.goal.terms.n q.goal.terms.c, .bool q.goal.const.neg, .slice q.goal.const.num.A q.goal.const.num.n q.goal.const.num.c, .slice q.goal.const.den.A q.goal.const.den.n q.goal.const.den.c, .slice none 0 0, .slice none 0 0] 130)).alloc (.cells #[.slice f.terms.A f.terms.n f.terms.c, .bool f.const.neg, .slice f.const.num.A f.const.num.n f.const.num.c, .slice f.const.den.A f.const.den.n f.const.den.c] 43) = W at *
  clear hW
  have N_p0 : Hid (w.heap.size ≤ w.heap.size) := (by show w.heap.size ≤ w.heap.size; omega)
  have N_f0 : Hid (w.heap.size ≤ w.heap.size + 1) := (by show w.heap.size ≤ w.heap.size + 1; omega)
  generalize w.heap.size + 1 = f0 at *
  refine (sum0_any W q x p (HQ.out.gr HG.out) HX.out HLO.out (HP.out.gr HG.out)).mono ?_
  rintro e w1 ⟨r, rfl, hr, G1⟩
  obtain ⟨B1, GB⟩ := made1 w1 43 #[.slice r.terms.A r.terms.n r.terms.c, .bool r.const.neg, .slice r.const.num.A r.const.num.n r.const.num.c, .slice r.const.den.A r.const.den.n r.const.den.c]
  have DR := Lib.hid B1
  have HR := Lib.hid (hr.gr GB)
  replace HF := Lib.hid (HF.out.gr (G1.trans GB))
  replace D_f0 := Lib.hid (GB.bk (G1.bk D_f0.out))
  replace HG := Lib.hid ((HG.out.trans G1).trans GB)
  obtain ⟨b0, b1, b2, b3⟩ := D_f0.out.c4
  clear hr B1 GB a0 a1 a2 a3 a4 a5 a6 a7 a8 a9 a10 a11 D_p0
  go_wp2_with fail
  refine (lvalid_any _ f (goal0 k) 9223372036854775807 HF.out (goal0_ok HK.out.ok _ (by decide)) (fun t ht => by rw [List.mem_singleton.1 ht]; exact lo_one) HK.out.sm.lo).mono ?_
  rintro e w2 ⟨rfl, G2⟩
  replace HF := Lib.hid (HF.out.gr G2)
  replace HR := Lib.hid (HR.out.gr G2)
  replace D_f0 := Lib.hid (G2.bk D_f0.out)
  replace DR := Lib.hid (G2.bk DR.out)
  replace HG := Lib.hid (HG.out.trans G2)
  clear G2 G1 b0 b1 b2 b3
  generalize w1.heap.size = rb at *
  obtain ⟨b0, b1, b2, b3⟩ := D_f0.out.c4
  obtain ⟨r0, r1, r2, r3⟩ := DR.out.c4
  go_wp2_with fail
  have H3 := lsub_any w2 f r (goal0 k) var0 HF.out HR.out (fun t ht => by rw [List.mem_singleton.1 ht]; exact lo_one) var0_lo HK.out.sm.lo lo_zero (by show 1 + 1 ≤ 1000000; decide)
  rw [HK.out.sub] at H3
  refine H3.mono ?_
  rintro e w3 ⟨s, rfl, hs, G3⟩
  have hn : 0 = s.terms.n := hs.terms.len
  obtain ⟨⟨sA, sn, sc⟩, sk⟩ := s
  simp only at hn
  subst hn
  obtain ⟨B1, GB⟩ := made1 w3 43 #[.slice sA 0 sc, .bool sk.neg, .slice sk.num.A sk.num.n sk.num.c, .slice sk.den.A sk.den.n sk.den.c]
  have HS := Lib.hid (hs.const.gr GB)
  replace HG := Lib.hid ((HG.out.trans G3).trans GB)
  obtain ⟨s0, s1, s2, s3⟩ := B1.c4
  clear hs G3 GB B1 H3 b0 b1 b2 b3 r0 r1 r2 r3
  go_wp2_with fail
  have H4 := Lib.hid (sign_any _ sk k HS.out (Nat.le_trans HK.out.sm.lo.num (by decide)))
  obtain ⟨sg, hsg⟩ : ∃ sg, sg = k.sign := ⟨_, rfl⟩
  rw [← hsg] at H4
  have HSG := Lib.hid hsg
  clear hsg
  refine H4.out.mono ?_
  rintro e w4 ⟨rfl, G4⟩
  replace HG := Lib.hid (HG.out.trans G4)
  clear G4 H4 s0 s1 s2 s3
  go_wp2
  go_ret
  rw [← HSG.out]
  exact ⟨rfl, HG.out⟩

set_option maxRecDepth 100000 in
set_option maxHeartbeats 4000000 in
theorem scope0_any (w : World) (q : Qv) (x : Qm) (hq : q.Is w x) (hx : x.Va) :
    Calls Tryz.prog 61 #[scV q] w fun e w' => e = .returned (.bool true) ∧ Gr w w' := by
  obtain ⟨B1, G⟩ := made1 w 130 (#[.int .i64 q.g.inputs, .slice q.g.units.A q.g.units.n q.g.units.c, .slice q.g.outs.A q.g.outs.n q.g.outs.c, .slice q.lo.A q.lo.n q.lo.c, .slice q.hi.A q.hi.n q.hi.c, .slice none 0 0, .slice q.goal.terms.A q.goal.terms.n q.goal.terms.c, .bool q.goal.const.neg, .slice q.goal.const.num.A q.goal.const.num.n q.goal.const.num.c, .slice q.goal.const.den.A q.goal.const.den.n q.goal.const.den.c, .slice none 0 0, .slice none 0 0])
  have HG := Lib.hid G
  have D_p0 := Lib.hid B1
  clear G B1
  have HQ := Lib.hid hq
  have HX := Lib.hid hx
  clear hq hx
  obtain ⟨a0, a1, a2, a3, a4, a5, a6, a7, a8, a9, a10, a11⟩ := D_p0.out.c12
  go_enter Tryz.func61, Tryz.ntmps61
  go_wp2_with fail
  generalize hW : w.alloc (.cells #[.int .i64 q.g.inputs, .slice q.g.units.A q.g.units.n q.g.units.c, .slice q.g.outs.A q.g.outs.n q.g.outs.c, .slice q.lo.A q.lo.n q.lo.c, .slice q.hi.A q.hi.n q.hi.c, .slice none 0 0, .slice q.goal.terms.A q.goal.terms.n q.goal.terms.c, .bool q.goal.const.neg, .slice q.goal.const.num.A q.goal.const.num.n q.goal.const.num.c, .slice q.goal.const.den.A q.goal.const.den.n q.goal.const.den.c, .slice none 0 0, .slice none 0 0] 130) = W at *
  clear hW
  have N_p0 : Hid (w.heap.size ≤ w.heap.size) := (by show w.heap.size ≤ w.heap.size; omega)
  refine (qvalid_any W ⟨q.g, q.lo, q.hi, Sv.none, q.goal⟩ x (HQ.out.gr HG.out).nil HX.out).mono ?_
  rintro e w1 ⟨rfl, G1⟩
  replace D_p0 := Lib.hid (G1.bk D_p0.out)
  replace HG := Lib.hid (HG.out.trans G1)
  clear G1 a0 a1 a2 a3 a4 a5 a6 a7 a8 a9 a10 a11
  obtain ⟨a0, a1, a2, a3, a4, a5, a6, a7, a8, a9, a10, a11⟩ := D_p0.out.c12
  go_wp2_with fail
  refine (conD0 w1 _).mono ?_
  rintro e w2 ⟨rfl, G1⟩
  replace D_p0 := Lib.hid (G1.bk D_p0.out)
  replace HG := Lib.hid (HG.out.trans G1)
  clear G1 a0 a1 a2 a3 a4 a5 a6 a7 a8 a9 a10 a11
  obtain ⟨a0, a1, a2, a3, a4, a5, a6, a7, a8, a9, a10, a11⟩ := D_p0.out.c12
  go_wp2_with fail
  go_rounds 1
  go_ret
  exact ⟨rfl, HG.out⟩

set_option maxRecDepth 100000 in
set_option maxHeartbeats 4000000 in
theorem applies0_any (w : World) (q : Qv) (x : Qm) (k : Q) (p : Sv) (hq : q.Is w x) (hx : x.Va) (hlo : x.lo[0]? = some Q.zero) (hg : x.goal = goal0 k) (hk : Cst k) (hp : Mults w p pf0) :
    Calls Tryz.prog 36 #[.agg #[.int .i64 q.g.inputs, .slice q.g.units.A q.g.units.n q.g.units.c, .slice q.g.outs.A q.g.outs.n q.g.outs.c, .slice q.lo.A q.lo.n q.lo.c, .slice q.hi.A q.hi.n q.hi.c, .slice none 0 0, .slice q.goal.terms.A q.goal.terms.n q.goal.terms.c, .bool q.goal.const.neg, .slice q.goal.const.num.A q.goal.const.num.n q.goal.const.num.c, .slice q.goal.const.den.A q.goal.const.den.n q.goal.const.den.c], entV p] w fun e w' => e = .returned (.bool (decide (0 ≤ k.sign))) ∧ Gr w w' := by
  obtain ⟨B1, B2, G⟩ := made2 w 45 90 (#[.int .i64 q.g.inputs, .slice q.g.units.A q.g.units.n q.g.units.c, .slice q.g.outs.A q.g.outs.n q.g.outs.c, .slice q.lo.A q.lo.n q.lo.c, .slice q.hi.A q.hi.n q.hi.c, .slice none 0 0, .slice q.goal.terms.A q.goal.terms.n q.goal.terms.c, .bool q.goal.const.neg, .slice q.goal.const.num.A q.goal.const.num.n q.goal.const.num.c, .slice q.goal.const.den.A q.goal.const.den.n q.goal.const.den.c]) (#[.slice none 0 0, .slice none 0 0, .int .i64 0, .int .i64 0, .bool false, .slice none 0 0, .slice none 0 0, .slice none 0 0, .bool false, .slice p.A p.n p.c])
  have HG := Lib.hid G
  have D_p0 := Lib.hid B1
  have D_x0 := Lib.hid B2
  clear G B1 B2
  have HQ := Lib.hid hq
  have HX := Lib.hid hx
  have HLO := Lib.hid hlo
  have HGO := Lib.hid hg
  have HK := Lib.hid hk
  have HP := Lib.hid hp
  clear hq hx hlo hg hk hp
  go_enter Tryz.func36, Tryz.ntmps36
  go_upto_region 1 with fail
  generalize hW : (w.alloc (.cells #[.int .i64 q.g.inputs, .slice q.g.units.A q.g.units.n q.g.units.c, .slice q.g.outs.A q.g.outs.n q.g.outs.c, .slice q.lo.A q.lo.n q.lo.c, .slice q.hi.A q.hi.n q.hi.c, .slice none 0 0, .slice q.goal.terms.A q.goal.terms.n q.goal.terms.c, .bool q.goal.const.neg, .slice q.goal.const.num.A q.goal.const.num.n q.goal.const.num.c, .slice q.goal.const.den.A q.goal.const.den.n q.goal.const.den.c] 45)).alloc (.cells #[.slice none 0 0, .slice none 0 0, .int .i64 0, .int .i64 0, .bool false, .slice none 0 0, .slice none 0 0, .slice none 0 0, .bool false, .slice p.A p.n p.c] 90) = W at *
  clear hW
  have N_p0 : Hid (w.heap.size ≤ w.heap.size) := (by show w.heap.size ≤ w.heap.size; omega)
  have N_x0 : Hid (w.heap.size ≤ w.heap.size + 1) := (by show w.heap.size ≤ w.heap.size + 1; omega)
  generalize w.heap.size + 1 = x0 at *
  obtain ⟨B1, GB⟩ := made1 W 130 #[.int .i64 q.g.inputs, .slice q.g.units.A q.g.units.n q.g.units.c, .slice q.g.outs.A q.g.outs.n q.g.outs.c, .slice q.lo.A q.lo.n q.lo.c, .slice q.hi.A q.hi.n q.hi.c, .slice none 0 0, .slice q.goal.terms.A q.goal.terms.n q.goal.terms.c, .bool q.goal.const.neg, .slice q.goal.const.num.A q.goal.const.num.n q.goal.const.num.c, .slice q.goal.const.den.A q.goal.const.den.n q.goal.const.den.c, .slice none 0 0, .slice none 0 0]
  have DS := Lib.hid B1
  obtain ⟨q0, q1, q2, q3, q4, q5, q6, q7, q8, q9⟩ := D_p0.out.c10
  obtain ⟨e0, e1, e2, e3, e4, e5, e6, e7, e8, e9⟩ := D_x0.out.c10
  replace D_p0 := Lib.hid (GB.bk D_p0.out)
  replace D_x0 := Lib.hid (GB.bk D_x0.out)
  have HG1 := Lib.hid (HG.out.trans GB)
  clear B1 GB HG
  go_wp2_with fail
  have HG := HG1
  refine (scope0_any _ q x (HQ.out.gr HG1.out) HX.out).mono ?_
  rintro e w1 ⟨rfl, G1⟩
  replace HG := Lib.hid (HG.out.trans G1)
  replace D_p0 := Lib.hid (G1.bk D_p0.out)
  replace D_x0 := Lib.hid (G1.bk D_x0.out)
  replace DS := Lib.hid (G1.bk DS.out)
  clear G1 HG1 q0 q1 q2 q3 q4 q5 q6 q7 q8 q9 e0 e1 e2 e3 e4 e5 e6 e7 e8 e9
  generalize W.heap.size = sb at *
  obtain ⟨q0, q1, q2, q3, q4, q5, q6, q7, q8, q9⟩ := D_p0.out.c10
  obtain ⟨e0, e1, e2, e3, e4, e5, e6, e7, e8, e9⟩ := D_x0.out.c10
  obtain ⟨a0, a1, a2, a3, a4, a5, a6, a7, a8, a9, a10, a11⟩ := DS.out.c12
  go_wp2_with fail
  refine (proves0_any w1 q x q.goal k p (HQ.out.gr HG.out) HX.out HLO.out (by have := (HQ.out.gr HG.out).goal; rw [HGO.out] at this; exact this) HK.out (HP.out.gr HG.out)).mono ?_
  rintro e w2 ⟨rfl, G1⟩
  replace HG := Lib.hid (HG.out.trans G1)
  clear G1 q0 q1 q2 q3 q4 q5 q6 q7 q8 q9 e0 e1 e2 e3 e4 e5 e6 e7 e8 e9 a0 a1 a2 a3 a4 a5 a6 a7 a8 a9 a10 a11
  go_wp2
  go_ret
  exact ⟨rfl, HG.out⟩

end Go.Proofs.YtcmfepaffhnemaaGreatDoor
