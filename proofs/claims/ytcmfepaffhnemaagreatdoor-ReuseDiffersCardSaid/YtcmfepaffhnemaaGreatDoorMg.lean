/- Forms and graphs, a feed of bytes. -/
import Derived.Test.YtcmfepaffhnemaaGreatDoorMe
import Derived.Test.YtcmfepaffhnemaaGreatDoorMf
import Derived.Deep.RegionHeld3
import Derived.Test.YtcmfepaffhnemaaGreatDoorMc
import Derived.Test.YtcmfepaffhnemaaGreatDoorMd
set_option linter.unusedSimpArgs false
set_option linter.unusedVariables false
namespace Go.Proofs.YtcmfepaffhnemaaGreatDoor
open Go.RowKit

attribute [local go_sem] Oper.semAt_some

theorem lo_one : Q.one.Lo := Q.Sm.lo ⟨by decide, by decide⟩
theorem lo_mone : Q.mone.Lo := Q.Sm.lo ⟨by decide, by decide⟩
theorem lo_zero : Q.zero.Lo := Q.Sm.lo ⟨by decide, by decide⟩
/-- The form 0. -/
abbrev Fm.zero : Fm := ⟨[], Q.zero⟩
abbrev Fv.nil : Fv := ⟨Sv.none, Rv.nil⟩
theorem Fv.Is.zero (w : World) : Fv.nil.Is w Fm.zero := ⟨Rows.empty, Rv.Is.zero w⟩
set_option maxRecDepth 100000 in
set_option maxHeartbeats 4000000 in
theorem ladd_any (w : World) (f g : Fv) (x y : Fm) (hf : f.Is w x) (hg : g.Is w y) (hx : ∀ t ∈ x.terms, t.2.Lo) (hy : ∀ t ∈ y.terms, t.2.Lo) (hk : x.const.Lo) (hl : y.const.Lo) (hn : x.terms.length + y.terms.length ≤ 1000000) :
    Calls Tryz.prog 131 #[f.v, g.v] w fun e w' => ∃ r : Fv, e = .returned r.v ∧ r.Is w' (mrg x y Q.one) ∧ Gr w w' := by
  obtain ⟨B1, B2, B3, G⟩ := made3 w 43 43 43 (#[.slice f.terms.A f.terms.n f.terms.c, .bool f.const.neg, .slice f.const.num.A f.const.num.n f.const.num.c, .slice f.const.den.A f.const.den.n f.const.den.c]) (#[.slice g.terms.A g.terms.n g.terms.c, .bool g.const.neg, .slice g.const.num.A g.const.num.n g.const.num.c, .slice g.const.den.A g.const.den.n g.const.den.c]) (#[.slice none 0 0, .bool false, .slice none 0 0, .slice none 0 0])
  have HG := Lib.hid G
  have D_p := Lib.hid B1
  have D_g0 := Lib.hid B2
  have D_r := Lib.hid B3
  clear G B1 B2 B3
  have HF := Lib.hid hf
  have HG0 := Lib.hid hg
  have LX := Lib.hid hx
  have LY := Lib.hid hy
  have LK := Lib.hid hk
  have LL := Lib.hid hl
  have LN := Lib.hid hn
  clear hf hg hx hy hk hl hn
  simp only [Rv.v, Fv.v] at *
  go_enter Tryz.func131, Tryz.ntmps131
  go_upto_region 1 with fail
  generalize hW : ((w.alloc (.cells #[.slice f.terms.A f.terms.n f.terms.c, .bool f.const.neg, .slice f.const.num.A f.const.num.n f.const.num.c, .slice f.const.den.A f.const.den.n f.const.den.c] 43)).alloc (.cells #[.slice g.terms.A g.terms.n g.terms.c, .bool g.const.neg, .slice g.const.num.A g.const.num.n g.const.num.c, .slice g.const.den.A g.const.den.n g.const.den.c] 43)).alloc (.cells #[.slice none 0 0, .bool false, .slice none 0 0, .slice none 0 0] 43) = W at *
  clear hW
  have N_p : Hid (w.heap.size ≤ w.heap.size) := (by show w.heap.size ≤ w.heap.size; omega)
  have N_g0 : Hid (w.heap.size ≤ w.heap.size + 1) := (by show w.heap.size ≤ w.heap.size + 1; omega)
  have N_r : Hid (w.heap.size ≤ w.heap.size + 1 + 1) := (by show w.heap.size ≤ w.heap.size + 1 + 1; omega)
  generalize w.heap.size + 1 + 1 = r at *
  generalize w.heap.size + 1 = g0 at *
  obtain ⟨a0, a1, a2, a3⟩ := D_p.out.c4
  obtain ⟨b0, b1, b2, b3⟩ := D_g0.out.c4
  refine wp_region_any (by kernel_rfl) ?_
  have kc := Lib.hid (fun (W' : World) (G : Gr W.drew W') => And.intro (G.keep a0) (And.intro (G.keep a1) (And.intro (G.keep a2) (And.intro (G.keep a3) (And.intro (G.keep b0) (And.intro (G.keep b1) (And.intro (G.keep b2) (G.keep b3))))))))
  have hst : ∀ p ∈ ([(2, Rv.At (Q.one)), (3, Fv.At (mrg x y Q.one))] : List (Nat × (Value → World → Prop))), ∀ (u : Value) (wA0 wB0 : World), Gr W.drew wA0 → Gr wA0 wB0 → p.2 u wA0 → p.2 u wB0 := by
    intro p hp u wA0 wB0 h0 G h
    simp only [List.mem_cons, List.not_mem_nil, or_false] at hp
    rcases hp with rfl | rfl
    · exact Rv.At.gr h G
    · exact Fv.At.gr h G
  refine wpAny_walk (m := 1) (last := #[true, true, true, true, false]) [0, 1, 2, 3] [(2, Rv.At (Q.one)), (3, Fv.At (mrg x y Q.one))] (by kernel_rfl) (by decide) (by kernel_rfl) hst ?_
  clear hst
  refine Walk.take (v := ?wv1) rfl rfl (Or.inl ⟨by rfl, ?wy1⟩) ?wr1
  case wy1 => (intro w' hw'; obtain ⟨a0, a1, a2, a3, b0, b1, b2, b3⟩ := kc.out w' hw'; go_simp; try with_reducible rfl)
  try simp only [Act.put, List.setIfInBounds_toArray, List.set_cons_zero, List.set_cons_succ]
  refine Walk.take (v := ?wv2) rfl rfl (Or.inl ⟨by rfl, ?wy2⟩) ?wr2
  case wy2 => (intro w' hw'; obtain ⟨a0, a1, a2, a3, b0, b1, b2, b3⟩ := kc.out w' hw'; go_simp; try with_reducible rfl)
  try simp only [Act.put, List.setIfInBounds_toArray, List.set_cons_zero, List.set_cons_succ]
  refine Walk.do rfl rfl (by rfl) (fun W1 G1 F1 => ?ws3) (fun v hv => ?wr3)
  case ws3 =>
    obtain ⟨a0, a1, a2, a3, b0, b1, b2, b3⟩ := kc.out W1 G1
    refine doesAt_enter (f := 128) (args := #[.int .i64 1]) (by go_simp; try (first | with_reducible rfl | rfl)) ?_
    refine (rof_any W1 1 (by decide) (by decide)).mono ?_
    rintro e w' ⟨c, rfl, hi, G⟩
    exact ⟨_, rfl, G, c, rfl, hi⟩
  obtain ⟨_, -, -, ⟨c, rfl, -⟩⟩ := hv
  try simp only [Act.put, List.setIfInBounds_toArray, List.set_cons_zero, List.set_cons_succ]
  refine Walk.do rfl rfl (by rfl) (fun W1 G1 F1 => ?ws4) (fun v hv => ?wr4)
  case ws4 =>
    obtain ⟨a0, a1, a2, a3, b0, b1, b2, b3⟩ := kc.out W1 G1
    have hc := F1 _ (List.mem_of_getElem? (i := 0) rfl) (List.contains_iff_mem.1 (by kernel_rfl))
    have hc := Rv.At.is hc
    refine doesAt_enter (f := 132) (args := #[.agg #[.slice f.terms.A f.terms.n f.terms.c, .bool f.const.neg, .slice f.const.num.A f.const.num.n f.const.num.c, .slice f.const.den.A f.const.den.n f.const.den.c], .agg #[.slice g.terms.A g.terms.n g.terms.c, .bool g.const.neg, .slice g.const.num.A g.const.num.n g.const.num.c, .slice g.const.den.A g.const.den.n g.const.den.c], .agg #[.bool c.neg, .slice c.num.A c.num.n c.num.c, .slice c.den.A c.den.n c.den.c]]) (by go_simp; try (first | with_reducible rfl | rfl)) ?_
    refine (merge_any W1 f g x y c Q.one (HF.out.gr (HG.out.trans G1.of_drew)) (HG0.out.gr (HG.out.trans G1.of_drew)) hc LX.out LY.out LK.out LL.out lo_one LN.out).mono ?_
    rintro e w' ⟨i, rfl, hi, G⟩
    exact ⟨_, rfl, G, i, rfl, hi⟩
  obtain ⟨_, -, -, ⟨i, rfl, -⟩⟩ := hv
  try simp only [Act.put, List.setIfInBounds_toArray, List.set_cons_zero, List.set_cons_succ]
  refine Walk.done (fun W1 G1 F1 => ?_)
  have hc := F1 _ (List.mem_of_getElem? (i := 0) rfl)
  have hi := F1 _ (List.mem_of_getElem? (i := 1) rfl)
  clear F1
  have kc1 := kc.out W1 G1
  clear kc a0 a1 a2 a3 b0 b1 b2 b3
  obtain ⟨a0, a1, a2, a3, b0, b1, b2, b3⟩ := kc1
  have hR5 := G1.of_drew.bk D_r.out
  refine wpAny_one 4 rfl (by kernel_rfl) (by rfl) (fun K hK => ?_)
  have fz5 := hR5.frozen
  obtain ⟨z50, z51, z52, z53⟩ := hR5.c4
  go_simp
  refine hK.out _ _ ?_
  clear hK K
  try simp only [Act.put, List.setIfInBounds_toArray, List.set_cons_zero, List.set_cons_succ]
  refine wpAny_end (by kernel_rfl) ?_
  obtain ⟨B5, F5⟩ := hR5.put4 (.slice i.terms.A i.terms.n i.terms.c) (.bool i.const.neg) (.slice i.const.num.A i.const.num.n i.const.num.c) (.slice i.const.den.A i.const.den.n i.const.den.c)
  have H5 := Lib.hid F5
  have D5 := Lib.hid B5
  obtain ⟨d0, d1, d2, d3⟩ := B5.c4
  clear F5 B5
  generalize (((W1.setCell ⟨r, 0, none⟩ (.slice i.terms.A i.terms.n i.terms.c)).setCell ⟨r, 1, none⟩ (.bool i.const.neg)).setCell ⟨r, 2, none⟩ (.slice i.const.num.A i.const.num.n i.const.num.c)).setCell ⟨r, 3, none⟩ (.slice i.const.den.A i.const.den.n i.const.den.c) = W5 at *
  go_wp2
  (try simp only [Exit.inBlock, Exit.then])
  refine bodyPost_ret (by simp [results, Tryz.results131, go_sem, d0, d1, d2, d3]; try rfl) rfl ?_
  exact ⟨i, rfl, hi.is.tf' H5.out hR5 (by decide) (by decide), (HG.out.trans G1.of_drew).fr_at H5.out N_r.out⟩

set_option maxRecDepth 100000 in
set_option maxHeartbeats 4000000 in
theorem lsub_any (w : World) (f g : Fv) (x y : Fm) (hf : f.Is w x) (hg : g.Is w y) (hx : ∀ t ∈ x.terms, t.2.Lo) (hy : ∀ t ∈ y.terms, t.2.Lo) (hk : x.const.Lo) (hl : y.const.Lo) (hn : x.terms.length + y.terms.length ≤ 1000000) :
    Calls Tryz.prog 95 #[f.v, g.v] w fun e w' => ∃ r : Fv, e = .returned r.v ∧ r.Is w' (mrg x y Q.mone) ∧ Gr w w' := by
  obtain ⟨B1, B2, B3, G⟩ := made3 w 43 43 43 (#[.slice f.terms.A f.terms.n f.terms.c, .bool f.const.neg, .slice f.const.num.A f.const.num.n f.const.num.c, .slice f.const.den.A f.const.den.n f.const.den.c]) (#[.slice g.terms.A g.terms.n g.terms.c, .bool g.const.neg, .slice g.const.num.A g.const.num.n g.const.num.c, .slice g.const.den.A g.const.den.n g.const.den.c]) (#[.slice none 0 0, .bool false, .slice none 0 0, .slice none 0 0])
  have HG := Lib.hid G
  have D_p := Lib.hid B1
  have D_g0 := Lib.hid B2
  have D_r := Lib.hid B3
  clear G B1 B2 B3
  have HF := Lib.hid hf
  have HG0 := Lib.hid hg
  have LX := Lib.hid hx
  have LY := Lib.hid hy
  have LK := Lib.hid hk
  have LL := Lib.hid hl
  have LN := Lib.hid hn
  clear hf hg hx hy hk hl hn
  simp only [Rv.v, Fv.v] at *
  go_enter Tryz.func95, Tryz.ntmps95
  go_upto_region 1 with fail
  generalize hW : ((w.alloc (.cells #[.slice f.terms.A f.terms.n f.terms.c, .bool f.const.neg, .slice f.const.num.A f.const.num.n f.const.num.c, .slice f.const.den.A f.const.den.n f.const.den.c] 43)).alloc (.cells #[.slice g.terms.A g.terms.n g.terms.c, .bool g.const.neg, .slice g.const.num.A g.const.num.n g.const.num.c, .slice g.const.den.A g.const.den.n g.const.den.c] 43)).alloc (.cells #[.slice none 0 0, .bool false, .slice none 0 0, .slice none 0 0] 43) = W at *
  clear hW
  have N_p : Hid (w.heap.size ≤ w.heap.size) := (by show w.heap.size ≤ w.heap.size; omega)
  have N_g0 : Hid (w.heap.size ≤ w.heap.size + 1) := (by show w.heap.size ≤ w.heap.size + 1; omega)
  have N_r : Hid (w.heap.size ≤ w.heap.size + 1 + 1) := (by show w.heap.size ≤ w.heap.size + 1 + 1; omega)
  generalize w.heap.size + 1 + 1 = r at *
  generalize w.heap.size + 1 = g0 at *
  obtain ⟨a0, a1, a2, a3⟩ := D_p.out.c4
  obtain ⟨b0, b1, b2, b3⟩ := D_g0.out.c4
  refine wp_region_any (by kernel_rfl) ?_
  have kc := Lib.hid (fun (W' : World) (G : Gr W.drew W') => And.intro (G.keep a0) (And.intro (G.keep a1) (And.intro (G.keep a2) (And.intro (G.keep a3) (And.intro (G.keep b0) (And.intro (G.keep b1) (And.intro (G.keep b2) (G.keep b3))))))))
  have hst : ∀ p ∈ ([(2, Rv.At (Q.mone)), (3, Fv.At (mrg x y Q.mone))] : List (Nat × (Value → World → Prop))), ∀ (u : Value) (wA0 wB0 : World), Gr W.drew wA0 → Gr wA0 wB0 → p.2 u wA0 → p.2 u wB0 := by
    intro p hp u wA0 wB0 h0 G h
    simp only [List.mem_cons, List.not_mem_nil, or_false] at hp
    rcases hp with rfl | rfl
    · exact Rv.At.gr h G
    · exact Fv.At.gr h G
  refine wpAny_walk (m := 1) (last := #[true, true, true, true, false]) [0, 1, 2, 3] [(2, Rv.At (Q.mone)), (3, Fv.At (mrg x y Q.mone))] (by kernel_rfl) (by decide) (by kernel_rfl) hst ?_
  clear hst
  refine Walk.take (v := ?wv5) rfl rfl (Or.inl ⟨by rfl, ?wy5⟩) ?wr5
  case wy5 => (intro w' hw'; obtain ⟨a0, a1, a2, a3, b0, b1, b2, b3⟩ := kc.out w' hw'; go_simp; try with_reducible rfl)
  try simp only [Act.put, List.setIfInBounds_toArray, List.set_cons_zero, List.set_cons_succ]
  refine Walk.take (v := ?wv6) rfl rfl (Or.inl ⟨by rfl, ?wy6⟩) ?wr6
  case wy6 => (intro w' hw'; obtain ⟨a0, a1, a2, a3, b0, b1, b2, b3⟩ := kc.out w' hw'; go_simp; try with_reducible rfl)
  try simp only [Act.put, List.setIfInBounds_toArray, List.set_cons_zero, List.set_cons_succ]
  refine Walk.do rfl rfl (by rfl) (fun W1 G1 F1 => ?ws7) (fun v hv => ?wr7)
  case ws7 =>
    obtain ⟨a0, a1, a2, a3, b0, b1, b2, b3⟩ := kc.out W1 G1
    refine doesAt_enter (f := 128) (args := #[.int .i64 (-1)]) (by go_simp; try (first | with_reducible rfl | rfl)) ?_
    refine (rof_any W1 (-1) (by decide) (by decide)).mono ?_
    rintro e w' ⟨c, rfl, hi, G⟩
    exact ⟨_, rfl, G, c, rfl, hi⟩
  obtain ⟨_, -, -, ⟨c, rfl, -⟩⟩ := hv
  try simp only [Act.put, List.setIfInBounds_toArray, List.set_cons_zero, List.set_cons_succ]
  refine Walk.do rfl rfl (by rfl) (fun W1 G1 F1 => ?ws8) (fun v hv => ?wr8)
  case ws8 =>
    obtain ⟨a0, a1, a2, a3, b0, b1, b2, b3⟩ := kc.out W1 G1
    have hc := F1 _ (List.mem_of_getElem? (i := 0) rfl) (List.contains_iff_mem.1 (by kernel_rfl))
    have hc := Rv.At.is hc
    refine doesAt_enter (f := 132) (args := #[.agg #[.slice f.terms.A f.terms.n f.terms.c, .bool f.const.neg, .slice f.const.num.A f.const.num.n f.const.num.c, .slice f.const.den.A f.const.den.n f.const.den.c], .agg #[.slice g.terms.A g.terms.n g.terms.c, .bool g.const.neg, .slice g.const.num.A g.const.num.n g.const.num.c, .slice g.const.den.A g.const.den.n g.const.den.c], .agg #[.bool c.neg, .slice c.num.A c.num.n c.num.c, .slice c.den.A c.den.n c.den.c]]) (by go_simp; try (first | with_reducible rfl | rfl)) ?_
    refine (merge_any W1 f g x y c Q.mone (HF.out.gr (HG.out.trans G1.of_drew)) (HG0.out.gr (HG.out.trans G1.of_drew)) hc LX.out LY.out LK.out LL.out lo_mone LN.out).mono ?_
    rintro e w' ⟨i, rfl, hi, G⟩
    exact ⟨_, rfl, G, i, rfl, hi⟩
  obtain ⟨_, -, -, ⟨i, rfl, -⟩⟩ := hv
  try simp only [Act.put, List.setIfInBounds_toArray, List.set_cons_zero, List.set_cons_succ]
  refine Walk.done (fun W1 G1 F1 => ?_)
  have hc := F1 _ (List.mem_of_getElem? (i := 0) rfl)
  have hi := F1 _ (List.mem_of_getElem? (i := 1) rfl)
  clear F1
  have kc1 := kc.out W1 G1
  clear kc a0 a1 a2 a3 b0 b1 b2 b3
  obtain ⟨a0, a1, a2, a3, b0, b1, b2, b3⟩ := kc1
  have hR5 := G1.of_drew.bk D_r.out
  refine wpAny_one 4 rfl (by kernel_rfl) (by rfl) (fun K hK => ?_)
  have fz5 := hR5.frozen
  obtain ⟨z50, z51, z52, z53⟩ := hR5.c4
  go_simp
  refine hK.out _ _ ?_
  clear hK K
  try simp only [Act.put, List.setIfInBounds_toArray, List.set_cons_zero, List.set_cons_succ]
  refine wpAny_end (by kernel_rfl) ?_
  obtain ⟨B5, F5⟩ := hR5.put4 (.slice i.terms.A i.terms.n i.terms.c) (.bool i.const.neg) (.slice i.const.num.A i.const.num.n i.const.num.c) (.slice i.const.den.A i.const.den.n i.const.den.c)
  have H5 := Lib.hid F5
  have D5 := Lib.hid B5
  obtain ⟨d0, d1, d2, d3⟩ := B5.c4
  clear F5 B5
  generalize (((W1.setCell ⟨r, 0, none⟩ (.slice i.terms.A i.terms.n i.terms.c)).setCell ⟨r, 1, none⟩ (.bool i.const.neg)).setCell ⟨r, 2, none⟩ (.slice i.const.num.A i.const.num.n i.const.num.c)).setCell ⟨r, 3, none⟩ (.slice i.const.den.A i.const.den.n i.const.den.c) = W5 at *
  go_wp2
  (try simp only [Exit.inBlock, Exit.then])
  refine bodyPost_ret (by simp [results, Tryz.results95, go_sem, d0, d1, d2, d3]; try rfl) rfl ?_
  exact ⟨i, rfl, hi.is.tf' H5.out hR5 (by decide) (by decide), (HG.out.trans G1.of_drew).fr_at H5.out N_r.out⟩

set_option maxRecDepth 100000 in
set_option maxHeartbeats 4000000 in
theorem lscale_any (w : World) (f : Fv) (c : Rv) (x : Fm) (q : Q) (hf : f.Is w x) (hc : c.Is w q) (hx : ∀ t ∈ x.terms, t.2.Lo) (hk : x.const.Lo) (hq : q.Lo) (hn : x.terms.length ≤ 1000000) :
    Calls Tryz.prog 127 #[f.v, c.v] w fun e w' => ∃ r : Fv, e = .returned r.v ∧ r.Is w' (mrg Fm.zero x q) ∧ Gr w w' := by
  obtain ⟨B1, B2, B3, G⟩ := made3 w 43 41 43 (#[.slice f.terms.A f.terms.n f.terms.c, .bool f.const.neg, .slice f.const.num.A f.const.num.n f.const.num.c, .slice f.const.den.A f.const.den.n f.const.den.c]) (#[.bool c.neg, .slice c.num.A c.num.n c.num.c, .slice c.den.A c.den.n c.den.c]) (#[.slice none 0 0, .bool false, .slice none 0 0, .slice none 0 0])
  have HG := Lib.hid G
  have D_p := Lib.hid B1
  have D_c0 := Lib.hid B2
  have D_r := Lib.hid B3
  clear G B1 B2 B3
  have HF := Lib.hid hf
  have HC := Lib.hid hc
  have LX := Lib.hid hx
  have LK := Lib.hid hk
  have LQ := Lib.hid hq
  have LN := Lib.hid hn
  clear hf hc hx hk hq hn
  obtain ⟨a0, a1, a2, a3⟩ := D_p.out.c4
  obtain ⟨b0, b1, b2⟩ := D_c0.out.c3
  simp only [Rv.v, Fv.v] at *
  go_enter Tryz.func127, Tryz.ntmps127
  go_wp2_with fail
  generalize hW : ((w.alloc (.cells #[.slice f.terms.A f.terms.n f.terms.c, .bool f.const.neg, .slice f.const.num.A f.const.num.n f.const.num.c, .slice f.const.den.A f.const.den.n f.const.den.c] 43)).alloc (.cells #[.bool c.neg, .slice c.num.A c.num.n c.num.c, .slice c.den.A c.den.n c.den.c] 41)).alloc (.cells #[.slice none 0 0, .bool false, .slice none 0 0, .slice none 0 0] 43) = W at *
  clear hW
  have N_p : Hid (w.heap.size ≤ w.heap.size) := (by show w.heap.size ≤ w.heap.size; omega)
  have N_c0 : Hid (w.heap.size ≤ w.heap.size + 1) := (by show w.heap.size ≤ w.heap.size + 1; omega)
  have N_r : Hid (w.heap.size ≤ w.heap.size + 1 + 1) := (by show w.heap.size ≤ w.heap.size + 1 + 1; omega)
  generalize w.heap.size + 1 + 1 = r at *
  generalize w.heap.size + 1 = c0 at *
  refine (merge_any W Fv.nil f Fm.zero x c q (Fv.Is.zero W) (HF.out.gr HG.out) (HC.out.gr HG.out) (fun t ht => by cases ht) LX.out lo_zero LK.out LQ.out (by show 0 + _ ≤ _; rw [Nat.zero_add]; exact LN.out)).mono ?_
  rintro e w1 ⟨i, rfl, hi, G1⟩
  have HI := Lib.hid hi
  replace HG := Lib.hid (HG.out.trans G1)
  replace D_r := Lib.hid (G1.bk D_r.out)
  clear G1 hi a0 a1 a2 a3 b0 b1 b2
  obtain ⟨B5, F5⟩ := D_r.out.put4 (.slice i.terms.A i.terms.n i.terms.c) (.bool i.const.neg) (.slice i.const.num.A i.const.num.n i.const.num.c) (.slice i.const.den.A i.const.den.n i.const.den.c)
  have H5 := Lib.hid F5
  obtain ⟨d0, d1, d2, d3⟩ := B5.c4
  clear F5 B5
  obtain ⟨z0, z1, z2, z3⟩ := D_r.out.c4
  have fz := D_r.out.frozen
  go_wp2
  generalize (((w1.setCell ⟨r, 0, none⟩ (.slice i.terms.A i.terms.n i.terms.c)).setCell ⟨r, 1, none⟩ (.bool i.const.neg)).setCell ⟨r, 2, none⟩ (.slice i.const.num.A i.const.num.n i.const.num.c)).setCell ⟨r, 3, none⟩ (.slice i.const.den.A i.const.den.n i.const.den.c) = W5 at *
  (try simp only [Exit.inBlock, Exit.then])
  refine bodyPost_ret (by simp [results, Tryz.results127, go_sem, d0, d1, d2, d3]; try rfl) rfl ?_
  exact ⟨i, rfl, HI.out.tf' H5.out D_r.out (by decide) (by decide), HG.out.fr_at H5.out N_r.out⟩
end Go.Proofs.YtcmfepaffhnemaaGreatDoor

set_option linter.unusedVariables false
namespace Go.Proofs.YtcmfepaffhnemaaGreatDoor

/-- The next byte, as a number less than n; 0 behind the last one. -/
def nx (n : Nat) : List Nat → Nat × List Nat
  | [] => (0, [])
  | x :: r => (x % n, r)
theorem nx_lt {n : Nat} (h : 0 < n) (r : List Nat) : (nx n r).1 < n := by
  cases r with
  | nil => exact h
  | cons x r => exact Nat.mod_lt _ h
def fracQ (a : Int) (b : Nat) : Q := quot (decide (a < 0)) a.natAbs b
def denN (b : Nat) : Nat := [1, 1, 2, 4].getD b 0
def numQ (r : List Nat) : Q × List Nat := (fracQ ((nx 9 r).1 - 4) (denN (nx 4 (nx 9 r).2).1), (nx 4 (nx 9 r).2).2)
/-- A number of at most one digit over at most one digit. -/
structure Q.Tiny (q : Q) : Prop where
  ok : q.Ok
  num : q.num ≤ 4
  den : q.den ≤ 4
theorem frac_tiny : ∀ a, a < 9 → ∀ b, b < 4 → (fracQ ((a : Nat) - 4) (denN b)).Ok ∧ (fracQ ((a : Nat) - 4) (denN b)).num ≤ 4 ∧ (fracQ ((a : Nat) - 4) (denN b)).den ≤ 4 := by decide
theorem numQ_tiny (r : List Nat) : (numQ r).1.Tiny := by
  obtain ⟨h1, h2, h3⟩ := frac_tiny _ (nx_lt (n := 9) (by decide) r) _ (nx_lt (n := 4) (by decide) (nx 9 r).2)
  exact ⟨h1, h2, h3⟩
/-- n more variables from v on. -/
def formT : Nat → Nat → List Tm → List Nat → List Tm × List Nat
  | 0, _, ts, r => (ts, r)
  | n + 1, v, ts, r => if 0 < (nx 3 r).1 then formT n (v + 1) (snoc ts v (numQ (nx 3 r).2).1) (numQ (nx 3 r).2).2 else formT n (v + 1) ts (nx 3 r).2
def formQ (vars : Nat) (r : List Nat) : Fm × List Nat := (⟨(formT vars 0 [] (numQ r).2).1, (numQ r).1⟩, (formT vars 0 [] (numQ r).2).2)
/-- Small: canonical, all numbers tiny. -/
structure Fm.Small (f : Fm) (vars : Nat) : Prop where
  ok : f.Ok vars
  num : ∀ t ∈ f.terms, t.2.Tiny
  const : f.const.Tiny
theorem snoc_small {l : List Tm} {k c : Q} {v : Nat} (h : Fm.Small ⟨l, k⟩ v) (hc : c.Tiny) : Fm.Small ⟨snoc l v c, k⟩ (v + 1) := by
  refine ⟨h.ok.snoc hc.ok, fun t ht => ?_, h.const⟩
  unfold snoc at ht
  simp only at ht
  split at ht
  · exact h.num t ht
  · rcases List.mem_append.1 ht with h1 | h1
    · exact h.num t h1
    · rw [List.mem_singleton.1 h1]; exact hc
theorem formT_small {k : Q} : ∀ (n v : Nat) (ts : List Tm) (r : List Nat), Fm.Small ⟨ts, k⟩ v → Fm.Small ⟨(formT n v ts r).1, k⟩ (v + n)
  | 0, v, ts, r, h => h
  | n + 1, v, ts, r, h => by
    unfold formT
    rw [show v + (n + 1) = v + 1 + n by omega]
    split
    · exact formT_small n (v + 1) _ _ (snoc_small h (numQ_tiny _))
    · exact formT_small n (v + 1) _ _ ⟨h.ok.mono (by omega), h.num, h.const⟩
theorem formQ_small (vars : Nat) (r : List Nat) : (formQ vars r).1.Small vars := by
  have h0 : Fm.Small ⟨[], (numQ r).1⟩ 0 := ⟨⟨fun i s t hs => (by simp at hs), fun t ht => (by cases ht), (numQ_tiny r).ok⟩, fun t ht => (by cases ht), numQ_tiny r⟩
  have := formT_small vars 0 [] (numQ r).2 h0
  rw [Nat.zero_add] at this
  exact this
/-- n units, the next one over v variables. -/
def unitsQ : Nat → Nat → List Nat → List Fm × List Nat
  | 0, _, r => ([], r)
  | n + 1, v, r => ((formQ v r).1 :: (unitsQ n (v + 1) (formQ v r).2).1, (unitsQ n (v + 1) (formQ v r).2).2)
/-- n outputs over v variables. -/
def outsQ : Nat → Nat → List Nat → List Fm × List Nat
  | 0, _, r => ([], r)
  | n + 1, v, r => ((formQ v r).1 :: (outsQ n v (formQ v r).2).1, (outsQ n v (formQ v r).2).2)
structure Gm where
  inputs : Nat
  units : List Fm
  outputs : List Fm
  deriving DecidableEq, Inhabited
def graphQ (r : List Nat) : Gm × List Nat :=
  let i := nx 3 r
  let u := nx 5 i.2
  let o := nx 3 u.2
  let us := unitsQ u.1 (1 + i.1) o.2
  let os := outsQ (1 + o.1) (1 + i.1 + u.1) us.2
  (⟨1 + i.1, us.1, os.1⟩, os.2)
structure Gm.Ok (g : Gm) : Prop where
  i0 : 1 ≤ g.inputs
  i9 : g.inputs ≤ 3
  u9 : g.units.length ≤ 4
  o0 : 1 ≤ g.outputs.length
  o9 : g.outputs.length ≤ 3
  us : ∀ (j : Nat) (f : Fm), g.units[j]? = some f → f.Small (g.inputs + j)
  os : ∀ f ∈ g.outputs, f.Small (g.inputs + g.units.length)
theorem unitsQ_len : ∀ (n v : Nat) (r : List Nat), (unitsQ n v r).1.length = n
  | 0, _, _ => rfl
  | n + 1, v, r => by unfold unitsQ; rw [List.length_cons, unitsQ_len]
theorem outsQ_len : ∀ (n v : Nat) (r : List Nat), (outsQ n v r).1.length = n
  | 0, _, _ => rfl
  | n + 1, v, r => by unfold outsQ; rw [List.length_cons, outsQ_len]
theorem unitsQ_at : ∀ (n v : Nat) (r : List Nat) (j : Nat) (f : Fm), (unitsQ n v r).1[j]? = some f → f.Small (v + j)
  | 0, _, _, j, f, h => by simp [unitsQ] at h
  | n + 1, v, r, 0, f, h => by
    unfold unitsQ at h
    obtain rfl : (formQ v r).1 = f := by simpa using h
    exact formQ_small v r
  | n + 1, v, r, j + 1, f, h => by
    unfold unitsQ at h
    rw [show v + (j + 1) = v + 1 + j by omega]
    exact unitsQ_at n (v + 1) (formQ v r).2 j f (by simpa using h)
theorem outsQ_all : ∀ (n v : Nat) (r : List Nat), ∀ f ∈ (outsQ n v r).1, f.Small v
  | 0, _, _, f, h => by simp [outsQ] at h
  | n + 1, v, r, f, h => by
    unfold outsQ at h
    rcases List.mem_cons.1 h with rfl | h
    · exact formQ_small v r
    · exact outsQ_all n v (formQ v r).2 f h
theorem graphQ_ok (r : List Nat) : (graphQ r).1.Ok := by
  have h1 := nx_lt (n := 3) (by decide) r
  have h2 := nx_lt (n := 5) (by decide) (nx 3 r).2
  have h3 := nx_lt (n := 3) (by decide) (nx 5 (nx 3 r).2).2
  unfold graphQ
  refine ⟨by simp only; omega, by simp only; omega, ?_, ?_, ?_, fun j f hf => unitsQ_at _ _ _ j f hf, fun f hf => ?_⟩
  · simp only [unitsQ_len]; omega
  · simp only [outsQ_len]; omega
  · simp only [outsQ_len]; omega
  · have := outsQ_all _ _ _ f hf
    simp only [unitsQ_len]
    exact this
end Go.Proofs.YtcmfepaffhnemaaGreatDoor

set_option linter.unusedVariables false
namespace Go.Proofs.YtcmfepaffhnemaaGreatDoor
open Go.RowKit

attribute [local go_sem] Oper.semAt_some

/-- A graph in a slot. -/
structure Gv where
  inputs : Int
  units : Sv
  outs : Sv
abbrev Gv.v (g : Gv) : Value := .agg #[.int .i64 g.inputs, .slice g.units.A g.units.n g.units.c, .slice g.outs.A g.outs.n g.outs.c]
structure Gv.Is (w : World) (g : Gv) (x : Gm) : Prop where
  inputs : g.inputs = x.inputs
  units : Forms w g.units x.units
  outs : Forms w g.outs x.outputs
theorem Gv.Is.gr {w w' : World} {g : Gv} {x : Gm} (h : g.Is w x) (G : Gr w w') : g.Is w' x := ⟨h.inputs, h.units.gr G, h.outs.gr G⟩
/-- A canonical form with small numbers. -/
structure Fm.Sm (f : Fm) (vars : Nat) : Prop where
  ok : f.Ok vars
  num : ∀ t ∈ f.terms, t.2.Sm
  const : f.const.Sm
/-- What Valid asks, with small numbers. -/
structure Gm.Va (g : Gm) : Prop where
  i0 : 1 ≤ g.inputs
  i9 : g.inputs ≤ 256
  u9 : g.units.length ≤ 1024
  o0 : 1 ≤ g.outputs.length
  o9 : g.outputs.length ≤ 256
  us : ∀ (j : Nat) (f : Fm), g.units[j]? = some f → f.Sm (g.inputs + j)
  os : ∀ f ∈ g.outputs, f.Sm (g.inputs + g.units.length)
theorem Q.Tiny.sm {q : Q} (h : q.Tiny) : q.Sm := ⟨Nat.lt_of_le_of_lt h.num (by decide), Nat.lt_of_le_of_lt h.den (by decide)⟩
theorem Fm.Small.sm {f : Fm} {n : Nat} (h : f.Small n) : f.Sm n := ⟨h.ok, fun t ht => (h.num t ht).sm, h.const.sm⟩
theorem Gm.Ok.va {g : Gm} (h : g.Ok) : g.Va := ⟨h.i0, Nat.le_trans h.i9 (by decide), Nat.le_trans h.u9 (by decide), h.o0, Nat.le_trans h.o9 (by decide), fun j f hf => (h.us j f hf).sm, fun f hf => (h.os f hf).sm⟩

set_option maxRecDepth 100000 in
set_option maxHeartbeats 4000000 in
theorem gclo_any (w : World) (f : Fv) (x : Fm) (vars : Nat) (b : Nat) (hf : f.Is w x) (hx : x.Sm vars) (hb : Bk w b 3 #[.int .i64 vars]) :
    Calls Tryz.prog 71 #[f.v, .pointer (some ⟨b, 0, none⟩)] w fun e w' => e = .returned (.bool false) ∧ Gr w w' := by
  obtain ⟨B1, G⟩ := made1 w 43 (#[.slice f.terms.A f.terms.n f.terms.c, .bool f.const.neg, .slice f.const.num.A f.const.num.n f.const.num.c, .slice f.const.den.A f.const.den.n f.const.den.c])
  have HG := Lib.hid G
  have D_p := Lib.hid B1
  clear G B1
  have HF := Lib.hid hf
  have HX := Lib.hid hx
  have v0 := (HG.out.bk hb).cell 0
  obtain ⟨a0, a1, a2, a3⟩ := D_p.out.c4
  clear hf hx hb
  simp only [Fv.v] at *
  go_enter Tryz.func71, Tryz.ntmps71
  go_wp2_with fail
  generalize hW : w.alloc (.cells #[.slice f.terms.A f.terms.n f.terms.c, .bool f.const.neg, .slice f.const.num.A f.const.num.n f.const.num.c, .slice f.const.den.A f.const.den.n f.const.den.c] 43) = W at *
  clear hW
  have N_p : Hid (w.heap.size ≤ w.heap.size) := (by show w.heap.size ≤ w.heap.size; omega)
  go_at_call 38
  refine (lvalid_any W f x vars (HF.out.gr HG.out) HX.out.ok (fun t ht => (HX.out.num t ht).lo) HX.out.const.lo).mono ?_
  rintro e w1 ⟨rfl, G1⟩
  replace HG := Lib.hid (HG.out.trans G1)
  clear G1
  go_wp2
  go_ret
  exact ⟨rfl, HG.out⟩

set_option maxRecDepth 100000 in
set_option maxHeartbeats 4000000 in
theorem gidx_any (w : World) (l : Sv) (xs : List Fm) (vars : Nat) (b : Nat) (hl : Forms w l xs) (hx : ∀ x ∈ xs, x.Sm vars) (hb : Bk w b 3 #[.int .i64 vars]) :
    Calls Tryz.prog 112 #[.slice l.A l.n l.c, .func (.func 71) #[] #[.pointer (some ⟨b, 0, none⟩)]] w fun e w' => e = .returned (.int .i64 (-1)) ∧ Gr w w' := by
  obtain ⟨A, n, c⟩ := l
  have hn : xs.length = n := hl.len
  have hm : n ≤ 9223372036854775807 := (by obtain ⟨_, h1, _⟩ := hl; exact Nat.le_trans h1.cap h1.max)
  have HL := Lib.hid hl
  have HX := Lib.hid hx
  have HB := Lib.hid hb
  have HN := Lib.hid hn
  have HM := Lib.hid hm
  clear hl hx hb hn hm
  go_enter Tryz.func112, Tryz.ntmps112
  go_wp2_with fail
  go_loopw [8] (fun i wr => ∃ k : Nat, i = .int .i64 k ∧ k ≤ n ∧ Hid (Gr w wr)) (fun i _ => n - (intOf i).toNat)
  case atStart => exact ⟨0, rfl, Nat.zero_le _, Gr.refl w⟩
  case round =>
    obtain ⟨k, rfl, hk, HG⟩ := hrel
    by_cases hkn : k < n
    · obtain ⟨q, hq⟩ : ∃ q, xs[k]? = some q := ⟨_, List.getElem?_eq_getElem (by rw [HN.out]; exact hkn)⟩
      obtain ⟨f, ad, hf, hA, d0, d1, d2, d3⟩ := (HL.out.gr HG.out).at hq
      simp only at hA
      subst hA
      have hm9 : k < 9223372036854775807 := Nat.lt_of_lt_of_le hkn HM.out
      have HC := Lib.hid (gclo_any wr f q vars b hf (HX.out q (List.mem_of_getElem? hq)) (HG.out.bk HB.out))
      clear hq hf
      simp only [Fv.v] at HC
      go_wp2_with fail
      refine HC.out.mono ?_
      rintro e w1 ⟨rfl, G1⟩
      have HG1 := Lib.hid (HG.out.trans G1)
      clear G1 HC
      go_wp2
      go_roundw
      · exact ⟨k + 1, by go_num, by omega, HG1⟩
      · simp [intOf]; omega
    · obtain rfl : k = n := by omega
      go_wp2
      go_ret
      exact ⟨rfl, HG.out⟩
set_option maxRecDepth 100000 in
set_option maxHeartbeats 4000000 in
theorem gcon_any (w : World) (l : Sv) (xs : List Fm) (vars : Nat) (b : Nat) (hl : Forms w l xs) (hx : ∀ x ∈ xs, x.Sm vars) (hb : Bk w b 3 #[.int .i64 vars]) :
    Calls Tryz.prog 70 #[.slice l.A l.n l.c, .func (.func 71) #[] #[.pointer (some ⟨b, 0, none⟩)]] w fun e w' => e = .returned (.bool false) ∧ Gr w w' := by
  have H1 := Lib.hid (gidx_any w l xs vars b hl hx hb)
  clear hl hx hb
  go_enter Tryz.func70, Tryz.ntmps70
  go_wp2_with fail
  refine H1.out.mono ?_
  rintro e w1 ⟨rfl, G1⟩
  have HG := Lib.hid G1
  clear G1 H1
  go_wp2
  go_ret
  exact ⟨rfl, HG.out⟩

set_option maxRecDepth 100000 in
set_option maxHeartbeats 4000000 in
theorem gall_any (w : World) (l : Sv) (xs : List Fm) (vars : Nat) (hl : Forms w l xs) (hx : ∀ x ∈ xs, x.Sm vars) :
    Calls Tryz.prog 39 #[.slice l.A l.n l.c, .int .i64 vars] w fun e w' => e = .returned (.bool true) ∧ Gr w w' := by
  obtain ⟨B1, G⟩ := made1 w 3 (#[.int .i64 vars])
  have HG := Lib.hid G
  have D_p := Lib.hid B1
  clear G B1
  have G9 := HG.out
  have H1 := Lib.hid (gcon_any _ l xs vars _ (hl.gr G9) hx D_p.out)
  clear hl hx G9
  go_enter Tryz.func39, Tryz.ntmps39
  go_wp2_with fail
  generalize hW : w.alloc (.cells #[.int .i64 vars] 3) = W at *
  clear hW
  have N_p : Hid (w.heap.size ≤ w.heap.size) := (by show w.heap.size ≤ w.heap.size; omega)
  refine H1.out.mono ?_
  rintro e w1 ⟨rfl, G1⟩
  replace HG := Lib.hid (HG.out.trans G1)
  clear G1 H1
  go_wp2
  go_ret
  exact ⟨rfl, HG.out⟩

set_option maxRecDepth 100000 in
set_option maxHeartbeats 4000000 in
theorem gvalid_any (w : World) (g : Gv) (x : Gm) (hg : g.Is w x) (hx : x.Va) :
    Calls Tryz.prog 18 #[g.v] w fun e w' => e = .returned (.bool true) ∧ Gr w w' := by
  obtain ⟨gi, ⟨uA, un, uc⟩, ⟨oA, on, oc⟩⟩ := g
  obtain rfl : gi = x.inputs := hg.inputs
  have hun : x.units.length = un := hg.units.len
  have hon : x.outputs.length = on := hg.outs.len
  have hi : ((x.inputs : Int) < 1) = False := by have := hx.i0; simp; omega
  have hj : ((256 : Int) < (x.inputs : Int)) = False := by have := hx.i9; simp; omega
  have hk : ((1024 : Int) < (un : Int)) = False := by have := hx.u9; simp; omega
  have hl : ((on : Int) < 1) = False := by have := hx.o0; simp; omega
  have hm : ((256 : Int) < (on : Int)) = False := by have := hx.o9; simp; omega
  have i1 : decide ((x.inputs : Int) < 1) = false := by simp [hi]
  have i2 : decide ((256 : Int) < (x.inputs : Int)) = false := by simp [hj]
  have i3 : decide ((1024 : Int) < (un : Int)) = false := by simp [hk]
  have i4 : decide ((on : Int) < 1) = false := by simp [hl]
  have i5 : decide ((256 : Int) < (on : Int)) = false := by simp [hm]
  clear hi hj hk hl hm
  obtain ⟨B1, G⟩ := made1 w 26 (#[.int .i64 x.inputs, .slice uA un uc, .slice oA on oc])
  have HG := Lib.hid G
  have D_p := Lib.hid B1
  clear G B1
  have HI := Lib.hid hg
  have HX := Lib.hid hx
  have HU := Lib.hid hun
  have HO := Lib.hid hon
  clear hg hx hun hon
  obtain ⟨a0, a1, a2⟩ := D_p.out.c3
  simp only [Gv.v] at *
  go_enter Tryz.func18, Tryz.ntmps18
  go_wp2_with fail
  generalize hW : w.alloc (.cells #[.int .i64 x.inputs, .slice uA un uc, .slice oA on oc] 26) = W at *
  clear hW
  have N_p : Hid (w.heap.size ≤ w.heap.size) := (by show w.heap.size ≤ w.heap.size; omega)
  go_loopw [34] (fun i wr => ∃ k : Nat, i = .int .i64 k ∧ k ≤ un ∧ Hid (Gr w wr) ∧ Hid (Bk wr w.heap.size 26 #[.int .i64 x.inputs, .slice uA un uc, .slice oA on oc])) (fun i _ => un - (intOf i).toNat)
  case atStart => exact ⟨0, rfl, Nat.zero_le _, HG, D_p⟩
  case round =>
    obtain ⟨k, rfl, hk, HG2, DP⟩ := hrel
    clear HG D_p a0 a1 a2
    obtain ⟨a0, a1, a2⟩ := DP.out.c3
    by_cases hkn : k < un
    · obtain ⟨q, hq⟩ : ∃ q, x.units[k]? = some q := ⟨_, List.getElem?_eq_getElem (by rw [HU.out]; exact hkn)⟩
      obtain ⟨f, ad, hf, hA, d0, d1, d2, d3⟩ := (HI.out.units.gr HG2.out).at hq
      simp only at hA
      subst hA
      have hs := HX.out.us k q hq
      have HS := Lib.hid hs
      have HF := Lib.hid hf
      have hm9 : k ≤ 1024 := Nat.le_trans hk (HU.out ▸ HX.out.u9)
      have hm8 : x.inputs ≤ 256 := HX.out.i9
      have hm7 : IntKind.i64.wrap ((x.inputs : Int) + (k : Int)) = ((x.inputs + k : Nat) : Int) := by rw [IntWalk.i64_in _ (by omega)]; omega
      clear hs hq hf
      have G0 := Gr.alloc (Gr.refl wr) (.cells #[.slice f.terms.A f.terms.n f.terms.c, .bool f.const.neg, .slice f.const.num.A f.const.num.n f.const.num.c, .slice f.const.den.A f.const.den.n f.const.den.c] 43)
      have B1 := Bk.made wr 43 #[.slice f.terms.A f.terms.n f.terms.c, .bool f.const.neg, .slice f.const.num.A f.const.num.n f.const.num.c, .slice f.const.den.A f.const.den.n f.const.den.c]
      obtain ⟨c0, c1, c2, c3⟩ := B1.c4
      have GT := Lib.hid G0
      replace a0 := G0.keep a0
      clear G0 B1 a1 a2
      go_wp2_with fail
      clear d0 d1 d2 d3
      generalize wr.alloc (.cells #[.slice f.terms.A f.terms.n f.terms.c, .bool f.const.neg, .slice f.const.num.A f.const.num.n f.const.num.c, .slice f.const.den.A f.const.den.n f.const.den.c] 43) = W3 at *
      generalize wr.heap.size = tb at *
      refine (lvalid_any W3 f q (x.inputs + k) (HF.out.gr GT.out) HS.out.ok (fun t ht => (HS.out.num t ht).lo) HS.out.const.lo).mono ?_
      rintro e w1 ⟨rfl, G1⟩
      have HG4 := Lib.hid (HG2.out.trans (GT.out.trans G1))
      have DP4 := Lib.hid ((GT.out.trans G1).bk DP.out)
      clear G1 a0 c0 c1 c2 c3
      go_wp2
      go_roundw
      · exact ⟨k + 1, by go_num, by omega, HG4, DP4⟩
      · simp [intOf]; omega
    · obtain rfl : k = un := by omega
      have hm9 : k ≤ 1024 := HU.out ▸ HX.out.u9
      have hm8 : x.inputs ≤ 256 := HX.out.i9
      have hm7 : IntKind.i64.wrap ((x.inputs : Int) + (k : Int)) = ((x.inputs + k : Nat) : Int) := by rw [IntWalk.i64_in _ (by omega)]; omega
      have H5 := Lib.hid (gall_any wr ⟨oA, on, oc⟩ x.outputs (x.inputs + k) (HI.out.outs.gr HG2.out) (by rw [← HU.out]; exact HX.out.os))
      go_wp2_with fail
      refine H5.out.mono ?_
      rintro e w1 ⟨rfl, G1⟩
      have HG3 := Lib.hid (HG2.out.trans G1)
      clear G1 H5
      go_wp2
      go_ret
      exact ⟨rfl, HG3.out⟩

set_option maxRecDepth 100000 in
set_option maxHeartbeats 4000000 in
theorem r7all_any (w : World) (l : Sv) (xs : List Fm) (vars : Nat) (hl : Forms w l xs) (hx : ∀ x ∈ xs, x.Sm vars) :
    Calls Tryz.prog 42 #[.slice l.A l.n l.c, .int .i64 vars] w fun e w' => e = .returned (.bool true) ∧ Gr w w' := by
  obtain ⟨A, n, c⟩ := l
  have hn : xs.length = n := hl.len
  have hm : n ≤ 9223372036854775807 := (by obtain ⟨_, h1, _⟩ := hl; exact Nat.le_trans h1.cap h1.max)
  have HL := Lib.hid hl
  have HX := Lib.hid hx
  have HN := Lib.hid hn
  have HM := Lib.hid hm
  clear hl hx hn hm
  go_enter Tryz.func42, Tryz.ntmps42
  go_wp2_with fail
  go_loopw [5] (fun i wr => ∃ k : Nat, i = .int .i64 k ∧ k ≤ n ∧ Hid (Gr w wr)) (fun i _ => n - (intOf i).toNat)
  case atStart => exact ⟨0, rfl, Nat.zero_le _, Gr.refl w⟩
  case round =>
    obtain ⟨k, rfl, hk, HG⟩ := hrel
    by_cases hkn : k < n
    · obtain ⟨q, hq⟩ : ∃ q, xs[k]? = some q := ⟨_, List.getElem?_eq_getElem (by rw [HN.out]; exact hkn)⟩
      obtain ⟨f, ad, hf, hA, d0, d1, d2, d3⟩ := (HL.out.gr HG.out).at hq
      simp only at hA
      subst hA
      have hm9 : k < 9223372036854775807 := Nat.lt_of_lt_of_le hkn HM.out
      have hs := HX.out q (List.mem_of_getElem? hq)
      have HC := Lib.hid (r7valid_any wr f q vars hf hs.ok hs.num hs.const)
      clear hq hf hs
      simp only [Fv.v] at HC
      go_wp2_with fail
      refine HC.out.mono ?_
      rintro e w1 ⟨rfl, G1⟩
      have HG1 := Lib.hid (HG.out.trans G1)
      clear G1 HC
      go_wp2
      go_roundw
      · exact ⟨k + 1, by go_num, by omega, HG1⟩
      · simp [intOf]; omega
    · obtain rfl : k = n := by omega
      go_wp2
      go_ret
      exact ⟨rfl, HG.out⟩

set_option maxRecDepth 100000 in
set_option maxHeartbeats 4000000 in
theorem r15valid_any (w : World) (g : Gv) (x : Gm) (hg : g.Is w x) (hx : x.Va) :
    Calls Tryz.prog 20 #[g.v] w fun e w' => e = .returned (.bool true) ∧ Gr w w' := by
  obtain ⟨gi, ⟨uA, un, uc⟩, ⟨oA, on, oc⟩⟩ := g
  obtain rfl : gi = x.inputs := hg.inputs
  have hun : x.units.length = un := hg.units.len
  have hon : x.outputs.length = on := hg.outs.len
  have hi : ((x.inputs : Int) < 1) = False := by have := hx.i0; simp; omega
  have hj : ((256 : Int) < (x.inputs : Int)) = False := by have := hx.i9; simp; omega
  have hk : ((1024 : Int) < (un : Int)) = False := by have := hx.u9; simp; omega
  have hl : ((on : Int) < 1) = False := by have := hx.o0; simp; omega
  have hm : ((256 : Int) < (on : Int)) = False := by have := hx.o9; simp; omega
  have i1 : decide ((x.inputs : Int) < 1) = false := by simp [hi]
  have i2 : decide ((256 : Int) < (x.inputs : Int)) = false := by simp [hj]
  have i3 : decide ((1024 : Int) < (un : Int)) = false := by simp [hk]
  have i4 : decide ((on : Int) < 1) = false := by simp [hl]
  have i5 : decide ((256 : Int) < (on : Int)) = false := by simp [hm]
  clear hi hj hk hl hm
  obtain ⟨B1, G⟩ := made1 w 26 (#[.int .i64 x.inputs, .slice uA un uc, .slice oA on oc])
  have HG := Lib.hid G
  have D_p := Lib.hid B1
  clear G B1
  have HI := Lib.hid hg
  have HX := Lib.hid hx
  have HU := Lib.hid hun
  have HO := Lib.hid hon
  clear hg hx hun hon
  obtain ⟨a0, a1, a2⟩ := D_p.out.c3
  simp only [Gv.v] at *
  go_enter Tryz.func20, Tryz.ntmps20
  go_wp2_with fail
  generalize hW : w.alloc (.cells #[.int .i64 x.inputs, .slice uA un uc, .slice oA on oc] 26) = W at *
  clear hW
  have N_p : Hid (w.heap.size ≤ w.heap.size) := (by show w.heap.size ≤ w.heap.size; omega)
  go_loopw [3] (fun i wr => ∃ k : Nat, i = .int .i64 k ∧ k ≤ un ∧ Hid (Gr w wr) ∧ Hid (Bk wr w.heap.size 26 #[.int .i64 x.inputs, .slice uA un uc, .slice oA on oc])) (fun i _ => un - (intOf i).toNat)
  case atStart => exact ⟨0, rfl, Nat.zero_le _, HG, D_p⟩
  case round =>
    obtain ⟨k, rfl, hk, HG2, DP⟩ := hrel
    clear HG D_p a0 a1 a2
    obtain ⟨a0, a1, a2⟩ := DP.out.c3
    by_cases hkn : k < un
    · obtain ⟨q, hq⟩ : ∃ q, x.units[k]? = some q := ⟨_, List.getElem?_eq_getElem (by rw [HU.out]; exact hkn)⟩
      obtain ⟨f, ad, hf, hA, d0, d1, d2, d3⟩ := (HI.out.units.gr HG2.out).at hq
      simp only at hA
      subst hA
      have hs := HX.out.us k q hq
      have HS := Lib.hid hs
      have HF := Lib.hid hf
      have hm9 : k ≤ 1024 := Nat.le_trans hk (HU.out ▸ HX.out.u9)
      have hm8 : x.inputs ≤ 256 := HX.out.i9
      have hm7 : IntKind.i64.wrap ((x.inputs : Int) + (k : Int)) = ((x.inputs + k : Nat) : Int) := by rw [IntWalk.i64_in _ (by omega)]; omega
      clear hs hq hf
      go_wp2_with fail
      go_upto_region 6 with fail
      refine wp_region_any (by kernel_rfl) ?_
      have kc := Lib.hid (fun (W' : World) (G : Gr wr.drew W') => And.intro (G.keep a0) (And.intro (G.keep a1) (And.intro (G.keep a2) (And.intro (G.keep d0) (And.intro (G.keep d1) (And.intro (G.keep d2) (G.keep d3)))))))
      have hst : ∀ p ∈ ([(9, fun v _ => v = .bool true)] : List (Nat × (Value → World → Prop))), ∀ (u : Value) (wA0 wB0 : World), Gr wr.drew wA0 → Gr wA0 wB0 → p.2 u wA0 → p.2 u wB0 := by
        intro p hp u wA0 wB0 h0 G h
        simp only [List.mem_cons, List.not_mem_nil, or_false] at hp
        subst hp
        · exact h
      refine wpAny_walk (m := 0) (last := #[true, true, true, true, true, true, true, true, true, true, true]) [0, 1, 2, 3, 4, 5, 6, 7, 8, 9, 10] [(9, fun v _ => v = .bool true)] (by kernel_rfl) (by decide) (by kernel_rfl) hst ?_
      clear hst
      refine Walk.take (v := ?wv1) rfl rfl (Or.inl ⟨by rfl, ?wy1⟩) ?wr1
      case wy1 => (intro w' hw'; obtain ⟨a0, a1, a2, d0, d1, d2, d3⟩ := kc.out w' hw'; go_simp; try with_reducible rfl)
      try simp only [Act.put, List.setIfInBounds_toArray, List.set_cons_zero, List.set_cons_succ]
      refine Walk.take (v := ?wv2) rfl rfl (Or.inl ⟨by rfl, ?wy2⟩) ?wr2
      case wy2 => (intro w' hw'; obtain ⟨a0, a1, a2, d0, d1, d2, d3⟩ := kc.out w' hw'; go_simp; try with_reducible rfl)
      try simp only [Act.put, List.setIfInBounds_toArray, List.set_cons_zero, List.set_cons_succ]
      refine Walk.take (v := ?wv3) rfl rfl (Or.inl ⟨by rfl, ?wy3⟩) ?wr3
      case wy3 => (intro w' hw'; obtain ⟨a0, a1, a2, d0, d1, d2, d3⟩ := kc.out w' hw'; go_simp; try with_reducible rfl)
      try simp only [Act.put, List.setIfInBounds_toArray, List.set_cons_zero, List.set_cons_succ]
      refine Walk.take (v := ?wv4) rfl rfl (Or.inl ⟨by rfl, ?wy4⟩) ?wr4
      case wy4 => (intro w' hw'; obtain ⟨a0, a1, a2, d0, d1, d2, d3⟩ := kc.out w' hw'; go_simp; try with_reducible rfl)
      try simp only [Act.put, List.setIfInBounds_toArray, List.set_cons_zero, List.set_cons_succ]
      refine Walk.take (v := ?wv5) rfl rfl (Or.inl ⟨by rfl, ?wy5⟩) ?wr5
      case wy5 => (intro w' hw'; obtain ⟨a0, a1, a2, d0, d1, d2, d3⟩ := kc.out w' hw'; go_simp; try with_reducible rfl)
      try simp only [Act.put, List.setIfInBounds_toArray, List.set_cons_zero, List.set_cons_succ]
      refine Walk.take (v := ?wv6) rfl rfl (Or.inl ⟨by rfl, ?wy6⟩) ?wr6
      case wy6 => (intro w' hw'; obtain ⟨a0, a1, a2, d0, d1, d2, d3⟩ := kc.out w' hw'; go_simp; try with_reducible rfl)
      try simp only [Act.put, List.setIfInBounds_toArray, List.set_cons_zero, List.set_cons_succ]
      refine Walk.take (v := ?wv7) rfl rfl (Or.inl ⟨by rfl, ?wy7⟩) ?wr7
      case wy7 => (intro w' hw'; obtain ⟨a0, a1, a2, d0, d1, d2, d3⟩ := kc.out w' hw'; go_simp; try with_reducible rfl)
      try simp only [Act.put, List.setIfInBounds_toArray, List.set_cons_zero, List.set_cons_succ]
      refine Walk.take (v := ?wv8) rfl rfl (Or.inl ⟨by rfl, ?wy8⟩) ?wr8
      case wy8 => (intro w' hw'; obtain ⟨a0, a1, a2, d0, d1, d2, d3⟩ := kc.out w' hw'; go_simp; try with_reducible rfl)
      try simp only [Act.put, List.setIfInBounds_toArray, List.set_cons_zero, List.set_cons_succ]
      refine Walk.take (v := ?wv9) rfl rfl (Or.inl ⟨by rfl, ?wy9⟩) ?wr9
      case wy9 => (intro w' hw'; obtain ⟨a0, a1, a2, d0, d1, d2, d3⟩ := kc.out w' hw'; go_simp; try with_reducible rfl)
      try simp only [Act.put, List.setIfInBounds_toArray, List.set_cons_zero, List.set_cons_succ]
      refine Walk.do rfl rfl (by rfl) (fun W1 G1 F1 => ?ws10) (fun v hv => ?wr10)
      case ws10 =>
        obtain ⟨a0, a1, a2, d0, d1, d2, d3⟩ := kc.out W1 G1
        refine doesAt_enter (f := 41) (args := #[.agg #[.slice f.terms.A f.terms.n f.terms.c, .bool f.const.neg, .slice f.const.num.A f.const.num.n f.const.num.c, .slice f.const.den.A f.const.den.n f.const.den.c], .int .i64 ((x.inputs + k : Nat) : Int)]) (by go_simp; try (first | with_reducible rfl | rfl)) ?_
        refine (r7valid_any W1 f q (x.inputs + k) (HF.out.gr G1.of_drew) HS.out.ok (fun t ht => (HS.out.num t ht)) HS.out.const).mono ?_
        rintro e w' ⟨rfl, G⟩
        exact ⟨_, rfl, G, rfl⟩
      obtain ⟨_, -, -, rfl⟩ := hv
      try simp only [Act.put, List.setIfInBounds_toArray, List.set_cons_zero, List.set_cons_succ]
      refine Walk.take (v := ?wv11) rfl rfl (Or.inl ⟨by rfl, ?wy11⟩) ?wr11
      case wy11 => (intro w' hw'; obtain ⟨a0, a1, a2, d0, d1, d2, d3⟩ := kc.out w' hw'; go_simp; try with_reducible rfl)
      try simp only [Act.put, List.setIfInBounds_toArray, List.set_cons_zero, List.set_cons_succ]
      refine Walk.done (fun W1 G1 F1 => ?_)
      clear F1
      have kc1 := kc.out W1 G1
      clear kc a0 a1 a2 d0 d1 d2 d3
      obtain ⟨a0, a1, a2, d0, d1, d2, d3⟩ := kc1
      refine wpAny_end (by kernel_rfl) ?_
      have HG4 := Lib.hid (HG2.out.trans G1.of_drew)
      have DP4 := Lib.hid (G1.of_drew.bk DP.out)
      clear G1 a0 a1 a2 d0 d1 d2 d3
      go_wp2
      go_roundw
      · exact ⟨k + 1, by go_num, by omega, HG4, DP4⟩
      · simp [intOf]; omega
    · obtain rfl : k = un := by omega
      have hm9 : k ≤ 1024 := HU.out ▸ HX.out.u9
      have hm8 : x.inputs ≤ 256 := HX.out.i9
      have hm7 : IntKind.i64.wrap ((x.inputs : Int) + (k : Int)) = ((x.inputs + k : Nat) : Int) := by rw [IntWalk.i64_in _ (by omega)]; omega
      have H5 := Lib.hid (r7all_any wr ⟨oA, on, oc⟩ x.outputs (x.inputs + k) (HI.out.outs.gr HG2.out) (by rw [← HU.out]; exact HX.out.os))
      go_wp2_with fail
      refine H5.out.mono ?_
      rintro e w1 ⟨rfl, G1⟩
      have HG3 := Lib.hid (HG2.out.trans G1)
      clear G1 H5
      go_wp2
      go_ret
      exact ⟨rfl, HG3.out⟩

set_option maxRecDepth 100000 in
set_option maxHeartbeats 4000000 in
theorem gvalid0 (w : World) : Calls Tryz.prog 18 #[.agg #[.int .i64 0, .slice none 0 0, .slice none 0 0]] w fun e w' => e = .returned (.bool false) ∧ Gr w w' := by
  obtain ⟨B1, G⟩ := made1 w 26 (#[.int .i64 0, .slice none 0 0, .slice none 0 0])
  have HG := Lib.hid G
  have D_p := Lib.hid B1
  clear G B1
  obtain ⟨a0, a1, a2⟩ := D_p.out.c3
  go_enter Tryz.func18, Tryz.ntmps18
  go_wp2_with fail
  generalize hW : w.alloc (.cells #[.int .i64 0, .slice none 0 0, .slice none 0 0] 26) = W at *
  clear hW
  have N_p : Hid (w.heap.size ≤ w.heap.size) := (by show w.heap.size ≤ w.heap.size; omega)
  go_wp2
  go_ret
  exact ⟨rfl, HG.out⟩

end Go.Proofs.YtcmfepaffhnemaaGreatDoor

set_option linter.unusedVariables false
namespace Go.Proofs.YtcmfepaffhnemaaGreatDoor
open Go.RowKit

attribute [local go_sem] Oper.semAt_some

theorem elemI : ElemS Tryz.prog 28 3 1 8 := elem_of (z := .int .i64 0) (by kernel_rfl) (by kernel_rfl) rfl (by decide)
abbrev iv (i : Nat) : Value := .int .i64 (i : Int)
/-- The indices at which two lists differ. -/
def diffL (a b : List Fm) : List Nat := (List.range a.length).filter fun i => decide (a[i]? ≠ b[i]?)
def diffN (a b : List Fm) (k : Nat) : List Nat := (List.range k).filter fun i => decide (a[i]? ≠ b[i]?)
theorem diffN_succ (a b : List Fm) (k : Nat) : diffN a b (k + 1) = diffN a b k ++ (if a[k]? ≠ b[k]? then [k] else []) := by
  unfold diffN
  rw [List.range_succ, List.filter_append]
  congr 1
  by_cases h : a[k]? = b[k]? <;> simp [h]
theorem diffN_len (a b : List Fm) (k : Nat) : (diffN a b k).length ≤ k := by
  unfold diffN
  exact Nat.le_trans (List.length_filter_le ..) (by simp)
/-- A slice of numbers. -/
def Ints (w : World) (x : Sv) (l : List Nat) : Prop := x.Is w 1 (l.map iv)
theorem Ints.gr {w w' : World} {x : Sv} {l : List Nat} (h : Ints w x l) (G : Gr w w') : Ints w' x l := Sv.Is.gr h G
theorem Ints.len {w : World} {x : Sv} {l : List Nat} (h : Ints w x l) : l.length = x.n := by have := Sv.Is.len h; rw [List.length_map] at this; omega
def Ints.At (l : List Nat) (v : Value) (W : World) : Prop := ∃ x : Sv, v = x.v ∧ Ints W x l
theorem Ints.At.gr {W W' : World} {v : Value} {l : List Nat} (h : Ints.At l v W) (G : Gr W W') : Ints.At l v W' := by
  obtain ⟨r, e, hr⟩ := h
  exact ⟨r, e, hr.gr G⟩
theorem Ints.At.is {W : World} {x : Sv} {l : List Nat} (h : Ints.At l x.v W) : Ints W x l := by
  obtain ⟨s, e, hs⟩ := h
  obtain ⟨A, n, c⟩ := x
  obtain ⟨A', n', c'⟩ := s
  simp only [Sv.v, Value.slice.injEq] at e
  obtain ⟨rfl, rfl, rfl⟩ := e
  exact hs
theorem ints_of {w : World} {B n : Nat} {v : Value} {l : List Nat} (h : w.ownsRow B 3 1 v n (l.map iv)) : ∃ y : Sv, v = y.v ∧ Ints w y l := by
  obtain ⟨y, e, _, hy, _⟩ := Sv.of_row h (by decide)
  exact ⟨y, e, hy⟩

set_option maxRecDepth 100000 in
set_option maxHeartbeats 4000000 in
theorem differ_any (w : World) (a b : Sv) (x y : List Fm) (ha : Forms w a x) (hb : Forms w b y) (hn : x.length = y.length) (hx : x.length ≤ 1024) :
    Calls Tryz.prog 19 #[.slice a.A a.n a.c, .slice b.A b.n b.c] w fun e w' => ∃ r : Sv, e = .returned r.v ∧ Ints w' r (diffL x y) ∧ Gr w w' := by
  obtain ⟨aA, an, ac⟩ := a
  obtain ⟨bA, bn, bc⟩ := b
  have h1 : x.length = an := ha.len
  have h2 : y.length = bn := hb.len
  obtain rfl : bn = an := by omega
  have HA := Lib.hid ha
  have HB := Lib.hid hb
  have HX := Lib.hid h1
  have HY := Lib.hid h2
  have hM : bn ≤ 1024 := by omega
  clear ha hb h1 h2 hn hx
  go_enter Tryz.func19, Tryz.ntmps19
  go_wp2_with fail
  go_loopw [5, 9] (fun s5 i wr => ∃ k n : Nat, i = .int .i64 k ∧ k ≤ bn ∧ n ≤ k ∧ Hid (wr.ownsRow w.heap.size 3 1 s5 n ((diffN x y k).map iv)) ∧ Hid (Gr w wr)) (fun _ i _ => bn - (intOf i).toNat)
  case atStart => exact ⟨0, 0, rfl, Nat.zero_le _, Nat.le_refl _, World.ownsRow_nil w w.heap.size 3 1, Gr.refl w⟩
  case round =>
    obtain ⟨k, n, rfl, hk, hnk, HR, HG⟩ := hrel
    by_cases hkn : k < bn
    · obtain ⟨q, hq⟩ : ∃ q, x[k]? = some q := ⟨_, List.getElem?_eq_getElem (by rw [HX.out]; exact hkn)⟩
      obtain ⟨p, hp⟩ : ∃ p, y[k]? = some p := ⟨_, List.getElem?_eq_getElem (by rw [HY.out]; exact hkn)⟩
      obtain ⟨f, ad, hf, hA, d0, d1, d2, d3⟩ := (HA.out.gr HG.out).at hq
      obtain ⟨g, bd, hg, hB, u0, u1, u2, u3⟩ := (HB.out.gr HG.out).at hp
      simp only at hA hB
      subst hA hB
      have HF := Lib.hid hf
      have HH := Lib.hid hg
      have HS := Lib.hid (diffN_succ x y k)
      rw [hq, hp] at HS
      generalize heq : decide (q = p) = eq at *
      have HEQ := Lib.hid heq
      clear hq hp hf hg heq
      go_wp2_with fail
      go_upto_region 5 with fail
      refine wp_region_any (by kernel_rfl) ?_
      have kc := Lib.hid (fun (W' : World) (G : Gr wr.drew W') => And.intro (G.keep d0) (And.intro (G.keep d1) (And.intro (G.keep d2) (And.intro (G.keep d3) (And.intro (G.keep u0) (And.intro (G.keep u1) (And.intro (G.keep u2) (G.keep u3))))))))
      have hst : ∀ p ∈ ([(8, fun v _ => v = .bool eq)] : List (Nat × (Value → World → Prop))), ∀ (u : Value) (wA0 wB0 : World), Gr wr.drew wA0 → Gr wA0 wB0 → p.2 u wA0 → p.2 u wB0 := by
        intro p hp u wA0 wB0 h0 G h
        simp only [List.mem_cons, List.not_mem_nil, or_false] at hp
        subst hp
        · exact h
      refine wpAny_walk (m := 0) (last := #[true, true, true, true, true, true, true, true, true, true]) [0, 1, 2, 3, 4, 5, 6, 7, 8, 9] [(8, fun v _ => v = .bool eq)] (by kernel_rfl) (by decide) (by kernel_rfl) hst ?_
      clear hst
      refine Walk.take (v := ?wv1) rfl rfl (Or.inl ⟨by rfl, ?wy1⟩) ?wr1
      case wy1 => (intro w' hw'; obtain ⟨d0, d1, d2, d3, u0, u1, u2, u3⟩ := kc.out w' hw'; go_simp; try with_reducible rfl)
      try simp only [Act.put, List.setIfInBounds_toArray, List.set_cons_zero, List.set_cons_succ]
      refine Walk.take (v := ?wv2) rfl rfl (Or.inl ⟨by rfl, ?wy2⟩) ?wr2
      case wy2 => (intro w' hw'; obtain ⟨d0, d1, d2, d3, u0, u1, u2, u3⟩ := kc.out w' hw'; go_simp; try with_reducible rfl)
      try simp only [Act.put, List.setIfInBounds_toArray, List.set_cons_zero, List.set_cons_succ]
      refine Walk.take (v := ?wv3) rfl rfl (Or.inl ⟨by rfl, ?wy3⟩) ?wr3
      case wy3 => (intro w' hw'; obtain ⟨d0, d1, d2, d3, u0, u1, u2, u3⟩ := kc.out w' hw'; go_simp; try with_reducible rfl)
      try simp only [Act.put, List.setIfInBounds_toArray, List.set_cons_zero, List.set_cons_succ]
      refine Walk.take (v := ?wv4) rfl rfl (Or.inl ⟨by rfl, ?wy4⟩) ?wr4
      case wy4 => (intro w' hw'; obtain ⟨d0, d1, d2, d3, u0, u1, u2, u3⟩ := kc.out w' hw'; go_simp; try with_reducible rfl)
      try simp only [Act.put, List.setIfInBounds_toArray, List.set_cons_zero, List.set_cons_succ]
      refine Walk.take (v := ?wv5) rfl rfl (Or.inl ⟨by rfl, ?wy5⟩) ?wr5
      case wy5 => (intro w' hw'; obtain ⟨d0, d1, d2, d3, u0, u1, u2, u3⟩ := kc.out w' hw'; go_simp; try with_reducible rfl)
      try simp only [Act.put, List.setIfInBounds_toArray, List.set_cons_zero, List.set_cons_succ]
      refine Walk.take (v := ?wv6) rfl rfl (Or.inl ⟨by rfl, ?wy6⟩) ?wr6
      case wy6 => (intro w' hw'; obtain ⟨d0, d1, d2, d3, u0, u1, u2, u3⟩ := kc.out w' hw'; go_simp; try with_reducible rfl)
      try simp only [Act.put, List.setIfInBounds_toArray, List.set_cons_zero, List.set_cons_succ]
      refine Walk.take (v := ?wv7) rfl rfl (Or.inl ⟨by rfl, ?wy7⟩) ?wr7
      case wy7 => (intro w' hw'; obtain ⟨d0, d1, d2, d3, u0, u1, u2, u3⟩ := kc.out w' hw'; go_simp; try with_reducible rfl)
      try simp only [Act.put, List.setIfInBounds_toArray, List.set_cons_zero, List.set_cons_succ]
      refine Walk.take (v := ?wv8) rfl rfl (Or.inl ⟨by rfl, ?wy8⟩) ?wr8
      case wy8 => (intro w' hw'; obtain ⟨d0, d1, d2, d3, u0, u1, u2, u3⟩ := kc.out w' hw'; go_simp; try with_reducible rfl)
      try simp only [Act.put, List.setIfInBounds_toArray, List.set_cons_zero, List.set_cons_succ]
      refine Walk.do rfl rfl (by rfl) (fun W1 G1 F1 => ?ws9) (fun v hv => ?wr9)
      case ws9 =>
        obtain ⟨d0, d1, d2, d3, u0, u1, u2, u3⟩ := kc.out W1 G1
        refine doesAt_enter (f := 40) (args := #[.agg #[.slice f.terms.A f.terms.n f.terms.c, .bool f.const.neg, .slice f.const.num.A f.const.num.n f.const.num.c, .slice f.const.den.A f.const.den.n f.const.den.c], .agg #[.slice g.terms.A g.terms.n g.terms.c, .bool g.const.neg, .slice g.const.num.A g.const.num.n g.const.num.c, .slice g.const.den.A g.const.den.n g.const.den.c]]) (by go_simp; try (first | with_reducible rfl | rfl)) ?_
        refine ((show Calls _ _ _ _ (fun e w' => e = .returned (.bool eq) ∧ Gr W1 w') from by rw [← HEQ.out]; exact lequal_any W1 f g q p (HF.out.gr G1.of_drew) (HH.out.gr G1.of_drew))).mono ?_
        rintro e w' ⟨rfl, G⟩
        exact ⟨_, rfl, G, rfl⟩
      obtain ⟨_, -, -, rfl⟩ := hv
      try simp only [Act.put, List.setIfInBounds_toArray, List.set_cons_zero, List.set_cons_succ]
      refine Walk.take (v := ?wv10) rfl rfl (Or.inl ⟨by rfl, ?wy10⟩) ?wr10
      case wy10 => (intro w' hw'; obtain ⟨d0, d1, d2, d3, u0, u1, u2, u3⟩ := kc.out w' hw'; go_simp; try with_reducible rfl)
      try simp only [Act.put, List.setIfInBounds_toArray, List.set_cons_zero, List.set_cons_succ]
      refine Walk.done (fun W1 G1 F1 => ?_)
      clear F1
      have kc1 := kc.out W1 G1
      clear kc d0 d1 d2 d3 u0 u1 u2 u3
      obtain ⟨d0, d1, d2, d3, u0, u1, u2, u3⟩ := kc1
      refine wpAny_end (by kernel_rfl) ?_
      have HG1 := Lib.hid (HG.out.trans G1.of_drew)
      have HR1 := Lib.hid (rw_keep HR.out (fun b hb => G1.of_drew.below.block b (rw_lt HR.out b hb).2))
      clear G1 HR d0 d1 d2 d3 u0 u1 u2 u3
      cases eq
      · have hne : ¬ q = p := of_decide_eq_false HEQ.out
        have HS2 : Hid ((diffN x y k).map iv ++ [.int .i64 (k : Int)] = (diffN x y (k + 1)).map iv) := by
          rw [HS.out, if_pos (fun e => hne (by injection e)), List.map_append]; exact rfl
        clear hne
        have hsz := HG1.out.size
        go_wp2_with (at_builtin; refine wpList_appS1 (w := W1) elemI rfl (.tmp 22) (.tmp 24) rfl w.heap.size u5 n ((diffN x y k).map iv) #[.int .i64 (k : Int)] rfl rfl rfl HR1.out (by simp [Value.oneCell']) (by unfold maxLen; omega) (by omega) hsz ?_; intro v5 w5 h5 F5 _)
        have h6 : Hid (w5.ownsRow w.heap.size 3 1 v5 (n + 1) ((diffN x y (k + 1)).map iv)) := by rw [← HS2.out]; exact h5
        have HG5 := Lib.hid (HG1.out.step F5 (fun b _ e => (rw_lt HR1.out b e).1))
        clear h5 F5 hsz HR1 HS2 HS
        go_wp2
        go_roundw
        · exact ⟨k + 1, n + 1, by go_num, by omega, by omega, h6, HG5⟩
        · simp [intOf]; omega
      · have he : q = p := of_decide_eq_true HEQ.out
        have HS2 : Hid ((diffN x y k).map iv = (diffN x y (k + 1)).map iv) := by
          rw [HS.out, if_neg (fun e => e (by rw [he])), List.append_nil]; exact rfl
        clear he
        rw [HS2.out] at HR1
        go_wp2
        go_roundw
        · exact ⟨k + 1, n, by go_num, by omega, by omega, HR1, HG1⟩
        · simp [intOf]; omega
    · obtain rfl : k = bn := by omega
      go_wp2
      go_ret
      obtain ⟨r, rfl, hr⟩ := ints_of HR.out
      exact ⟨r, rfl, by unfold diffL; rw [HX.out]; exact hr, HG.out⟩

set_option maxRecDepth 100000 in
set_option maxHeartbeats 4000000 in
theorem different_any (w : World) (a b : Sv) (x y : List Fm) (ha : Forms w a x) (hb : Forms w b y) (hn : x.length = y.length) (hx : x.length ≤ 1024) :
    Calls Tryz.prog 21 #[.slice a.A a.n a.c, .slice b.A b.n b.c] w fun e w' => ∃ r : Sv, e = .returned r.v ∧ Ints w' r (diffL x y) ∧ Gr w w' := by
  obtain ⟨aA, an, ac⟩ := a
  obtain ⟨bA, bn, bc⟩ := b
  have h1 : x.length = an := ha.len
  have h2 : y.length = bn := hb.len
  obtain rfl : bn = an := by omega
  have HA := Lib.hid ha
  have HB := Lib.hid hb
  have HX := Lib.hid h1
  have HY := Lib.hid h2
  have hM : bn ≤ 1024 := by omega
  clear ha hb h1 h2 hn hx
  go_enter Tryz.func21, Tryz.ntmps21
  go_wp2_with fail
  go_loopw [5, 6] (fun s5 i wr => ∃ k n : Nat, i = .int .i64 k ∧ k ≤ bn ∧ n ≤ k ∧ Hid (wr.ownsRow w.heap.size 3 1 s5 n ((diffN x y k).map iv)) ∧ Hid (Gr w wr)) (fun _ i _ => bn - (intOf i).toNat)
  case atStart => exact ⟨0, 0, rfl, Nat.zero_le _, Nat.le_refl _, World.ownsRow_nil w w.heap.size 3 1, Gr.refl w⟩
  case round =>
    obtain ⟨k, n, rfl, hk, hnk, HR, HG⟩ := hrel
    by_cases hkn : k < bn
    · obtain ⟨q, hq⟩ : ∃ q, x[k]? = some q := ⟨_, List.getElem?_eq_getElem (by rw [HX.out]; exact hkn)⟩
      obtain ⟨p, hp⟩ : ∃ p, y[k]? = some p := ⟨_, List.getElem?_eq_getElem (by rw [HY.out]; exact hkn)⟩
      obtain ⟨f, ad, hf, hA, d0, d1, d2, d3⟩ := (HA.out.gr HG.out).at hq
      obtain ⟨g, bd, hg, hB, u0, u1, u2, u3⟩ := (HB.out.gr HG.out).at hp
      simp only at hA hB
      subst hA hB
      have HF := Lib.hid hf
      have HH := Lib.hid hg
      have HS := Lib.hid (diffN_succ x y k)
      rw [hq, hp] at HS
      generalize heq : decide (q = p) = eq at *
      have HEQ := Lib.hid heq
      clear hq hp hf hg heq
      go_wp2_with fail
      go_upto_region 5 with fail
      refine wp_region_any (by kernel_rfl) ?_
      have kc := Lib.hid (fun (W' : World) (G : Gr wr.drew W') => And.intro (G.keep d0) (And.intro (G.keep d1) (And.intro (G.keep d2) (And.intro (G.keep d3) (And.intro (G.keep u0) (And.intro (G.keep u1) (And.intro (G.keep u2) (G.keep u3))))))))
      have hst : ∀ p ∈ ([(8, fun v _ => v = .bool eq)] : List (Nat × (Value → World → Prop))), ∀ (u : Value) (wA0 wB0 : World), Gr wr.drew wA0 → Gr wA0 wB0 → p.2 u wA0 → p.2 u wB0 := by
        intro p hp u wA0 wB0 h0 G h
        simp only [List.mem_cons, List.not_mem_nil, or_false] at hp
        subst hp
        · exact h
      refine wpAny_walk (m := 0) (last := #[true, true, true, true, true, true, true, true, true, true]) [0, 1, 2, 3, 4, 5, 6, 7, 8, 9] [(8, fun v _ => v = .bool eq)] (by kernel_rfl) (by decide) (by kernel_rfl) hst ?_
      clear hst
      refine Walk.take (v := ?wv11) rfl rfl (Or.inl ⟨by rfl, ?wy11⟩) ?wr11
      case wy11 => (intro w' hw'; obtain ⟨d0, d1, d2, d3, u0, u1, u2, u3⟩ := kc.out w' hw'; go_simp; try with_reducible rfl)
      try simp only [Act.put, List.setIfInBounds_toArray, List.set_cons_zero, List.set_cons_succ]
      refine Walk.take (v := ?wv12) rfl rfl (Or.inl ⟨by rfl, ?wy12⟩) ?wr12
      case wy12 => (intro w' hw'; obtain ⟨d0, d1, d2, d3, u0, u1, u2, u3⟩ := kc.out w' hw'; go_simp; try with_reducible rfl)
      try simp only [Act.put, List.setIfInBounds_toArray, List.set_cons_zero, List.set_cons_succ]
      refine Walk.take (v := ?wv13) rfl rfl (Or.inl ⟨by rfl, ?wy13⟩) ?wr13
      case wy13 => (intro w' hw'; obtain ⟨d0, d1, d2, d3, u0, u1, u2, u3⟩ := kc.out w' hw'; go_simp; try with_reducible rfl)
      try simp only [Act.put, List.setIfInBounds_toArray, List.set_cons_zero, List.set_cons_succ]
      refine Walk.take (v := ?wv14) rfl rfl (Or.inl ⟨by rfl, ?wy14⟩) ?wr14
      case wy14 => (intro w' hw'; obtain ⟨d0, d1, d2, d3, u0, u1, u2, u3⟩ := kc.out w' hw'; go_simp; try with_reducible rfl)
      try simp only [Act.put, List.setIfInBounds_toArray, List.set_cons_zero, List.set_cons_succ]
      refine Walk.take (v := ?wv15) rfl rfl (Or.inl ⟨by rfl, ?wy15⟩) ?wr15
      case wy15 => (intro w' hw'; obtain ⟨d0, d1, d2, d3, u0, u1, u2, u3⟩ := kc.out w' hw'; go_simp; try with_reducible rfl)
      try simp only [Act.put, List.setIfInBounds_toArray, List.set_cons_zero, List.set_cons_succ]
      refine Walk.take (v := ?wv16) rfl rfl (Or.inl ⟨by rfl, ?wy16⟩) ?wr16
      case wy16 => (intro w' hw'; obtain ⟨d0, d1, d2, d3, u0, u1, u2, u3⟩ := kc.out w' hw'; go_simp; try with_reducible rfl)
      try simp only [Act.put, List.setIfInBounds_toArray, List.set_cons_zero, List.set_cons_succ]
      refine Walk.take (v := ?wv17) rfl rfl (Or.inl ⟨by rfl, ?wy17⟩) ?wr17
      case wy17 => (intro w' hw'; obtain ⟨d0, d1, d2, d3, u0, u1, u2, u3⟩ := kc.out w' hw'; go_simp; try with_reducible rfl)
      try simp only [Act.put, List.setIfInBounds_toArray, List.set_cons_zero, List.set_cons_succ]
      refine Walk.take (v := ?wv18) rfl rfl (Or.inl ⟨by rfl, ?wy18⟩) ?wr18
      case wy18 => (intro w' hw'; obtain ⟨d0, d1, d2, d3, u0, u1, u2, u3⟩ := kc.out w' hw'; go_simp; try with_reducible rfl)
      try simp only [Act.put, List.setIfInBounds_toArray, List.set_cons_zero, List.set_cons_succ]
      refine Walk.do rfl rfl (by rfl) (fun W1 G1 F1 => ?ws19) (fun v hv => ?wr19)
      case ws19 =>
        obtain ⟨d0, d1, d2, d3, u0, u1, u2, u3⟩ := kc.out W1 G1
        refine doesAt_enter (f := 43) (args := #[.agg #[.slice f.terms.A f.terms.n f.terms.c, .bool f.const.neg, .slice f.const.num.A f.const.num.n f.const.num.c, .slice f.const.den.A f.const.den.n f.const.den.c], .agg #[.slice g.terms.A g.terms.n g.terms.c, .bool g.const.neg, .slice g.const.num.A g.const.num.n g.const.num.c, .slice g.const.den.A g.const.den.n g.const.den.c]]) (by go_simp; try (first | with_reducible rfl | rfl)) ?_
        refine ((show Calls _ _ _ _ (fun e w' => e = .returned (.bool eq) ∧ Gr W1 w') from by rw [← HEQ.out]; exact r7equal_any W1 f g q p (HF.out.gr G1.of_drew) (HH.out.gr G1.of_drew))).mono ?_
        rintro e w' ⟨rfl, G⟩
        exact ⟨_, rfl, G, rfl⟩
      obtain ⟨_, -, -, rfl⟩ := hv
      try simp only [Act.put, List.setIfInBounds_toArray, List.set_cons_zero, List.set_cons_succ]
      refine Walk.take (v := ?wv20) rfl rfl (Or.inl ⟨by rfl, ?wy20⟩) ?wr20
      case wy20 => (intro w' hw'; obtain ⟨d0, d1, d2, d3, u0, u1, u2, u3⟩ := kc.out w' hw'; go_simp; try with_reducible rfl)
      try simp only [Act.put, List.setIfInBounds_toArray, List.set_cons_zero, List.set_cons_succ]
      refine Walk.done (fun W1 G1 F1 => ?_)
      clear F1
      have kc1 := kc.out W1 G1
      clear kc d0 d1 d2 d3 u0 u1 u2 u3
      obtain ⟨d0, d1, d2, d3, u0, u1, u2, u3⟩ := kc1
      refine wpAny_end (by kernel_rfl) ?_
      have HG1 := Lib.hid (HG.out.trans G1.of_drew)
      have HR1 := Lib.hid (rw_keep HR.out (fun b hb => G1.of_drew.below.block b (rw_lt HR.out b hb).2))
      clear G1 HR d0 d1 d2 d3 u0 u1 u2 u3
      cases eq
      · have hne : ¬ q = p := of_decide_eq_false HEQ.out
        have HS2 : Hid ((diffN x y k).map iv ++ [.int .i64 (k : Int)] = (diffN x y (k + 1)).map iv) := by
          rw [HS.out, if_pos (fun e => hne (by injection e)), List.map_append]; exact rfl
        clear hne
        have hsz := HG1.out.size
        go_wp2_with (at_builtin; refine wpList_appS1 (w := W1) elemI rfl (.tmp 23) (.tmp 25) rfl w.heap.size u5 n ((diffN x y k).map iv) #[.int .i64 (k : Int)] rfl rfl rfl HR1.out (by simp [Value.oneCell']) (by unfold maxLen; omega) (by omega) hsz ?_; intro v5 w5 h5 F5 _)
        have h6 : Hid (w5.ownsRow w.heap.size 3 1 v5 (n + 1) ((diffN x y (k + 1)).map iv)) := by rw [← HS2.out]; exact h5
        have HG5 := Lib.hid (HG1.out.step F5 (fun b _ e => (rw_lt HR1.out b e).1))
        clear h5 F5 hsz HR1 HS2 HS
        go_wp2
        go_roundw
        · exact ⟨k + 1, n + 1, by go_num, by omega, by omega, h6, HG5⟩
        · simp [intOf]; omega
      · have he : q = p := of_decide_eq_true HEQ.out
        have HS2 : Hid ((diffN x y k).map iv = (diffN x y (k + 1)).map iv) := by
          rw [HS.out, if_neg (fun e => e (by rw [he])), List.append_nil]; exact rfl
        clear he
        rw [HS2.out] at HR1
        go_wp2
        go_roundw
        · exact ⟨k + 1, n, by go_num, by omega, by omega, HR1, HG1⟩
        · simp [intOf]; omega
    · obtain rfl : k = bn := by omega
      go_wp2
      go_ret
      obtain ⟨r, rfl, hr⟩ := ints_of HR.out
      exact ⟨r, rfl, by unfold diffL; rw [HX.out]; exact hr, HG.out⟩

set_option maxRecDepth 100000 in
set_option maxHeartbeats 4000000 in
theorem ints_any (w : World) (a b : Sv) (x : List Nat) (ha : Ints w a x) (hb : Ints w b x) :
    Calls Tryz.prog 9 #[.slice a.A a.n a.c, .slice b.A b.n b.c] w fun e w' => e = .returned (.bool true) ∧ Gr w w' := by
  obtain ⟨aA, an, ac⟩ := a
  obtain ⟨bA, bn, bc⟩ := b
  have h1 : x.length = an := ha.len
  have h2 : x.length = bn := hb.len
  obtain rfl : bn = an := by omega
  have hM : bn ≤ 9223372036854775807 := Nat.le_trans (Sv.Is.cap ha) (Sv.Is.max ha)
  have HA := Lib.hid ha
  have HB := Lib.hid hb
  have HX := Lib.hid h1
  have hnn : ((bn : Int) != bn) = false := by simp
  clear ha hb h1 h2
  go_enter Tryz.func9, Tryz.ntmps9
  go_wp2_with fail
  go_loopw [5] (fun i wr => ∃ k : Nat, i = .int .i64 k ∧ k ≤ bn ∧ Hid (Gr w wr)) (fun i _ => bn - (intOf i).toNat)
  case atStart => exact ⟨0, rfl, Nat.zero_le _, Gr.refl w⟩
  case round =>
    obtain ⟨k, rfl, hk, HG⟩ := hrel
    by_cases hkn : k < bn
    · obtain ⟨q, hq⟩ : ∃ q, x[k]? = some q := ⟨_, List.getElem?_eq_getElem (by rw [HX.out]; exact hkn)⟩
      have hqv : (x.map iv)[k]? = some (iv q) := by rw [List.getElem?_map, hq]; rfl
      obtain ⟨ad, hA, _, d0⟩ := (HA.out.gr HG.out).look hqv
      obtain ⟨bd, hB, _, u0⟩ := (HB.out.gr HG.out).look hqv
      simp only at hA hB
      subst hA hB
      have hm9 : k < 9223372036854775807 := Nat.lt_of_lt_of_le hkn hM
      have hqq : ((q : Int) != q) = false := by simp
      clear hq hqv
      go_wp2_with fail
      go_upto_region 6 with fail
      refine wp_region_any (by kernel_rfl) ?_
      have kc := Lib.hid (fun (W' : World) (G : Gr wr.drew W') => And.intro (G.keep d0) (G.keep u0))
      have hst : ∀ p ∈ ([] : List (Nat × (Value → World → Prop))), ∀ (u : Value) (wA0 wB0 : World), Gr wr.drew wA0 → Gr wA0 wB0 → p.2 u wA0 → p.2 u wB0 := by
        intro p hp; cases hp
      refine wpAny_walk (m := 0) (last := #[true, true, true, true, true, true, true, true, true]) [0, 1, 2, 3, 4, 5, 6, 7, 8] [] (by kernel_rfl) (by decide) (by kernel_rfl) hst ?_
      clear hst
      refine Walk.take (v := ?wv21) rfl rfl (Or.inl ⟨by rfl, ?wy21⟩) ?wr21
      case wy21 => (intro w' hw'; obtain ⟨d0, u0⟩ := kc.out w' hw'; go_simp; try with_reducible rfl)
      try simp only [Act.put, List.setIfInBounds_toArray, List.set_cons_zero, List.set_cons_succ]
      refine Walk.take (v := ?wv22) rfl rfl (Or.inl ⟨by rfl, ?wy22⟩) ?wr22
      case wy22 => (intro w' hw'; obtain ⟨d0, u0⟩ := kc.out w' hw'; go_simp; try with_reducible rfl)
      try simp only [Act.put, List.setIfInBounds_toArray, List.set_cons_zero, List.set_cons_succ]
      refine Walk.take (v := ?wv23) rfl rfl (Or.inl ⟨by rfl, ?wy23⟩) ?wr23
      case wy23 => (intro w' hw'; obtain ⟨d0, u0⟩ := kc.out w' hw'; go_simp; try with_reducible rfl)
      try simp only [Act.put, List.setIfInBounds_toArray, List.set_cons_zero, List.set_cons_succ]
      refine Walk.take (v := ?wv24) rfl rfl (Or.inl ⟨by rfl, ?wy24⟩) ?wr24
      case wy24 => (intro w' hw'; obtain ⟨d0, u0⟩ := kc.out w' hw'; go_simp; try with_reducible rfl)
      try simp only [Act.put, List.setIfInBounds_toArray, List.set_cons_zero, List.set_cons_succ]
      refine Walk.take (v := ?wv25) rfl rfl (Or.inl ⟨by rfl, ?wy25⟩) ?wr25
      case wy25 => (intro w' hw'; obtain ⟨d0, u0⟩ := kc.out w' hw'; go_simp; try with_reducible rfl)
      try simp only [Act.put, List.setIfInBounds_toArray, List.set_cons_zero, List.set_cons_succ]
      refine Walk.take (v := ?wv26) rfl rfl (Or.inl ⟨by rfl, ?wy26⟩) ?wr26
      case wy26 => (intro w' hw'; obtain ⟨d0, u0⟩ := kc.out w' hw'; go_simp; try with_reducible rfl)
      try simp only [Act.put, List.setIfInBounds_toArray, List.set_cons_zero, List.set_cons_succ]
      refine Walk.take (v := ?wv27) rfl rfl (Or.inl ⟨by rfl, ?wy27⟩) ?wr27
      case wy27 => (intro w' hw'; obtain ⟨d0, u0⟩ := kc.out w' hw'; go_simp; try with_reducible rfl)
      try simp only [Act.put, List.setIfInBounds_toArray, List.set_cons_zero, List.set_cons_succ]
      refine Walk.take (v := ?wv28) rfl rfl (Or.inl ⟨by rfl, ?wy28⟩) ?wr28
      case wy28 => (intro w' hw'; obtain ⟨d0, u0⟩ := kc.out w' hw'; go_simp; try with_reducible rfl)
      try simp only [Act.put, List.setIfInBounds_toArray, List.set_cons_zero, List.set_cons_succ]
      refine Walk.take (v := ?wv29) rfl rfl (Or.inl ⟨by rfl, ?wy29⟩) ?wr29
      case wy29 => (intro w' hw'; obtain ⟨d0, u0⟩ := kc.out w' hw'; go_simp; try with_reducible rfl)
      try simp only [Act.put, List.setIfInBounds_toArray, List.set_cons_zero, List.set_cons_succ]
      refine Walk.done (fun W1 G1 F1 => ?_)
      clear F1
      have kc1 := kc.out W1 G1
      clear kc d0 u0
      obtain ⟨d0, u0⟩ := kc1
      refine wpAny_end (by kernel_rfl) ?_
      have HG1 := Lib.hid (HG.out.trans G1.of_drew)
      clear G1 d0 u0
      go_wp2
      go_roundw
      · exact ⟨k + 1, by go_num, by omega, HG1⟩
      · simp [intOf]; omega
    · obtain rfl : k = bn := by omega
      go_wp2
      go_ret
      exact ⟨rfl, HG.out⟩

/-- What Diff returns. -/
def diffG (x y : Gm) : List Nat × List Nat × Nat := if x.inputs = y.inputs ∧ x.units.length = y.units.length ∧ x.outputs.length = y.outputs.length then (diffL x.units y.units, diffL x.outputs y.outputs, 0) else ([], [], 11)
set_option maxRecDepth 100000 in
set_option maxHeartbeats 4000000 in
theorem diff_any (w : World) (a b : Gv) (x y : Gm) (ha : a.Is w x) (hb : b.Is w y) (hx : x.Va) (hy : y.Va) :
    Calls Tryz.prog 7 #[a.v, b.v] w fun e w' => ∃ u o : Sv, e = .returned (.tuple #[u.v, o.v, .int .i64 (diffG x y).2.2]) ∧ Ints w' u (diffG x y).1 ∧ Ints w' o (diffG x y).2.1 ∧ Gr w w' := by
  have hai := ha.inputs
  have hbi := hb.inputs
  have hau := ha.units.len
  have hbu := hb.units.len
  have hao := ha.outs.len
  have hbo := hb.outs.len
  have e1 : (a.inputs != b.inputs) = !decide (x.inputs = y.inputs) := by rw [hai, hbi]; by_cases h : x.inputs = y.inputs <;> simp [h]; omega
  have e2 : ((a.units.n : Int) != b.units.n) = !decide (x.units.length = y.units.length) := by rw [hau, hbu]; by_cases h : a.units.n = b.units.n <;> simp [h]; omega
  have e3 : ((a.outs.n : Int) != b.outs.n) = !decide (x.outputs.length = y.outputs.length) := by rw [hao, hbo]; by_cases h : a.outs.n = b.outs.n <;> simp [h]; omega
  have E1 := Lib.hid e1
  have E2 := Lib.hid e2
  have E3 := Lib.hid e3
  clear e1 e2 e3 hai hbi hau hbu hao hbo
  obtain ⟨B1, B2, G⟩ := made2 w 26 26 (#[.int .i64 a.inputs, .slice a.units.A a.units.n a.units.c, .slice a.outs.A a.outs.n a.outs.c]) (#[.int .i64 b.inputs, .slice b.units.A b.units.n b.units.c, .slice b.outs.A b.outs.n b.outs.c])
  have HG := Lib.hid G
  have D_p := Lib.hid B1
  have D_q0 := Lib.hid B2
  clear G B1 B2
  have HA := Lib.hid ha
  have HB := Lib.hid hb
  have HX := Lib.hid hx
  have HY := Lib.hid hy
  clear ha hb hx hy
  obtain ⟨a0, a1, a2⟩ := D_p.out.c3
  obtain ⟨b0, b1, b2⟩ := D_q0.out.c3
  simp only [Gv.v] at *
  go_enter Tryz.func7, Tryz.ntmps7
  go_wp2_with fail
  generalize hW : (w.alloc (.cells #[.int .i64 a.inputs, .slice a.units.A a.units.n a.units.c, .slice a.outs.A a.outs.n a.outs.c] 26)).alloc (.cells #[.int .i64 b.inputs, .slice b.units.A b.units.n b.units.c, .slice b.outs.A b.outs.n b.outs.c] 26) = W at *
  clear hW
  have N_p : Hid (w.heap.size ≤ w.heap.size) := (by show w.heap.size ≤ w.heap.size; omega)
  have N_q0 : Hid (w.heap.size ≤ w.heap.size + 1) := (by show w.heap.size ≤ w.heap.size + 1; omega)
  generalize w.heap.size + 1 = q0 at *
  go_at_call 18
  refine (gvalid_any W a x (HA.out.gr HG.out) HX.out).mono ?_
  rintro e w1 ⟨rfl, G1⟩
  replace HG := Lib.hid (HG.out.trans G1)
  replace D_p := Lib.hid (G1.bk D_p.out)
  replace D_q0 := Lib.hid (G1.bk D_q0.out)
  clear G1 a0 a1 a2 b0 b1 b2
  obtain ⟨a0, a1, a2⟩ := D_p.out.c3
  obtain ⟨b0, b1, b2⟩ := D_q0.out.c3
  go_wp2_with fail
  go_at_call 18
  refine (gvalid_any w1 b y (HB.out.gr HG.out) HY.out).mono ?_
  rintro e w2 ⟨rfl, G1⟩
  replace HG := Lib.hid (HG.out.trans G1)
  replace D_p := Lib.hid (G1.bk D_p.out)
  replace D_q0 := Lib.hid (G1.bk D_q0.out)
  clear G1 a0 a1 a2 b0 b1 b2
  obtain ⟨a0, a1, a2⟩ := D_p.out.c3
  obtain ⟨b0, b1, b2⟩ := D_q0.out.c3
  by_cases h1 : x.inputs = y.inputs
  · have e1 : (a.inputs != b.inputs) = false := by rw [E1.out, decide_eq_true h1]; rfl
    by_cases h2 : x.units.length = y.units.length
    · have e2 : ((a.units.n : Int) != b.units.n) = false := by rw [E2.out, decide_eq_true h2]; rfl
      by_cases h3 : x.outputs.length = y.outputs.length
      · have e3 : ((a.outs.n : Int) != b.outs.n) = false := by rw [E3.out, decide_eq_true h3]; rfl
        have HE2 := Lib.hid h2
        have HE3 := Lib.hid h3
        have HD : Hid (diffG x y = (diffL x.units y.units, diffL x.outputs y.outputs, 0)) := if_pos ⟨h1, h2, h3⟩
        clear h1 h2 h3
        go_wp2_with fail
        go_upto_region 5 with fail
        refine wp_region_any (by kernel_rfl) ?_
        have kc := Lib.hid (fun (W' : World) (G : Gr w2.drew W') => And.intro (G.keep a0) (And.intro (G.keep a1) (And.intro (G.keep a2) (And.intro (G.keep b0) (And.intro (G.keep b1) (G.keep b2))))))
        have hst : ∀ p ∈ ([(4, Ints.At (diffL x.units y.units)), (9, Ints.At (diffL x.outputs y.outputs))] : List (Nat × (Value → World → Prop))), ∀ (u : Value) (wA0 wB0 : World), Gr w2.drew wA0 → Gr wA0 wB0 → p.2 u wA0 → p.2 u wB0 := by
          intro p hp u wA0 wB0 h0 G h
          simp only [List.mem_cons, List.not_mem_nil, or_false] at hp
          rcases hp with rfl | rfl
          · exact Ints.At.gr h G
          · exact Ints.At.gr h G
        refine wpAny_walk (m := 0) (last := #[true, true, true, true, true, true, true, true, true, true, true, true, true]) [0, 1, 2, 3, 4, 5, 6, 7, 8, 9, 10, 11, 12] [(4, Ints.At (diffL x.units y.units)), (9, Ints.At (diffL x.outputs y.outputs))] (by kernel_rfl) (by decide) (by kernel_rfl) hst ?_
        clear hst
        refine Walk.take (v := ?wv30) rfl rfl (Or.inl ⟨by rfl, ?wy30⟩) ?wr30
        case wy30 => (intro w' hw'; obtain ⟨a0, a1, a2, b0, b1, b2⟩ := kc.out w' hw'; go_simp; try with_reducible rfl)
        try simp only [Act.put, List.setIfInBounds_toArray, List.set_cons_zero, List.set_cons_succ]
        refine Walk.take (v := ?wv31) rfl rfl (Or.inl ⟨by rfl, ?wy31⟩) ?wr31
        case wy31 => (intro w' hw'; obtain ⟨a0, a1, a2, b0, b1, b2⟩ := kc.out w' hw'; go_simp; try with_reducible rfl)
        try simp only [Act.put, List.setIfInBounds_toArray, List.set_cons_zero, List.set_cons_succ]
        refine Walk.take (v := ?wv32) rfl rfl (Or.inl ⟨by rfl, ?wy32⟩) ?wr32
        case wy32 => (intro w' hw'; obtain ⟨a0, a1, a2, b0, b1, b2⟩ := kc.out w' hw'; go_simp; try with_reducible rfl)
        try simp only [Act.put, List.setIfInBounds_toArray, List.set_cons_zero, List.set_cons_succ]
        refine Walk.take (v := ?wv33) rfl rfl (Or.inl ⟨by rfl, ?wy33⟩) ?wr33
        case wy33 => (intro w' hw'; obtain ⟨a0, a1, a2, b0, b1, b2⟩ := kc.out w' hw'; go_simp; try with_reducible rfl)
        try simp only [Act.put, List.setIfInBounds_toArray, List.set_cons_zero, List.set_cons_succ]
        refine Walk.do rfl rfl (by rfl) (fun W1 G1 F1 => ?ws34) (fun v hv => ?wr34)
        case ws34 =>
          obtain ⟨a0, a1, a2, b0, b1, b2⟩ := kc.out W1 G1
          refine doesAt_enter (f := 19) (args := #[.slice a.units.A a.units.n a.units.c, .slice b.units.A b.units.n b.units.c]) (by go_simp; try (first | with_reducible rfl | rfl)) ?_
          refine (differ_any W1 a.units b.units x.units y.units (HA.out.units.gr (HG.out.trans G1.of_drew)) (HB.out.units.gr (HG.out.trans G1.of_drew)) HE2.out (Nat.le_trans HX.out.u9 (by decide))).mono ?_
          rintro e w' ⟨u, rfl, hi, G⟩
          exact ⟨_, rfl, G, u, rfl, hi⟩
        obtain ⟨_, -, -, ⟨u, rfl, -⟩⟩ := hv
        try simp only [Act.put, List.setIfInBounds_toArray, List.set_cons_zero, List.set_cons_succ]
        refine Walk.take (v := ?wv35) rfl rfl (Or.inl ⟨by rfl, ?wy35⟩) ?wr35
        case wy35 => (intro w' hw'; obtain ⟨a0, a1, a2, b0, b1, b2⟩ := kc.out w' hw'; go_simp; try with_reducible rfl)
        try simp only [Act.put, List.setIfInBounds_toArray, List.set_cons_zero, List.set_cons_succ]
        refine Walk.take (v := ?wv36) rfl rfl (Or.inl ⟨by rfl, ?wy36⟩) ?wr36
        case wy36 => (intro w' hw'; obtain ⟨a0, a1, a2, b0, b1, b2⟩ := kc.out w' hw'; go_simp; try with_reducible rfl)
        try simp only [Act.put, List.setIfInBounds_toArray, List.set_cons_zero, List.set_cons_succ]
        refine Walk.take (v := ?wv37) rfl rfl (Or.inl ⟨by rfl, ?wy37⟩) ?wr37
        case wy37 => (intro w' hw'; obtain ⟨a0, a1, a2, b0, b1, b2⟩ := kc.out w' hw'; go_simp; try with_reducible rfl)
        try simp only [Act.put, List.setIfInBounds_toArray, List.set_cons_zero, List.set_cons_succ]
        refine Walk.take (v := ?wv38) rfl rfl (Or.inl ⟨by rfl, ?wy38⟩) ?wr38
        case wy38 => (intro w' hw'; obtain ⟨a0, a1, a2, b0, b1, b2⟩ := kc.out w' hw'; go_simp; try with_reducible rfl)
        try simp only [Act.put, List.setIfInBounds_toArray, List.set_cons_zero, List.set_cons_succ]
        refine Walk.do rfl rfl (by rfl) (fun W1 G1 F1 => ?ws39) (fun v hv => ?wr39)
        case ws39 =>
          obtain ⟨a0, a1, a2, b0, b1, b2⟩ := kc.out W1 G1
          refine doesAt_enter (f := 19) (args := #[.slice a.outs.A a.outs.n a.outs.c, .slice b.outs.A b.outs.n b.outs.c]) (by go_simp; try (first | with_reducible rfl | rfl)) ?_
          refine (differ_any W1 a.outs b.outs x.outputs y.outputs (HA.out.outs.gr (HG.out.trans G1.of_drew)) (HB.out.outs.gr (HG.out.trans G1.of_drew)) HE3.out (Nat.le_trans HX.out.o9 (by decide))).mono ?_
          rintro e w' ⟨o, rfl, hi, G⟩
          exact ⟨_, rfl, G, o, rfl, hi⟩
        obtain ⟨_, -, -, ⟨o, rfl, -⟩⟩ := hv
        try simp only [Act.put, List.setIfInBounds_toArray, List.set_cons_zero, List.set_cons_succ]
        refine Walk.take (v := ?wv40) rfl rfl (Or.inl ⟨by rfl, ?wy40⟩) ?wr40
        case wy40 => (intro w' hw'; obtain ⟨a0, a1, a2, b0, b1, b2⟩ := kc.out w' hw'; go_simp; try with_reducible rfl)
        try simp only [Act.put, List.setIfInBounds_toArray, List.set_cons_zero, List.set_cons_succ]
        refine Walk.take (v := ?wv41) rfl rfl (Or.inl ⟨by rfl, ?wy41⟩) ?wr41
        case wy41 => (intro w' hw'; obtain ⟨a0, a1, a2, b0, b1, b2⟩ := kc.out w' hw'; go_simp; try with_reducible rfl)
        try simp only [Act.put, List.setIfInBounds_toArray, List.set_cons_zero, List.set_cons_succ]
        refine Walk.take (v := ?wv42) rfl rfl (Or.inl ⟨by rfl, ?wy42⟩) ?wr42
        case wy42 => (intro w' hw'; obtain ⟨a0, a1, a2, b0, b1, b2⟩ := kc.out w' hw'; go_simp; try with_reducible rfl)
        try simp only [Act.put, List.setIfInBounds_toArray, List.set_cons_zero, List.set_cons_succ]
        refine Walk.done (fun W1 G1 F1 => ?_)
        have hu := F1 _ (List.mem_of_getElem? (i := 0) rfl)
        have ho := F1 _ (List.mem_of_getElem? (i := 1) rfl)
        clear F1
        have kc1 := kc.out W1 G1
        clear kc a0 a1 a2 b0 b1 b2
        obtain ⟨a0, a1, a2, b0, b1, b2⟩ := kc1
        refine wpAny_end (by kernel_rfl) ?_
        replace HG := Lib.hid (HG.out.trans G1.of_drew)
        have HU := Lib.hid hu.is
        have HO := Lib.hid ho.is
        clear hu ho G1 a0 a1 a2 b0 b1 b2
        go_wp2
        go_returns
        rw [HD.out]
        exact ⟨u, o, rfl, HU.out, HO.out, HG.out⟩
      · have e3 : ((a.outs.n : Int) != b.outs.n) = true := by rw [E3.out, decide_eq_false h3]; rfl
        have HD : Hid (diffG x y = ([], [], 11)) := if_neg fun h => h3 h.2.2
        go_wp2
        go_returns
        rw [HD.out]
        exact ⟨Sv.none, Sv.none, rfl, Sv.Is.none _ 1, Sv.Is.none _ 1, HG.out⟩
    · have e2 : ((a.units.n : Int) != b.units.n) = true := by rw [E2.out, decide_eq_false h2]; rfl
      have HD : Hid (diffG x y = ([], [], 11)) := if_neg fun h => h2 h.2.1
      go_wp2
      go_returns
      rw [HD.out]
      exact ⟨Sv.none, Sv.none, rfl, Sv.Is.none _ 1, Sv.Is.none _ 1, HG.out⟩
  · have e1 : (a.inputs != b.inputs) = true := by rw [E1.out, decide_eq_false h1]; rfl
    have HD : Hid (diffG x y = ([], [], 11)) := if_neg fun h => h1 h.1
    go_wp2
    go_returns
    rw [HD.out]
    exact ⟨Sv.none, Sv.none, rfl, Sv.Is.none _ 1, Sv.Is.none _ 1, HG.out⟩

set_option maxRecDepth 100000 in
set_option maxHeartbeats 4000000 in
theorem r50diff_any (w : World) (a b : Gv) (x y : Gm) (ha : a.Is w x) (hb : b.Is w y) (hx : x.Va) (hy : y.Va) :
    Calls Tryz.prog 8 #[a.v, b.v] w fun e w' => ∃ u o : Sv, e = .returned (.tuple #[u.v, o.v, .int .i64 (diffG x y).2.2]) ∧ Ints w' u (diffG x y).1 ∧ Ints w' o (diffG x y).2.1 ∧ Gr w w' := by
  have hai := ha.inputs
  have hbi := hb.inputs
  have hau := ha.units.len
  have hbu := hb.units.len
  have hao := ha.outs.len
  have hbo := hb.outs.len
  have e1 : (a.inputs != b.inputs) = !decide (x.inputs = y.inputs) := by rw [hai, hbi]; by_cases h : x.inputs = y.inputs <;> simp [h]; omega
  have e2 : ((a.units.n : Int) != b.units.n) = !decide (x.units.length = y.units.length) := by rw [hau, hbu]; by_cases h : a.units.n = b.units.n <;> simp [h]; omega
  have e3 : ((a.outs.n : Int) != b.outs.n) = !decide (x.outputs.length = y.outputs.length) := by rw [hao, hbo]; by_cases h : a.outs.n = b.outs.n <;> simp [h]; omega
  have E1 := Lib.hid e1
  have E2 := Lib.hid e2
  have E3 := Lib.hid e3
  clear e1 e2 e3 hai hbi hau hbu hao hbo
  obtain ⟨B1, B2, G⟩ := made2 w 26 26 (#[.int .i64 a.inputs, .slice a.units.A a.units.n a.units.c, .slice a.outs.A a.outs.n a.outs.c]) (#[.int .i64 b.inputs, .slice b.units.A b.units.n b.units.c, .slice b.outs.A b.outs.n b.outs.c])
  have HG := Lib.hid G
  have D_p := Lib.hid B1
  have D_q0 := Lib.hid B2
  clear G B1 B2
  have HA := Lib.hid ha
  have HB := Lib.hid hb
  have HX := Lib.hid hx
  have HY := Lib.hid hy
  clear ha hb hx hy
  obtain ⟨a0, a1, a2⟩ := D_p.out.c3
  obtain ⟨b0, b1, b2⟩ := D_q0.out.c3
  simp only [Gv.v] at *
  go_enter Tryz.func8, Tryz.ntmps8
  go_wp2_with fail
  generalize hW : (w.alloc (.cells #[.int .i64 a.inputs, .slice a.units.A a.units.n a.units.c, .slice a.outs.A a.outs.n a.outs.c] 26)).alloc (.cells #[.int .i64 b.inputs, .slice b.units.A b.units.n b.units.c, .slice b.outs.A b.outs.n b.outs.c] 26) = W at *
  clear hW
  have N_p : Hid (w.heap.size ≤ w.heap.size) := (by show w.heap.size ≤ w.heap.size; omega)
  have N_q0 : Hid (w.heap.size ≤ w.heap.size + 1) := (by show w.heap.size ≤ w.heap.size + 1; omega)
  generalize w.heap.size + 1 = q0 at *
  go_at_call 20
  refine (r15valid_any W a x (HA.out.gr HG.out) HX.out).mono ?_
  rintro e w1 ⟨rfl, G1⟩
  replace HG := Lib.hid (HG.out.trans G1)
  replace D_p := Lib.hid (G1.bk D_p.out)
  replace D_q0 := Lib.hid (G1.bk D_q0.out)
  clear G1 a0 a1 a2 b0 b1 b2
  obtain ⟨a0, a1, a2⟩ := D_p.out.c3
  obtain ⟨b0, b1, b2⟩ := D_q0.out.c3
  go_wp2_with fail
  go_at_call 20
  refine (r15valid_any w1 b y (HB.out.gr HG.out) HY.out).mono ?_
  rintro e w2 ⟨rfl, G1⟩
  replace HG := Lib.hid (HG.out.trans G1)
  replace D_p := Lib.hid (G1.bk D_p.out)
  replace D_q0 := Lib.hid (G1.bk D_q0.out)
  clear G1 a0 a1 a2 b0 b1 b2
  obtain ⟨a0, a1, a2⟩ := D_p.out.c3
  obtain ⟨b0, b1, b2⟩ := D_q0.out.c3
  by_cases h1 : x.inputs = y.inputs
  · have e1 : (a.inputs != b.inputs) = false := by rw [E1.out, decide_eq_true h1]; rfl
    by_cases h2 : x.units.length = y.units.length
    · have e2 : ((a.units.n : Int) != b.units.n) = false := by rw [E2.out, decide_eq_true h2]; rfl
      by_cases h3 : x.outputs.length = y.outputs.length
      · have e3 : ((a.outs.n : Int) != b.outs.n) = false := by rw [E3.out, decide_eq_true h3]; rfl
        have HE2 := Lib.hid h2
        have HE3 := Lib.hid h3
        have HD : Hid (diffG x y = (diffL x.units y.units, diffL x.outputs y.outputs, 0)) := if_pos ⟨h1, h2, h3⟩
        clear h1 h2 h3
        go_wp2_with fail
        go_upto_region 5 with fail
        refine wp_region_any (by kernel_rfl) ?_
        have kc := Lib.hid (fun (W' : World) (G : Gr w2.drew W') => And.intro (G.keep a0) (And.intro (G.keep a1) (And.intro (G.keep a2) (And.intro (G.keep b0) (And.intro (G.keep b1) (G.keep b2))))))
        have hst : ∀ p ∈ ([(4, Ints.At (diffL x.units y.units)), (9, Ints.At (diffL x.outputs y.outputs))] : List (Nat × (Value → World → Prop))), ∀ (u : Value) (wA0 wB0 : World), Gr w2.drew wA0 → Gr wA0 wB0 → p.2 u wA0 → p.2 u wB0 := by
          intro p hp u wA0 wB0 h0 G h
          simp only [List.mem_cons, List.not_mem_nil, or_false] at hp
          rcases hp with rfl | rfl
          · exact Ints.At.gr h G
          · exact Ints.At.gr h G
        refine wpAny_walk (m := 0) (last := #[true, true, true, true, true, true, true, true, true, true, true, true, true]) [0, 1, 2, 3, 4, 5, 6, 7, 8, 9, 10, 11, 12] [(4, Ints.At (diffL x.units y.units)), (9, Ints.At (diffL x.outputs y.outputs))] (by kernel_rfl) (by decide) (by kernel_rfl) hst ?_
        clear hst
        refine Walk.take (v := ?wv43) rfl rfl (Or.inl ⟨by rfl, ?wy43⟩) ?wr43
        case wy43 => (intro w' hw'; obtain ⟨a0, a1, a2, b0, b1, b2⟩ := kc.out w' hw'; go_simp; try with_reducible rfl)
        try simp only [Act.put, List.setIfInBounds_toArray, List.set_cons_zero, List.set_cons_succ]
        refine Walk.take (v := ?wv44) rfl rfl (Or.inl ⟨by rfl, ?wy44⟩) ?wr44
        case wy44 => (intro w' hw'; obtain ⟨a0, a1, a2, b0, b1, b2⟩ := kc.out w' hw'; go_simp; try with_reducible rfl)
        try simp only [Act.put, List.setIfInBounds_toArray, List.set_cons_zero, List.set_cons_succ]
        refine Walk.take (v := ?wv45) rfl rfl (Or.inl ⟨by rfl, ?wy45⟩) ?wr45
        case wy45 => (intro w' hw'; obtain ⟨a0, a1, a2, b0, b1, b2⟩ := kc.out w' hw'; go_simp; try with_reducible rfl)
        try simp only [Act.put, List.setIfInBounds_toArray, List.set_cons_zero, List.set_cons_succ]
        refine Walk.take (v := ?wv46) rfl rfl (Or.inl ⟨by rfl, ?wy46⟩) ?wr46
        case wy46 => (intro w' hw'; obtain ⟨a0, a1, a2, b0, b1, b2⟩ := kc.out w' hw'; go_simp; try with_reducible rfl)
        try simp only [Act.put, List.setIfInBounds_toArray, List.set_cons_zero, List.set_cons_succ]
        refine Walk.do rfl rfl (by rfl) (fun W1 G1 F1 => ?ws47) (fun v hv => ?wr47)
        case ws47 =>
          obtain ⟨a0, a1, a2, b0, b1, b2⟩ := kc.out W1 G1
          refine doesAt_enter (f := 21) (args := #[.slice a.units.A a.units.n a.units.c, .slice b.units.A b.units.n b.units.c]) (by go_simp; try (first | with_reducible rfl | rfl)) ?_
          refine (different_any W1 a.units b.units x.units y.units (HA.out.units.gr (HG.out.trans G1.of_drew)) (HB.out.units.gr (HG.out.trans G1.of_drew)) HE2.out (Nat.le_trans HX.out.u9 (by decide))).mono ?_
          rintro e w' ⟨u, rfl, hi, G⟩
          exact ⟨_, rfl, G, u, rfl, hi⟩
        obtain ⟨_, -, -, ⟨u, rfl, -⟩⟩ := hv
        try simp only [Act.put, List.setIfInBounds_toArray, List.set_cons_zero, List.set_cons_succ]
        refine Walk.take (v := ?wv48) rfl rfl (Or.inl ⟨by rfl, ?wy48⟩) ?wr48
        case wy48 => (intro w' hw'; obtain ⟨a0, a1, a2, b0, b1, b2⟩ := kc.out w' hw'; go_simp; try with_reducible rfl)
        try simp only [Act.put, List.setIfInBounds_toArray, List.set_cons_zero, List.set_cons_succ]
        refine Walk.take (v := ?wv49) rfl rfl (Or.inl ⟨by rfl, ?wy49⟩) ?wr49
        case wy49 => (intro w' hw'; obtain ⟨a0, a1, a2, b0, b1, b2⟩ := kc.out w' hw'; go_simp; try with_reducible rfl)
        try simp only [Act.put, List.setIfInBounds_toArray, List.set_cons_zero, List.set_cons_succ]
        refine Walk.take (v := ?wv50) rfl rfl (Or.inl ⟨by rfl, ?wy50⟩) ?wr50
        case wy50 => (intro w' hw'; obtain ⟨a0, a1, a2, b0, b1, b2⟩ := kc.out w' hw'; go_simp; try with_reducible rfl)
        try simp only [Act.put, List.setIfInBounds_toArray, List.set_cons_zero, List.set_cons_succ]
        refine Walk.take (v := ?wv51) rfl rfl (Or.inl ⟨by rfl, ?wy51⟩) ?wr51
        case wy51 => (intro w' hw'; obtain ⟨a0, a1, a2, b0, b1, b2⟩ := kc.out w' hw'; go_simp; try with_reducible rfl)
        try simp only [Act.put, List.setIfInBounds_toArray, List.set_cons_zero, List.set_cons_succ]
        refine Walk.do rfl rfl (by rfl) (fun W1 G1 F1 => ?ws52) (fun v hv => ?wr52)
        case ws52 =>
          obtain ⟨a0, a1, a2, b0, b1, b2⟩ := kc.out W1 G1
          refine doesAt_enter (f := 21) (args := #[.slice a.outs.A a.outs.n a.outs.c, .slice b.outs.A b.outs.n b.outs.c]) (by go_simp; try (first | with_reducible rfl | rfl)) ?_
          refine (different_any W1 a.outs b.outs x.outputs y.outputs (HA.out.outs.gr (HG.out.trans G1.of_drew)) (HB.out.outs.gr (HG.out.trans G1.of_drew)) HE3.out (Nat.le_trans HX.out.o9 (by decide))).mono ?_
          rintro e w' ⟨o, rfl, hi, G⟩
          exact ⟨_, rfl, G, o, rfl, hi⟩
        obtain ⟨_, -, -, ⟨o, rfl, -⟩⟩ := hv
        try simp only [Act.put, List.setIfInBounds_toArray, List.set_cons_zero, List.set_cons_succ]
        refine Walk.take (v := ?wv53) rfl rfl (Or.inl ⟨by rfl, ?wy53⟩) ?wr53
        case wy53 => (intro w' hw'; obtain ⟨a0, a1, a2, b0, b1, b2⟩ := kc.out w' hw'; go_simp; try with_reducible rfl)
        try simp only [Act.put, List.setIfInBounds_toArray, List.set_cons_zero, List.set_cons_succ]
        refine Walk.take (v := ?wv54) rfl rfl (Or.inl ⟨by rfl, ?wy54⟩) ?wr54
        case wy54 => (intro w' hw'; obtain ⟨a0, a1, a2, b0, b1, b2⟩ := kc.out w' hw'; go_simp; try with_reducible rfl)
        try simp only [Act.put, List.setIfInBounds_toArray, List.set_cons_zero, List.set_cons_succ]
        refine Walk.take (v := ?wv55) rfl rfl (Or.inl ⟨by rfl, ?wy55⟩) ?wr55
        case wy55 => (intro w' hw'; obtain ⟨a0, a1, a2, b0, b1, b2⟩ := kc.out w' hw'; go_simp; try with_reducible rfl)
        try simp only [Act.put, List.setIfInBounds_toArray, List.set_cons_zero, List.set_cons_succ]
        refine Walk.done (fun W1 G1 F1 => ?_)
        have hu := F1 _ (List.mem_of_getElem? (i := 0) rfl)
        have ho := F1 _ (List.mem_of_getElem? (i := 1) rfl)
        clear F1
        have kc1 := kc.out W1 G1
        clear kc a0 a1 a2 b0 b1 b2
        obtain ⟨a0, a1, a2, b0, b1, b2⟩ := kc1
        refine wpAny_end (by kernel_rfl) ?_
        replace HG := Lib.hid (HG.out.trans G1.of_drew)
        have HU := Lib.hid hu.is
        have HO := Lib.hid ho.is
        clear hu ho G1 a0 a1 a2 b0 b1 b2
        go_wp2
        go_returns
        rw [HD.out]
        exact ⟨u, o, rfl, HU.out, HO.out, HG.out⟩
      · have e3 : ((a.outs.n : Int) != b.outs.n) = true := by rw [E3.out, decide_eq_false h3]; rfl
        have HD : Hid (diffG x y = ([], [], 11)) := if_neg fun h => h3 h.2.2
        go_wp2
        go_returns
        rw [HD.out]
        exact ⟨Sv.none, Sv.none, rfl, Sv.Is.none _ 1, Sv.Is.none _ 1, HG.out⟩
    · have e2 : ((a.units.n : Int) != b.units.n) = true := by rw [E2.out, decide_eq_false h2]; rfl
      have HD : Hid (diffG x y = ([], [], 11)) := if_neg fun h => h2 h.2.1
      go_wp2
      go_returns
      rw [HD.out]
      exact ⟨Sv.none, Sv.none, rfl, Sv.Is.none _ 1, Sv.Is.none _ 1, HG.out⟩
  · have e1 : (a.inputs != b.inputs) = true := by rw [E1.out, decide_eq_false h1]; rfl
    have HD : Hid (diffG x y = ([], [], 11)) := if_neg fun h => h1 h.1
    go_wp2
    go_returns
    rw [HD.out]
    exact ⟨Sv.none, Sv.none, rfl, Sv.Is.none _ 1, Sv.Is.none _ 1, HG.out⟩

end Go.Proofs.YtcmfepaffhnemaaGreatDoor

set_option linter.unusedVariables false
namespace Go.Proofs.YtcmfepaffhnemaaGreatDoor
open Go.RowKit

attribute [local go_sem] Oper.semAt_some

abbrev bv (x : Nat) : Value := .int .u8 (x : Int)
/-- The feed at p has the bytes r left. -/
def Fd (w : World) (p : Nat) (r : List Nat) : Prop := ∃ (A : Option Addr) (n c k : Nat) (L : List Nat), Bk w p 96 #[.slice A n c, .int .i64 (k : Int)] ∧ Sv.Is w ⟨A, n, c⟩ 1 (L.map bv) ∧ Sv.Ty w ⟨A, n, c⟩ 5 ∧ k ≤ n ∧ n ≤ 1000 ∧ L.length = n ∧ r = L.drop k ∧ ∀ x ∈ L, x < 256
theorem Fd.gr {w w' : World} {p : Nat} {r : List Nat} (h : Fd w p r) (G : Gr w w') : Fd w' p r := by
  obtain ⟨A, n, c, k, L, h1, h2, h3, h4⟩ := h
  exact ⟨A, n, c, k, L, G.bk h1, h2.gr G, h3.gr G, h4⟩
theorem Fd.fr {w w' : World} {p : Nat} {r : List Nat} {X : Nat → Prop} (h : Fd w p r) (F : Fr X w w') (hp : ¬ X p) (hX : ∀ b cs fr, X b → w.heap[b]? ≠ some (.cells cs 5 fr)) : Fd w' p r := by
  obtain ⟨A, n, c, k, L, h1, h2, h3, h4⟩ := h
  obtain ⟨h5, h6⟩ := h2.tf h3 F hX
  exact ⟨A, n, c, k, L, F.bk h1 hp, h5, h6, h4⟩
theorem Fd.bk {w : World} {p : Nat} {r : List Nat} (h : Fd w p r) : ∃ cs, Bk w p 96 cs := by
  obtain ⟨A, n, c, k, L, h1, _⟩ := h
  exact ⟨_, h1⟩
/-- Only the feed has changed. -/
abbrev Fp (p : Nat) (w w' : World) : Prop := Fr (fun b => b = p) w w'
theorem Fr.stp {p : Nat} {w w1 w2 : World} {X : Nat → Prop} (h : Fp p w w1) (k : Fr X w1 w2) (hX : ∀ b, b < w1.heap.size → X b → b = p ∨ w.heap.size ≤ b) : Fp p w w2 := ⟨h.bel.trans k.bel, fun b hb hx => by
  have hb1 := Nat.lt_of_lt_of_le hb h.size
  rw [k.keep b hb1 (fun e => by rcases hX b hb1 e with e | e; exact hx e; omega)]
  exact h.keep b hb hx⟩
theorem Gr.fp {w w' : World} {p : Nat} (G : Gr w w') : Fp p w w' := G.fr.none

set_option maxRecDepth 100000 in
set_option maxHeartbeats 4000000 in
theorem next_any (w : World) (p n : Nat) (r : List Nat) (hf : Fd w p r) (h0 : 0 < n) (h9 : n ≤ 1000) :
    Calls Tryz.prog 23 #[.pointer (some ⟨p, 0, none⟩), .int .i64 n] w fun e w' => e = .returned (.int .i64 (nx n r).1) ∧ Fd w' p (nx n r).2 ∧ Fp p w w' := by
  obtain ⟨A, m, c, k, L, hb, hs, ht, hk, hm, hL, hr, hl⟩ := hf
  have HB := Lib.hid hb
  have HS := Lib.hid hs
  have HT := Lib.hid ht
  have HL := Lib.hid hL
  have HR := Lib.hid hr
  have HLL := Lib.hid hl
  clear hb hs ht hL hr hl
  obtain ⟨a0, a1⟩ := HB.out.c2
  have fz := HB.out.frozen
  by_cases hkm : k < m
  · obtain ⟨x, hx⟩ : ∃ x, L[k]? = some x := ⟨_, List.getElem?_eq_getElem (by rw [HL.out]; exact hkm)⟩
    have hxv : (L.map bv)[k]? = some (bv x) := by rw [List.getElem?_map, hx]; rfl
    obtain ⟨ad, hA, _, d0⟩ := HS.out.look hxv
    simp only at hA
    subst hA
    have hx9 := HLL.out x (List.mem_of_getElem? hx)
    have hge : decide ((m : Int) ≤ (k : Int)) = false := by simp; omega
    have hw : IntKind.i64.wrap ((k : Int) + 1) = ((k + 1 : Nat) : Int) := by rw [IntWalk.i64_in _ (by omega)]; omega
    have hw2 : IntKind.i64.wrap (((k + 1 : Nat) : Int) - 1) = (k : Int) := by rw [IntWalk.i64_in _ (by omega)]; omega
    have hw3 : IntKind.i64.wrap (x : Int) = (x : Int) := by rw [IntWalk.i64_in _ (by omega)]
    have HRR : Hid (r = x :: L.drop (k + 1)) := by rw [HR.out, List.drop_eq_getElem?_toList_append, hx]; rfl
    have HXV := Lib.hid hxv
    have hw4 : IntKind.i64.wrap (k : Int) = (k : Int) := by rw [IntWalk.i64_in _ (by omega)]
    have hq : (x : Int).tmod (n : Int) = ((x % n : Nat) : Int) := tmod_nat x n
    have hq1 : IntKind.i64.wrap ((x % n : Nat) : Int) = ((x % n : Nat) : Int) := by have := Nat.mod_le x n; rw [IntWalk.i64_in _ (by omega)]
    have hn0 : ((n : Int) == 0) = false := by simp; omega
    have hn1 : (n : Int) ≠ 0 := by omega
    have hn2 : n ≠ 0 := by omega
    clear hxv hx
    go_enter Tryz.func23, Tryz.ntmps23
    go_upto_region 1 with fail
    refine wp_region_any (by kernel_rfl) ?_
    have kc := Lib.hid (fun (W' : World) (G : Gr w.drew W') => And.intro (G.keep a0) (G.keep a1))
    have hst : ∀ p ∈ ([] : List (Nat × (Value → World → Prop))), ∀ (u : Value) (wA0 wB0 : World), Gr w.drew wA0 → Gr wA0 wB0 → p.2 u wA0 → p.2 u wB0 := by
      intro p hp; cases hp
    refine wpAny_walk (m := 0) (last := #[true, true, true, true, true, true, true, true, true, true]) [0, 1, 2, 3, 4, 5, 6, 7, 8, 9] [] (by kernel_rfl) (by decide) (by kernel_rfl) hst ?_
    clear hst
    refine Walk.take (v := ?wv1) rfl rfl (Or.inl ⟨by rfl, ?wy1⟩) ?wr1
    case wy1 => (intro w' hw'; obtain ⟨a0, a1⟩ := kc.out w' hw'; go_simp; try with_reducible rfl)
    try simp only [Act.put, List.setIfInBounds_toArray, List.set_cons_zero, List.set_cons_succ]
    refine Walk.take (v := ?wv2) rfl rfl (Or.inl ⟨by rfl, ?wy2⟩) ?wr2
    case wy2 => (intro w' hw'; obtain ⟨a0, a1⟩ := kc.out w' hw'; go_simp; try with_reducible rfl)
    try simp only [Act.put, List.setIfInBounds_toArray, List.set_cons_zero, List.set_cons_succ]
    refine Walk.take (v := ?wv3) rfl rfl (Or.inl ⟨by rfl, ?wy3⟩) ?wr3
    case wy3 => (intro w' hw'; obtain ⟨a0, a1⟩ := kc.out w' hw'; go_simp; try with_reducible rfl)
    try simp only [Act.put, List.setIfInBounds_toArray, List.set_cons_zero, List.set_cons_succ]
    refine Walk.take (v := ?wv4) rfl rfl (Or.inl ⟨by rfl, ?wy4⟩) ?wr4
    case wy4 => (intro w' hw'; obtain ⟨a0, a1⟩ := kc.out w' hw'; go_simp; try with_reducible rfl)
    try simp only [Act.put, List.setIfInBounds_toArray, List.set_cons_zero, List.set_cons_succ]
    refine Walk.take (v := ?wv5) rfl rfl (Or.inl ⟨by rfl, ?wy5⟩) ?wr5
    case wy5 => (intro w' hw'; obtain ⟨a0, a1⟩ := kc.out w' hw'; go_simp; try with_reducible rfl)
    try simp only [Act.put, List.setIfInBounds_toArray, List.set_cons_zero, List.set_cons_succ]
    refine Walk.take (v := ?wv6) rfl rfl (Or.inl ⟨by rfl, ?wy6⟩) ?wr6
    case wy6 => (intro w' hw'; obtain ⟨a0, a1⟩ := kc.out w' hw'; go_simp; try with_reducible rfl)
    try simp only [Act.put, List.setIfInBounds_toArray, List.set_cons_zero, List.set_cons_succ]
    refine Walk.take (v := ?wv7) rfl rfl (Or.inl ⟨by rfl, ?wy7⟩) ?wr7
    case wy7 => (intro w' hw'; obtain ⟨a0, a1⟩ := kc.out w' hw'; go_simp; try with_reducible rfl)
    try simp only [Act.put, List.setIfInBounds_toArray, List.set_cons_zero, List.set_cons_succ]
    refine Walk.take (v := ?wv8) rfl rfl (Or.inl ⟨by rfl, ?wy8⟩) ?wr8
    case wy8 => (intro w' hw'; obtain ⟨a0, a1⟩ := kc.out w' hw'; go_simp; try with_reducible rfl)
    try simp only [Act.put, List.setIfInBounds_toArray, List.set_cons_zero, List.set_cons_succ]
    refine Walk.take (v := ?wv9) rfl rfl (Or.inl ⟨by rfl, ?wy9⟩) ?wr9
    case wy9 => (intro w' hw'; obtain ⟨a0, a1⟩ := kc.out w' hw'; go_simp; try with_reducible rfl)
    try simp only [Act.put, List.setIfInBounds_toArray, List.set_cons_zero, List.set_cons_succ]
    refine Walk.take (v := ?wv10) rfl rfl (Or.inl ⟨by rfl, ?wy10⟩) ?wr10
    case wy10 => (intro w' hw'; obtain ⟨a0, a1⟩ := kc.out w' hw'; go_simp; try with_reducible rfl)
    try simp only [Act.put, List.setIfInBounds_toArray, List.set_cons_zero, List.set_cons_succ]
    refine Walk.done (fun W1 G1 F1 => ?_)
    clear F1
    have kc1 := kc.out W1 G1
    clear kc a0 a1
    obtain ⟨a0, a1⟩ := kc1
    refine wpAny_end (by kernel_rfl) ?_
    have HG := Lib.hid G1.of_drew
    have B1 := G1.of_drew.bk HB.out
    have fz1 := B1.frozen
    clear G1 a0 a1 fz d0
    obtain ⟨a0, a1⟩ := B1.c2
    go_wp2_with fail
    have F2 := (Fr.set W1 ⟨p, 1, none⟩ (.int .i64 ((k : Int) + 1)) rfl : Fr (fun b => b = p) W1 _)
    have B2 := B1.put 1 (.int .i64 ((k : Int) + 1))
    obtain ⟨s2, t2⟩ := (HS.out.gr HG.out).tf (HT.out.gr HG.out) F2 (fun b cs fr e hh => Bk.not_ty B1 (by decide) cs fr (e ▸ hh))
    obtain ⟨ad', hA', _, d0⟩ := s2.look HXV.out
    obtain rfl : ad = ad' := by simpa using hA'
    have HF2 := Lib.hid ((HG.out.fp).trans F2)
    have HB2 := Lib.hid B2
    have HS2 := Lib.hid s2
    have HT2 := Lib.hid t2
    clear F2 B2 s2 t2 hA' B1 fz1 a0 a1
    simp only [Array.setIfInBounds, List.size_toArray, List.length_cons, List.length_nil] at HB2
    generalize W1.setCell ⟨p, 1, none⟩ (.int .i64 ((k : Int) + 1)) = W2 at *
    obtain ⟨a0, a1⟩ := HB2.out.c2
    refine wp_region_any (by kernel_rfl) ?_
    have kc := Lib.hid (fun (W' : World) (G : Gr W2.drew W') => And.intro (G.keep a0) (And.intro (G.keep a1) (G.keep d0)))
    have hst : ∀ p ∈ ([] : List (Nat × (Value → World → Prop))), ∀ (u : Value) (wA0 wB0 : World), Gr W2.drew wA0 → Gr wA0 wB0 → p.2 u wA0 → p.2 u wB0 := by
      intro p hp; cases hp
    refine wpAny_walk (m := 0) (last := #[true, true, true, true, true, true, true, true, true, true, true, true, true, true, true]) [0, 1, 2, 3, 4, 5, 6, 7, 8, 9, 10, 11, 12, 13, 14] [] (by kernel_rfl) (by decide) (by kernel_rfl) hst ?_
    clear hst
    refine Walk.take (v := ?wv11) rfl rfl (Or.inl ⟨by rfl, ?wy11⟩) ?wr11
    case wy11 => (intro w' hw'; obtain ⟨a0, a1, d0⟩ := kc.out w' hw'; go_simp; try with_reducible rfl)
    try simp only [Act.put, List.setIfInBounds_toArray, List.set_cons_zero, List.set_cons_succ]
    refine Walk.take (v := ?wv12) rfl rfl (Or.inl ⟨by rfl, ?wy12⟩) ?wr12
    case wy12 => (intro w' hw'; obtain ⟨a0, a1, d0⟩ := kc.out w' hw'; go_simp; try with_reducible rfl)
    try simp only [Act.put, List.setIfInBounds_toArray, List.set_cons_zero, List.set_cons_succ]
    refine Walk.take (v := ?wv13) rfl rfl (Or.inl ⟨by rfl, ?wy13⟩) ?wr13
    case wy13 => (intro w' hw'; obtain ⟨a0, a1, d0⟩ := kc.out w' hw'; go_simp; try with_reducible rfl)
    try simp only [Act.put, List.setIfInBounds_toArray, List.set_cons_zero, List.set_cons_succ]
    refine Walk.take (v := ?wv14) rfl rfl (Or.inl ⟨by rfl, ?wy14⟩) ?wr14
    case wy14 => (intro w' hw'; obtain ⟨a0, a1, d0⟩ := kc.out w' hw'; go_simp; try with_reducible rfl)
    try simp only [Act.put, List.setIfInBounds_toArray, List.set_cons_zero, List.set_cons_succ]
    refine Walk.take (v := ?wv15) rfl rfl (Or.inl ⟨by rfl, ?wy15⟩) ?wr15
    case wy15 => (intro w' hw'; obtain ⟨a0, a1, d0⟩ := kc.out w' hw'; go_simp; try with_reducible rfl)
    try simp only [Act.put, List.setIfInBounds_toArray, List.set_cons_zero, List.set_cons_succ]
    refine Walk.take (v := ?wv16) rfl rfl (Or.inl ⟨by rfl, ?wy16⟩) ?wr16
    case wy16 => (intro w' hw'; obtain ⟨a0, a1, d0⟩ := kc.out w' hw'; go_simp; try with_reducible rfl)
    try simp only [Act.put, List.setIfInBounds_toArray, List.set_cons_zero, List.set_cons_succ]
    refine Walk.take (v := ?wv17) rfl rfl (Or.inl ⟨by rfl, ?wy17⟩) ?wr17
    case wy17 => (intro w' hw'; obtain ⟨a0, a1, d0⟩ := kc.out w' hw'; go_simp; try with_reducible rfl)
    try simp only [Act.put, List.setIfInBounds_toArray, List.set_cons_zero, List.set_cons_succ]
    refine Walk.take (v := ?wv18) rfl rfl (Or.inl ⟨by rfl, ?wy18⟩) ?wr18
    case wy18 => (intro w' hw'; obtain ⟨a0, a1, d0⟩ := kc.out w' hw'; go_simp; try with_reducible rfl)
    try simp only [Act.put, List.setIfInBounds_toArray, List.set_cons_zero, List.set_cons_succ]
    refine Walk.take (v := ?wv19) rfl rfl (Or.inl ⟨by rfl, ?wy19⟩) ?wr19
    case wy19 => (intro w' hw'; obtain ⟨a0, a1, d0⟩ := kc.out w' hw'; go_simp; try with_reducible rfl)
    try simp only [Act.put, List.setIfInBounds_toArray, List.set_cons_zero, List.set_cons_succ]
    refine Walk.take (v := ?wv20) rfl rfl (Or.inl ⟨by rfl, ?wy20⟩) ?wr20
    case wy20 => (intro w' hw'; obtain ⟨a0, a1, d0⟩ := kc.out w' hw'; go_simp; try with_reducible rfl)
    try simp only [Act.put, List.setIfInBounds_toArray, List.set_cons_zero, List.set_cons_succ]
    refine Walk.take (v := ?wv21) rfl rfl (Or.inl ⟨by rfl, ?wy21⟩) ?wr21
    case wy21 => (intro w' hw'; obtain ⟨a0, a1, d0⟩ := kc.out w' hw'; go_simp; try with_reducible rfl)
    try simp only [Act.put, List.setIfInBounds_toArray, List.set_cons_zero, List.set_cons_succ]
    refine Walk.take (v := ?wv22) rfl rfl (Or.inl ⟨by rfl, ?wy22⟩) ?wr22
    case wy22 => (intro w' hw'; obtain ⟨a0, a1, d0⟩ := kc.out w' hw'; go_simp; try with_reducible rfl)
    try simp only [Act.put, List.setIfInBounds_toArray, List.set_cons_zero, List.set_cons_succ]
    refine Walk.take (v := ?wv23) rfl rfl (Or.inl ⟨by rfl, ?wy23⟩) ?wr23
    case wy23 => (intro w' hw'; obtain ⟨a0, a1, d0⟩ := kc.out w' hw'; go_simp; try with_reducible rfl)
    try simp only [Act.put, List.setIfInBounds_toArray, List.set_cons_zero, List.set_cons_succ]
    refine Walk.take (v := ?wv24) rfl rfl (Or.inl ⟨by rfl, ?wy24⟩) ?wr24
    case wy24 => (intro w' hw'; obtain ⟨a0, a1, d0⟩ := kc.out w' hw'; go_simp; try with_reducible rfl)
    try simp only [Act.put, List.setIfInBounds_toArray, List.set_cons_zero, List.set_cons_succ]
    refine Walk.take (v := ?wv25) rfl rfl (Or.inl ⟨by rfl, ?wy25⟩) ?wr25
    case wy25 => (intro w' hw'; obtain ⟨a0, a1, d0⟩ := kc.out w' hw'; go_simp; try with_reducible rfl)
    try simp only [Act.put, List.setIfInBounds_toArray, List.set_cons_zero, List.set_cons_succ]
    refine Walk.done (fun W1 G1 F1 => ?_)
    clear F1
    have kc1 := kc.out W1 G1
    clear kc a0 a1 d0
    obtain ⟨a0, a1, d0⟩ := kc1
    refine wpAny_end (by kernel_rfl) ?_
    have HG3 := Lib.hid G1.of_drew
    clear G1 a0 a1 d0
    go_wp2
    go_ret
    refine ⟨?_, ⟨some ad, m, c, k + 1, L, ?_, HS2.out.gr HG3.out, HT2.out.gr HG3.out, by omega, hm, HL.out, ?_, HLL.out⟩, HF2.out.trans HG3.out.fp⟩
    · rw [HRR.out]; rfl
    · have := HG3.out.bk HB2.out
      rw [show ((k + 1 : Nat) : Int) = (k : Int) + 1 from by omega]
      exact this
    · rw [HRR.out]; rfl
  · have hge : decide ((m : Int) ≤ (k : Int)) = true := by simp; omega
    have HRR : Hid (r = []) := by rw [HR.out]; exact Lib.hid (List.drop_eq_nil_of_le (by rw [HL.out]; omega))
    go_enter Tryz.func23, Tryz.ntmps23
    go_upto_region 1 with fail
    refine wp_region_any (by kernel_rfl) ?_
    have kc := Lib.hid (fun (W' : World) (G : Gr w.drew W') => And.intro (G.keep a0) (G.keep a1))
    have hst : ∀ p ∈ ([] : List (Nat × (Value → World → Prop))), ∀ (u : Value) (wA0 wB0 : World), Gr w.drew wA0 → Gr wA0 wB0 → p.2 u wA0 → p.2 u wB0 := by
      intro p hp; cases hp
    refine wpAny_walk (m := 0) (last := #[true, true, true, true, true, true, true, true, true, true]) [0, 1, 2, 3, 4, 5, 6, 7, 8, 9] [] (by kernel_rfl) (by decide) (by kernel_rfl) hst ?_
    clear hst
    refine Walk.take (v := ?wv26) rfl rfl (Or.inl ⟨by rfl, ?wy26⟩) ?wr26
    case wy26 => (intro w' hw'; obtain ⟨a0, a1⟩ := kc.out w' hw'; go_simp; try with_reducible rfl)
    try simp only [Act.put, List.setIfInBounds_toArray, List.set_cons_zero, List.set_cons_succ]
    refine Walk.take (v := ?wv27) rfl rfl (Or.inl ⟨by rfl, ?wy27⟩) ?wr27
    case wy27 => (intro w' hw'; obtain ⟨a0, a1⟩ := kc.out w' hw'; go_simp; try with_reducible rfl)
    try simp only [Act.put, List.setIfInBounds_toArray, List.set_cons_zero, List.set_cons_succ]
    refine Walk.take (v := ?wv28) rfl rfl (Or.inl ⟨by rfl, ?wy28⟩) ?wr28
    case wy28 => (intro w' hw'; obtain ⟨a0, a1⟩ := kc.out w' hw'; go_simp; try with_reducible rfl)
    try simp only [Act.put, List.setIfInBounds_toArray, List.set_cons_zero, List.set_cons_succ]
    refine Walk.take (v := ?wv29) rfl rfl (Or.inl ⟨by rfl, ?wy29⟩) ?wr29
    case wy29 => (intro w' hw'; obtain ⟨a0, a1⟩ := kc.out w' hw'; go_simp; try with_reducible rfl)
    try simp only [Act.put, List.setIfInBounds_toArray, List.set_cons_zero, List.set_cons_succ]
    refine Walk.take (v := ?wv30) rfl rfl (Or.inl ⟨by rfl, ?wy30⟩) ?wr30
    case wy30 => (intro w' hw'; obtain ⟨a0, a1⟩ := kc.out w' hw'; go_simp; try with_reducible rfl)
    try simp only [Act.put, List.setIfInBounds_toArray, List.set_cons_zero, List.set_cons_succ]
    refine Walk.take (v := ?wv31) rfl rfl (Or.inl ⟨by rfl, ?wy31⟩) ?wr31
    case wy31 => (intro w' hw'; obtain ⟨a0, a1⟩ := kc.out w' hw'; go_simp; try with_reducible rfl)
    try simp only [Act.put, List.setIfInBounds_toArray, List.set_cons_zero, List.set_cons_succ]
    refine Walk.take (v := ?wv32) rfl rfl (Or.inl ⟨by rfl, ?wy32⟩) ?wr32
    case wy32 => (intro w' hw'; obtain ⟨a0, a1⟩ := kc.out w' hw'; go_simp; try with_reducible rfl)
    try simp only [Act.put, List.setIfInBounds_toArray, List.set_cons_zero, List.set_cons_succ]
    refine Walk.take (v := ?wv33) rfl rfl (Or.inl ⟨by rfl, ?wy33⟩) ?wr33
    case wy33 => (intro w' hw'; obtain ⟨a0, a1⟩ := kc.out w' hw'; go_simp; try with_reducible rfl)
    try simp only [Act.put, List.setIfInBounds_toArray, List.set_cons_zero, List.set_cons_succ]
    refine Walk.take (v := ?wv34) rfl rfl (Or.inl ⟨by rfl, ?wy34⟩) ?wr34
    case wy34 => (intro w' hw'; obtain ⟨a0, a1⟩ := kc.out w' hw'; go_simp; try with_reducible rfl)
    try simp only [Act.put, List.setIfInBounds_toArray, List.set_cons_zero, List.set_cons_succ]
    refine Walk.take (v := ?wv35) rfl rfl (Or.inl ⟨by rfl, ?wy35⟩) ?wr35
    case wy35 => (intro w' hw'; obtain ⟨a0, a1⟩ := kc.out w' hw'; go_simp; try with_reducible rfl)
    try simp only [Act.put, List.setIfInBounds_toArray, List.set_cons_zero, List.set_cons_succ]
    refine Walk.done (fun W1 G1 F1 => ?_)
    clear F1
    have kc1 := kc.out W1 G1
    clear kc a0 a1
    obtain ⟨a0, a1⟩ := kc1
    refine wpAny_end (by kernel_rfl) ?_
    have HG := Lib.hid G1.of_drew
    clear G1 a0 a1 fz
    go_wp2
    go_ret
    refine ⟨?_, ⟨A, m, c, k, L, HG.out.bk HB.out, HS.out.gr HG.out, HT.out.gr HG.out, hk, hm, HL.out, ?_, HLL.out⟩, HG.out.fp⟩
    · rw [HRR.out]; rfl
    · rw [HRR.out]; exact (HRR.out.symm.trans HR.out)
set_option maxRecDepth 100000 in
set_option maxHeartbeats 4000000 in
theorem number_any (w : World) (p : Nat) (r : List Nat) (hf : Fd w p r) :
    Calls Tryz.prog 27 #[.pointer (some ⟨p, 0, none⟩)] w fun e w' => ∃ q : Rv, e = .returned q.v ∧ q.Is w' (numQ r).1 ∧ Fd w' p (numQ r).2 ∧ Fp p w w' := by
  have HFD := Lib.hid hf
  obtain ⟨B0, G0⟩ := made1 w 41 #[.bool false, .slice none 0 0, .slice none 0 0]
  have D_r := Lib.hid B0
  have HG := Lib.hid G0
  clear hf B0 G0
  have hx1 := nx_lt (n := 9) (by decide) r
  have hx2 := nx_lt (n := 4) (by decide) (nx 9 r).2
  have HN1 : Hid ((numQ r).1 = fracQ ((nx 9 r).1 - 4) (denN (nx 4 (nx 9 r).2).1)) := rfl
  have HM1 : Hid ((numQ r).2 = (nx 4 (nx 9 r).2).2) := rfl
  go_enter Tryz.func27, Tryz.ntmps27
  go_wp2_with fail
  generalize hW : w.alloc (.cells #[.bool false, .slice none 0 0, .slice none 0 0] 41) = W at *
  clear hW
  have N_r0 : Hid (w.heap.size ≤ w.heap.size) := Nat.le_refl _
  generalize hr0 : w.heap.size = r0 at D_r ⊢
  have HR0 := Lib.hid hr0
  have N_r0 : Hid (w.heap.size ≤ r0) := Nat.le_of_eq hr0
  clear hr0
  have H1 := Lib.hid (next_any W p 9 r (HFD.out.gr HG.out) (by decide) (by decide))
  refine H1.out.mono ?_
  rintro e w1 ⟨rfl, hd1, hf1⟩
  generalize hxx : (nx 9 r).1 = x at *
  have hw1 : IntKind.i64.wrap ((x : Int) - 4) = (x : Int) - 4 := by rw [IntWalk.i64_in _ (by omega)]
  have HD1 := Lib.hid hd1
  have HF1 := Lib.hid (HG.out.fp.trans hf1)
  have DR1 := Lib.hid (hf1.bk D_r.out (fun e => by obtain ⟨cs, hc⟩ := hd1.bk; obtain ⟨cs', hc'⟩ := (HFD.out.gr HG.out).bk; exact Bk.ne hc' D_r.out (by decide) e.symm))
  clear hd1 hf1 H1 hxx
  go_wp2_with fail
  have H2 := Lib.hid (next_any w1 p 4 _ HD1.out (by decide) (by decide))
  refine H2.out.mono ?_
  rintro e w2 ⟨rfl, hd2, hf2⟩
  have DR2 := Lib.hid (hf2.bk DR1.out (fun e => by obtain ⟨cs, hc⟩ := HD1.out.bk; exact Bk.ne hc DR1.out (by decide) e.symm))
  have HF2 := Lib.hid (HF1.out.trans hf2)
  have HD2 := Lib.hid hd2
  clear hd2 hf2 H2 HD1 DR1 HF1
  generalize hjj : (nx 4 (nx 9 r).2).1 = j at *
  have HM := HM1
  have HN := HN1
  clear hjj HM1 HN1
  rcases j with _ | _ | _ | _ | j
  · have hix : ∀ W : World, (Instr.index 108 (.agg #[.int .i64 1, .int .i64 1, .int .i64 2, .int .i64 4]) (.int .i64 0)).run Tryz.prog W = .ok (.int .i64 1) W := fun W => by kernel_rfl
    have H3 := Lib.hid (frac_any w2 ((x : Int) - 4) 1 (by omega) (by omega) (by decide) (by decide))
    go_wp2_with fail
    refine H3.out.mono ?_
    rintro e w3 ⟨q, rfl, hq, G3⟩
    have HQ := Lib.hid hq
    have HD3 := Lib.hid (HD2.out.gr G3)
    have HF3 := Lib.hid (HF2.out.stp G3.fr (fun _ _ h => h.elim))
    have DR3 := Lib.hid (G3.bk DR2.out)
    clear hq G3 H3
    obtain ⟨B1, GB⟩ := made1 w3 41 #[.bool q.neg, .slice q.num.A q.num.n q.num.c, .slice q.den.A q.den.n q.den.c]
    have hne : ¬ w3.heap.size = r0 := fun e => Nat.lt_irrefl _ (e ▸ DR3.out.lt)
    have Q5 := Lib.hid (HQ.out.gr GB)
    have D5 := Lib.hid (HD3.out.gr GB)
    have P5 := Lib.hid (HF3.out.stp GB.fr (fun _ _ h => h.elim))
    have R6 := Lib.hid (GB.bk DR3.out)
    have C6 := Lib.hid B1
    clear GB B1
    go_upto_region 2 with fail
    generalize w3.alloc (.cells #[.bool q.neg, .slice q.num.A q.num.n q.num.c, .slice q.den.A q.den.n q.den.c] 41) = W5 at *
    generalize w3.heap.size = t3 at *
    obtain ⟨c0, c1, c2⟩ := C6.out.c3
    obtain ⟨z0, z1, z2⟩ := R6.out.c3
    have fz5 := R6.out.frozen
    obtain ⟨B6, F6⟩ := R6.out.put3 (.bool q.neg) (.slice q.num.A q.num.n q.num.c) (.slice q.den.A q.den.n q.den.c)
    have Q6 := Lib.hid (Q5.out.tf' F6 R6.out (by decide))
    have D6 := Lib.hid (D5.out.fr F6 (fun e => (by obtain ⟨cs, hc⟩ := D5.out.bk; exact Bk.ne hc R6.out (by decide) e)) (fun b cs fr e hh => Bk.not_ty R6.out (by decide) cs fr (e ▸ hh)))
    have P6 := Lib.hid (P5.out.stp F6 (fun b _ e => Or.inr (by rw [e]; exact N_r0.out)))
    obtain ⟨d0, d1, d2⟩ := B6.c3
    clear B6 F6
    go_wp2
    generalize ((W5.setCell ⟨r0, 0, none⟩ (.bool q.neg)).setCell ⟨r0, 1, none⟩ (.slice q.num.A q.num.n q.num.c)).setCell ⟨r0, 2, none⟩ (.slice q.den.A q.den.n q.den.c) = W6 at *
    (try simp only [Exit.inBlock, Exit.then])
    refine bodyPost_ret (by simp [results, Tryz.results27, go_sem, d0, d1, d2]; try rfl) rfl ?_
    have HE : (numQ r).1 = quot (decide ((x : Int) - 4 < 0)) ((x : Int) - 4).natAbs 1 := HN.out.trans (by unfold fracQ; rfl)
    rw [HE, HM.out]
    exact ⟨q, rfl, Q6.out, D6.out, P6.out⟩
  · have hix : ∀ W : World, (Instr.index 108 (.agg #[.int .i64 1, .int .i64 1, .int .i64 2, .int .i64 4]) (.int .i64 1)).run Tryz.prog W = .ok (.int .i64 1) W := fun W => by kernel_rfl
    have H3 := Lib.hid (frac_any w2 ((x : Int) - 4) 1 (by omega) (by omega) (by decide) (by decide))
    go_wp2_with fail
    refine H3.out.mono ?_
    rintro e w3 ⟨q, rfl, hq, G3⟩
    have HQ := Lib.hid hq
    have HD3 := Lib.hid (HD2.out.gr G3)
    have HF3 := Lib.hid (HF2.out.stp G3.fr (fun _ _ h => h.elim))
    have DR3 := Lib.hid (G3.bk DR2.out)
    clear hq G3 H3
    obtain ⟨B1, GB⟩ := made1 w3 41 #[.bool q.neg, .slice q.num.A q.num.n q.num.c, .slice q.den.A q.den.n q.den.c]
    have hne : ¬ w3.heap.size = r0 := fun e => Nat.lt_irrefl _ (e ▸ DR3.out.lt)
    have Q5 := Lib.hid (HQ.out.gr GB)
    have D5 := Lib.hid (HD3.out.gr GB)
    have P5 := Lib.hid (HF3.out.stp GB.fr (fun _ _ h => h.elim))
    have R6 := Lib.hid (GB.bk DR3.out)
    have C6 := Lib.hid B1
    clear GB B1
    go_upto_region 2 with fail
    generalize w3.alloc (.cells #[.bool q.neg, .slice q.num.A q.num.n q.num.c, .slice q.den.A q.den.n q.den.c] 41) = W5 at *
    generalize w3.heap.size = t3 at *
    obtain ⟨c0, c1, c2⟩ := C6.out.c3
    obtain ⟨z0, z1, z2⟩ := R6.out.c3
    have fz5 := R6.out.frozen
    obtain ⟨B6, F6⟩ := R6.out.put3 (.bool q.neg) (.slice q.num.A q.num.n q.num.c) (.slice q.den.A q.den.n q.den.c)
    have Q6 := Lib.hid (Q5.out.tf' F6 R6.out (by decide))
    have D6 := Lib.hid (D5.out.fr F6 (fun e => (by obtain ⟨cs, hc⟩ := D5.out.bk; exact Bk.ne hc R6.out (by decide) e)) (fun b cs fr e hh => Bk.not_ty R6.out (by decide) cs fr (e ▸ hh)))
    have P6 := Lib.hid (P5.out.stp F6 (fun b _ e => Or.inr (by rw [e]; exact N_r0.out)))
    obtain ⟨d0, d1, d2⟩ := B6.c3
    clear B6 F6
    go_wp2
    generalize ((W5.setCell ⟨r0, 0, none⟩ (.bool q.neg)).setCell ⟨r0, 1, none⟩ (.slice q.num.A q.num.n q.num.c)).setCell ⟨r0, 2, none⟩ (.slice q.den.A q.den.n q.den.c) = W6 at *
    (try simp only [Exit.inBlock, Exit.then])
    refine bodyPost_ret (by simp [results, Tryz.results27, go_sem, d0, d1, d2]; try rfl) rfl ?_
    have HE : (numQ r).1 = quot (decide ((x : Int) - 4 < 0)) ((x : Int) - 4).natAbs 1 := HN.out.trans (by unfold fracQ; rfl)
    rw [HE, HM.out]
    exact ⟨q, rfl, Q6.out, D6.out, P6.out⟩
  · have hix : ∀ W : World, (Instr.index 108 (.agg #[.int .i64 1, .int .i64 1, .int .i64 2, .int .i64 4]) (.int .i64 2)).run Tryz.prog W = .ok (.int .i64 2) W := fun W => by kernel_rfl
    have H3 := Lib.hid (frac_any w2 ((x : Int) - 4) 2 (by omega) (by omega) (by decide) (by decide))
    go_wp2_with fail
    refine H3.out.mono ?_
    rintro e w3 ⟨q, rfl, hq, G3⟩
    have HQ := Lib.hid hq
    have HD3 := Lib.hid (HD2.out.gr G3)
    have HF3 := Lib.hid (HF2.out.stp G3.fr (fun _ _ h => h.elim))
    have DR3 := Lib.hid (G3.bk DR2.out)
    clear hq G3 H3
    obtain ⟨B1, GB⟩ := made1 w3 41 #[.bool q.neg, .slice q.num.A q.num.n q.num.c, .slice q.den.A q.den.n q.den.c]
    have hne : ¬ w3.heap.size = r0 := fun e => Nat.lt_irrefl _ (e ▸ DR3.out.lt)
    have Q5 := Lib.hid (HQ.out.gr GB)
    have D5 := Lib.hid (HD3.out.gr GB)
    have P5 := Lib.hid (HF3.out.stp GB.fr (fun _ _ h => h.elim))
    have R6 := Lib.hid (GB.bk DR3.out)
    have C6 := Lib.hid B1
    clear GB B1
    go_upto_region 2 with fail
    generalize w3.alloc (.cells #[.bool q.neg, .slice q.num.A q.num.n q.num.c, .slice q.den.A q.den.n q.den.c] 41) = W5 at *
    generalize w3.heap.size = t3 at *
    obtain ⟨c0, c1, c2⟩ := C6.out.c3
    obtain ⟨z0, z1, z2⟩ := R6.out.c3
    have fz5 := R6.out.frozen
    obtain ⟨B6, F6⟩ := R6.out.put3 (.bool q.neg) (.slice q.num.A q.num.n q.num.c) (.slice q.den.A q.den.n q.den.c)
    have Q6 := Lib.hid (Q5.out.tf' F6 R6.out (by decide))
    have D6 := Lib.hid (D5.out.fr F6 (fun e => (by obtain ⟨cs, hc⟩ := D5.out.bk; exact Bk.ne hc R6.out (by decide) e)) (fun b cs fr e hh => Bk.not_ty R6.out (by decide) cs fr (e ▸ hh)))
    have P6 := Lib.hid (P5.out.stp F6 (fun b _ e => Or.inr (by rw [e]; exact N_r0.out)))
    obtain ⟨d0, d1, d2⟩ := B6.c3
    clear B6 F6
    go_wp2
    generalize ((W5.setCell ⟨r0, 0, none⟩ (.bool q.neg)).setCell ⟨r0, 1, none⟩ (.slice q.num.A q.num.n q.num.c)).setCell ⟨r0, 2, none⟩ (.slice q.den.A q.den.n q.den.c) = W6 at *
    (try simp only [Exit.inBlock, Exit.then])
    refine bodyPost_ret (by simp [results, Tryz.results27, go_sem, d0, d1, d2]; try rfl) rfl ?_
    have HE : (numQ r).1 = quot (decide ((x : Int) - 4 < 0)) ((x : Int) - 4).natAbs 2 := HN.out.trans (by unfold fracQ; rfl)
    rw [HE, HM.out]
    exact ⟨q, rfl, Q6.out, D6.out, P6.out⟩
  · have hix : ∀ W : World, (Instr.index 108 (.agg #[.int .i64 1, .int .i64 1, .int .i64 2, .int .i64 4]) (.int .i64 3)).run Tryz.prog W = .ok (.int .i64 4) W := fun W => by kernel_rfl
    have H3 := Lib.hid (frac_any w2 ((x : Int) - 4) 4 (by omega) (by omega) (by decide) (by decide))
    go_wp2_with fail
    refine H3.out.mono ?_
    rintro e w3 ⟨q, rfl, hq, G3⟩
    have HQ := Lib.hid hq
    have HD3 := Lib.hid (HD2.out.gr G3)
    have HF3 := Lib.hid (HF2.out.stp G3.fr (fun _ _ h => h.elim))
    have DR3 := Lib.hid (G3.bk DR2.out)
    clear hq G3 H3
    obtain ⟨B1, GB⟩ := made1 w3 41 #[.bool q.neg, .slice q.num.A q.num.n q.num.c, .slice q.den.A q.den.n q.den.c]
    have hne : ¬ w3.heap.size = r0 := fun e => Nat.lt_irrefl _ (e ▸ DR3.out.lt)
    have Q5 := Lib.hid (HQ.out.gr GB)
    have D5 := Lib.hid (HD3.out.gr GB)
    have P5 := Lib.hid (HF3.out.stp GB.fr (fun _ _ h => h.elim))
    have R6 := Lib.hid (GB.bk DR3.out)
    have C6 := Lib.hid B1
    clear GB B1
    go_upto_region 2 with fail
    generalize w3.alloc (.cells #[.bool q.neg, .slice q.num.A q.num.n q.num.c, .slice q.den.A q.den.n q.den.c] 41) = W5 at *
    generalize w3.heap.size = t3 at *
    obtain ⟨c0, c1, c2⟩ := C6.out.c3
    obtain ⟨z0, z1, z2⟩ := R6.out.c3
    have fz5 := R6.out.frozen
    obtain ⟨B6, F6⟩ := R6.out.put3 (.bool q.neg) (.slice q.num.A q.num.n q.num.c) (.slice q.den.A q.den.n q.den.c)
    have Q6 := Lib.hid (Q5.out.tf' F6 R6.out (by decide))
    have D6 := Lib.hid (D5.out.fr F6 (fun e => (by obtain ⟨cs, hc⟩ := D5.out.bk; exact Bk.ne hc R6.out (by decide) e)) (fun b cs fr e hh => Bk.not_ty R6.out (by decide) cs fr (e ▸ hh)))
    have P6 := Lib.hid (P5.out.stp F6 (fun b _ e => Or.inr (by rw [e]; exact N_r0.out)))
    obtain ⟨d0, d1, d2⟩ := B6.c3
    clear B6 F6
    go_wp2
    generalize ((W5.setCell ⟨r0, 0, none⟩ (.bool q.neg)).setCell ⟨r0, 1, none⟩ (.slice q.num.A q.num.n q.num.c)).setCell ⟨r0, 2, none⟩ (.slice q.den.A q.den.n q.den.c) = W6 at *
    (try simp only [Exit.inBlock, Exit.then])
    refine bodyPost_ret (by simp [results, Tryz.results27, go_sem, d0, d1, d2]; try rfl) rfl ?_
    have HE : (numQ r).1 = quot (decide ((x : Int) - 4 < 0)) ((x : Int) - 4).natAbs 4 := HN.out.trans (by unfold fracQ; rfl)
    rw [HE, HM.out]
    exact ⟨q, rfl, Q6.out, D6.out, P6.out⟩
  · exact absurd hx2 (by omega)
end Go.Proofs.YtcmfepaffhnemaaGreatDoor

set_option linter.unusedVariables false
namespace Go.Proofs.YtcmfepaffhnemaaGreatDoor
open Go.RowKit

attribute [local go_sem] Oper.semAt_some

theorem elemB : ElemS Tryz.prog 22 5 1 1 := elem_of (z := .int .u8 0) (by kernel_rfl) (by kernel_rfl) rfl (by decide)

set_option maxRecDepth 100000 in
set_option maxHeartbeats 4000000 in
theorem new_any (w : World) (x : Sv) (L : List Nat) (hx : x.Is w 1 (L.map bv)) (hl : ∀ y ∈ L, y < 256) (hn : x.n ≤ 1000) :
    Calls Tryz.prog 16 #[.slice x.A x.n x.c] w fun e w' => ∃ p : Nat, e = .returned (.pointer (some ⟨p, 0, none⟩)) ∧ w.heap.size ≤ p ∧ Fd w' p L ∧ Gr w w' := by
  have hLn : L.length = x.n := by have := hx.len; rw [List.length_map] at this; omega
  have HLL := Lib.hid hl
  have HLN := Lib.hid hLn
  obtain ⟨A, n, c⟩ := x
  simp only at hn
  have HO : Hid ((w.alloc (.cells #[] 5)).ownsRow w.heap.size 5 1 (.slice (some ⟨w.heap.size, 0, none⟩) 0 0) 0 []) := ⟨rfl, .inr ⟨w.heap.size, 0, #[], rfl, Nat.le_refl _, Bk.made _ _ _, Nat.le_refl _, Nat.zero_le _, rfl, rfl⟩⟩
  rcases A with _ | ad
  · obtain ⟨h9, h8⟩ := hx.mk0 rfl
    injection h9 with _ h6 h7
    subst h6 h7
    have hL0 : L = [] := by cases L with | nil => rfl | cons a l => simp at h8
    have HL0 := Lib.hid hL0
    clear hx hl hLn h8 hL0
    go_enter Tryz.func16, Tryz.ntmps16
    go_wp2
    go_ret
    obtain ⟨h1, h2, h3⟩ := made2 w 5 96 #[] #[.slice (some ⟨w.heap.size, 0, none⟩) 0 0, .int .i64 0]
    rw [HL0.out]
    exact ⟨w.heap.size + 1, rfl, Nat.le_succ _, ⟨some ⟨w.heap.size, 0, none⟩, 0, 0, 0, [], h2, ⟨rfl, Nat.le_refl _, Nat.zero_le _, (fun e => by cases e), Sees.nil⟩, (fun ad _ h => absurd h (Nat.lt_irrefl _)), Nat.le_refl _, Nat.zero_le _, rfl, rfl, fun y hy => by cases hy⟩, h3⟩
  · have HC : Hid (∀ j u, (L.map bv)[j]? = some u → (w.alloc (.cells #[] 5)).cell? (ad.add j) = some u) := (hx.gr ((Gr.refl w).alloc _)).cells rfl
    have HU : Hid (∀ u ∈ L.map bv, u.oneCell' = true) := fun u hu => by
      obtain ⟨y, _, rfl⟩ := List.mem_map.1 hu
      rfl
    have H1 := Lib.hid hx.len
    simp only at H1
    clear hx hl hLn
    go_enter Tryz.func16, Tryz.ntmps16
    go_wp2_with (at_builtin; refine wpList_appS elemB rfl _ _ rfl w.heap.size (.slice (some ⟨w.heap.size, 0, none⟩) 0 0) 0 [] rfl HO.out ad n c (L.map bv) rfl H1.out HC.out HU.out (by unfold maxLen; omega) (by omega) (by simp) ?_; intro v' w' h2 h3 h5; rw [Nat.zero_add, List.nil_append] at h2; obtain ⟨y, rfl, hyn, hy, hty⟩ := Sv.of_row h2 (by decide); have HY := Lib.hid hy; have HT := Lib.hid hty; have HYN := Lib.hid hyn; have HG := Lib.hid (Gr.of_own h3); clear h2 h3 h5 hy hty hyn)
    go_wp2
    go_ret
    obtain ⟨yA, yn, yc⟩ := y
    obtain rfl : yn = n := HYN.out
    have hg := (Gr.refl w').alloc (.cells #[.slice yA yn yc, .int .i64 0] 96)
    exact ⟨_, rfl, HG.out.size, ⟨yA, yn, yc, 0, L, Bk.made _ _ _, HY.out.gr hg, HT.out.gr hg, Nat.zero_le _, hn, HLN.out, rfl, HLL.out⟩, HG.out.trans hg⟩
end Go.Proofs.YtcmfepaffhnemaaGreatDoor

set_option linter.unusedVariables false
namespace Go.Proofs.YtcmfepaffhnemaaGreatDoor
open Go.RowKit

attribute [local go_sem] Oper.semAt_some

theorem ofQ_one : ofQ 1 = Q.one := by decide
theorem isg_zero (q : Q) : (isg q.neg q.num == 0) = decide (q.num = 0) := by
  unfold isg
  by_cases h : q.num = 0
  · simp [h]
  · rw [if_neg h, decide_eq_false h]; cases q.neg <;> rfl

set_option maxRecDepth 100000 in
set_option maxHeartbeats 4000000 in
theorem r7var_any (w : World) (v : Int) :
    Calls Tryz.prog 29 #[.int .i64 v] w fun e w' => ∃ r : Fv, e = .returned r.v ∧ r.Is w' ⟨[(v, Q.one)], Q.zero⟩ ∧ Gr w w' := by
  obtain ⟨B1, G⟩ := made1 w 43 (#[.slice none 0 0, .bool false, .slice none 0 0, .slice none 0 0])
  have HG := Lib.hid G
  have D_r := Lib.hid B1
  clear G B1
  go_enter Tryz.func29, Tryz.ntmps29
  go_wp2_with fail
  generalize hW : w.alloc (.cells #[.slice none 0 0, .bool false, .slice none 0 0, .slice none 0 0] 43) = W at *
  clear hW
  have N_r : Hid (w.heap.size ≤ w.heap.size) := (by show w.heap.size ≤ w.heap.size; omega)
  refine (r3of_any W 1 (by decide) (by decide)).mono ?_
  rintro e w1 ⟨c, rfl, hc, G1⟩
  rw [ofQ_one] at hc
  have HC := Lib.hid hc
  replace HG := Lib.hid (HG.out.trans G1)
  replace D_r := Lib.hid (G1.bk D_r.out)
  clear hc G1
  obtain ⟨B1, GB⟩ := made1 w1 104 #[.int .i64 v, .bool c.neg, .slice c.num.A c.num.n c.num.c, .slice c.den.A c.den.n c.den.c]
  have R2 := Lib.hid (GB.bk D_r.out)
  have HT : Hid (Terms (w1.alloc (.cells #[.int .i64 v, .bool c.neg, .slice c.num.A c.num.n c.num.c, .slice c.den.A c.den.n c.den.c] 104)) ⟨some ⟨w1.heap.size, 0, none⟩, 1, 1⟩ [(v, Q.one)]) := ⟨[(⟨v, c⟩, (v, Q.one))], ⟨rfl, Nat.le_refl _, by show (1 : Nat) ≤ _; decide, (fun e => by cases e), B1.sees ⟨[], by simp [Tv.cs]⟩⟩, rfl, (fun p hp => by rw [List.mem_singleton.1 hp]; exact ⟨rfl, HC.out.gr GB⟩), (fun ad ha _ => by injection ha with ha; rw [← ha]; exact ⟨_, (0, 0), B1⟩)⟩
  have HG2 := Lib.hid (HG.out.trans GB)
  obtain ⟨z0, z1, z2, z3⟩ := R2.out.c4
  have fz := R2.out.frozen
  obtain ⟨B5, F5⟩ := R2.out.put4 (.slice (some ⟨w1.heap.size, 0, none⟩) 1 1) (.bool false) (.slice none 0 0) (.slice none 0 0)
  have H5 := Lib.hid F5
  obtain ⟨d0, d1, d2, d3⟩ := B5.c4
  clear F5 B5 GB B1
  have hne : ¬ w1.heap.size = w.heap.size := fun e => Nat.lt_irrefl _ (e ▸ D_r.out.lt)
  go_wp2
  generalize hW5 : ((((w1.alloc (.cells #[.int .i64 v, .bool c.neg, .slice c.num.A c.num.n c.num.c, .slice c.den.A c.den.n c.den.c] 104)).setCell ⟨w.heap.size, 0, none⟩ (.slice (some ⟨w1.heap.size, 0, none⟩) 1 1)).setCell ⟨w.heap.size, 1, none⟩ (.bool false)).setCell ⟨w.heap.size, 2, none⟩ (.slice none 0 0)).setCell ⟨w.heap.size, 3, none⟩ (.slice none 0 0) = W5 at *
  (try simp only [Exit.inBlock, Exit.then])
  refine bodyPost_ret (by simp [results, Tryz.results29, go_sem, d0, d1, d2, d3]; try rfl) rfl ?_
  exact ⟨⟨⟨some ⟨w1.heap.size, 0, none⟩, 1, 1⟩, Rv.nil⟩, rfl, ⟨HT.out.tf H5.out (fun b cs fr e hh => Bk.not_ty R2.out (by decide) cs fr (e ▸ hh)) (fun b cs fr e hh => Bk.not_ty R2.out (by decide) cs fr (e ▸ hh)), Rv.Is.zero _⟩, HG2.out.fr_at H5.out N_r.out⟩

set_option maxRecDepth 100000 in
set_option maxHeartbeats 4000000 in
theorem nonzero_any (w : World) (B : Nat) (x : Sv) (l : List Tm) (t : Tv) (v : Int) (q : Q) (hx : OwnT w B x l) (ht : t.Is w (v, q)) (hB : B ≤ w.heap.size) (hn : l.length ≤ 1000000) (hq : (limbs q.num).length ≤ 1000000) :
    Calls Tryz.prog 48 #[.slice x.A x.n x.c, .agg #[.int .i64 t.var, .bool t.coef.neg, .slice t.coef.num.A t.coef.num.n t.coef.num.c, .slice t.coef.den.A t.coef.den.n t.coef.den.c]] w fun e w' => ∃ y : Sv, e = .returned y.v ∧ OwnT w' B y (snoc l v q) ∧ Fr (fun b => (Value.slice x.A x.n x.c).ownBlock = some b) w w' := by
  obtain ⟨B1, G⟩ := made1 w 104 (#[.int .i64 t.var, .bool t.coef.neg, .slice t.coef.num.A t.coef.num.n t.coef.num.c, .slice t.coef.den.A t.coef.den.n t.coef.den.c])
  have HG := Lib.hid G
  have D_p := Lib.hid B1
  clear G B1
  have HX := Lib.hid (hx.up HG.out)
  have HT := Lib.hid (ht.gr HG.out)
  have LN := Lib.hid hn
  have LB := Lib.hid (Nat.le_trans hB HG.out.size)
  have LQ := Lib.hid hq
  clear hx ht hn hB hq
  obtain ⟨a0, a1, a2, a3⟩ := D_p.out.c4
  go_enter Tryz.func48, Tryz.ntmps48
  go_wp2_with fail
  generalize hW : w.alloc (.cells #[.int .i64 t.var, .bool t.coef.neg, .slice t.coef.num.A t.coef.num.n t.coef.num.c, .slice t.coef.den.A t.coef.den.n t.coef.den.c] 104) = W at *
  clear hW
  have N_p : Hid (w.heap.size ≤ w.heap.size) := (by show w.heap.size ≤ w.heap.size; omega)
  refine (rsign_any W t.coef q HT.out.coef LQ.out).mono ?_
  rintro e w1 ⟨rfl, G1⟩
  have hz := Lib.hid (isg_zero q)
  replace HG := Lib.hid (HG.out.trans G1)
  replace D_p := Lib.hid (G1.bk D_p.out)
  replace HX := Lib.hid (HX.out.up G1)
  replace HT := Lib.hid (HT.out.gr G1)
  replace LB := Lib.hid (Nat.le_trans LB.out G1.size)
  clear G1 a0 a1 a2 a3
  obtain ⟨a0, a1, a2, a3⟩ := D_p.out.c4
  generalize isg q.neg q.num = sg at *
  by_cases h0 : q.num = 0
  · have hs : (sg == 0) = true := by rw [hz.out, decide_eq_true h0]
    have hE : Hid (snoc l v q = l) := by unfold snoc; exact if_pos h0
    go_wp2
    go_ret
    exact ⟨x, rfl, by rw [hE.out]; exact HX.out, HG.out.fr.none⟩
  · have hs : (sg == 0) = false := by rw [hz.out, decide_eq_false h0]
    have hE : Hid (snoc l v q = l ++ [(v, q)]) := by unfold snoc; exact if_neg h0
    obtain ⟨B1, GB⟩ := made1 w1 104 #[.int .i64 t.var, .bool t.coef.neg, .slice t.coef.num.A t.coef.num.n t.coef.num.c, .slice t.coef.den.A t.coef.den.n t.coef.den.c]
    have HX2 := HX.out.up GB
    obtain ⟨ts, t1, t2, t3⟩ := HX2
    have T1 := Lib.hid t1
    have T2 := Lib.hid t2
    have T3 := Lib.hid t3
    have HT2 := Lib.hid (HT.out.gr GB)
    have HG2 := Lib.hid (HG.out.trans GB)
    have BC := Lib.hid (bk_cells B1)
    have LX : Hid (x.n ≤ 1000000) := by rw [← HX.out.len Tv.len (by decide)]; exact LN.out
    have LB2 := Lib.hid (Nat.le_trans LB.out GB.size)
    clear t1 t2 t3 GB B1
    go_wp2_with (at_builtin; refine wpList_appS elemT rfl _ _ rfl B (.slice x.A x.n x.c) x.n (ts.flatMap fun p => p.1.cs) rfl T1.out ⟨w1.heap.size, 0, none⟩ 1 1 [.int .i64 t.var, .bool t.coef.neg, .slice t.coef.num.A t.coef.num.n t.coef.num.c, .slice t.coef.den.A t.coef.den.n t.coef.den.c] rfl rfl BC.out (by simp [Value.oneCell']) (by unfold maxLen; have := LX.out; omega) (by have := LX.out; omega) LB2.out ?_; intro v' w5 e1 e2 e3; have F := fr_own0 e2; obtain ⟨y, rfl, hyn, hy⟩ := OwnT.push (t := t) ts T1.out T2.out T3.out HT2.out e1 F; have HY := Lib.hid hy; have FF := Lib.hid F; clear e1 e2 e3 F hy hyn)
    go_wp2
    go_ret
    exact ⟨y, rfl, by rw [hE.out]; exact HY.out, HG2.out.fr.none.trans FF.out⟩

end Go.Proofs.YtcmfepaffhnemaaGreatDoor

set_option linter.unusedVariables false
namespace Go.Proofs.YtcmfepaffhnemaaGreatDoor
open Go.RowKit

attribute [local go_sem] Oper.semAt_some

/-- What plus makes of the terms (done: the term is in). -/
def plusGo (v : Int) (c : Q) : Bool → List Tm → List Tm → List Tm
  | done, [], acc => if done then acc else snoc acc v (canonQ c)
  | done, t :: r, acc =>
    if t.1 = v then plusGo v c true r (snoc acc t.1 (Q.add t.2 c))
    else if done = false ∧ v < t.1 then plusGo v c true r (snoc (snoc acc v (canonQ c)) t.1 t.2)
    else plusGo v c done r (snoc acc t.1 t.2)
def plusT (l : List Tm) (v : Int) (c : Q) : List Tm := plusGo v c false l []
theorem snoc_len (l : List Tm) (v : Int) (q : Q) : (snoc l v q).length ≤ l.length + 1 := by
  unfold snoc
  split
  · omega
  · simp
theorem plusGo_len (v : Int) (c : Q) : ∀ (l : List Tm) (d : Bool) (acc : List Tm), (plusGo v c d l acc).length ≤ acc.length + l.length + (if d then 0 else 1)
  | [], d, acc => by
    unfold plusGo
    cases d
    · have := snoc_len acc v (canonQ c); simp; omega
    · simp
  | t :: r, d, acc => by
    unfold plusGo
    split
    · have h1 := plusGo_len v c r true (snoc acc t.1 (Q.add t.2 c)); have h2 := snoc_len acc t.1 (Q.add t.2 c); simp at h1 ⊢; omega
    · split
      · rename_i h; have h1 := plusGo_len v c r true (snoc (snoc acc v (canonQ c)) t.1 t.2); have h2 := snoc_len acc v (canonQ c); have h3 := snoc_len (snoc acc v (canonQ c)) t.1 t.2; rw [h.1]; simp at h1 ⊢; omega
      · have h1 := plusGo_len v c r d (snoc acc t.1 t.2); have h2 := snoc_len acc t.1 t.2; cases d <;> simp at h1 ⊢ <;> omega
theorem Q.Sm.b31 {q : Q} (h : q.Sm) : q.num < 2147483648 ∧ q.den < 2147483648 := ⟨Nat.lt_trans h.num (by decide), Nat.lt_trans h.den (by decide)⟩
theorem Q.Sm.b64 {q : Q} (h : q.Sm) : q.num < 18446744073709551616 ∧ q.den < 18446744073709551616 := ⟨Nat.lt_trans h.num (by decide), Nat.lt_trans h.den (by decide)⟩

theorem Bk.putc {w : World} {p t : Nat} {a b c d : Value} (h : Bk w p t #[a, b, c, d]) (y z u : Value) :
    Bk (((w.setCell ⟨p, 1, none⟩ y).setCell ⟨p, 2, none⟩ z).setCell ⟨p, 3, none⟩ u) p t #[a, y, z, u] ∧ Fr (fun b => b = p) w (((w.setCell ⟨p, 1, none⟩ y).setCell ⟨p, 2, none⟩ z).setCell ⟨p, 3, none⟩ u) := by
  refine ⟨?_, Fr.trans (Fr.trans (Fr.set w ⟨p, 1, none⟩ y rfl) (Fr.set _ ⟨p, 2, none⟩ z rfl)) (Fr.set _ ⟨p, 3, none⟩ u rfl)⟩
  have := ((Bk.put h 1 y).put 2 z).put 3 u
  simpa using this

set_option maxRecDepth 100000 in
set_option maxHeartbeats 4000000 in
theorem plus_any (w : World) (f : Fv) (c : Rv) (x : Fm) (v : Int) (q : Q) (hf : f.Is w x) (hc : c.Is w q) (hx : ∀ t ∈ x.terms, t.2.Sm ∧ t.2.Ok) (hq : q.Sm) (hqo : q.Ok) (hn : x.terms.length ≤ 1000) :
    Calls Tryz.prog 46 #[f.v, .int .i64 v, c.v] w fun e w' => ∃ r : Fv, e = .returned r.v ∧ r.Is w' ⟨plusT x.terms v q, x.const⟩ ∧ Gr w w' := by
  obtain ⟨⟨xA, xn, xc⟩, fc⟩ := f
  have hxn : x.terms.length = xn := hf.terms.len
  obtain ⟨B1, B2, B3, G⟩ := made3 w 43 41 43 (#[.slice xA xn xc, .bool fc.neg, .slice fc.num.A fc.num.n fc.num.c, .slice fc.den.A fc.den.n fc.den.c]) (#[.bool c.neg, .slice c.num.A c.num.n c.num.c, .slice c.den.A c.den.n c.den.c]) (#[.slice none 0 0, .bool false, .slice none 0 0, .slice none 0 0])
  have HG := Lib.hid G
  have D_p := Lib.hid B1
  have D_c0 := Lib.hid B2
  have D_r := Lib.hid B3
  clear G B1 B2 B3
  have HF := Lib.hid hf
  have HC := Lib.hid hc
  have HXL := Lib.hid hx
  have HQS := Lib.hid hq
  have HQO := Lib.hid hqo
  have HXN := Lib.hid hxn
  have hxn9 : xn ≤ 1000 := by omega
  clear hf hc hx hq hqo hxn hn
  simp only [Rv.v, Fv.v] at *
  go_enter Tryz.func46, Tryz.ntmps46
  go_wp2_with fail
  generalize hW : ((w.alloc (.cells #[.slice xA xn xc, .bool fc.neg, .slice fc.num.A fc.num.n fc.num.c, .slice fc.den.A fc.den.n fc.den.c] 43)).alloc (.cells #[.bool c.neg, .slice c.num.A c.num.n c.num.c, .slice c.den.A c.den.n c.den.c] 41)).alloc (.cells #[.slice none 0 0, .bool false, .slice none 0 0, .slice none 0 0] 43) = W at *
  clear hW
  have N_p : Hid (w.heap.size ≤ w.heap.size) := (by show w.heap.size ≤ w.heap.size; omega)
  have N_c0 : Hid (w.heap.size ≤ w.heap.size + 1) := (by show w.heap.size ≤ w.heap.size + 1; omega)
  have N_r : Hid (w.heap.size ≤ w.heap.size + 1 + 1) := (by show w.heap.size ≤ w.heap.size + 1 + 1; omega)
  generalize w.heap.size + 1 + 1 = r at *
  generalize w.heap.size + 1 = c0 at *
  go_loopw [7, 8, 9] (fun s7 s8 i wr => ∃ (k : Nat) (z : Sv) (acc : List Tm) (d : Bool), s7 = .slice z.A z.n z.c ∧ s8 = .bool d ∧ i = .int .i64 k ∧ k ≤ xn ∧ Hid (OwnT wr w.heap.size z acc) ∧ Hid (plusGo v q d (x.terms.drop k) acc = plusT x.terms v q) ∧ Hid (acc.length ≤ 2 * k) ∧ Hid (Gr w wr) ∧ Hid (Bk wr w.heap.size 43 #[.slice xA xn xc, .bool fc.neg, .slice fc.num.A fc.num.n fc.num.c, .slice fc.den.A fc.den.n fc.den.c]) ∧ Hid (Bk wr c0 41 #[.bool c.neg, .slice c.num.A c.num.n c.num.c, .slice c.den.A c.den.n c.den.c]) ∧ Hid (Bk wr r 43 #[.slice none 0 0, .bool false, .slice none 0 0, .slice none 0 0])) (fun _ _ i _ => xn - (intOf i).toNat)
  case atStart => exact ⟨0, Sv.none, [], false, rfl, rfl, rfl, Nat.zero_le _, Own.nil _ _, rfl, Nat.le_refl _, HG, D_p, D_c0, D_r⟩
  case round =>
    obtain ⟨k, z, acc, d, rfl, rfl, rfl, hk, HZ, HK, HLN, HG0, DP, DC, DR⟩ := hrel
    clear HG D_p D_c0 D_r
    have HG := HG0
    obtain ⟨a0, a1, a2, a3⟩ := DP.out.c4
    obtain ⟨c1, c2, c3⟩ := DC.out.c3
    by_cases hkn : k < xn
    · have hkl : k < x.terms.length := by rw [HXN.out]; exact hkn
      obtain ⟨s, hs⟩ : ∃ s, x.terms[k]? = some s := ⟨_, List.getElem?_eq_getElem hkl⟩
      obtain ⟨t, ad, ht, hA, d0, d1, d2, d3⟩ := (HF.out.terms.gr HG.out).at hs
      simp only at hA
      subst hA
      have HT := Lib.hid ht
      have HSS := Lib.hid (HXL.out s (List.mem_of_getElem? hs)).1
      have HSO := Lib.hid (HXL.out s (List.mem_of_getElem? hs)).2
      have HDR : Hid (x.terms.drop k = s :: x.terms.drop (k + 1)) := by rw [List.drop_eq_getElem?_toList_append, hs]; exact rfl
      have hm9 : k < 9223372036854775807 := by omega
      rw [HDR.out] at HK
      have hvs := HT.out.var
      clear hs ht hkl
      by_cases hv : s.1 = v
      · have HE : Hid (plusGo v q d (s :: x.terms.drop (k + 1)) acc = plusGo v q true (x.terms.drop (k + 1)) (snoc acc s.1 (Q.add s.2 q))) := if_pos hv
        have hv1 : (t.var == v) = true := by rw [hvs, hv]; simp
        clear hv hvs
        obtain ⟨B1, GB⟩ := made1 wr 104 #[.int .i64 t.var, .bool t.coef.neg, .slice t.coef.num.A t.coef.num.n t.coef.num.c, .slice t.coef.den.A t.coef.den.n t.coef.den.c]
        have DT := Lib.hid B1
        have htb : ∀ b, (Value.slice z.A z.n z.c).ownBlock = some b → b ≠ wr.heap.size := fun b e => Nat.ne_of_lt (HZ.out.lt b e).2
        have HTB := Lib.hid htb
        replace HZ := Lib.hid (HZ.out.up GB)
        replace HT := Lib.hid (HT.out.gr GB)
        replace HG := Lib.hid (HG.out.trans GB)
        replace DP := Lib.hid (GB.bk DP.out)
        replace DC := Lib.hid (GB.bk DC.out)
        replace DR := Lib.hid (GB.bk DR.out)
        have HSZ := Lib.hid HG.out.size
        have NT := Lib.hid HG0.out.size
        clear B1 htb GB
        go_upto_region 7 with fail
        clear d0 d1 d2 d3 a0 a1 a2 a3 c1 c2 c3
        generalize wr.alloc (.cells #[.int .i64 t.var, .bool t.coef.neg, .slice t.coef.num.A t.coef.num.n t.coef.num.c, .slice t.coef.den.A t.coef.den.n t.coef.den.c] 104) = W1 at *
        generalize wr.heap.size = tb at *
        obtain ⟨a0, a1, a2, a3⟩ := DP.out.c4
        obtain ⟨c1, c2, c3⟩ := DC.out.c3
        obtain ⟨t0, t1, t2, t3⟩ := DT.out.c4
        have tz := DT.out.frozen
        go_wp2_with fail
        refine (r3add_any W1 t.coef c s.2 q HT.out.coef (HC.out.gr HG.out) HSO.out HQO.out HSS.out.b31.1 HQS.out.b31.1 HSS.out.b31.2 HQS.out.b31.2).mono ?_
        rintro e w1 ⟨m, rfl, hm, G1⟩
        have HM := Lib.hid hm
        replace HZ := Lib.hid (HZ.out.up G1)
        replace HG := Lib.hid (HG.out.trans G1)
        replace DP := Lib.hid (G1.bk DP.out)
        replace DC := Lib.hid (G1.bk DC.out)
        replace DR := Lib.hid (G1.bk DR.out)
        replace DT := Lib.hid (G1.bk DT.out)
        replace HSZ := Lib.hid (Nat.le_trans HSZ.out G1.size)
        have hv9 := HT.out.var
        clear hm G1 HT t0 t1 t2 t3 tz a0 a1 a2 a3 c1 c2 c3
        obtain ⟨t0, t1, t2, t3⟩ := DT.out.c4
        have tz := DT.out.frozen
        go_upto_region 9 with fail
        obtain ⟨B5, F5⟩ := DT.out.putc (.bool m.neg) (.slice m.num.A m.num.n m.num.c) (.slice m.den.A m.den.n m.den.c)
        have HT2 := Lib.hid (show Tv.Is _ ⟨t.var, m⟩ (s.1, Q.add s.2 q) from ⟨hv9, HM.out.tf' F5 DT.out (by decide)⟩)
        have HZ2 := Lib.hid (HZ.out.fr F5 (fun b cs fr e hh => Bk.not_ty DT.out (by decide) cs fr (e ▸ hh)) (fun b hb e => HTB.out b hb e))
        have DP2 := Lib.hid (F5.bk DP.out (fun e => Bk.ne DP.out DT.out (by decide) e))
        have DC2 := Lib.hid (F5.bk DC.out (fun e => Bk.ne DC.out DT.out (by decide) e))
        have DR2 := Lib.hid (F5.bk DR.out (fun e => Bk.ne DR.out DT.out (by decide) e))
        have DT2 := Lib.hid B5
        have HG2 := Lib.hid (HG.out.fr_at F5 NT.out)
        have HSZ2 := Lib.hid (Nat.le_trans HSZ.out F5.size)
        clear B5 F5 HZ DP DC DR DT HG HSZ HM t0 t1 t2 t3 tz hv9
        have HZ := HZ2
        have DP := DP2
        have DC := DC2
        have DR := DR2
        have DT := DT2
        have HG := HG2
        have HSZ := HSZ2
        clear HZ2 DP2 DC2 DR2 DT2 HG2 HSZ2
        generalize ((w1.setCell ⟨tb, 1, none⟩ (.bool m.neg)).setCell ⟨tb, 2, none⟩ (.slice m.num.A m.num.n m.num.c)).setCell ⟨tb, 3, none⟩ (.slice m.den.A m.den.n m.den.c) = W2 at *
        obtain ⟨a0, a1, a2, a3⟩ := DP.out.c4
        obtain ⟨c1, c2, c3⟩ := DC.out.c3
        obtain ⟨t0, t1, t2, t3⟩ := DT.out.c4
        go_wp2_with fail
        refine (nonzero_any W2 w.heap.size z acc ⟨t.var, m⟩ (s.1) (Q.add s.2 q) HZ.out HT2.out HSZ.out (by have := HLN.out; omega) (Nat.le_trans (HSS.out.lo.bd.add HQS.out.lo.bd (by decide) (by decide)).num (by decide))).mono ?_
        rintro e w5 ⟨y, rfl, hy, hF⟩
        have HY := Lib.hid hy
        replace DP := Lib.hid (hF.bk DP.out (fun e => HZ.out.ne DP.out (by decide) e))
        replace DC := Lib.hid (hF.bk DC.out (fun e => HZ.out.ne DC.out (by decide) e))
        replace DR := Lib.hid (hF.bk DR.out (fun e => HZ.out.ne DR.out (by decide) e))
        replace HG := Lib.hid (HG.out.step hF (fun b _ e => (HZ.out.lt b e).1))
        replace HSZ := Lib.hid (Nat.le_trans HSZ.out hF.size)
        clear hy hF t0 t1 t2 t3 a0 a1 a2 a3 c1 c2 c3
        go_wp2
        go_roundw
        · exact ⟨k + 1, y, snoc acc s.1 (Q.add s.2 q), true, rfl, rfl, by go_num, by omega, HY, HE.out.symm.trans HK.out, Lib.hid (by have := snoc_len acc s.1 (Q.add s.2 q); have := HLN.out; omega), HG, DP, DC, DR⟩
        · simp [intOf]; omega
      · have hv1 : (t.var == v) = false := by rw [hvs]; simp [hv]
        cases d
        · by_cases hg : v < s.1
          · have HE : Hid (plusGo v q false (s :: x.terms.drop (k + 1)) acc = plusGo v q true (x.terms.drop (k + 1)) (snoc (snoc acc v (canonQ q)) s.1 s.2)) := (if_neg hv).trans (if_pos ⟨rfl, hg⟩)
            have hg1 : decide (v < t.var) = true := by rw [hvs]; simp [hg]
            clear hv hvs hg
            obtain ⟨B1, GB⟩ := made1 wr 104 #[.int .i64 t.var, .bool t.coef.neg, .slice t.coef.num.A t.coef.num.n t.coef.num.c, .slice t.coef.den.A t.coef.den.n t.coef.den.c]
            have DT := Lib.hid B1
            have htb : ∀ b, (Value.slice z.A z.n z.c).ownBlock = some b → b ≠ wr.heap.size := fun b e => Nat.ne_of_lt (HZ.out.lt b e).2
            have HTB := Lib.hid htb
            replace HZ := Lib.hid (HZ.out.up GB)
            replace HT := Lib.hid (HT.out.gr GB)
            replace HG := Lib.hid (HG.out.trans GB)
            replace DP := Lib.hid (GB.bk DP.out)
            replace DC := Lib.hid (GB.bk DC.out)
            replace DR := Lib.hid (GB.bk DR.out)
            have HSZ := Lib.hid HG.out.size
            have NT := Lib.hid HG0.out.size
            clear B1 htb GB
            go_upto_region 7 with fail
            clear d0 d1 d2 d3 a0 a1 a2 a3 c1 c2 c3
            generalize wr.alloc (.cells #[.int .i64 t.var, .bool t.coef.neg, .slice t.coef.num.A t.coef.num.n t.coef.num.c, .slice t.coef.den.A t.coef.den.n t.coef.den.c] 104) = W1 at *
            generalize wr.heap.size = tb at *
            obtain ⟨a0, a1, a2, a3⟩ := DP.out.c4
            obtain ⟨c1, c2, c3⟩ := DC.out.c3
            obtain ⟨t0, t1, t2, t3⟩ := DT.out.c4
            have tz := DT.out.frozen
            go_wp2_with fail
            refine (rcanon_any W1 c q (HC.out.gr HG.out) HQS.out.b64.1 HQS.out.b64.2).mono ?_
            rintro e w1 ⟨m, rfl, hm, G1⟩
            have HM := Lib.hid (show Tv.Is w1 ⟨v, m⟩ (v, canonQ q) from ⟨rfl, hm⟩)
            replace HZ := Lib.hid (HZ.out.up G1)
            replace HT := Lib.hid (HT.out.gr G1)
            replace HG := Lib.hid (HG.out.trans G1)
            replace DP := Lib.hid (G1.bk DP.out)
            replace DC := Lib.hid (G1.bk DC.out)
            replace DR := Lib.hid (G1.bk DR.out)
            replace DT := Lib.hid (G1.bk DT.out)
            replace HSZ := Lib.hid (Nat.le_trans HSZ.out G1.size)
            clear hm G1 t0 t1 t2 t3 tz a0 a1 a2 a3 c1 c2 c3
            go_wp2_with fail
            refine (nonzero_any w1 w.heap.size z acc ⟨v, m⟩ (v) (canonQ q) HZ.out HM.out HSZ.out (by have := HLN.out; omega) (Nat.le_trans HQS.out.lo.bd.canon.num (by decide))).mono ?_
            rintro e w2 ⟨y1, rfl, hy, hF⟩
            have HY := Lib.hid hy
            replace HT := Lib.hid (show Tv.Is w2 t s from ⟨HT.out.var, (by obtain ⟨ts, t1, _⟩ := HZ.out; exact HT.out.coef.own t1 (by decide) hF)⟩)
            replace DT := Lib.hid (hF.bk DT.out (fun e => HTB.out _ e rfl))
            replace DP := Lib.hid (hF.bk DP.out (fun e => HZ.out.ne DP.out (by decide) e))
            replace DC := Lib.hid (hF.bk DC.out (fun e => HZ.out.ne DC.out (by decide) e))
            replace DR := Lib.hid (hF.bk DR.out (fun e => HZ.out.ne DR.out (by decide) e))
            replace HG := Lib.hid (HG.out.step hF (fun b _ e => (HZ.out.lt b e).1))
            replace HSZ := Lib.hid (Nat.le_trans HSZ.out hF.size)
            clear HZ hy hF
            have HZ := HY
            clear HY
            obtain ⟨t0, t1, t2, t3⟩ := DT.out.c4
            go_wp2_with fail
            refine (nonzero_any w2 w.heap.size y1 (snoc acc v (canonQ q)) t (s.1) (s.2) HZ.out HT.out HSZ.out (by have := HLN.out; have := snoc_len acc v (canonQ q); omega) (Nat.le_trans HSS.out.lo.bd.num (by decide))).mono ?_
            rintro e w5 ⟨y, rfl, hy, hF⟩
            have HY := Lib.hid hy
            replace DP := Lib.hid (hF.bk DP.out (fun e => HZ.out.ne DP.out (by decide) e))
            replace DC := Lib.hid (hF.bk DC.out (fun e => HZ.out.ne DC.out (by decide) e))
            replace DR := Lib.hid (hF.bk DR.out (fun e => HZ.out.ne DR.out (by decide) e))
            replace HG := Lib.hid (HG.out.step hF (fun b _ e => (HZ.out.lt b e).1))
            replace HSZ := Lib.hid (Nat.le_trans HSZ.out hF.size)
            clear hy hF t0 t1 t2 t3
            go_wp2
            go_roundw
            · exact ⟨k + 1, y, snoc (snoc acc v (canonQ q)) s.1 s.2, true, rfl, rfl, by go_num, by omega, HY, HE.out.symm.trans HK.out, Lib.hid (by have := snoc_len acc v (canonQ q); have := snoc_len (snoc acc v (canonQ q)) s.1 s.2; have := HLN.out; omega), HG, DP, DC, DR⟩
            · simp [intOf]; omega
          · have HE : Hid (plusGo v q false (s :: x.terms.drop (k + 1)) acc = plusGo v q false (x.terms.drop (k + 1)) (snoc acc s.1 s.2)) := (if_neg hv).trans (if_neg (fun h => hg h.2))
            have hg1 : decide (v < t.var) = false := by rw [hvs]; simp; omega
            clear hv hvs hg
            obtain ⟨B1, GB⟩ := made1 wr 104 #[.int .i64 t.var, .bool t.coef.neg, .slice t.coef.num.A t.coef.num.n t.coef.num.c, .slice t.coef.den.A t.coef.den.n t.coef.den.c]
            have DT := Lib.hid B1
            have htb : ∀ b, (Value.slice z.A z.n z.c).ownBlock = some b → b ≠ wr.heap.size := fun b e => Nat.ne_of_lt (HZ.out.lt b e).2
            have HTB := Lib.hid htb
            replace HZ := Lib.hid (HZ.out.up GB)
            replace HT := Lib.hid (HT.out.gr GB)
            replace HG := Lib.hid (HG.out.trans GB)
            replace DP := Lib.hid (GB.bk DP.out)
            replace DC := Lib.hid (GB.bk DC.out)
            replace DR := Lib.hid (GB.bk DR.out)
            have HSZ := Lib.hid HG.out.size
            have NT := Lib.hid HG0.out.size
            clear B1 htb GB
            go_upto_region 7 with fail
            clear d0 d1 d2 d3 a0 a1 a2 a3 c1 c2 c3
            generalize wr.alloc (.cells #[.int .i64 t.var, .bool t.coef.neg, .slice t.coef.num.A t.coef.num.n t.coef.num.c, .slice t.coef.den.A t.coef.den.n t.coef.den.c] 104) = W1 at *
            generalize wr.heap.size = tb at *
            obtain ⟨a0, a1, a2, a3⟩ := DP.out.c4
            obtain ⟨c1, c2, c3⟩ := DC.out.c3
            obtain ⟨t0, t1, t2, t3⟩ := DT.out.c4
            have tz := DT.out.frozen
            go_wp2_with fail
            refine (nonzero_any W1 w.heap.size z acc t (s.1) (s.2) HZ.out HT.out HSZ.out (by have := HLN.out; omega) (Nat.le_trans HSS.out.lo.bd.num (by decide))).mono ?_
            rintro e w5 ⟨y, rfl, hy, hF⟩
            have HY := Lib.hid hy
            replace DP := Lib.hid (hF.bk DP.out (fun e => HZ.out.ne DP.out (by decide) e))
            replace DC := Lib.hid (hF.bk DC.out (fun e => HZ.out.ne DC.out (by decide) e))
            replace DR := Lib.hid (hF.bk DR.out (fun e => HZ.out.ne DR.out (by decide) e))
            replace HG := Lib.hid (HG.out.step hF (fun b _ e => (HZ.out.lt b e).1))
            replace HSZ := Lib.hid (Nat.le_trans HSZ.out hF.size)
            clear hy hF t0 t1 t2 t3 tz a0 a1 a2 a3 c1 c2 c3
            go_wp2
            go_roundw
            · exact ⟨k + 1, y, snoc acc s.1 s.2, false, rfl, rfl, by go_num, by omega, HY, HE.out.symm.trans HK.out, Lib.hid (by have := snoc_len acc s.1 s.2; have := HLN.out; omega), HG, DP, DC, DR⟩
            · simp [intOf]; omega
        · have HE : Hid (plusGo v q true (s :: x.terms.drop (k + 1)) acc = plusGo v q true (x.terms.drop (k + 1)) (snoc acc s.1 s.2)) := (if_neg hv).trans (if_neg (fun h => by cases h.1))
          clear hv hvs
          obtain ⟨B1, GB⟩ := made1 wr 104 #[.int .i64 t.var, .bool t.coef.neg, .slice t.coef.num.A t.coef.num.n t.coef.num.c, .slice t.coef.den.A t.coef.den.n t.coef.den.c]
          have DT := Lib.hid B1
          have htb : ∀ b, (Value.slice z.A z.n z.c).ownBlock = some b → b ≠ wr.heap.size := fun b e => Nat.ne_of_lt (HZ.out.lt b e).2
          have HTB := Lib.hid htb
          replace HZ := Lib.hid (HZ.out.up GB)
          replace HT := Lib.hid (HT.out.gr GB)
          replace HG := Lib.hid (HG.out.trans GB)
          replace DP := Lib.hid (GB.bk DP.out)
          replace DC := Lib.hid (GB.bk DC.out)
          replace DR := Lib.hid (GB.bk DR.out)
          have HSZ := Lib.hid HG.out.size
          have NT := Lib.hid HG0.out.size
          clear B1 htb GB
          go_upto_region 7 with fail
          clear d0 d1 d2 d3 a0 a1 a2 a3 c1 c2 c3
          generalize wr.alloc (.cells #[.int .i64 t.var, .bool t.coef.neg, .slice t.coef.num.A t.coef.num.n t.coef.num.c, .slice t.coef.den.A t.coef.den.n t.coef.den.c] 104) = W1 at *
          generalize wr.heap.size = tb at *
          obtain ⟨a0, a1, a2, a3⟩ := DP.out.c4
          obtain ⟨c1, c2, c3⟩ := DC.out.c3
          obtain ⟨t0, t1, t2, t3⟩ := DT.out.c4
          have tz := DT.out.frozen
          go_wp2_with fail
          refine (nonzero_any W1 w.heap.size z acc t (s.1) (s.2) HZ.out HT.out HSZ.out (by have := HLN.out; omega) (Nat.le_trans HSS.out.lo.bd.num (by decide))).mono ?_
          rintro e w5 ⟨y, rfl, hy, hF⟩
          have HY := Lib.hid hy
          replace DP := Lib.hid (hF.bk DP.out (fun e => HZ.out.ne DP.out (by decide) e))
          replace DC := Lib.hid (hF.bk DC.out (fun e => HZ.out.ne DC.out (by decide) e))
          replace DR := Lib.hid (hF.bk DR.out (fun e => HZ.out.ne DR.out (by decide) e))
          replace HG := Lib.hid (HG.out.step hF (fun b _ e => (HZ.out.lt b e).1))
          replace HSZ := Lib.hid (Nat.le_trans HSZ.out hF.size)
          clear hy hF t0 t1 t2 t3 tz a0 a1 a2 a3 c1 c2 c3
          go_wp2
          go_roundw
          · exact ⟨k + 1, y, snoc acc s.1 s.2, true, rfl, rfl, by go_num, by omega, HY, HE.out.symm.trans HK.out, Lib.hid (by have := snoc_len acc s.1 s.2; have := HLN.out; omega), HG, DP, DC, DR⟩
          · simp [intOf]; omega
    · obtain rfl : k = xn := by omega
      have HD0 : Hid (x.terms.drop k = []) := Lib.hid (List.drop_eq_nil_of_le (by rw [HXN.out]; exact Nat.le_refl _))
      rw [HD0.out] at HK
      cases d
      · go_wp2_with fail
        refine (rcanon_any wr c q (HC.out.gr HG.out) HQS.out.b64.1 HQS.out.b64.2).mono ?_
        rintro e w1 ⟨m, rfl, hm, G1⟩
        have HM := Lib.hid (show Tv.Is w1 ⟨v, m⟩ (v, canonQ q) from ⟨rfl, hm⟩)
        replace HZ := Lib.hid (HZ.out.up G1)
        replace HG := Lib.hid (HG.out.trans G1)
        replace DP := Lib.hid (G1.bk DP.out)
        replace DC := Lib.hid (G1.bk DC.out)
        replace DR := Lib.hid (G1.bk DR.out)
        have HSZ := Lib.hid HG.out.size
        clear hm G1 a0 a1 a2 a3 c1 c2 c3
        go_wp2_with fail
        refine (nonzero_any w1 w.heap.size z acc ⟨v, m⟩ (v) (canonQ q) HZ.out HM.out HSZ.out (by have := HLN.out; omega) (Nat.le_trans HQS.out.lo.bd.canon.num (by decide))).mono ?_
        rintro e w5 ⟨y, rfl, hy, hF⟩
        have HY := Lib.hid hy
        replace DP := Lib.hid (hF.bk DP.out (fun e => HZ.out.ne DP.out (by decide) e))
        replace DC := Lib.hid (hF.bk DC.out (fun e => HZ.out.ne DC.out (by decide) e))
        replace DR := Lib.hid (hF.bk DR.out (fun e => HZ.out.ne DR.out (by decide) e))
        replace HG := Lib.hid (HG.out.step hF (fun b _ e => (HZ.out.lt b e).1))
        replace HSZ := Lib.hid (Nat.le_trans HSZ.out hF.size)
        have hT : Hid (snoc acc v (canonQ q) = plusT x.terms v q) := HK
        have HY2 : Hid (Terms w5 y (plusT x.terms v q)) := by rw [← hT.out]; exact HY.out.terms
        clear hy hF HZ HY
        obtain ⟨a0, a1, a2, a3⟩ := DP.out.c4
        obtain ⟨B5, F5⟩ := DR.out.put4 (.slice y.A y.n y.c) (.bool fc.neg) (.slice fc.num.A fc.num.n fc.num.c) (.slice fc.den.A fc.den.n fc.den.c)
        have H5 := Lib.hid F5
        obtain ⟨d0, d1, d2, d3⟩ := B5.c4
        clear F5 B5
        obtain ⟨q0, q1, q2, q3⟩ := DR.out.c4
        have qz := DR.out.frozen
        go_wp2
        generalize (((w5.setCell ⟨r, 0, none⟩ (.slice y.A y.n y.c)).setCell ⟨r, 1, none⟩ (.bool fc.neg)).setCell ⟨r, 2, none⟩ (.slice fc.num.A fc.num.n fc.num.c)).setCell ⟨r, 3, none⟩ (.slice fc.den.A fc.den.n fc.den.c) = W5 at *
        (try simp only [Exit.inBlock, Exit.then])
        refine bodyPost_ret (by simp [results, Tryz.results46, go_sem, d0, d1, d2, d3]; try rfl) rfl ?_
        exact ⟨⟨y, fc⟩, rfl, Fv.Is.tf' (f := ⟨y, fc⟩) (x := ⟨_, _⟩) ⟨HY2.out, HF.out.const.gr HG.out⟩ H5.out DR.out (by decide) (by decide), HG.out.fr_at H5.out N_r.out⟩
      · have hT : Hid (acc = plusT x.terms v q) := HK
        have HY2 : Hid (Terms wr z (plusT x.terms v q)) := by rw [← hT.out]; exact HZ.out.terms
        clear c1 c2 c3
        obtain ⟨B5, F5⟩ := DR.out.put4 (.slice z.A z.n z.c) (.bool fc.neg) (.slice fc.num.A fc.num.n fc.num.c) (.slice fc.den.A fc.den.n fc.den.c)
        have H5 := Lib.hid F5
        obtain ⟨d0, d1, d2, d3⟩ := B5.c4
        clear F5 B5
        obtain ⟨q0, q1, q2, q3⟩ := DR.out.c4
        have qz := DR.out.frozen
        go_wp2
        generalize (((wr.setCell ⟨r, 0, none⟩ (.slice z.A z.n z.c)).setCell ⟨r, 1, none⟩ (.bool fc.neg)).setCell ⟨r, 2, none⟩ (.slice fc.num.A fc.num.n fc.num.c)).setCell ⟨r, 3, none⟩ (.slice fc.den.A fc.den.n fc.den.c) = W5 at *
        (try simp only [Exit.inBlock, Exit.then])
        refine bodyPost_ret (by simp [results, Tryz.results46, go_sem, d0, d1, d2, d3]; try rfl) rfl ?_
        exact ⟨⟨z, fc⟩, rfl, Fv.Is.tf' (f := ⟨z, fc⟩) (x := ⟨_, _⟩) ⟨HY2.out, HF.out.const.gr HG.out⟩ H5.out DR.out (by decide) (by decide), HG.out.fr_at H5.out N_r.out⟩
end Go.Proofs.YtcmfepaffhnemaaGreatDoor
