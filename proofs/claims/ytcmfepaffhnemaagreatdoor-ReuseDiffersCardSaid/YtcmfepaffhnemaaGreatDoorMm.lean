/- The example, awake, the law. -/
import Derived.Test.YtcmfepaffhnemaaGreatDoorMl
import Derived.Test.YtcmfepaffhnemaaGreatDoorMh
import Derived.Deep.RegionHeld3
import Derived.Test.YtcmfepaffhnemaaGreatDoorMg
import Derived.OpenShut
set_option linter.unusedSimpArgs false
set_option linter.unusedVariables false
namespace Go.Proofs.YtcmfepaffhnemaaGreatDoor
open Go.RowKit

attribute [local go_sem] Oper.semAt_some

theorem rows_single {α β : Type} {cs : β → List Value} {Is : World → β → α → Prop} {e k : Nat} {w : World} {b : Nat} {t : β} {a : α} (hb : Bk w b e (cs t).toArray) (hk : (cs t).length = k) (hi : Is w t a) : Rows cs Is e k w ⟨some ⟨b, 0, none⟩, 1, 1⟩ [a] :=
  ⟨[(t, a)], ⟨by simp [hk], Nat.le_refl _, by show (1 : Nat) ≤ _; decide, (fun e => by cases e), Bk.sees hb ⟨[], by simp⟩⟩, rfl, (fun p hp => by rw [List.mem_singleton.1 hp]; exact hi), (fun ad ha _ => by injection ha with ha; rw [← ha]; exact ⟨_, (0, 0), hb⟩)⟩
def Rats.At (l : List Q) (v : Value) (W : World) : Prop := ∃ x : Sv, v = x.v ∧ Rats W x l
theorem Rats.At.gr {W W' : World} {v : Value} {l : List Q} (h : Rats.At l v W) (G : Gr W W') : Rats.At l v W' := by
  obtain ⟨r, e, hr⟩ := h
  exact ⟨r, e, hr.gr G⟩
theorem Rats.At.is {W : World} {x : Sv} {l : List Q} (h : Rats.At l x.v W) : Rats W x l := by
  obtain ⟨s, e, hs⟩ := h
  rw [Sv.inj e]; exact hs
theorem Rats.st {w w' : World} {p t : Nat} {us : Array Value} {x : Sv} {l : List Q} (h : Rats w x l) (F : Fr (fun b => b = p) w w') (hb : Bk w p t us) (h0 : t ≠ 41) (h1 : t ≠ 211) : Rats w' x l :=
  Rows.tf h F (fun b cs fr e hh => Bk.not_ty hb h0 cs fr (e ▸ hh)) fun r q hr => hr.tf' F hb h1
/-- The query of the example. -/
def exQ (k : Q) : Qm := ⟨⟨1, [], [var0]⟩, [Q.zero], [Q.one], goal0 k⟩
set_option maxRecDepth 100000 in
set_option maxHeartbeats 4000000 in
theorem r7num_any (w : World) (c : Rv) (q : Q) (hc : c.Is w q) :
    Calls Tryz.prog 31 #[c.v] w fun e w' => ∃ r : Fv, e = .returned r.v ∧ r.Is w' ⟨[], q⟩ ∧ Gr w w' := by
  obtain ⟨B1, B2, G⟩ := made2 w 41 43 (#[.bool c.neg, .slice c.num.A c.num.n c.num.c, .slice c.den.A c.den.n c.den.c]) (#[.slice none 0 0, .bool false, .slice none 0 0, .slice none 0 0])
  have HG := Lib.hid G
  have D_a := Lib.hid B1
  have D_r := Lib.hid B2
  clear G B1 B2
  have HC := Lib.hid (hc.gr HG.out)
  clear hc
  obtain ⟨a0, a1, a2⟩ := D_a.out.c3
  simp only [Rv.v, Fv.v] at *
  go_enter Tryz.func31, Tryz.ntmps31
  go_upto_region 1 with fail
  generalize hW : (w.alloc (.cells #[.bool c.neg, .slice c.num.A c.num.n c.num.c, .slice c.den.A c.den.n c.den.c] 41)).alloc (.cells #[.slice none 0 0, .bool false, .slice none 0 0, .slice none 0 0] 43) = W at *
  clear hW
  have N_a : Hid (w.heap.size ≤ w.heap.size) := (by show w.heap.size ≤ w.heap.size; omega)
  have N_r : Hid (w.heap.size ≤ w.heap.size + 1) := (by show w.heap.size ≤ w.heap.size + 1; omega)
  generalize w.heap.size + 1 = r at *
  obtain ⟨B5, F5⟩ := D_r.out.put4 (.slice none 0 0) (.bool c.neg) (.slice c.num.A c.num.n c.num.c) (.slice c.den.A c.den.n c.den.c)
  have H5 := Lib.hid F5
  obtain ⟨d0, d1, d2, d3⟩ := B5.c4
  clear F5 B5
  obtain ⟨z0, z1, z2, z3⟩ := D_r.out.c4
  have fz := D_r.out.frozen
  go_wp2
  generalize (((W.setCell ⟨r, 0, none⟩ (.slice none 0 0)).setCell ⟨r, 1, none⟩ (.bool c.neg)).setCell ⟨r, 2, none⟩ (.slice c.num.A c.num.n c.num.c)).setCell ⟨r, 3, none⟩ (.slice c.den.A c.den.n c.den.c) = W5 at *
  (try simp only [Exit.inBlock, Exit.then])
  refine bodyPost_ret (by simp [results, Tryz.results31, go_sem, d0, d1, d2, d3]; try rfl) rfl ?_
  exact ⟨⟨Sv.none, c⟩, rfl, ⟨Rows.empty, HC.out.tf' H5.out D_r.out (by decide)⟩, HG.out.fr_at H5.out N_r.out⟩

theorem Qv.Is.stq {w w' : World} {p : Nat} {us : Array Value} {q : Qv} {x : Qm} (h : q.Is w x) (F : Fr (fun b => b = p) w w') (hb : Bk w p 45 us) : q.Is w' x := ⟨⟨h.g.inputs, Forms.st h.g.units F hb (by decide) (by decide) (by decide), Forms.st h.g.outs F hb (by decide) (by decide) (by decide)⟩, Rats.st h.lo F hb (by decide) (by decide), Rats.st h.hi F hb (by decide) (by decide), h.rows, h.goal.tf' F hb (by decide) (by decide)⟩
theorem Qv.Is.stn {w w' : World} {p : Nat} {us : Array Value} {q : Qv} {x : Qm} (h : q.Is w x) (F : Fr (fun b => b = p) w w') (hb : Bk w p 55 us) : q.Is w' x := ⟨⟨h.g.inputs, Forms.st h.g.units F hb (by decide) (by decide) (by decide), Forms.st h.g.outs F hb (by decide) (by decide) (by decide)⟩, Rats.st h.lo F hb (by decide) (by decide), Rats.st h.hi F hb (by decide) (by decide), h.rows, h.goal.tf' F hb (by decide) (by decide)⟩
set_option maxRecDepth 100000 in
set_option maxHeartbeats 4000000 in
theorem example0 (w : World) (c : Int) (k : Q) (hc1 : -1000 ≤ c) (hc2 : c ≤ 1000) (hcg : Good (0, ofQ c)) (hadd : Fm.addR (varF 0) ⟨[], ofQ c⟩ = goal0 k) :
    Calls Tryz.prog 13 #[.int .i64 c] w fun e w' => ∃ (q : Qv) (p : Sv), e = .returned (.tuple #[.agg #[.int .i64 q.g.inputs, .slice q.g.units.A q.g.units.n q.g.units.c, .slice q.g.outs.A q.g.outs.n q.g.outs.c, .slice q.lo.A q.lo.n q.lo.c, .slice q.hi.A q.hi.n q.hi.c, .slice none 0 0, .slice q.goal.terms.A q.goal.terms.n q.goal.terms.c, .bool q.goal.const.neg, .slice q.goal.const.num.A q.goal.const.num.n q.goal.const.num.c, .slice q.goal.const.den.A q.goal.const.den.n q.goal.const.den.c], leafV p]) ∧ q.Is w' (exQ k) ∧ Mults w' p pf0 ∧ Gr w w' := by
  have HCG := Lib.hid hcg
  have HADD := Lib.hid hadd
  clear hcg hadd
  obtain ⟨B1, B2, G⟩ := made2 w 45 55 (#[.int .i64 0, .slice none 0 0, .slice none 0 0, .slice none 0 0, .slice none 0 0, .slice none 0 0, .slice none 0 0, .bool false, .slice none 0 0, .slice none 0 0]) (#[.slice none 0 0, .int .i64 0, .int .i64 0, .bool false, .slice none 0 0, .slice none 0 0, .slice none 0 0, .bool false, .slice none 0 0])
  have HG := Lib.hid G
  have D_rq := Lib.hid B1
  have D_rn := Lib.hid B2
  clear G B1 B2
  go_enter Tryz.func13, Tryz.ntmps13
  go_wp2_with fail
  generalize hW : (w.alloc (.cells #[.int .i64 0, .slice none 0 0, .slice none 0 0, .slice none 0 0, .slice none 0 0, .slice none 0 0, .slice none 0 0, .bool false, .slice none 0 0, .slice none 0 0] 45)).alloc (.cells #[.slice none 0 0, .int .i64 0, .int .i64 0, .bool false, .slice none 0 0, .slice none 0 0, .slice none 0 0, .bool false, .slice none 0 0] 55) = W at *
  clear hW
  have N_rq : Hid (w.heap.size ≤ w.heap.size) := (by show w.heap.size ≤ w.heap.size; omega)
  have N_rn : Hid (w.heap.size ≤ w.heap.size + 1) := (by show w.heap.size ≤ w.heap.size + 1; omega)
  generalize w.heap.size + 1 = rn at *
  refine (r7var_any W 0).mono ?_
  rintro e w1 ⟨f, rfl, hf, G⟩
  obtain ⟨B1, B2, GB⟩ := made2 w1 43 26 #[.slice f.terms.A f.terms.n f.terms.c, .bool f.const.neg, .slice f.const.num.A f.const.num.n f.const.num.c, .slice f.const.den.A f.const.den.n f.const.den.c] #[.int .i64 1, .slice none 0 0, .slice (some ⟨w1.heap.size, 0, none⟩) 1 1]
  have HOS : Hid (Forms ((w1.alloc (.cells #[.slice f.terms.A f.terms.n f.terms.c, .bool f.const.neg, .slice f.const.num.A f.const.num.n f.const.num.c, .slice f.const.den.A f.const.den.n f.const.den.c] 43)).alloc (.cells #[.int .i64 1, .slice none 0 0, .slice (some ⟨w1.heap.size, 0, none⟩) 1 1] 26)) ⟨some ⟨w1.heap.size, 0, none⟩, 1, 1⟩ [var0]) := Lib.hid (rows_single (cs := Fv.cs) (t := f) B1 rfl (hf.gr GB))
  have DG := Lib.hid B2
  have GG := G.trans GB
  have HG2 := Lib.hid (HG.out.trans GG)
  have DQ := Lib.hid (GG.bk D_rq.out)
  have DN := Lib.hid (GG.bk D_rn.out)
  clear B1 B2 GB hf GG G HG D_rq D_rn
  go_wp2_with fail
  go_upto_region 2 with fail
  generalize (w1.alloc (.cells #[.slice f.terms.A f.terms.n f.terms.c, .bool f.const.neg, .slice f.const.num.A f.const.num.n f.const.num.c, .slice f.const.den.A f.const.den.n f.const.den.c] 43)).alloc (.cells #[.int .i64 1, .slice none 0 0, .slice (some ⟨w1.heap.size, 0, none⟩) 1 1] 26) = w2 at *
  generalize w1.heap.size + 1 = g at *
  have HOS2 : ∃ os : Sv, os = ⟨some ⟨w1.heap.size, 0, none⟩, 1, 1⟩ ∧ Hid (Forms w2 os [var0]) := ⟨_, rfl, HOS⟩
  obtain ⟨os, eos, HOS⟩ := HOS2
  have eos1 : Value.slice (some ⟨w1.heap.size, 0, none⟩) 1 1 = .slice os.A os.n os.c := by rw [eos]
  rw [eos1] at DG ⊢
  clear eos eos1
  obtain ⟨g0, g1, g2⟩ := DG.out.c3
  refine wp_region_any (by kernel_rfl) ?_
  have kc := Lib.hid (fun (W' : World) (G : Gr w2.drew W') => And.intro (G.keep g0) (And.intro (G.keep g1) (G.keep g2)))
  have hst : ∀ p ∈ ([(2, Rats.At ([Q.zero])), (3, Rv.At (Q.one)), (4, Rats.At ([Q.one])), (6, Fv.At (varF 0)), (8, Rv.At (ofQ c)), (9, Fv.At (⟨[], ofQ c⟩)), (10, Fv.At (goal0 k)), (12, NewAt 45 #[.int .i64 0, .slice none 0 0, .slice none 0 0, .slice none 0 0, .slice none 0 0, .slice none 0 0, .slice none 0 0, .bool false, .slice none 0 0, .slice none 0 0] w2.heap.size)] : List (Nat × (Value → World → Prop))), ∀ (u : Value) (wA0 wB0 : World), Gr w2.drew wA0 → Gr wA0 wB0 → p.2 u wA0 → p.2 u wB0 := by
    intro p hp u wA0 wB0 h0 G h
    simp only [List.mem_cons, List.not_mem_nil, or_false] at hp
    rcases hp with rfl | rfl | rfl | rfl | rfl | rfl | rfl | rfl
    · exact Rats.At.gr h G
    · exact Rv.At.gr h G
    · exact Rats.At.gr h G
    · exact Fv.At.gr h G
    · exact Rv.At.gr h G
    · exact Fv.At.gr h G
    · exact Fv.At.gr h G
    · exact NewAt.gr h G
  refine wpAny_walk (m := 1) (last := #[true, true, true, true, true, true, true, true, true, true, true, true, true, false]) [0, 1, 2, 3, 4, 5, 6, 7, 8, 9, 10, 11, 12] [(2, Rats.At ([Q.zero])), (3, Rv.At (Q.one)), (4, Rats.At ([Q.one])), (6, Fv.At (varF 0)), (8, Rv.At (ofQ c)), (9, Fv.At (⟨[], ofQ c⟩)), (10, Fv.At (goal0 k)), (12, NewAt 45 #[.int .i64 0, .slice none 0 0, .slice none 0 0, .slice none 0 0, .slice none 0 0, .slice none 0 0, .slice none 0 0, .bool false, .slice none 0 0, .slice none 0 0] w2.heap.size)] (by kernel_rfl) (by decide) (by kernel_rfl) hst ?_
  clear hst
  refine Walk.take (v := ?wv105) rfl rfl (Or.inl ⟨by rfl, ?wy105⟩) ?wr105
  case wy105 => (intro w' hw'; obtain ⟨g0, g1, g2⟩ := kc.out w' hw'; go_simp; try with_reducible rfl)
  try simp only [Act.put, List.setIfInBounds_toArray, List.set_cons_zero, List.set_cons_succ]
  refine Walk.take (v := ?wv106) rfl rfl (Or.inl ⟨by rfl, ?wy106⟩) ?wr106
  case wy106 => (intro w' hw'; obtain ⟨g0, g1, g2⟩ := kc.out w' hw'; go_simp; try with_reducible rfl)
  try simp only [Act.put, List.setIfInBounds_toArray, List.set_cons_zero, List.set_cons_succ]
  refine Walk.do rfl rfl (by rfl) (fun W1 G1 F1 => ?ws107) (fun v hv => ?wr107)
  case ws107 =>
    obtain ⟨g0, g1, g2⟩ := kc.out W1 G1
    refine doesAt_value (v := .slice (some ⟨W1.heap.size, 0, none⟩) 1 1) (W' := W1.alloc (.cells #[.bool false, .slice none 0 0, .slice none 0 0] 41)) (by go_simp; try (first | with_reducible rfl | rfl)) ?_
    have GB := (Gr.refl W1).alloc (.cells #[.bool false, .slice none 0 0, .slice none 0 0] 41)
    exact ⟨GB, ⟨some ⟨W1.heap.size, 0, none⟩, 1, 1⟩, rfl, rows_single (cs := Rv.cs) (t := Rv.nil) (Bk.made W1 41 #[.bool false, .slice none 0 0, .slice none 0 0]) rfl (Rv.Is.zero _)⟩
  obtain ⟨_, -, -, ⟨lo, rfl, -⟩⟩ := hv
  try simp only [Act.put, List.setIfInBounds_toArray, List.set_cons_zero, List.set_cons_succ]
  refine Walk.do rfl rfl (by rfl) (fun W1 G1 F1 => ?ws108) (fun v hv => ?wr108)
  case ws108 =>
    obtain ⟨g0, g1, g2⟩ := kc.out W1 G1
    refine doesAt_enter (f := 30) (args := #[.int .i64 1]) (by go_simp; try (first | with_reducible rfl | rfl)) ?_
    refine ((show Calls _ _ _ _ (fun e w' => ∃ r : Rv, e = .returned r.v ∧ r.Is w' (Q.one) ∧ Gr W1 w') from by have := r3of_any W1 1 (by decide) (by decide); rw [ofQ_one] at this; exact this)).mono ?_
    rintro e w' ⟨one, rfl, hi, G⟩
    exact ⟨_, rfl, G, one, rfl, hi⟩
  obtain ⟨_, -, -, ⟨one, rfl, -⟩⟩ := hv
  try simp only [Act.put, List.setIfInBounds_toArray, List.set_cons_zero, List.set_cons_succ]
  refine Walk.do rfl rfl (by rfl) (fun W1 G1 F1 => ?ws109) (fun v hv => ?wr109)
  case ws109 =>
    obtain ⟨g0, g1, g2⟩ := kc.out W1 G1
    have hone := F1 _ (List.mem_of_getElem? (i := 1) rfl) (List.contains_iff_mem.1 (by kernel_rfl))
    have hone := Rv.At.is hone
    refine doesAt_value (v := .slice (some ⟨W1.heap.size, 0, none⟩) 1 1) (W' := W1.alloc (.cells #[.bool one.neg, .slice one.num.A one.num.n one.num.c, .slice one.den.A one.den.n one.den.c] 41)) (by go_simp; try (first | with_reducible rfl | rfl)) ?_
    have GB := (Gr.refl W1).alloc (.cells #[.bool one.neg, .slice one.num.A one.num.n one.num.c, .slice one.den.A one.den.n one.den.c] 41)
    exact ⟨GB, ⟨some ⟨W1.heap.size, 0, none⟩, 1, 1⟩, rfl, rows_single (cs := Rv.cs) (t := one) (Bk.made W1 41 #[.bool one.neg, .slice one.num.A one.num.n one.num.c, .slice one.den.A one.den.n one.den.c]) rfl (hone.gr GB)⟩
  obtain ⟨_, -, -, ⟨hi, rfl, -⟩⟩ := hv
  try simp only [Act.put, List.setIfInBounds_toArray, List.set_cons_zero, List.set_cons_succ]
  refine Walk.take (v := ?wv110) rfl rfl (Or.inl ⟨by rfl, ?wy110⟩) ?wr110
  case wy110 => (intro w' hw'; obtain ⟨g0, g1, g2⟩ := kc.out w' hw'; go_simp; try with_reducible rfl)
  try simp only [Act.put, List.setIfInBounds_toArray, List.set_cons_zero, List.set_cons_succ]
  refine Walk.do rfl rfl (by rfl) (fun W1 G1 F1 => ?ws111) (fun v hv => ?wr111)
  case ws111 =>
    obtain ⟨g0, g1, g2⟩ := kc.out W1 G1
    refine doesAt_enter (f := 29) (args := #[.int .i64 0]) (by go_simp; try (first | with_reducible rfl | rfl)) ?_
    refine (r7var_any W1 0).mono ?_
    rintro e w' ⟨fv, rfl, hi, G⟩
    exact ⟨_, rfl, G, fv, rfl, hi⟩
  obtain ⟨_, -, -, ⟨fv, rfl, -⟩⟩ := hv
  try simp only [Act.put, List.setIfInBounds_toArray, List.set_cons_zero, List.set_cons_succ]
  refine Walk.take (v := ?wv112) rfl rfl (Or.inl ⟨by rfl, ?wy112⟩) ?wr112
  case wy112 => (intro w' hw'; obtain ⟨g0, g1, g2⟩ := kc.out w' hw'; go_simp; try with_reducible rfl)
  try simp only [Act.put, List.setIfInBounds_toArray, List.set_cons_zero, List.set_cons_succ]
  refine Walk.do rfl rfl (by rfl) (fun W1 G1 F1 => ?ws113) (fun v hv => ?wr113)
  case ws113 =>
    obtain ⟨g0, g1, g2⟩ := kc.out W1 G1
    refine doesAt_enter (f := 30) (args := #[.int .i64 c]) (by go_simp; try (first | with_reducible rfl | rfl)) ?_
    refine ((show Calls _ _ _ _ (fun e w' => ∃ r : Rv, e = .returned r.v ∧ r.Is w' (ofQ c) ∧ Gr W1 w') from by have := r3of_any W1 c (by omega) (by omega); exact this)).mono ?_
    rintro e w' ⟨cc, rfl, hi, G⟩
    exact ⟨_, rfl, G, cc, rfl, hi⟩
  obtain ⟨_, -, -, ⟨cc, rfl, -⟩⟩ := hv
  try simp only [Act.put, List.setIfInBounds_toArray, List.set_cons_zero, List.set_cons_succ]
  refine Walk.do rfl rfl (by rfl) (fun W1 G1 F1 => ?ws114) (fun v hv => ?wr114)
  case ws114 =>
    obtain ⟨g0, g1, g2⟩ := kc.out W1 G1
    have hcc := F1 _ (List.mem_of_getElem? (i := 4) rfl) (List.contains_iff_mem.1 (by kernel_rfl))
    have hcc := Rv.At.is hcc
    refine doesAt_enter (f := 31) (args := #[.agg #[.bool cc.neg, .slice cc.num.A cc.num.n cc.num.c, .slice cc.den.A cc.den.n cc.den.c]]) (by go_simp; try (first | with_reducible rfl | rfl)) ?_
    refine (r7num_any W1 cc (ofQ c) hcc).mono ?_
    rintro e w' ⟨fn, rfl, hi, G⟩
    exact ⟨_, rfl, G, fn, rfl, hi⟩
  obtain ⟨_, -, -, ⟨fn, rfl, -⟩⟩ := hv
  try simp only [Act.put, List.setIfInBounds_toArray, List.set_cons_zero, List.set_cons_succ]
  refine Walk.do rfl rfl (by rfl) (fun W1 G1 F1 => ?ws115) (fun v hv => ?wr115)
  case ws115 =>
    obtain ⟨g0, g1, g2⟩ := kc.out W1 G1
    have hvar := F1 _ (List.mem_of_getElem? (i := 3) rfl) (List.contains_iff_mem.1 (by kernel_rfl))
    have hvar := Fv.At.is hvar
    have hnum := F1 _ (List.mem_of_getElem? (i := 5) rfl) (List.contains_iff_mem.1 (by kernel_rfl))
    have hnum := Fv.At.is hnum
    refine doesAt_enter (f := 24) (args := #[.agg #[.slice fv.terms.A fv.terms.n fv.terms.c, .bool fv.const.neg, .slice fv.const.num.A fv.const.num.n fv.const.num.c, .slice fv.const.den.A fv.const.den.n fv.const.den.c], .agg #[.slice fn.terms.A fn.terms.n fn.terms.c, .bool fn.const.neg, .slice fn.const.num.A fn.const.num.n fn.const.num.c, .slice fn.const.den.A fn.const.den.n fn.const.den.c]]) (by go_simp; try (first | with_reducible rfl | rfl)) ?_
    refine ((show Calls _ _ _ _ (fun e w' => ∃ r : Fv, e = .returned r.v ∧ r.Is w' (goal0 k) ∧ Gr W1 w') from by have := r7add_any W1 fv fn (varF 0) ⟨[], ofQ c⟩ hvar hnum (fun n hn t ht => by rw [List.take_nil] at ht; rw [List.mem_singleton.1 ht]; exact ⟨sm_one, by decide⟩) (fun t ht => by cases ht) ⟨sm_zero, ok_zero⟩ HCG.out (by show 1 + 0 ≤ 900; decide) (fun n hn => by rw [List.take_nil]; show 1 ≤ 900; decide); rw [HADD.out] at this; exact this)).mono ?_
    rintro e w' ⟨go_, rfl, hi, G⟩
    exact ⟨_, rfl, G, go_, rfl, hi⟩
  obtain ⟨_, -, -, ⟨go_, rfl, -⟩⟩ := hv
  try simp only [Act.put, List.setIfInBounds_toArray, List.set_cons_zero, List.set_cons_succ]
  refine Walk.take (v := ?wv116) rfl rfl (Or.inl ⟨by rfl, ?wy116⟩) ?wr116
  case wy116 => (intro w' hw'; obtain ⟨g0, g1, g2⟩ := kc.out w' hw'; go_simp; try with_reducible rfl)
  try simp only [Act.put, List.setIfInBounds_toArray, List.set_cons_zero, List.set_cons_succ]
  refine Walk.do rfl rfl (by rfl) (fun W1 G1 F1 => ?ws117) (fun v hv => ?wr117)
  case ws117 =>
    obtain ⟨g0, g1, g2⟩ := kc.out W1 G1
    refine doesAt_value (v := .pointer (some ⟨W1.heap.size, 0, none⟩)) (W' := W1.alloc (.cells #[.int .i64 0, .slice none 0 0, .slice none 0 0, .slice none 0 0, .slice none 0 0, .slice none 0 0, .slice none 0 0, .bool false, .slice none 0 0, .slice none 0 0] 45)) (by go_simp; try (first | with_reducible rfl | rfl)) ?_
    exact ⟨(Gr.refl W1).alloc _, NewAt.made W1 _ _ _ (Nat.le_trans (Nat.le_refl _) G1.of_drew.size)⟩
  obtain ⟨_, -, -, ⟨o, rfl, -, -⟩⟩ := hv
  try simp only [Act.put, List.setIfInBounds_toArray, List.set_cons_zero, List.set_cons_succ]
  refine Walk.done (fun W1 G1 F1 => ?_)
  have hlo := F1 _ (List.mem_of_getElem? (i := 0) rfl)
  have hone := F1 _ (List.mem_of_getElem? (i := 1) rfl)
  have hhi := F1 _ (List.mem_of_getElem? (i := 2) rfl)
  have hvar := F1 _ (List.mem_of_getElem? (i := 3) rfl)
  have hcc := F1 _ (List.mem_of_getElem? (i := 4) rfl)
  have hnum := F1 _ (List.mem_of_getElem? (i := 5) rfl)
  have hgo := F1 _ (List.mem_of_getElem? (i := 6) rfl)
  have ho := F1 _ (List.mem_of_getElem? (i := 7) rfl)
  clear F1
  have kc1 := kc.out W1 G1
  clear kc g0 g1 g2
  obtain ⟨g0, g1, g2⟩ := kc1
  refine wpAny_one 13 rfl (by kernel_rfl) (by rfl) (fun K hK => ?_)
  have hN := ho.is
  have fz := hN.1.frozen
  obtain ⟨q0, q1, q2, q3, q4, q5, q6, q7, q8, q9⟩ := hN.1.c10
  go_simp
  refine hK.out _ _ ?_
  clear hK K
  try simp only [Act.put, List.setIfInBounds_toArray, List.set_cons_zero, List.set_cons_succ]
  refine wpAny_end (by kernel_rfl) ?_
  obtain ⟨ho, hoN⟩ := ho.is
  obtain ⟨B5, F5⟩ := ho.put10 (.int .i64 1) (.slice none 0 0) (.slice os.A os.n os.c) (.slice lo.A lo.n lo.c) (.slice hi.A hi.n hi.c) (.slice none 0 0) (.slice go_.terms.A go_.terms.n go_.terms.c) (.bool go_.const.neg) (.slice go_.const.num.A go_.const.num.n go_.const.num.c) (.slice go_.const.den.A go_.const.den.n go_.const.den.c)
  have HNO := Lib.hid (Nat.le_trans HG2.out.size hoN)
  have hnq := Lib.hid (show ¬ rn = w.heap.size from fun e => Bk.ne DN.out DQ.out (by decide) e)
  have hoq := Lib.hid (show ¬ o = w.heap.size from fun e => Nat.lt_irrefl _ (Nat.lt_of_lt_of_le (e ▸ DQ.out.lt) hoN))
  have hon := Lib.hid (show ¬ o = rn from fun e => Nat.lt_irrefl _ (Nat.lt_of_lt_of_le (e ▸ DN.out.lt) hoN))
  have HG5 := Lib.hid ((HG2.out.trans G1.of_drew).fr_at F5 HNO.out)
  have HQX : Hid (Qv.Is ((((((((((W1.setCell ⟨o, 0, none⟩ (.int .i64 1)).setCell ⟨o, 1, none⟩ (.slice none 0 0)).setCell ⟨o, 2, none⟩ (.slice os.A os.n os.c)).setCell ⟨o, 3, none⟩ (.slice lo.A lo.n lo.c)).setCell ⟨o, 4, none⟩ (.slice hi.A hi.n hi.c)).setCell ⟨o, 5, none⟩ (.slice none 0 0)).setCell ⟨o, 6, none⟩ (.slice go_.terms.A go_.terms.n go_.terms.c)).setCell ⟨o, 7, none⟩ (.bool go_.const.neg)).setCell ⟨o, 8, none⟩ (.slice go_.const.num.A go_.const.num.n go_.const.num.c)).setCell ⟨o, 9, none⟩ (.slice go_.const.den.A go_.const.den.n go_.const.den.c)) ⟨⟨1, Sv.none, os⟩, lo, hi, Sv.none, go_⟩ (exQ k)) := Lib.hid ⟨⟨rfl, Rows.empty, Forms.st (HOS.out.gr G1.of_drew) F5 ho (by decide) (by decide) (by decide)⟩, Rats.st hlo.is F5 ho (by decide) (by decide), Rats.st hhi.is F5 ho (by decide) (by decide), rfl, hgo.is.tf' F5 ho (by decide) (by decide)⟩
  have DO := Lib.hid B5
  replace DQ := Lib.hid (F5.bk (G1.of_drew.bk DQ.out) (Nat.ne_of_lt (Nat.lt_of_lt_of_le DQ.out.lt hoN)))
  replace DN := Lib.hid (F5.bk (G1.of_drew.bk DN.out) (Nat.ne_of_lt (Nat.lt_of_lt_of_le DN.out.lt hoN)))
  clear ho hoN hone hvar hcc hnum hgo hlo hhi G1 B5 F5 HG2 HOS DG g0 g1 g2
  generalize (((((((((W1.setCell ⟨o, 0, none⟩ (.int .i64 1)).setCell ⟨o, 1, none⟩ (.slice none 0 0)).setCell ⟨o, 2, none⟩ (.slice os.A os.n os.c)).setCell ⟨o, 3, none⟩ (.slice lo.A lo.n lo.c)).setCell ⟨o, 4, none⟩ (.slice hi.A hi.n hi.c)).setCell ⟨o, 5, none⟩ (.slice none 0 0)).setCell ⟨o, 6, none⟩ (.slice go_.terms.A go_.terms.n go_.terms.c)).setCell ⟨o, 7, none⟩ (.bool go_.const.neg)).setCell ⟨o, 8, none⟩ (.slice go_.const.num.A go_.const.num.n go_.const.num.c)).setCell ⟨o, 9, none⟩ (.slice go_.const.den.A go_.const.den.n go_.const.den.c) = w4 at *
  go_upto_region 3 with fail
  have gd := (Gr.refl w4).drew
  have hS0 := (gd.bk DO.out).c10
  have D0o := Lib.hid (gd.bk DO.out)
  have D0q := Lib.hid (gd.bk DQ.out)
  have D0n := Lib.hid (gd.bk DN.out)
  have Q0 := Lib.hid (HQX.out.gr gd)
  have G0 := Lib.hid (HG5.out.trans gd)
  clear gd DO DQ DN HQX HG5
  refine wp_region_E (fun W => W.cell? ⟨o, 0, none⟩ = some (.int .i64 1) ∧ W.cell? ⟨o, 1, none⟩ = some (.slice none 0 0) ∧ W.cell? ⟨o, 2, none⟩ = some (.slice os.A os.n os.c) ∧ W.cell? ⟨o, 3, none⟩ = some (.slice lo.A lo.n lo.c) ∧ W.cell? ⟨o, 4, none⟩ = some (.slice hi.A hi.n hi.c) ∧ W.cell? ⟨o, 5, none⟩ = some (.slice none 0 0) ∧ W.cell? ⟨o, 6, none⟩ = some (.slice go_.terms.A go_.terms.n go_.terms.c) ∧ W.cell? ⟨o, 7, none⟩ = some (.bool go_.const.neg) ∧ W.cell? ⟨o, 8, none⟩ = some (.slice go_.const.num.A go_.const.num.n go_.const.num.c) ∧ W.cell? ⟨o, 9, none⟩ = some (.slice go_.const.den.A go_.const.den.n go_.const.den.c)) (by kernel_rfl) ?_
  show anyE _ _ _ _ 8 _ _ _
  refine anyE.takeL (i := 0) (v := ?wv100) rfl (by kernel_rfl) (by kernel_rfl) (by kernel_rfl) (fun _ _ _ h => h) (Or.inl ⟨by rfl, ?wy100⟩) hS0 ?wr100
  case wy100 => (intro w' hS'; obtain ⟨q0, q1, q2, q3, q4, q5, q6, q7, q8, q9⟩ := hS'; go_simp; try with_reducible rfl)
  try simp only [Act.put, List.setIfInBounds_toArray, List.set_cons_zero, List.set_cons_succ]
  refine anyE.takeL (i := 1) (v := ?wv101) rfl (by kernel_rfl) (by kernel_rfl) (by kernel_rfl) (fun _ _ _ h => h) (Or.inl ⟨by rfl, ?wy101⟩) hS0 ?wr101
  case wy101 => (intro w' hS'; obtain ⟨q0, q1, q2, q3, q4, q5, q6, q7, q8, q9⟩ := hS'; go_simp; try with_reducible rfl)
  try simp only [Act.put, List.setIfInBounds_toArray, List.set_cons_zero, List.set_cons_succ]
  refine anyE.one 2 rfl (by kernel_rfl) (by rfl) (fun K hK => ?_)
  refine doesAt_wp (K := fun v W => ∃ one : Rv, v = one.v ∧ one.Is W (ofQ 1) ∧ Gr w4.drew W) (doesAt_enter (f := 30) (args := #[.int .i64 1]) (by go_simp; try (first | with_reducible rfl | rfl)) ((r3of_any _ 1 (by decide) (by decide)).mono ?_)) ?_
  · rintro e w' ⟨one, rfl, h1, G⟩
    exact ⟨_, rfl, one, rfl, h1, G⟩
  rintro v w5 ⟨one, rfl, h1, G⟩
  rw [ofQ_one] at h1
  have D1o := Lib.hid (G.bk D0o.out)
  have D1q := Lib.hid (G.bk D0q.out)
  have D1n := Lib.hid (G.bk D0n.out)
  have Q1 := Lib.hid (Q0.out.gr G)
  have G1 := Lib.hid (G0.out.trans G)
  have H1 := Lib.hid h1
  clear h1 G hS0 D0o D0q D0n Q0 G0
  refine hK.out _ _ ⟨Or.inl (D1o.out.c10), ?_⟩
  clear hK K
  try simp only [Act.put, List.setIfInBounds_toArray, List.set_cons_zero, List.set_cons_succ]
  have hS1 := D1o.out.c10
  refine anyE.takeL (i := 3) (v := ?wv102) rfl (by kernel_rfl) (by kernel_rfl) (by kernel_rfl) (fun _ _ _ h => h) (Or.inl ⟨by rfl, ?wy102⟩) hS1 ?wr102
  case wy102 => (intro w' hS'; obtain ⟨q0, q1, q2, q3, q4, q5, q6, q7, q8, q9⟩ := hS'; go_simp; try with_reducible rfl)
  try simp only [Act.put, List.setIfInBounds_toArray, List.set_cons_zero, List.set_cons_succ]
  refine anyE.two 4 6 rfl rfl (by kernel_rfl) (by rfl) (by rfl) (fun K hK => ?_) (fun K hK => ?_)
  · clear hS1
    obtain ⟨BM, GM⟩ := made1 w5 84 #[.int .i64 1, .int .i64 0, .int .i64 0, .int .i64 0, .bool one.neg, .slice one.num.A one.num.n one.num.c, .slice one.den.A one.den.n one.den.c]
    have P2 : Hid (Mults (w5.alloc (.cells #[.int .i64 1, .int .i64 0, .int .i64 0, .int .i64 0, .bool one.neg, .slice one.num.A one.num.n one.num.c, .slice one.den.A one.den.n one.den.c] 84)) ⟨some ⟨w5.heap.size, 0, none⟩, 1, 1⟩ pf0) := Lib.hid (rows_single (cs := Mv.cs) (t := (⟨⟨1, 0, 0, 0⟩, one⟩ : Mv)) BM rfl ⟨rfl, H1.out.gr GM⟩)
    have D2o := Lib.hid (GM.bk D1o.out)
    have D2q := Lib.hid (GM.bk D1q.out)
    have D2n := Lib.hid (GM.bk D1n.out)
    have Q2 := Lib.hid (Q1.out.gr GM)
    have G2 := Lib.hid (G1.out.trans GM)
    clear BM GM
    go_simp
    refine hK.out _ _ ⟨Or.inl (D2o.out.c10), ?_⟩
    clear hK K
    try simp only [Act.put, List.setIfInBounds_toArray, List.set_cons_zero, List.set_cons_succ]
    generalize hmb : w5.heap.size = mb at *
    generalize w5.alloc (.cells #[.int .i64 1, .int .i64 0, .int .i64 0, .int .i64 0, .bool one.neg, .slice one.num.A one.num.n one.num.c, .slice one.den.A one.den.n one.den.c] 84) = w6 at *
    clear hmb
    have hS2 := D2o.out.c10
    refine anyE.takeL (i := 5) (v := ?wv103) rfl (by kernel_rfl) (by kernel_rfl) (by kernel_rfl) (fun _ _ _ h => h) (Or.inl ⟨by rfl, ?wy103⟩) hS2 ?wr103
    case wy103 => (intro w' hS'; obtain ⟨q0, q1, q2, q3, q4, q5, q6, q7, q8, q9⟩ := hS'; go_simp; try with_reducible rfl)
    try simp only [Act.put, List.setIfInBounds_toArray, List.set_cons_zero, List.set_cons_succ]
    clear hS2
    refine anyE.one 6 rfl (by kernel_rfl) (by rfl) (fun K hK => ?_)
    obtain ⟨BQ, FQ⟩ := D2q.out.put10 (.int .i64 1) (.slice none 0 0) (.slice os.A os.n os.c) (.slice lo.A lo.n lo.c) (.slice hi.A hi.n hi.c) (.slice none 0 0) (.slice go_.terms.A go_.terms.n go_.terms.c) (.bool go_.const.neg) (.slice go_.const.num.A go_.const.num.n go_.const.num.c) (.slice go_.const.den.A go_.const.den.n go_.const.den.c)
    have fz := D2q.out.frozen
    obtain ⟨z0, z1, z2, z3, z4, z5, z6, z7, z8, z9⟩ := D2q.out.c10
    have D3o := Lib.hid (FQ.bk D2o.out hoq.out)
    have D3n := Lib.hid (FQ.bk D2n.out hnq.out)
    have Q3 := Lib.hid (Q2.out.stq FQ D2q.out)
    have G3 := Lib.hid (G2.out.fr_at FQ (Nat.le_refl _))
    have D3q := Lib.hid BQ
    have P3 := Lib.hid (P2.out.st FQ D2q.out (by decide) (by decide))
    clear BQ FQ
    go_simp
    refine hK.out _ _ ⟨Or.inl (D3o.out.c10), ?_⟩
    clear hK K
    try simp only [Act.put, List.setIfInBounds_toArray, List.set_cons_zero, List.set_cons_succ]
    clear fz z0 z1 z2 z3 z4 z5 z6 z7 z8 z9
    generalize (((((((((w6.setCell ⟨w.heap.size, 0, none⟩ (.int .i64 1)).setCell ⟨w.heap.size, 1, none⟩ (.slice none 0 0)).setCell ⟨w.heap.size, 2, none⟩ (.slice os.A os.n os.c)).setCell ⟨w.heap.size, 3, none⟩ (.slice lo.A lo.n lo.c)).setCell ⟨w.heap.size, 4, none⟩ (.slice hi.A hi.n hi.c)).setCell ⟨w.heap.size, 5, none⟩ (.slice none 0 0)).setCell ⟨w.heap.size, 6, none⟩ (.slice go_.terms.A go_.terms.n go_.terms.c)).setCell ⟨w.heap.size, 7, none⟩ (.bool go_.const.neg)).setCell ⟨w.heap.size, 8, none⟩ (.slice go_.const.num.A go_.const.num.n go_.const.num.c)).setCell ⟨w.heap.size, 9, none⟩ (.slice go_.const.den.A go_.const.den.n go_.const.den.c) = w7 at *
    have hS3 := D3o.out.c10
    clear hS3
    refine anyE.one 7 rfl (by kernel_rfl) (by rfl) (fun K hK => ?_)
    obtain ⟨BN, FN_⟩ := D3n.out.put9 (.slice none 0 0) (.int .i64 0) (.int .i64 0) (.bool false) (.slice none 0 0) (.slice none 0 0) (.slice none 0 0) (.bool false) (.slice (some ⟨mb, 0, none⟩) 1 1)
    have fz := D3n.out.frozen
    obtain ⟨z0, z1, z2, z3, z4, z5, z6, z7, z8⟩ := D3n.out.c9
    have D4q := Lib.hid (FN_.bk D3q.out (fun e => hnq.out e.symm))
    have Q4 := Lib.hid (Q3.out.stn FN_ D3n.out)
    have G4 := Lib.hid (G3.out.fr_at FN_ N_rn.out)
    have P4 := Lib.hid (P3.out.st FN_ D3n.out (by decide) (by decide))
    have D4n := Lib.hid BN
    clear BN FN_
    go_simp
    refine hK.out _ _ ⟨Or.inr (by kernel_rfl), ?_⟩
    clear hK K
    try simp only [Act.put, List.setIfInBounds_toArray, List.set_cons_zero, List.set_cons_succ]
    clear fz z0 z1 z2 z3 z4 z5 z6 z7 z8
    generalize ((((((((w7.setCell ⟨rn, 0, none⟩ (.slice none 0 0)).setCell ⟨rn, 1, none⟩ (.int .i64 0)).setCell ⟨rn, 2, none⟩ (.int .i64 0)).setCell ⟨rn, 3, none⟩ (.bool false)).setCell ⟨rn, 4, none⟩ (.slice none 0 0)).setCell ⟨rn, 5, none⟩ (.slice none 0 0)).setCell ⟨rn, 6, none⟩ (.slice none 0 0)).setCell ⟨rn, 7, none⟩ (.bool false)).setCell ⟨rn, 8, none⟩ (.slice (some ⟨mb, 0, none⟩) 1 1) = w8 at *
    refine anyE.done (by kernel_rfl) ?_
    obtain ⟨d0, d1, d2, d3, d4, d5, d6, d7, d8, d9⟩ := D4q.out.c10
    obtain ⟨f0, f1, f2, f3, f4, f5, f6, f7, f8⟩ := D4n.out.c9
    go_wp2
    (try simp only [Exit.inBlock, Exit.then])
    refine bodyPost_ret (by simp [results, Tryz.results13, go_sem, d0, d1, d2, d3, d4, d5, d6, d7, d8, d9, f0, f1, f2, f3, f4, f5, f6, f7, f8]; try rfl) rfl ?_
    exact ⟨⟨⟨1, Sv.none, os⟩, lo, hi, Sv.none, go_⟩, ⟨some ⟨mb, 0, none⟩, 1, 1⟩, rfl, Q4.out, P4.out, G4.out⟩
  · clear hS1
    obtain ⟨BQ, FQ⟩ := D1q.out.put10 (.int .i64 1) (.slice none 0 0) (.slice os.A os.n os.c) (.slice lo.A lo.n lo.c) (.slice hi.A hi.n hi.c) (.slice none 0 0) (.slice go_.terms.A go_.terms.n go_.terms.c) (.bool go_.const.neg) (.slice go_.const.num.A go_.const.num.n go_.const.num.c) (.slice go_.const.den.A go_.const.den.n go_.const.den.c)
    have fz := D1q.out.frozen
    obtain ⟨z0, z1, z2, z3, z4, z5, z6, z7, z8, z9⟩ := D1q.out.c10
    have D2o := Lib.hid (FQ.bk D1o.out hoq.out)
    have D2n := Lib.hid (FQ.bk D1n.out hnq.out)
    have Q2 := Lib.hid (Q1.out.stq FQ D1q.out)
    have G2 := Lib.hid (G1.out.fr_at FQ (Nat.le_refl _))
    have D2q := Lib.hid BQ
    have H2 := Lib.hid (H1.out.tf' FQ D1q.out (by decide))
    clear BQ FQ
    go_simp
    refine hK.out _ _ ⟨Or.inl (D2o.out.c10), ?_⟩
    clear hK K
    try simp only [Act.put, List.setIfInBounds_toArray, List.set_cons_zero, List.set_cons_succ]
    clear fz z0 z1 z2 z3 z4 z5 z6 z7 z8 z9
    generalize (((((((((w5.setCell ⟨w.heap.size, 0, none⟩ (.int .i64 1)).setCell ⟨w.heap.size, 1, none⟩ (.slice none 0 0)).setCell ⟨w.heap.size, 2, none⟩ (.slice os.A os.n os.c)).setCell ⟨w.heap.size, 3, none⟩ (.slice lo.A lo.n lo.c)).setCell ⟨w.heap.size, 4, none⟩ (.slice hi.A hi.n hi.c)).setCell ⟨w.heap.size, 5, none⟩ (.slice none 0 0)).setCell ⟨w.heap.size, 6, none⟩ (.slice go_.terms.A go_.terms.n go_.terms.c)).setCell ⟨w.heap.size, 7, none⟩ (.bool go_.const.neg)).setCell ⟨w.heap.size, 8, none⟩ (.slice go_.const.num.A go_.const.num.n go_.const.num.c)).setCell ⟨w.heap.size, 9, none⟩ (.slice go_.const.den.A go_.const.den.n go_.const.den.c) = w6 at *
    have hS2 := D2o.out.c10
    clear hS2
    refine anyE.one 4 rfl (by kernel_rfl) (by rfl) (fun K hK => ?_)
    obtain ⟨BM, GM⟩ := made1 w6 84 #[.int .i64 1, .int .i64 0, .int .i64 0, .int .i64 0, .bool one.neg, .slice one.num.A one.num.n one.num.c, .slice one.den.A one.den.n one.den.c]
    have P3 : Hid (Mults (w6.alloc (.cells #[.int .i64 1, .int .i64 0, .int .i64 0, .int .i64 0, .bool one.neg, .slice one.num.A one.num.n one.num.c, .slice one.den.A one.den.n one.den.c] 84)) ⟨some ⟨w6.heap.size, 0, none⟩, 1, 1⟩ pf0) := Lib.hid (rows_single (cs := Mv.cs) (t := (⟨⟨1, 0, 0, 0⟩, one⟩ : Mv)) BM rfl ⟨rfl, H2.out.gr GM⟩)
    have D3o := Lib.hid (GM.bk D2o.out)
    have D3q := Lib.hid (GM.bk D2q.out)
    have D3n := Lib.hid (GM.bk D2n.out)
    have Q3 := Lib.hid (Q2.out.gr GM)
    have G3 := Lib.hid (G2.out.trans GM)
    clear BM GM
    go_simp
    refine hK.out _ _ ⟨Or.inl (D3o.out.c10), ?_⟩
    clear hK K
    try simp only [Act.put, List.setIfInBounds_toArray, List.set_cons_zero, List.set_cons_succ]
    generalize hmb : w6.heap.size = mb at *
    generalize w6.alloc (.cells #[.int .i64 1, .int .i64 0, .int .i64 0, .int .i64 0, .bool one.neg, .slice one.num.A one.num.n one.num.c, .slice one.den.A one.den.n one.den.c] 84) = w7 at *
    clear hmb
    have hS3 := D3o.out.c10
    refine anyE.takeL (i := 5) (v := ?wv104) rfl (by kernel_rfl) (by kernel_rfl) (by kernel_rfl) (fun _ _ _ h => h) (Or.inl ⟨by rfl, ?wy104⟩) hS3 ?wr104
    case wy104 => (intro w' hS'; obtain ⟨q0, q1, q2, q3, q4, q5, q6, q7, q8, q9⟩ := hS'; go_simp; try with_reducible rfl)
    try simp only [Act.put, List.setIfInBounds_toArray, List.set_cons_zero, List.set_cons_succ]
    clear hS3
    refine anyE.one 7 rfl (by kernel_rfl) (by rfl) (fun K hK => ?_)
    obtain ⟨BN, FN_⟩ := D3n.out.put9 (.slice none 0 0) (.int .i64 0) (.int .i64 0) (.bool false) (.slice none 0 0) (.slice none 0 0) (.slice none 0 0) (.bool false) (.slice (some ⟨mb, 0, none⟩) 1 1)
    have fz := D3n.out.frozen
    obtain ⟨z0, z1, z2, z3, z4, z5, z6, z7, z8⟩ := D3n.out.c9
    have D4q := Lib.hid (FN_.bk D3q.out (fun e => hnq.out e.symm))
    have Q4 := Lib.hid (Q3.out.stn FN_ D3n.out)
    have G4 := Lib.hid (G3.out.fr_at FN_ N_rn.out)
    have P4 := Lib.hid (P3.out.st FN_ D3n.out (by decide) (by decide))
    have D4n := Lib.hid BN
    clear BN FN_
    go_simp
    refine hK.out _ _ ⟨Or.inr (by kernel_rfl), ?_⟩
    clear hK K
    try simp only [Act.put, List.setIfInBounds_toArray, List.set_cons_zero, List.set_cons_succ]
    clear fz z0 z1 z2 z3 z4 z5 z6 z7 z8
    generalize ((((((((w7.setCell ⟨rn, 0, none⟩ (.slice none 0 0)).setCell ⟨rn, 1, none⟩ (.int .i64 0)).setCell ⟨rn, 2, none⟩ (.int .i64 0)).setCell ⟨rn, 3, none⟩ (.bool false)).setCell ⟨rn, 4, none⟩ (.slice none 0 0)).setCell ⟨rn, 5, none⟩ (.slice none 0 0)).setCell ⟨rn, 6, none⟩ (.slice none 0 0)).setCell ⟨rn, 7, none⟩ (.bool false)).setCell ⟨rn, 8, none⟩ (.slice (some ⟨mb, 0, none⟩) 1 1) = w8 at *
    refine anyE.done (by kernel_rfl) ?_
    obtain ⟨d0, d1, d2, d3, d4, d5, d6, d7, d8, d9⟩ := D4q.out.c10
    obtain ⟨f0, f1, f2, f3, f4, f5, f6, f7, f8⟩ := D4n.out.c9
    go_wp2
    (try simp only [Exit.inBlock, Exit.then])
    refine bodyPost_ret (by simp [results, Tryz.results13, go_sem, d0, d1, d2, d3, d4, d5, d6, d7, d8, d9, f0, f1, f2, f3, f4, f5, f6, f7, f8]; try rfl) rfl ?_
    exact ⟨⟨⟨1, Sv.none, os⟩, lo, hi, Sv.none, go_⟩, ⟨some ⟨mb, 0, none⟩, 1, 1⟩, rfl, Q4.out, P4.out, G4.out⟩
end Go.Proofs.YtcmfepaffhnemaaGreatDoor

set_option linter.unusedVariables false
namespace Go.Proofs.YtcmfepaffhnemaaGreatDoor
open Go.RowKit

attribute [local go_sem] Oper.semAt_some

theorem exQ_va (k : Q) (hk : Cst k) : (exQ k).Va := by
  have hv : Fm.Sm var0 1 := ⟨goal0_ok ok_zero 1 (Nat.le_refl _), fun t ht => by rw [List.mem_singleton.1 ht]; exact sm_one, sm_zero⟩
  refine ⟨⟨Nat.le_refl _, by show 1 ≤ 256; decide, by show 0 ≤ 1024; decide, by show 1 ≤ 1; decide, by show 1 ≤ 256; decide, fun j f hf => by simp [exQ] at hf, fun f hf => by rw [List.mem_singleton.1 hf]; exact hv⟩, rfl, rfl, fun q hq => by rw [List.mem_singleton.1 hq]; exact ⟨sm_zero, ok_zero⟩, fun q hq => by rw [List.mem_singleton.1 hq]; exact ⟨sm_one, by decide⟩, fun i a b ha hb => ?_, ⟨goal0_ok hk.ok 1 (Nat.le_refl _), fun t ht => by rw [List.mem_singleton.1 ht]; exact sm_one, hk.sm⟩⟩
  cases i with
  | zero =>
    simp only [exQ, List.getElem?_cons_zero, Option.some.injEq] at ha hb
    subst ha hb
    decide
  | succ i => simp [exQ] at ha
theorem add_one0 : Fm.addR (varF 0) ⟨[], ofQ 1⟩ = goal0 Q.one := by decide
theorem add_mone0 : Fm.addR (varF 0) ⟨[], ofQ (-1)⟩ = goal0 Q.mone := by decide
theorem good_one : Good (0, ofQ 1) := ⟨⟨by decide, by decide⟩, by decide⟩
theorem good_mone : Good (0, ofQ (-1)) := ⟨⟨by decide, by decide⟩, by decide⟩

set_option maxRecDepth 100000 in
set_option maxHeartbeats 4000000 in
theorem awake0 (w : World) :
    Calls Tryz.prog 5 #[] w fun e w' => e = .returned (.bool true) ∧ Gr w w' := by
  go_enter Tryz.func5, Tryz.ntmps5
  go_wp2_with fail
  refine (example0 w 1 Q.one (by decide) (by decide) good_one add_one0).mono ?_
  rintro e w1 ⟨q, p, rfl, hq, hp, G⟩
  have HQ := Lib.hid hq
  have HP := Lib.hid hp
  have HG := Lib.hid G
  clear hq hp G
  obtain ⟨B1, B2, GB⟩ := made2 w1 45 55 #[.int .i64 q.g.inputs, .slice q.g.units.A q.g.units.n q.g.units.c, .slice q.g.outs.A q.g.outs.n q.g.outs.c, .slice q.lo.A q.lo.n q.lo.c, .slice q.hi.A q.hi.n q.hi.c, .slice none 0 0, .slice q.goal.terms.A q.goal.terms.n q.goal.terms.c, .bool q.goal.const.neg, .slice q.goal.const.num.A q.goal.const.num.n q.goal.const.num.c, .slice q.goal.const.den.A q.goal.const.den.n q.goal.const.den.c] #[.slice none 0 0, .int .i64 0, .int .i64 0, .bool false, .slice none 0 0, .slice none 0 0, .slice none 0 0, .bool false, .slice p.A p.n p.c]
  replace HQ := Lib.hid (HQ.out.gr GB)
  replace HP := Lib.hid (HP.out.gr GB)
  replace HG := Lib.hid (HG.out.trans GB)
  have D1 := Lib.hid B1
  have D2 := Lib.hid B2
  clear B1 B2 GB
  go_upto_region 2 with fail
  generalize (w1.alloc (.cells #[.int .i64 q.g.inputs, .slice q.g.units.A q.g.units.n q.g.units.c, .slice q.g.outs.A q.g.outs.n q.g.outs.c, .slice q.lo.A q.lo.n q.lo.c, .slice q.hi.A q.hi.n q.hi.c, .slice none 0 0, .slice q.goal.terms.A q.goal.terms.n q.goal.terms.c, .bool q.goal.const.neg, .slice q.goal.const.num.A q.goal.const.num.n q.goal.const.num.c, .slice q.goal.const.den.A q.goal.const.den.n q.goal.const.den.c] 45)).alloc (.cells #[.slice none 0 0, .int .i64 0, .int .i64 0, .bool false, .slice none 0 0, .slice none 0 0, .slice none 0 0, .bool false, .slice p.A p.n p.c] 55) = w2 at *
  generalize w1.heap.size + 1 = b at *
  generalize w1.heap.size = a at *
  go_wp2_with fail
  refine (example0 w2 (-1) Q.mone (by decide) (by decide) good_mone add_mone0).mono ?_
  rintro e w3 ⟨qq, p2, rfl, hq2, hp2, G⟩
  obtain ⟨B3, B4, GB⟩ := made2 w3 45 55 #[.int .i64 qq.g.inputs, .slice qq.g.units.A qq.g.units.n qq.g.units.c, .slice qq.g.outs.A qq.g.outs.n qq.g.outs.c, .slice qq.lo.A qq.lo.n qq.lo.c, .slice qq.hi.A qq.hi.n qq.hi.c, .slice none 0 0, .slice qq.goal.terms.A qq.goal.terms.n qq.goal.terms.c, .bool qq.goal.const.neg, .slice qq.goal.const.num.A qq.goal.const.num.n qq.goal.const.num.c, .slice qq.goal.const.den.A qq.goal.const.den.n qq.goal.const.den.c] #[.slice none 0 0, .int .i64 0, .int .i64 0, .bool false, .slice none 0 0, .slice none 0 0, .slice none 0 0, .bool false, .slice p2.A p2.n p2.c]
  have GG := G.trans GB
  replace HQ := Lib.hid (HQ.out.gr GG)
  replace HP := Lib.hid (HP.out.gr GG)
  replace HG := Lib.hid (HG.out.trans GG)
  replace D1 := Lib.hid (GG.bk D1.out)
  replace D2 := Lib.hid (GG.bk D2.out)
  have HQ2 := Lib.hid (hq2.gr GB)
  have D3 := Lib.hid B3
  clear B3 B4 GB GG G hq2 hp2
  go_upto_region 3 with fail
  generalize (w3.alloc (.cells #[.int .i64 qq.g.inputs, .slice qq.g.units.A qq.g.units.n qq.g.units.c, .slice qq.g.outs.A qq.g.outs.n qq.g.outs.c, .slice qq.lo.A qq.lo.n qq.lo.c, .slice qq.hi.A qq.hi.n qq.hi.c, .slice none 0 0, .slice qq.goal.terms.A qq.goal.terms.n qq.goal.terms.c, .bool qq.goal.const.neg, .slice qq.goal.const.num.A qq.goal.const.num.n qq.goal.const.num.c, .slice qq.goal.const.den.A qq.goal.const.den.n qq.goal.const.den.c] 45)).alloc (.cells #[.slice none 0 0, .int .i64 0, .int .i64 0, .bool false, .slice none 0 0, .slice none 0 0, .slice none 0 0, .bool false, .slice p2.A p2.n p2.c] 55) = w4 at *
  generalize w3.heap.size + 1 = d at *
  generalize w3.heap.size = c at *
  obtain ⟨q0, q1, q2, q3, q4, q5, q6, q7, q8, q9⟩ := D1.out.c10
  obtain ⟨a0, a1, a2, a3, a4, a5, a6, a7, a8⟩ := D2.out.c9
  go_wp2_with fail
  refine (entries0_any w4 q (exQ Q.one) Q.one p HQ.out (exQ_va _ cst_one) rfl rfl cst_one HP.out).mono ?_
  rintro e w5 ⟨z, rfl, hz, G⟩
  have hzn : 1 = z.n := hz.len
  obtain ⟨zA, zn, zc⟩ := z
  simp only at hzn
  subst hzn
  replace HQ := Lib.hid (HQ.out.gr G)
  replace HP := Lib.hid (HP.out.gr G)
  replace HG := Lib.hid (HG.out.trans G)
  replace D1 := Lib.hid (G.bk D1.out)
  replace D2 := Lib.hid (G.bk D2.out)
  replace D3 := Lib.hid (G.bk D3.out)
  replace HQ2 := Lib.hid (HQ2.out.gr G)
  clear hz G q0 q1 q2 q3 q4 q5 q6 q7 q8 q9 a0 a1 a2 a3 a4 a5 a6 a7 a8
  obtain ⟨q0, q1, q2, q3, q4, q5, q6, q7, q8, q9⟩ := D3.out.c10
  obtain ⟨a0, a1, a2, a3, a4, a5, a6, a7, a8⟩ := D2.out.c9
  simp only [Sv.v]
  go_wp2_with fail
  refine (entries0_any w5 qq (exQ Q.mone) Q.mone p HQ2.out (exQ_va _ cst_mone) rfl rfl cst_mone HP.out).mono ?_
  rintro e w6 ⟨z2, rfl, hz, G⟩
  have hzn : 0 = z2.n := hz.len
  obtain ⟨yA, yn, yc⟩ := z2
  simp only at hzn
  subst hzn
  replace HQ := Lib.hid (HQ.out.gr G)
  replace HP := Lib.hid (HP.out.gr G)
  replace HG := Lib.hid (HG.out.trans G)
  replace D1 := Lib.hid (G.bk D1.out)
  replace D2 := Lib.hid (G.bk D2.out)
  clear hz G q0 q1 q2 q3 q4 q5 q6 q7 q8 q9 a0 a1 a2 a3 a4 a5 a6 a7 a8 D3 HQ2
  obtain ⟨q0, q1, q2, q3, q4, q5, q6, q7, q8, q9⟩ := D1.out.c10
  obtain ⟨a0, a1, a2, a3, a4, a5, a6, a7, a8⟩ := D2.out.c9
  simp only [Sv.v]
  go_wp2_with fail
  refine (reuse0 w6 q (exQ Q.one) Q.one p HQ.out (exQ_va _ cst_one) rfl rfl cst_one (by decide) HP.out).mono ?_
  rintro e w7 ⟨y, rfl, G⟩
  obtain ⟨B5, GB⟩ := made1 w7 62 #[.int .i64 1, .slice none 0 0, .int .i64 0, .int .i64 0, .bool false, .slice none 0 0, .slice none 0 0, .slice none 0 0, .bool false, .slice y.A y.n y.c, .slice none 0 0, .int .i64 0]
  replace HG := Lib.hid ((HG.out.trans G).trans GB)
  have u0 := B5.c12.1
  clear B5 GB G q0 q1 q2 q3 q4 q5 q6 q7 q8 q9 a0 a1 a2 a3 a4 a5 a6 a7 a8 D1 D2 HQ HP
  go_wp2
  go_ret
  exact ⟨rfl, HG.out⟩
end Go.Proofs.YtcmfepaffhnemaaGreatDoor

set_option linter.unusedVariables false
namespace Go.Proofs.YtcmfepaffhnemaaGreatDoor
open Go.RowKit

attribute [local go_sem] Oper.semAt_some

theorem diffL_self (x : List Fm) : diffL x x = [] := by
  unfold diffL
  apply List.filter_eq_nil_iff.2
  intro i _
  simp
theorem diffG_self (x : Gm) : diffG x x = ([], [], 0) := by
  unfold diffG
  rw [if_pos ⟨rfl, rfl, rfl⟩, diffL_self, diffL_self]
set_option maxRecDepth 100000 in
set_option maxHeartbeats 4000000 in
theorem diffbad0 (w : World) (a : Gv) (x : Gm) (ha : a.Is w x) (hx : x.Va) :
    Calls Tryz.prog 7 #[a.v, .agg #[.int .i64 0, .slice none 0 0, .slice none 0 0]] w fun e w' => e = .returned (.tuple #[.slice none 0 0, .slice none 0 0, .int .i64 1]) ∧ Gr w w' := by
  obtain ⟨B1, B2, G⟩ := made2 w 26 26 (#[.int .i64 a.inputs, .slice a.units.A a.units.n a.units.c, .slice a.outs.A a.outs.n a.outs.c]) (#[.int .i64 0, .slice none 0 0, .slice none 0 0])
  have HG := Lib.hid G
  have D_p := Lib.hid B1
  have D_g0 := Lib.hid B2
  clear G B1 B2
  have HA := Lib.hid (ha.gr HG.out)
  have HX := Lib.hid hx
  clear ha hx
  obtain ⟨a0, a1, a2⟩ := D_p.out.c3
  go_enter Tryz.func7, Tryz.ntmps7
  go_wp2_with fail
  generalize hW : (w.alloc (.cells #[.int .i64 a.inputs, .slice a.units.A a.units.n a.units.c, .slice a.outs.A a.outs.n a.outs.c] 26)).alloc (.cells #[.int .i64 0, .slice none 0 0, .slice none 0 0] 26) = W at *
  clear hW
  have N_p : Hid (w.heap.size ≤ w.heap.size) := (by show w.heap.size ≤ w.heap.size; omega)
  have N_g0 : Hid (w.heap.size ≤ w.heap.size + 1) := (by show w.heap.size ≤ w.heap.size + 1; omega)
  generalize w.heap.size + 1 = g0 at *
  refine (gvalid_any W a x HA.out HX.out).mono ?_
  rintro e w1 ⟨rfl, G⟩
  replace HG := Lib.hid (HG.out.trans G)
  replace D_g0 := Lib.hid (G.bk D_g0.out)
  clear G a0 a1 a2
  obtain ⟨b0, b1, b2⟩ := D_g0.out.c3
  go_wp2_with fail
  refine (gvalid0 w1).mono ?_
  rintro e w2 ⟨rfl, G⟩
  replace HG := Lib.hid (HG.out.trans G)
  clear G b0 b1 b2
  go_wp2
  refine bodyPost_ret (by simp [results, Tryz.results7, go_sem]; try rfl) rfl ?_
  exact ⟨rfl, HG.out⟩

set_option maxRecDepth 100000 in
set_option maxHeartbeats 4000000 in
theorem law_diff (w : World) (a b : Sv) (L M : List Nat) (ha : a.Is w 1 (L.map bv)) (hb : b.Is w 1 (M.map bv)) (hl : ∀ y ∈ L, y < 256) (hm : ∀ y ∈ M, y < 256) :
    Calls Tryz.prog 3 #[.slice a.A a.n a.c, .slice b.A b.n b.c] w fun e w' => e = .returned (.bool true) ∧ Gr w w' := by
  have HA := Lib.hid ha
  have HB := Lib.hid hb
  have HL := Lib.hid hl
  have HM := Lib.hid hm
  clear ha hb hl hm
  go_enter Tryz.func3, Tryz.ntmps3
  go_wp2_with fail
  refine (awake0 w).mono ?_
  rintro e w1 ⟨rfl, G⟩
  have HG := Lib.hid G
  clear G
  by_cases hn : 300 < a.n
  · have hd : decide ((300 : Int) < (a.n : Int)) = true := by simp; omega
    have hd2 : decide (300 < a.n) = true := by simp; omega
    go_wp2
    go_ret
    exact ⟨rfl, HG.out⟩
  have hd : decide ((300 : Int) < (a.n : Int)) = false := by simp; omega
  have hd2 : decide (300 < a.n) = false := by simp; omega
  by_cases hn2 : 300 < b.n
  · have hd3 : decide ((300 : Int) < (b.n : Int)) = true := by simp; omega
    have hd4 : decide (300 < b.n) = true := by simp; omega
    go_wp2
    go_ret
    exact ⟨rfl, HG.out⟩
  have hd3 : decide ((300 : Int) < (b.n : Int)) = false := by simp; omega
  have hd4 : decide (300 < b.n) = false := by simp; omega
  have HN1 : Hid (a.n ≤ 1000) := Lib.hid (by omega)
  have HN2 : Hid (b.n ≤ 1000) := Lib.hid (by omega)
  clear hn hn2
  go_wp2_with fail
  refine (small_any w1 a L (HA.out.gr HG.out) HL.out HN1.out).mono ?_
  rintro e w2 ⟨g, rfl, hg, G⟩
  have HX := Lib.hid hg
  replace HG := Lib.hid (HG.out.trans G)
  clear hg G
  go_wp2_with fail
  refine (small_any w2 b M (HB.out.gr HG.out) HM.out HN2.out).mono ?_
  rintro e w3 ⟨h, rfl, hh, G⟩
  obtain ⟨B1, B2, GB⟩ := made2 w3 26 26 #[.int .i64 g.inputs, .slice g.units.A g.units.n g.units.c, .slice g.outs.A g.outs.n g.outs.c] #[.int .i64 h.inputs, .slice h.units.A h.units.n h.units.c, .slice h.outs.A h.outs.n h.outs.c]
  have HY := Lib.hid (hh.gr GB)
  replace HX := Lib.hid (HX.out.gr (G.trans GB))
  replace HG := Lib.hid ((HG.out.trans G).trans GB)
  have D1 := Lib.hid B1
  have D2 := Lib.hid B2
  clear hh G B1 B2 GB HA HB HL HM HN1 HN2
  go_upto_region 6 with fail
  generalize (w3.alloc (.cells #[.int .i64 g.inputs, .slice g.units.A g.units.n g.units.c, .slice g.outs.A g.outs.n g.outs.c] 26)).alloc (.cells #[.int .i64 h.inputs, .slice h.units.A h.units.n h.units.c, .slice h.outs.A h.outs.n h.outs.c] 26) = w4 at *
  generalize w3.heap.size + 1 = d at *
  generalize w3.heap.size = c at *
  have VX := Lib.hid (graphQ_ok L).va
  have VY := Lib.hid (graphQ_ok M).va
  generalize (graphQ L).1 = X at *
  generalize (graphQ M).1 = Y at *
  obtain ⟨x0, x1, x2⟩ := D1.out.c3
  obtain ⟨y0, y1, y2⟩ := D2.out.c3
  go_wp2_with fail
  refine (diff_any w4 g h X Y HX.out HY.out VX.out VY.out).mono ?_
  rintro e w5 ⟨u, o, rfl, hu, ho, G⟩
  replace HG := Lib.hid (HG.out.trans G)
  replace HX := Lib.hid (HX.out.gr G)
  replace HY := Lib.hid (HY.out.gr G)
  replace D1 := Lib.hid (G.bk D1.out)
  replace D2 := Lib.hid (G.bk D2.out)
  have HU := Lib.hid hu
  have HO := Lib.hid ho
  clear hu ho G x0 x1 x2 y0 y1 y2
  obtain ⟨x0, x1, x2⟩ := D1.out.c3
  obtain ⟨y0, y1, y2⟩ := D2.out.c3
  simp only [Sv.v]
  go_wp2_with fail
  refine (r50diff_any w5 g h X Y HX.out HY.out VX.out VY.out).mono ?_
  rintro e w6 ⟨v, p, rfl, hv, hp, G⟩
  replace HG := Lib.hid (HG.out.trans G)
  replace HX := Lib.hid (HX.out.gr G)
  replace HY := Lib.hid (HY.out.gr G)
  replace D1 := Lib.hid (G.bk D1.out)
  replace D2 := Lib.hid (G.bk D2.out)
  replace HU := Lib.hid (HU.out.gr G)
  replace HO := Lib.hid (HO.out.gr G)
  have HV := Lib.hid hv
  have HP := Lib.hid hp
  clear hv hp G x0 x1 x2 y0 y1 y2
  obtain ⟨x0, x1, x2⟩ := D1.out.c3
  obtain ⟨y0, y1, y2⟩ := D2.out.c3
  simp only [Sv.v]
  generalize (diffG X Y).1 = l1 at *
  generalize (diffG X Y).2.1 = l2 at *
  generalize (diffG X Y).2.2 = er at *
  go_wp2_with fail
  have H8 := diff_any w6 g g X X HX.out HX.out VX.out VX.out
  rw [diffG_self] at H8
  refine H8.mono ?_
  rintro e w7 ⟨s, t, rfl, hs, ht, G⟩
  have hsn : 0 = s.n := hs.len
  have htn : 0 = t.n := ht.len
  obtain ⟨sA, sn, sc⟩ := s
  obtain ⟨tA, tn, tc⟩ := t
  simp only at hsn htn
  subst hsn htn
  replace HG := Lib.hid (HG.out.trans G)
  replace HX := Lib.hid (HX.out.gr G)
  replace HY := Lib.hid (HY.out.gr G)
  replace D1 := Lib.hid (G.bk D1.out)
  replace D2 := Lib.hid (G.bk D2.out)
  replace HU := Lib.hid (HU.out.gr G)
  replace HO := Lib.hid (HO.out.gr G)
  replace HV := Lib.hid (HV.out.gr G)
  replace HP := Lib.hid (HP.out.gr G)
  clear hs ht H8 G x0 x1 x2 y0 y1 y2
  obtain ⟨x0, x1, x2⟩ := D1.out.c3
  obtain ⟨y0, y1, y2⟩ := D2.out.c3
  simp only [Sv.v]
  go_wp2_with fail
  refine (diffbad0 w7 g X HX.out VX.out).mono ?_
  rintro e w8 ⟨rfl, G⟩
  replace HG := Lib.hid (HG.out.trans G)
  replace HU := Lib.hid (HU.out.gr G)
  replace HO := Lib.hid (HO.out.gr G)
  replace HV := Lib.hid (HV.out.gr G)
  replace HP := Lib.hid (HP.out.gr G)
  clear G x0 x1 x2 y0 y1 y2 D1 D2 HX HY VX VY
  go_wp2_with fail
  refine (ints_any w8 u v l1 HU.out HV.out).mono ?_
  rintro e w9 ⟨rfl, G⟩
  replace HG := Lib.hid (HG.out.trans G)
  replace HO := Lib.hid (HO.out.gr G)
  replace HP := Lib.hid (HP.out.gr G)
  clear G HU HV
  go_wp2_with fail
  refine (ints_any w9 o p l2 HO.out HP.out).mono ?_
  rintro e w10 ⟨rfl, G⟩
  replace HG := Lib.hid (HG.out.trans G)
  clear G HO HP
  go_wp2
  go_ret
  exact ⟨rfl, HG.out⟩
end Go.Proofs.YtcmfepaffhnemaaGreatDoor

set_option linter.unusedVariables false
namespace Go.Proofs.YtcmfepaffhnemaaGreatDoor
open Go.RowKit

/-- A slice of integers that came in: it is nil; or it leads to a row of 'cap' cells, the numbers 'zs' (the first 'len' are its elements, the rest its spare room), each fitting its kind. -/
def IsRow (k : IntKind) (w : World) (a : Option Addr) (len cap : Nat) (zs : List Int) : Prop :=
  (a = none ∧ len = 0 ∧ cap = 0 ∧ zs = []) ∨
  ∃ x, a = some x ∧ len ≤ cap ∧ cap ≤ maxLen ∧ zs.length = cap ∧ (∀ i, i < zs.length → w.cell? (x.add i) = some (.int k (zs.getD i 0))) ∧ ∀ n ∈ zs, (Lit.int k n).wf = true

section
variable {k : IntKind} {w : World} {a : Option Addr} {len cap : Nat} {zs : List Int}
theorem IsRow.caps (h : IsRow k w a len cap zs) : len ≤ cap ∧ cap ≤ maxLen := by
  rcases h with ⟨_, rfl, rfl, _⟩ | ⟨x, _, h1, h2, _⟩
  · exact ⟨Nat.le_refl _, Nat.zero_le _⟩
  · exact ⟨h1, h2⟩
theorem IsRow.nil0 (h : IsRow k w a len cap zs) (h0 : a = none) : cap = 0 := by
  rcases h with ⟨_, rfl, rfl, _⟩ | ⟨x, e, _⟩
  · rfl
  · rw [h0] at e; cases e
theorem IsRow.lens (h : IsRow k w a len cap zs) : (zs.take len).length = len := by
  rcases h with ⟨_, rfl, rfl, rfl⟩ | ⟨x, _, h1, h2, h3, _⟩
  · rfl
  · rw [List.length_take]; omega
theorem IsRow.sees (h : IsRow k w a len cap zs) : Sees w w.heap.size a ((zs.take len).map (Value.int k)) := by
  rcases h with ⟨_, rfl, rfl, rfl⟩ | ⟨x, rfl, h1, h2, h3, h4, _⟩
  · exact Sees.nil
  · intro j u hu
    rw [List.getElem?_map] at hu
    have hj : j < (zs.take len).length := by
      rcases Nat.lt_or_ge j (zs.take len).length with h | h
      · exact h
      · rw [List.getElem?_eq_none h] at hu; cases hu
    rw [List.length_take] at hj
    rw [List.getElem?_take_of_lt (by omega), List.getElem?_eq_getElem (by omega)] at hu
    simp only [Option.map_some, Option.some.injEq] at hu
    have hc := h4 j (by omega)
    rw [List.getD_eq_getElem?_getD, List.getElem?_eq_getElem (by omega), Option.getD_some, hu] at hc
    exact ⟨x, rfl, by have := World.block_lt_of_cell? w _ hc; rwa [add_blk] at this, hc⟩
theorem IsRow.bytes (h : IsRow .u8 w a len cap zs) : ∀ x ∈ zs.take len, 0 ≤ x ∧ x ≤ 255 := by
  rcases h with ⟨_, rfl, rfl, rfl⟩ | ⟨x, rfl, h1, h2, h3, h4, h5⟩
  · intro x hx; simp at hx
  · intro x hx
    exact bounds_u8 (h5 x (List.mem_of_mem_take hx))
/-- The bytes that came in. -/
def bytesOf (zs : List Int) (len : Nat) : List Nat := (zs.take len).map Int.toNat
theorem IsRow.nats (h : IsRow .u8 w a len cap zs) : (bytesOf zs len).map bv = (zs.take len).map (Value.int .u8) := by
  unfold bytesOf
  rw [List.map_map]
  apply List.map_congr_left
  intro x hx
  have := (h.bytes x hx).1
  show Value.int .u8 ((x.toNat : Nat) : Int) = Value.int .u8 x
  rw [Int.toNat_of_nonneg this]
theorem IsRow.is (h : IsRow .u8 w a len cap zs) : Sv.Is w ⟨a, len, cap⟩ 1 ((bytesOf zs len).map bv) := by
  refine ⟨?_, h.caps.1, by have := h.caps.2; unfold maxLen at this; exact this, h.nil0, ?_⟩
  · rw [h.nats, List.length_map, h.lens, Nat.mul_one]
  · rw [h.nats]; exact h.sees
theorem IsRow.lim (h : IsRow .u8 w a len cap zs) : ∀ y ∈ bytesOf zs len, y < 256 := fun y hy => by
  unfold bytesOf at hy
  obtain ⟨x, hx, rfl⟩ := List.mem_map.1 hy
  have := h.bytes x hx
  omega
end
/-- The law on what came in. -/
theorem law_diff_in (w : World) (a0 a1 : Option Addr) (len0 cap0 len1 cap1 : Nat) (zs0 zs1 : List Int) (h0 : IsRow .u8 w a0 len0 cap0 zs0) (h1 : IsRow .u8 w a1 len1 cap1 zs1) :
    Calls Tryz.prog 3 #[.slice a0 len0 cap0, .slice a1 len1 cap1] w fun e w' => e = .returned (.bool true) ∧ Below w.heap.size w w' :=
  (law_diff w ⟨a0, len0, cap0⟩ ⟨a1, len1, cap1⟩ (bytesOf zs0 len0) (bytesOf zs1 len1) h0.is h1.is h0.lim h1.lim).mono fun e w' ⟨he, hg⟩ => ⟨he, hg.below⟩
end Go.Proofs.YtcmfepaffhnemaaGreatDoor
