/- linear.merge. -/
import Derived.Test.YtcmfepaffhnemaaGreatDoorMc
import Derived.Deep.RegionHeld3
set_option linter.unusedSimpArgs false
set_option linter.unusedVariables false
namespace Go.Proofs.YtcmfepaffhnemaaGreatDoor
open Go.RowKit

attribute [local go_sem] Oper.semAt_some

/-- What merge makes of the terms (n: at least as many steps as there are terms). -/
def mrgT (c : Q) : Nat → List Tm → List Tm → List Tm → List Tm
  | 0, _, _, acc => acc
  | _ + 1, [], [], acc => acc
  | n + 1, s :: la, [], acc => mrgT c n la [] (putT acc s.1 s.2)
  | n + 1, [], t :: lb, acc => mrgT c n [] lb (putT acc t.1 (Q.mul t.2 c))
  | n + 1, s :: la, t :: lb, acc => if s.1 < t.1 then mrgT c n la (t :: lb) (putT acc s.1 s.2) else if t.1 < s.1 then mrgT c n (s :: la) lb (putT acc t.1 (Q.mul t.2 c)) else mrgT c n la lb (putT acc s.1 (Q.add s.2 (Q.mul t.2 c)))
def mrg (f g : Fm) (c : Q) : Fm := ⟨mrgT c (f.terms.length + g.terms.length) f.terms g.terms [], Q.add f.const (Q.mul g.const c)⟩
theorem mrgT_nil (c : Q) (n : Nat) (acc : List Tm) : mrgT c n [] [] acc = acc := by cases n <;> rfl
theorem putT_len (l : List Tm) (v : Int) (q : Q) : (putT l v q).length ≤ l.length + 1 := by
  unfold putT
  split
  · omega
  · simp
/-- The first term of a slice. -/
theorem Terms.head {w : World} {x : Sv} {s : Tm} {l : List Tm} (h : Terms w x (s :: l)) : ∃ (t : Tv) (ad : Addr), t.Is w s ∧ x.A = some ad ∧ w.cell? ad = some (.int .i64 t.var) ∧ w.cell? ⟨ad.block, ad.off + 1, none⟩ = some (.bool t.coef.neg) ∧ w.cell? ⟨ad.block, ad.off + 2, none⟩ = some (.slice t.coef.num.A t.coef.num.n t.coef.num.c) ∧ w.cell? ⟨ad.block, ad.off + 3, none⟩ = some (.slice t.coef.den.A t.coef.den.n t.coef.den.c) := by
  obtain ⟨t, ad, h1, h2, h3, h4, h5, h6⟩ := h.at (i := 0) rfl
  rw [Nat.zero_mul, add_zero] at h3 h4 h5 h6
  exact ⟨t, ad, h1, h2, h3, h4, h5, h6⟩
theorem Terms.tail {w : World} {x : Sv} {s : Tm} {l : List Tm} (h : Terms w x (s :: l)) : Terms w ⟨if x.c = 1 then x.A else x.A.map (·.add 4), x.n - 1, x.c - 1⟩ l := Rows.tail Tv.len (by decide) h

set_option maxRecDepth 100000 in
set_option maxHeartbeats 4000000 in
theorem merge_any (w : World) (f g : Fv) (x y : Fm) (c : Rv) (q : Q) (hf : f.Is w x) (hg : g.Is w y) (hc : c.Is w q) (hx : ∀ t ∈ x.terms, t.2.Lo) (hy : ∀ t ∈ y.terms, t.2.Lo) (hk : x.const.Lo) (hl : y.const.Lo) (hq : q.Lo) (hn : x.terms.length + y.terms.length ≤ 1000000) :
    Calls Tryz.prog 132 #[f.v, g.v, c.v] w fun e w' => ∃ r : Fv, e = .returned r.v ∧ r.Is w' (mrg x y q) ∧ Gr w w' := by
  obtain ⟨B1, B2, B3, B4, G⟩ := made4 w 43 43 41 43 (#[.slice f.terms.A f.terms.n f.terms.c, .bool f.const.neg, .slice f.const.num.A f.const.num.n f.const.num.c, .slice f.const.den.A f.const.den.n f.const.den.c]) (#[.slice g.terms.A g.terms.n g.terms.c, .bool g.const.neg, .slice g.const.num.A g.const.num.n g.const.num.c, .slice g.const.den.A g.const.den.n g.const.den.c]) (#[.bool c.neg, .slice c.num.A c.num.n c.num.c, .slice c.den.A c.den.n c.den.c]) (#[.slice none 0 0, .bool false, .slice none 0 0, .slice none 0 0])
  have HG := Lib.hid G
  have D_p := Lib.hid B1
  have D_g0 := Lib.hid B2
  have D_c0 := Lib.hid B3
  have D_r := Lib.hid B4
  clear G B1 B2 B3 B4
  have HF := Lib.hid hf
  have HG0 := Lib.hid hg
  have HC := Lib.hid hc
  have LX := Lib.hid hx
  have LY := Lib.hid hy
  have LK := Lib.hid hk
  have LL := Lib.hid hl
  have LQ := Lib.hid hq
  have LN := Lib.hid hn
  clear hf hg hc hx hy hk hl hq hn
  simp only [Rv.v, Fv.v] at *
  go_enter Tryz.func132, Tryz.ntmps132
  go_upto_region 1 with fail
  generalize hW : (((w.alloc (.cells #[.slice f.terms.A f.terms.n f.terms.c, .bool f.const.neg, .slice f.const.num.A f.const.num.n f.const.num.c, .slice f.const.den.A f.const.den.n f.const.den.c] 43)).alloc (.cells #[.slice g.terms.A g.terms.n g.terms.c, .bool g.const.neg, .slice g.const.num.A g.const.num.n g.const.num.c, .slice g.const.den.A g.const.den.n g.const.den.c] 43)).alloc (.cells #[.bool c.neg, .slice c.num.A c.num.n c.num.c, .slice c.den.A c.den.n c.den.c] 41)).alloc (.cells #[.slice none 0 0, .bool false, .slice none 0 0, .slice none 0 0] 43) = W at *
  clear hW
  have N_p : Hid (w.heap.size ≤ w.heap.size) := (by show w.heap.size ≤ w.heap.size; omega)
  have N_g0 : Hid (w.heap.size ≤ w.heap.size + 1) := (by show w.heap.size ≤ w.heap.size + 1; omega)
  have N_c0 : Hid (w.heap.size ≤ w.heap.size + 1 + 1) := (by show w.heap.size ≤ w.heap.size + 1 + 1; omega)
  have N_r : Hid (w.heap.size ≤ w.heap.size + 1 + 1 + 1) := (by show w.heap.size ≤ w.heap.size + 1 + 1 + 1; omega)
  generalize w.heap.size + 1 + 1 + 1 = r at *
  generalize w.heap.size + 1 + 1 = c0 at *
  generalize w.heap.size + 1 = g0 at *
  have HG9 := Lib.hid HG.out.size
  have HRL := Lib.hid D_r.out.lt
  obtain ⟨a0, a1, a2, a3⟩ := D_p.out.c4
  obtain ⟨b0, b1, b2, b3⟩ := D_g0.out.c4
  obtain ⟨e0, e1, e2⟩ := D_c0.out.c3
  refine wp_region_any (by kernel_rfl) ?_
  have kc := Lib.hid (fun (W' : World) (G : Gr W.drew W') => And.intro (G.keep a0) (And.intro (G.keep a1) (And.intro (G.keep a2) (And.intro (G.keep a3) (And.intro (G.keep b0) (And.intro (G.keep b1) (And.intro (G.keep b2) (And.intro (G.keep b3) (And.intro (G.keep e0) (And.intro (G.keep e1) (G.keep e2)))))))))))
  have hst : ∀ p ∈ ([(5, Rv.At (Q.mul y.const q)), (6, Rv.At (Q.add x.const (Q.mul y.const q))), (8, NewAt 43 #[.slice none 0 0, .bool false, .slice none 0 0, .slice none 0 0] W.heap.size)] : List (Nat × (Value → World → Prop))), ∀ (u : Value) (wA0 wB0 : World), Gr W.drew wA0 → Gr wA0 wB0 → p.2 u wA0 → p.2 u wB0 := by
    intro p hp u wA0 wB0 h0 G h
    simp only [List.mem_cons, List.not_mem_nil, or_false] at hp
    rcases hp with rfl | rfl | rfl
    · exact Rv.At.gr h G
    · exact Rv.At.gr h G
    · exact NewAt.gr h G
  refine wpAny_walk (m := 1) (last := #[true, true, true, true, true, true, true, true, true, false]) [0, 1, 2, 3, 4, 5, 6, 7, 8] [(5, Rv.At (Q.mul y.const q)), (6, Rv.At (Q.add x.const (Q.mul y.const q))), (8, NewAt 43 #[.slice none 0 0, .bool false, .slice none 0 0, .slice none 0 0] W.heap.size)] (by kernel_rfl) (by decide) (by kernel_rfl) hst ?_
  clear hst
  refine Walk.take (v := ?wv1) rfl rfl (Or.inl ⟨by rfl, ?wy1⟩) ?wr1
  case wy1 => (intro w' hw'; obtain ⟨a0, a1, a2, a3, b0, b1, b2, b3, e0, e1, e2⟩ := kc.out w' hw'; go_simp; try with_reducible rfl)
  try simp only [Act.put, List.setIfInBounds_toArray, List.set_cons_zero, List.set_cons_succ]
  refine Walk.take (v := ?wv2) rfl rfl (Or.inl ⟨by rfl, ?wy2⟩) ?wr2
  case wy2 => (intro w' hw'; obtain ⟨a0, a1, a2, a3, b0, b1, b2, b3, e0, e1, e2⟩ := kc.out w' hw'; go_simp; try with_reducible rfl)
  try simp only [Act.put, List.setIfInBounds_toArray, List.set_cons_zero, List.set_cons_succ]
  refine Walk.take (v := ?wv3) rfl rfl (Or.inl ⟨by rfl, ?wy3⟩) ?wr3
  case wy3 => (intro w' hw'; obtain ⟨a0, a1, a2, a3, b0, b1, b2, b3, e0, e1, e2⟩ := kc.out w' hw'; go_simp; try with_reducible rfl)
  try simp only [Act.put, List.setIfInBounds_toArray, List.set_cons_zero, List.set_cons_succ]
  refine Walk.take (v := ?wv4) rfl rfl (Or.inl ⟨by rfl, ?wy4⟩) ?wr4
  case wy4 => (intro w' hw'; obtain ⟨a0, a1, a2, a3, b0, b1, b2, b3, e0, e1, e2⟩ := kc.out w' hw'; go_simp; try with_reducible rfl)
  try simp only [Act.put, List.setIfInBounds_toArray, List.set_cons_zero, List.set_cons_succ]
  refine Walk.take (v := ?wv5) rfl rfl (Or.inl ⟨by rfl, ?wy5⟩) ?wr5
  case wy5 => (intro w' hw'; obtain ⟨a0, a1, a2, a3, b0, b1, b2, b3, e0, e1, e2⟩ := kc.out w' hw'; go_simp; try with_reducible rfl)
  try simp only [Act.put, List.setIfInBounds_toArray, List.set_cons_zero, List.set_cons_succ]
  refine Walk.do rfl rfl (by rfl) (fun W1 G1 F1 => ?ws6) (fun v hv => ?wr6)
  case ws6 =>
    obtain ⟨a0, a1, a2, a3, b0, b1, b2, b3, e0, e1, e2⟩ := kc.out W1 G1
    refine doesAt_enter (f := 167) (args := #[.agg #[.bool g.const.neg, .slice g.const.num.A g.const.num.n g.const.num.c, .slice g.const.den.A g.const.den.n g.const.den.c], .agg #[.bool c.neg, .slice c.num.A c.num.n c.num.c, .slice c.den.A c.den.n c.den.c]]) (by go_simp; try (first | with_reducible rfl | rfl)) ?_
    refine (rmul_any W1 g.const c y.const q (HG0.out.const.gr (HG.out.trans G1.of_drew)) (HC.out.gr (HG.out.trans G1.of_drew)) (Nat.le_trans LL.out.num (by decide)) (Nat.le_trans LQ.out.num (by decide)) (Nat.lt_of_le_of_lt (Nat.mul_le_mul LL.out.den LQ.out.den) (by decide))).mono ?_
    rintro e w' ⟨m, rfl, hi, G⟩
    exact ⟨_, rfl, G, m, rfl, hi⟩
  obtain ⟨_, -, -, ⟨m, rfl, -⟩⟩ := hv
  try simp only [Act.put, List.setIfInBounds_toArray, List.set_cons_zero, List.set_cons_succ]
  refine Walk.do rfl rfl (by rfl) (fun W1 G1 F1 => ?ws7) (fun v hv => ?wr7)
  case ws7 =>
    obtain ⟨a0, a1, a2, a3, b0, b1, b2, b3, e0, e1, e2⟩ := kc.out W1 G1
    have hm := F1 _ (List.mem_of_getElem? (i := 0) rfl) (List.contains_iff_mem.1 (by kernel_rfl))
    have hm := Rv.At.is hm
    refine doesAt_enter (f := 166) (args := #[.agg #[.bool f.const.neg, .slice f.const.num.A f.const.num.n f.const.num.c, .slice f.const.den.A f.const.den.n f.const.den.c], .agg #[.bool m.neg, .slice m.num.A m.num.n m.num.c, .slice m.den.A m.den.n m.den.c]]) (by go_simp; try (first | with_reducible rfl | rfl)) ?_
    refine (radd_any W1 f.const m x.const (Q.mul y.const q) (HF.out.const.gr (HG.out.trans G1.of_drew)) hm (Nat.le_trans LK.out.num (by decide)) (Nat.le_trans (LL.out.bd.mul LQ.out.bd).num (by decide)) (Nat.lt_of_le_of_lt (Nat.mul_le_mul LK.out.den (LL.out.bd.mul LQ.out.bd).den) (by decide))).mono ?_
    rintro e w' ⟨k, rfl, hi, G⟩
    exact ⟨_, rfl, G, k, rfl, hi⟩
  obtain ⟨_, -, -, ⟨k, rfl, -⟩⟩ := hv
  try simp only [Act.put, List.setIfInBounds_toArray, List.set_cons_zero, List.set_cons_succ]
  refine Walk.take (v := ?wv8) rfl rfl (Or.inl ⟨by rfl, ?wy8⟩) ?wr8
  case wy8 => (intro w' hw'; obtain ⟨a0, a1, a2, a3, b0, b1, b2, b3, e0, e1, e2⟩ := kc.out w' hw'; go_simp; try with_reducible rfl)
  try simp only [Act.put, List.setIfInBounds_toArray, List.set_cons_zero, List.set_cons_succ]
  refine Walk.do rfl rfl (by rfl) (fun W1 G1 F1 => ?ws9) (fun v hv => ?wr9)
  case ws9 =>
    obtain ⟨a0, a1, a2, a3, b0, b1, b2, b3, e0, e1, e2⟩ := kc.out W1 G1
    refine doesAt_value (v := .pointer (some ⟨W1.heap.size, 0, none⟩)) (W' := W1.alloc (.cells #[.slice none 0 0, .bool false, .slice none 0 0, .slice none 0 0] 43)) (by go_simp; try (first | with_reducible rfl | rfl)) ?_
    exact ⟨(Gr.refl W1).alloc _, NewAt.made W1 _ _ _ (Nat.le_trans (Nat.le_refl _) G1.of_drew.size)⟩
  obtain ⟨_, -, -, ⟨o, rfl, -, -⟩⟩ := hv
  try simp only [Act.put, List.setIfInBounds_toArray, List.set_cons_zero, List.set_cons_succ]
  refine Walk.done (fun W1 G1 F1 => ?_)
  have hm := F1 _ (List.mem_of_getElem? (i := 0) rfl)
  have hk := F1 _ (List.mem_of_getElem? (i := 1) rfl)
  have ho := F1 _ (List.mem_of_getElem? (i := 2) rfl)
  clear F1
  have kc1 := kc.out W1 G1
  clear kc a0 a1 a2 a3 b0 b1 b2 b3 e0 e1 e2
  obtain ⟨a0, a1, a2, a3, b0, b1, b2, b3, e0, e1, e2⟩ := kc1
  refine wpAny_one 9 rfl (by kernel_rfl) (by rfl) (fun K hK => ?_)
  have hN := ho.is
  have fz := hN.1.frozen
  obtain ⟨o0, o1, o2, o3⟩ := hN.1.c4
  go_simp
  refine hK.out _ _ ?_
  clear hK K
  try simp only [Act.put, List.setIfInBounds_toArray, List.set_cons_zero, List.set_cons_succ]
  refine wpAny_end (by kernel_rfl) ?_
  obtain ⟨ho, hoN⟩ := ho.is
  obtain ⟨B5, F5⟩ := ho.put4 (.slice none 0 0) (.bool k.neg) (.slice k.num.A k.num.n k.num.c) (.slice k.den.A k.den.n k.den.c)
  have HK := Lib.hid (hk.is.tf F5 (fun b cs fr e hh => Bk.not_ty ho (by decide) cs fr (e ▸ hh)))
  have DO := Lib.hid B5
  replace HG := Lib.hid ((HG.out.trans G1.of_drew).fr_at F5 (Nat.le_trans HG.out.size hoN))
  replace D_p := Lib.hid (F5.bk (G1.of_drew.bk D_p.out) (Nat.ne_of_lt (Nat.lt_of_lt_of_le D_p.out.lt hoN)))
  replace D_g0 := Lib.hid (F5.bk (G1.of_drew.bk D_g0.out) (Nat.ne_of_lt (Nat.lt_of_lt_of_le D_g0.out.lt hoN)))
  replace D_c0 := Lib.hid (F5.bk (G1.of_drew.bk D_c0.out) (Nat.ne_of_lt (Nat.lt_of_lt_of_le D_c0.out.lt hoN)))
  replace D_r := Lib.hid (F5.bk (G1.of_drew.bk D_r.out) (Nat.ne_of_lt (Nat.lt_of_lt_of_le D_r.out.lt hoN)))
  have HNO := Lib.hid (Nat.le_trans HG9.out hoN)
  have hro := Lib.hid (show ¬ o = r from fun e => Nat.lt_irrefl _ (Nat.lt_of_lt_of_le (e ▸ HRL.out) hoN))
  clear hm hk ho hoN G1 B5 F5 a0 a1 a2 a3 b0 b1 b2 b3 e0 e1 e2
  generalize (((W1.setCell ⟨o, 0, none⟩ (.slice none 0 0)).setCell ⟨o, 1, none⟩ (.bool k.neg)).setCell ⟨o, 2, none⟩ (.slice k.num.A k.num.n k.num.c)).setCell ⟨o, 3, none⟩ (.slice k.den.A k.den.n k.den.c) = W2 at *
  have kn : Hid (k.Is W2 (Q.add x.const (Q.mul y.const q))) := HK
  obtain ⟨a0, a1, a2, a3⟩ := D_p.out.c4
  obtain ⟨b0, b1, b2, b3⟩ := D_g0.out.c4
  go_upto_region 2 with fail
  refine wp_region_any (by kernel_rfl) ?_
  have kc := Lib.hid (fun (W' : World) (G : Gr W2.drew W') => And.intro (G.keep a0) (And.intro (G.keep a1) (And.intro (G.keep a2) (And.intro (G.keep a3) (And.intro (G.keep b0) (And.intro (G.keep b1) (And.intro (G.keep b2) (G.keep b3))))))))
  have hst : ∀ p ∈ ([] : List (Nat × (Value → World → Prop))), ∀ (u : Value) (wA0 wB0 : World), Gr W2.drew wA0 → Gr wA0 wB0 → p.2 u wA0 → p.2 u wB0 := by
    intro p hp; cases hp
  refine wpAny_walk (m := 0) (last := #[true, true, true, true, true, true]) [0, 1, 2, 3, 4, 5] [] (by kernel_rfl) (by decide) (by kernel_rfl) hst ?_
  clear hst
  refine Walk.take (v := ?wv10) rfl rfl (Or.inl ⟨by rfl, ?wy10⟩) ?wr10
  case wy10 => (intro w' hw'; obtain ⟨a0, a1, a2, a3, b0, b1, b2, b3⟩ := kc.out w' hw'; go_simp; try with_reducible rfl)
  try simp only [Act.put, List.setIfInBounds_toArray, List.set_cons_zero, List.set_cons_succ]
  refine Walk.take (v := ?wv11) rfl rfl (Or.inl ⟨by rfl, ?wy11⟩) ?wr11
  case wy11 => (intro w' hw'; obtain ⟨a0, a1, a2, a3, b0, b1, b2, b3⟩ := kc.out w' hw'; go_simp; try with_reducible rfl)
  try simp only [Act.put, List.setIfInBounds_toArray, List.set_cons_zero, List.set_cons_succ]
  refine Walk.take (v := ?wv12) rfl rfl (Or.inl ⟨by rfl, ?wy12⟩) ?wr12
  case wy12 => (intro w' hw'; obtain ⟨a0, a1, a2, a3, b0, b1, b2, b3⟩ := kc.out w' hw'; go_simp; try with_reducible rfl)
  try simp only [Act.put, List.setIfInBounds_toArray, List.set_cons_zero, List.set_cons_succ]
  refine Walk.take (v := ?wv13) rfl rfl (Or.inl ⟨by rfl, ?wy13⟩) ?wr13
  case wy13 => (intro w' hw'; obtain ⟨a0, a1, a2, a3, b0, b1, b2, b3⟩ := kc.out w' hw'; go_simp; try with_reducible rfl)
  try simp only [Act.put, List.setIfInBounds_toArray, List.set_cons_zero, List.set_cons_succ]
  refine Walk.take (v := ?wv14) rfl rfl (Or.inl ⟨by rfl, ?wy14⟩) ?wr14
  case wy14 => (intro w' hw'; obtain ⟨a0, a1, a2, a3, b0, b1, b2, b3⟩ := kc.out w' hw'; go_simp; try with_reducible rfl)
  try simp only [Act.put, List.setIfInBounds_toArray, List.set_cons_zero, List.set_cons_succ]
  refine Walk.take (v := ?wv15) rfl rfl (Or.inl ⟨by rfl, ?wy15⟩) ?wr15
  case wy15 => (intro w' hw'; obtain ⟨a0, a1, a2, a3, b0, b1, b2, b3⟩ := kc.out w' hw'; go_simp; try with_reducible rfl)
  try simp only [Act.put, List.setIfInBounds_toArray, List.set_cons_zero, List.set_cons_succ]
  refine Walk.done (fun W1 G1 F1 => ?_)
  clear F1
  have kc1 := kc.out W1 G1
  clear kc a0 a1 a2 a3 b0 b1 b2 b3
  obtain ⟨a0, a1, a2, a3, b0, b1, b2, b3⟩ := kc1
  refine wpAny_end (by kernel_rfl) ?_
  replace HG := Lib.hid (HG.out.trans G1.of_drew)
  replace HK := Lib.hid (HK.out.gr G1.of_drew)
  replace D_c0 := Lib.hid (G1.of_drew.bk D_c0.out)
  replace D_r := Lib.hid (G1.of_drew.bk D_r.out)
  replace DO := Lib.hid (G1.of_drew.bk DO.out)
  clear D_p D_g0 a0 a1 a2 a3 b0 b1 b2 b3 G1 kn
  go_wp2_with fail
  go_loopw [8, 9] (fun s8 s9 wr => ∃ (xa xb z : Sv) (la lb acc : List Tm) (n : Nat), s8 = .slice xa.A xa.n xa.c ∧ s9 = .slice xb.A xb.n xb.c ∧ Hid (Terms w xa la) ∧ Hid (Terms w xb lb) ∧ Hid (OwnT wr w.heap.size z acc) ∧ Hid (mrgT q n la lb acc = mrgT q (x.terms.length + y.terms.length) x.terms y.terms []) ∧ Hid (la.length + lb.length ≤ n) ∧ Hid (la.length + lb.length + acc.length ≤ 1000000) ∧ Hid (∀ t ∈ la, t.2.Lo) ∧ Hid (∀ t ∈ lb, t.2.Lo) ∧ Hid (k.Is wr (Q.add x.const (Q.mul y.const q))) ∧ Hid (Gr w wr) ∧ Hid (Bk wr c0 41 #[.bool c.neg, .slice c.num.A c.num.n c.num.c, .slice c.den.A c.den.n c.den.c]) ∧ Hid (Bk wr r 43 #[.slice none 0 0, .bool false, .slice none 0 0, .slice none 0 0]) ∧ Hid (Bk wr o 43 #[.slice z.A z.n z.c, .bool k.neg, .slice k.num.A k.num.n k.num.c, .slice k.den.A k.den.n k.den.c])) (fun s8 s9 _ => lenOf s8 + lenOf s9)
  case atStart => exact ⟨f.terms, g.terms, Sv.none, _, _, [], _, rfl, rfl, HF.out.terms, HG0.out.terms, Own.nil _ _, rfl, Nat.le_refl _, LN.out, LX, LY, HK, HG, D_c0, D_r, DO⟩
  case round =>
    obtain ⟨xa, xb, z, la, lb, acc, n, rfl, rfl, TA, TB, HZ, HM, Hn, HL, LA, LB, HK2, HG2, DC, DR, DO2⟩ := hrel
    have HX1 := Lib.hid TA.out.len
    have HX2 := Lib.hid TB.out.len
    obtain ⟨XA, xn, xc⟩ := xa
    obtain ⟨YA, yn, yc⟩ := xb
    clear HK HG D_c0 D_r DO
    rcases la with _ | ⟨s, la⟩
    · obtain rfl : xn = 0 := HX1.out.symm
      rcases lb with _ | ⟨t, lb⟩
      · obtain rfl : yn = 0 := HX2.out.symm
        obtain ⟨o0, o1, o2, o3⟩ := DO2.out.c4
        obtain ⟨B5, F5⟩ := DR.out.put4 (.slice z.A z.n z.c) (.bool k.neg) (.slice k.num.A k.num.n k.num.c) (.slice k.den.A k.den.n k.den.c)
        have H5 := Lib.hid F5
        obtain ⟨d0, d1, d2, d3⟩ := B5.c4
        clear F5 B5
        obtain ⟨q0, q1, q2, q3⟩ := DR.out.c4
        have qz := DR.out.frozen
        go_wp2
        generalize (((wr.setCell ⟨r, 0, none⟩ (.slice z.A z.n z.c)).setCell ⟨r, 1, none⟩ (.bool k.neg)).setCell ⟨r, 2, none⟩ (.slice k.num.A k.num.n k.num.c)).setCell ⟨r, 3, none⟩ (.slice k.den.A k.den.n k.den.c) = W5 at *
        (try simp only [Exit.inBlock, Exit.then])
        refine bodyPost_ret (by simp [results, Tryz.results132, go_sem, d0, d1, d2, d3]; try rfl) rfl ?_
        refine ⟨⟨z, k⟩, rfl, ⟨?_, HK2.out.tf H5.out (fun b cs fr e hh => Bk.not_ty DR.out (by decide) cs fr (e ▸ hh))⟩, HG2.out.fr_at H5.out N_r.out⟩
        show Terms _ z (mrg x y q).terms
        rw [show (mrg x y q).terms = acc from by have := HM.out; rw [mrgT_nil] at this; exact this.symm]
        exact (HZ.out.fr H5.out (fun b cs fr e hh => Bk.not_ty DR.out (by decide) cs fr (e ▸ hh)) fun b hb e => HZ.out.ne DR.out (by decide) (e ▸ hb)).terms
      · -- only b
        obtain ⟨ym, rfl⟩ : ∃ m, yn = m + 1 := ⟨_, HX2.out.symm⟩
        obtain ⟨uv, bd, hu, hB, u0, u1, u2, u3⟩ := (TB.out.gr HG2.out).head
        simp only at hB
        subst hB
        have HU := Lib.hid hu
        clear hu
        have hM := Lib.hid (show mrgT q n [] (t :: lb) acc = mrgT q (n - 1) [] lb (putT acc t.1 (Q.mul t.2 q)) from by obtain ⟨n, rfl⟩ : ∃ m, n = m + 1 := ⟨n - 1, by have := Hn.out; rw [List.length_cons] at this; omega⟩; rfl)
        go_wp2_with fail
        go_upto_region 6 with fail
        refine wp_region_any (by kernel_rfl) ?_
        have kc := Lib.hid (fun (W' : World) (G : Gr wr.drew W') => And.intro (G.keep u0) (And.intro (G.keep u1) (And.intro (G.keep u2) (G.keep u3))))
        have hst : ∀ p ∈ ([] : List (Nat × (Value → World → Prop))), ∀ (u : Value) (wA0 wB0 : World), Gr wr.drew wA0 → Gr wA0 wB0 → p.2 u wA0 → p.2 u wB0 := by
          intro p hp; cases hp
        refine wpAny_walk (m := 0) (last := #[true, true, true, true, true, true, true, true, true, true, true, true, true, true, true, true, true, true, true, true]) [0, 1, 2, 3, 4, 5, 6, 7, 8, 9, 10, 11, 12, 13, 14, 15, 16, 17, 18, 19] [] (by kernel_rfl) (by decide) (by kernel_rfl) hst ?_
        clear hst
        refine Walk.take (v := ?wv60) rfl rfl (Or.inl ⟨by rfl, ?wy60⟩) ?wr60
        case wy60 => (intro w' hw'; obtain ⟨u0, u1, u2, u3⟩ := kc.out w' hw'; go_simp; try with_reducible rfl)
        try simp only [Act.put, List.setIfInBounds_toArray, List.set_cons_zero, List.set_cons_succ]
        refine Walk.take (v := ?wv61) rfl rfl (Or.inl ⟨by rfl, ?wy61⟩) ?wr61
        case wy61 => (intro w' hw'; obtain ⟨u0, u1, u2, u3⟩ := kc.out w' hw'; go_simp; try with_reducible rfl)
        try simp only [Act.put, List.setIfInBounds_toArray, List.set_cons_zero, List.set_cons_succ]
        refine Walk.take (v := ?wv62) rfl rfl (Or.inl ⟨by rfl, ?wy62⟩) ?wr62
        case wy62 => (intro w' hw'; obtain ⟨u0, u1, u2, u3⟩ := kc.out w' hw'; go_simp; try with_reducible rfl)
        try simp only [Act.put, List.setIfInBounds_toArray, List.set_cons_zero, List.set_cons_succ]
        refine Walk.take (v := ?wv63) rfl rfl (Or.inl ⟨by rfl, ?wy63⟩) ?wr63
        case wy63 => (intro w' hw'; obtain ⟨u0, u1, u2, u3⟩ := kc.out w' hw'; go_simp; try with_reducible rfl)
        try simp only [Act.put, List.setIfInBounds_toArray, List.set_cons_zero, List.set_cons_succ]
        refine Walk.take (v := ?wv64) rfl rfl (Or.inl ⟨by rfl, ?wy64⟩) ?wr64
        case wy64 => (intro w' hw'; obtain ⟨u0, u1, u2, u3⟩ := kc.out w' hw'; go_simp; try with_reducible rfl)
        try simp only [Act.put, List.setIfInBounds_toArray, List.set_cons_zero, List.set_cons_succ]
        refine Walk.take (v := ?wv65) rfl rfl (Or.inl ⟨by rfl, ?wy65⟩) ?wr65
        case wy65 => (intro w' hw'; obtain ⟨u0, u1, u2, u3⟩ := kc.out w' hw'; go_simp; try with_reducible rfl)
        try simp only [Act.put, List.setIfInBounds_toArray, List.set_cons_zero, List.set_cons_succ]
        refine Walk.take (v := ?wv66) rfl rfl (Or.inl ⟨by rfl, ?wy66⟩) ?wr66
        case wy66 => (intro w' hw'; obtain ⟨u0, u1, u2, u3⟩ := kc.out w' hw'; go_simp; try with_reducible rfl)
        try simp only [Act.put, List.setIfInBounds_toArray, List.set_cons_zero, List.set_cons_succ]
        refine Walk.take (v := ?wv67) rfl rfl (Or.inl ⟨by rfl, ?wy67⟩) ?wr67
        case wy67 => (intro w' hw'; obtain ⟨u0, u1, u2, u3⟩ := kc.out w' hw'; go_simp; try with_reducible rfl)
        try simp only [Act.put, List.setIfInBounds_toArray, List.set_cons_zero, List.set_cons_succ]
        refine Walk.take (v := undef) rfl rfl (Or.inr ⟨by rfl, rfl⟩) ?_
        try simp only [Act.put, List.setIfInBounds_toArray, List.set_cons_zero, List.set_cons_succ]
        refine Walk.take (v := undef) rfl rfl (Or.inr ⟨by rfl, rfl⟩) ?_
        try simp only [Act.put, List.setIfInBounds_toArray, List.set_cons_zero, List.set_cons_succ]
        refine Walk.take (v := undef) rfl rfl (Or.inr ⟨by rfl, rfl⟩) ?_
        try simp only [Act.put, List.setIfInBounds_toArray, List.set_cons_zero, List.set_cons_succ]
        refine Walk.take (v := undef) rfl rfl (Or.inr ⟨by rfl, rfl⟩) ?_
        try simp only [Act.put, List.setIfInBounds_toArray, List.set_cons_zero, List.set_cons_succ]
        refine Walk.take (v := undef) rfl rfl (Or.inr ⟨by rfl, rfl⟩) ?_
        try simp only [Act.put, List.setIfInBounds_toArray, List.set_cons_zero, List.set_cons_succ]
        refine Walk.take (v := undef) rfl rfl (Or.inr ⟨by rfl, rfl⟩) ?_
        try simp only [Act.put, List.setIfInBounds_toArray, List.set_cons_zero, List.set_cons_succ]
        refine Walk.take (v := undef) rfl rfl (Or.inr ⟨by rfl, rfl⟩) ?_
        try simp only [Act.put, List.setIfInBounds_toArray, List.set_cons_zero, List.set_cons_succ]
        refine Walk.take (v := undef) rfl rfl (Or.inr ⟨by rfl, rfl⟩) ?_
        try simp only [Act.put, List.setIfInBounds_toArray, List.set_cons_zero, List.set_cons_succ]
        refine Walk.take (v := undef) rfl rfl (Or.inr ⟨by rfl, rfl⟩) ?_
        try simp only [Act.put, List.setIfInBounds_toArray, List.set_cons_zero, List.set_cons_succ]
        refine Walk.take (v := ?wv68) rfl rfl (Or.inl ⟨by rfl, ?wy68⟩) ?wr68
        case wy68 => (intro w' hw'; obtain ⟨u0, u1, u2, u3⟩ := kc.out w' hw'; go_simp; try with_reducible rfl)
        try simp only [Act.put, List.setIfInBounds_toArray, List.set_cons_zero, List.set_cons_succ]
        refine Walk.take (v := ?wv69) rfl rfl (Or.inl ⟨by rfl, ?wy69⟩) ?wr69
        case wy69 => (intro w' hw'; obtain ⟨u0, u1, u2, u3⟩ := kc.out w' hw'; go_simp; try with_reducible rfl)
        try simp only [Act.put, List.setIfInBounds_toArray, List.set_cons_zero, List.set_cons_succ]
        refine Walk.take (v := ?wv70) rfl rfl (Or.inl ⟨by rfl, ?wy70⟩) ?wr70
        case wy70 => (intro w' hw'; obtain ⟨u0, u1, u2, u3⟩ := kc.out w' hw'; go_simp; try with_reducible rfl)
        try simp only [Act.put, List.setIfInBounds_toArray, List.set_cons_zero, List.set_cons_succ]
        refine Walk.done (fun W1 G1 F1 => ?_)
        clear F1
        have kc1 := kc.out W1 G1
        clear kc u0 u1 u2 u3
        obtain ⟨u0, u1, u2, u3⟩ := kc1
        refine wpAny_end (by kernel_rfl) ?_
        have GA := Lib.hid G1.of_drew
        clear G1
        generalize hWa : W1 = Wa at *
        clear hWa
        go_wp2_with fail
        go_upto_region 9 with fail
        refine wp_region_any (by kernel_rfl) ?_
        have kc := Lib.hid (fun (W' : World) (G : Gr Wa.drew W') => And.intro (G.keep u0) (And.intro (G.keep u1) (And.intro (G.keep u2) (G.keep u3))))
        have hst : ∀ p ∈ ([] : List (Nat × (Value → World → Prop))), ∀ (u : Value) (wA0 wB0 : World), Gr Wa.drew wA0 → Gr wA0 wB0 → p.2 u wA0 → p.2 u wB0 := by
          intro p hp; cases hp
        refine wpAny_walk (m := 0) (last := #[true, true, true, true, true, true, true, true, true, true, true, true, true, true, true]) [0, 1, 2, 3, 4, 5, 6, 7, 8, 9, 10, 11, 12, 13, 14] [] (by kernel_rfl) (by decide) (by kernel_rfl) hst ?_
        clear hst
        refine Walk.take (v := ?wv71) rfl rfl (Or.inl ⟨by rfl, ?wy71⟩) ?wr71
        case wy71 => (intro w' hw'; obtain ⟨u0, u1, u2, u3⟩ := kc.out w' hw'; go_simp; try with_reducible rfl)
        try simp only [Act.put, List.setIfInBounds_toArray, List.set_cons_zero, List.set_cons_succ]
        refine Walk.take (v := ?wv72) rfl rfl (Or.inl ⟨by rfl, ?wy72⟩) ?wr72
        case wy72 => (intro w' hw'; obtain ⟨u0, u1, u2, u3⟩ := kc.out w' hw'; go_simp; try with_reducible rfl)
        try simp only [Act.put, List.setIfInBounds_toArray, List.set_cons_zero, List.set_cons_succ]
        refine Walk.take (v := ?wv73) rfl rfl (Or.inl ⟨by rfl, ?wy73⟩) ?wr73
        case wy73 => (intro w' hw'; obtain ⟨u0, u1, u2, u3⟩ := kc.out w' hw'; go_simp; try with_reducible rfl)
        try simp only [Act.put, List.setIfInBounds_toArray, List.set_cons_zero, List.set_cons_succ]
        refine Walk.take (v := ?wv74) rfl rfl (Or.inl ⟨by rfl, ?wy74⟩) ?wr74
        case wy74 => (intro w' hw'; obtain ⟨u0, u1, u2, u3⟩ := kc.out w' hw'; go_simp; try with_reducible rfl)
        try simp only [Act.put, List.setIfInBounds_toArray, List.set_cons_zero, List.set_cons_succ]
        refine Walk.take (v := undef) rfl rfl (Or.inr ⟨by rfl, rfl⟩) ?_
        try simp only [Act.put, List.setIfInBounds_toArray, List.set_cons_zero, List.set_cons_succ]
        refine Walk.take (v := undef) rfl rfl (Or.inr ⟨by rfl, rfl⟩) ?_
        try simp only [Act.put, List.setIfInBounds_toArray, List.set_cons_zero, List.set_cons_succ]
        refine Walk.take (v := undef) rfl rfl (Or.inr ⟨by rfl, rfl⟩) ?_
        try simp only [Act.put, List.setIfInBounds_toArray, List.set_cons_zero, List.set_cons_succ]
        refine Walk.take (v := undef) rfl rfl (Or.inr ⟨by rfl, rfl⟩) ?_
        try simp only [Act.put, List.setIfInBounds_toArray, List.set_cons_zero, List.set_cons_succ]
        refine Walk.take (v := undef) rfl rfl (Or.inr ⟨by rfl, rfl⟩) ?_
        try simp only [Act.put, List.setIfInBounds_toArray, List.set_cons_zero, List.set_cons_succ]
        refine Walk.take (v := undef) rfl rfl (Or.inr ⟨by rfl, rfl⟩) ?_
        try simp only [Act.put, List.setIfInBounds_toArray, List.set_cons_zero, List.set_cons_succ]
        refine Walk.take (v := undef) rfl rfl (Or.inr ⟨by rfl, rfl⟩) ?_
        try simp only [Act.put, List.setIfInBounds_toArray, List.set_cons_zero, List.set_cons_succ]
        refine Walk.take (v := undef) rfl rfl (Or.inr ⟨by rfl, rfl⟩) ?_
        try simp only [Act.put, List.setIfInBounds_toArray, List.set_cons_zero, List.set_cons_succ]
        refine Walk.take (v := undef) rfl rfl (Or.inr ⟨by rfl, rfl⟩) ?_
        try simp only [Act.put, List.setIfInBounds_toArray, List.set_cons_zero, List.set_cons_succ]
        refine Walk.take (v := ?wv75) rfl rfl (Or.inl ⟨by rfl, ?wy75⟩) ?wr75
        case wy75 => (intro w' hw'; obtain ⟨u0, u1, u2, u3⟩ := kc.out w' hw'; go_simp; try with_reducible rfl)
        try simp only [Act.put, List.setIfInBounds_toArray, List.set_cons_zero, List.set_cons_succ]
        refine Walk.take (v := ?wv76) rfl rfl (Or.inl ⟨by rfl, ?wy76⟩) ?wr76
        case wy76 => (intro w' hw'; obtain ⟨u0, u1, u2, u3⟩ := kc.out w' hw'; go_simp; try with_reducible rfl)
        try simp only [Act.put, List.setIfInBounds_toArray, List.set_cons_zero, List.set_cons_succ]
        refine Walk.done (fun W1 G1 F1 => ?_)
        clear F1
        have kc1 := kc.out W1 G1
        clear kc u0 u1 u2 u3
        obtain ⟨u0, u1, u2, u3⟩ := kc1
        refine wpAny_end (by kernel_rfl) ?_
        replace GA := Lib.hid (GA.out.trans G1.of_drew)
        clear G1
        generalize hWb : W1 = Wb at *
        clear hWb
        go_wp2_with fail
        obtain ⟨o0, o1, o2, o3⟩ := (GA.out.bk DO2.out).c4
        obtain ⟨c1, c2, c3⟩ := (GA.out.bk DC.out).c3
        go_upto_region 10 with fail
        refine wp_region_any (by kernel_rfl) ?_
        have kc := Lib.hid (fun (W' : World) (G : Gr Wb.drew W') => And.intro (G.keep u0) (And.intro (G.keep u1) (And.intro (G.keep u2) (And.intro (G.keep u3) (And.intro (G.keep o0) (And.intro (G.keep o1) (And.intro (G.keep o2) (And.intro (G.keep o3) (And.intro (G.keep c1) (And.intro (G.keep c2) (G.keep c3)))))))))))
        have hst : ∀ p ∈ ([(10, Rv.At (Q.mul t.2 q))] : List (Nat × (Value → World → Prop))), ∀ (u : Value) (wA0 wB0 : World), Gr Wb.drew wA0 → Gr wA0 wB0 → p.2 u wA0 → p.2 u wB0 := by
          intro p hp u wA0 wB0 h0 G h
          simp only [List.mem_cons, List.not_mem_nil, or_false] at hp
          subst hp
          · exact Rv.At.gr h G
        refine wpAny_walk (m := 2) (last := #[true, true, true, true, true, true, true, true, true, true, true, false, false]) [0, 1, 2, 3, 4, 5, 6, 7, 8, 9, 10] [(10, Rv.At (Q.mul t.2 q))] (by kernel_rfl) (by decide) (by kernel_rfl) hst ?_
        clear hst
        refine Walk.take (v := ?wv77) rfl rfl (Or.inl ⟨by rfl, ?wy77⟩) ?wr77
        case wy77 => (intro w' hw'; obtain ⟨u0, u1, u2, u3, o0, o1, o2, o3, c1, c2, c3⟩ := kc.out w' hw'; go_simp; try with_reducible rfl)
        try simp only [Act.put, List.setIfInBounds_toArray, List.set_cons_zero, List.set_cons_succ]
        refine Walk.take (v := ?wv78) rfl rfl (Or.inl ⟨by rfl, ?wy78⟩) ?wr78
        case wy78 => (intro w' hw'; obtain ⟨u0, u1, u2, u3, o0, o1, o2, o3, c1, c2, c3⟩ := kc.out w' hw'; go_simp; try with_reducible rfl)
        try simp only [Act.put, List.setIfInBounds_toArray, List.set_cons_zero, List.set_cons_succ]
        refine Walk.take (v := ?wv79) rfl rfl (Or.inl ⟨by rfl, ?wy79⟩) ?wr79
        case wy79 => (intro w' hw'; obtain ⟨u0, u1, u2, u3, o0, o1, o2, o3, c1, c2, c3⟩ := kc.out w' hw'; go_simp; try with_reducible rfl)
        try simp only [Act.put, List.setIfInBounds_toArray, List.set_cons_zero, List.set_cons_succ]
        refine Walk.take (v := ?wv80) rfl rfl (Or.inl ⟨by rfl, ?wy80⟩) ?wr80
        case wy80 => (intro w' hw'; obtain ⟨u0, u1, u2, u3, o0, o1, o2, o3, c1, c2, c3⟩ := kc.out w' hw'; go_simp; try with_reducible rfl)
        try simp only [Act.put, List.setIfInBounds_toArray, List.set_cons_zero, List.set_cons_succ]
        refine Walk.take (v := ?wv81) rfl rfl (Or.inl ⟨by rfl, ?wy81⟩) ?wr81
        case wy81 => (intro w' hw'; obtain ⟨u0, u1, u2, u3, o0, o1, o2, o3, c1, c2, c3⟩ := kc.out w' hw'; go_simp; try with_reducible rfl)
        try simp only [Act.put, List.setIfInBounds_toArray, List.set_cons_zero, List.set_cons_succ]
        refine Walk.take (v := ?wv82) rfl rfl (Or.inl ⟨by rfl, ?wy82⟩) ?wr82
        case wy82 => (intro w' hw'; obtain ⟨u0, u1, u2, u3, o0, o1, o2, o3, c1, c2, c3⟩ := kc.out w' hw'; go_simp; try with_reducible rfl)
        try simp only [Act.put, List.setIfInBounds_toArray, List.set_cons_zero, List.set_cons_succ]
        refine Walk.take (v := ?wv83) rfl rfl (Or.inl ⟨by rfl, ?wy83⟩) ?wr83
        case wy83 => (intro w' hw'; obtain ⟨u0, u1, u2, u3, o0, o1, o2, o3, c1, c2, c3⟩ := kc.out w' hw'; go_simp; try with_reducible rfl)
        try simp only [Act.put, List.setIfInBounds_toArray, List.set_cons_zero, List.set_cons_succ]
        refine Walk.take (v := ?wv84) rfl rfl (Or.inl ⟨by rfl, ?wy84⟩) ?wr84
        case wy84 => (intro w' hw'; obtain ⟨u0, u1, u2, u3, o0, o1, o2, o3, c1, c2, c3⟩ := kc.out w' hw'; go_simp; try with_reducible rfl)
        try simp only [Act.put, List.setIfInBounds_toArray, List.set_cons_zero, List.set_cons_succ]
        refine Walk.take (v := ?wv85) rfl rfl (Or.inl ⟨by rfl, ?wy85⟩) ?wr85
        case wy85 => (intro w' hw'; obtain ⟨u0, u1, u2, u3, o0, o1, o2, o3, c1, c2, c3⟩ := kc.out w' hw'; go_simp; try with_reducible rfl)
        try simp only [Act.put, List.setIfInBounds_toArray, List.set_cons_zero, List.set_cons_succ]
        refine Walk.take (v := ?wv86) rfl rfl (Or.inl ⟨by rfl, ?wy86⟩) ?wr86
        case wy86 => (intro w' hw'; obtain ⟨u0, u1, u2, u3, o0, o1, o2, o3, c1, c2, c3⟩ := kc.out w' hw'; go_simp; try with_reducible rfl)
        try simp only [Act.put, List.setIfInBounds_toArray, List.set_cons_zero, List.set_cons_succ]
        refine Walk.do rfl rfl (by rfl) (fun W1 G1 F1 => ?ws87) (fun v hv => ?wr87)
        case ws87 =>
          obtain ⟨u0, u1, u2, u3, o0, o1, o2, o3, c1, c2, c3⟩ := kc.out W1 G1
          refine doesAt_enter (f := 167) (args := #[.agg #[.bool uv.coef.neg, .slice uv.coef.num.A uv.coef.num.n uv.coef.num.c, .slice uv.coef.den.A uv.coef.den.n uv.coef.den.c], .agg #[.bool c.neg, .slice c.num.A c.num.n c.num.c, .slice c.den.A c.den.n c.den.c]]) (by go_simp; try (first | with_reducible rfl | rfl)) ?_
          refine (rmul_any W1 uv.coef c t.2 q (HU.out.coef.gr (GA.out.trans G1.of_drew)) (HC.out.gr (HG2.out.trans (GA.out.trans G1.of_drew))) (Nat.le_trans (LB.out t (List.mem_cons_self ..)).num (by decide)) (Nat.le_trans LQ.out.num (by decide)) (Nat.lt_of_le_of_lt (Nat.mul_le_mul (LB.out t (List.mem_cons_self ..)).den LQ.out.den) (by decide))).mono ?_
          rintro e w' ⟨m2, rfl, hi, G⟩
          exact ⟨_, rfl, G, m2, rfl, hi⟩
        obtain ⟨_, -, -, ⟨m2, rfl, -⟩⟩ := hv
        try simp only [Act.put, List.setIfInBounds_toArray, List.set_cons_zero, List.set_cons_succ]
        refine Walk.done (fun W1 G1 F1 => ?_)
        have hm2 := F1 _ (List.mem_of_getElem? (i := 0) rfl)
        clear F1
        have kc1 := kc.out W1 G1
        clear kc u0 u1 u2 u3 o0 o1 o2 o3 c1 c2 c3
        obtain ⟨u0, u1, u2, u3, o0, o1, o2, o3, c1, c2, c3⟩ := kc1
        have GB := Lib.hid (GA.out.trans G1.of_drew)
        refine wpAny_one 11 rfl (by kernel_rfl) (by rfl) (fun K hK => ?_)
        refine doesAt_wp (K := fun v W' => ∃ yv : Sv, v = Fv.v ⟨yv, k⟩ ∧ OwnT W' w.heap.size yv (putT acc uv.var (Q.mul t.2 q)) ∧ Fr (fun b => (Value.slice z.A z.n z.c).ownBlock = some b) W1 W') (doesAt_enter (f := 168) (args := #[.agg #[.slice z.A z.n z.c, .bool k.neg, .slice k.num.A k.num.n k.num.c, .slice k.den.A k.den.n k.den.c], .int .i64 uv.var, .agg #[.bool m2.neg, .slice m2.num.A m2.num.n m2.num.c, .slice m2.den.A m2.den.n m2.den.c]]) (by go_simp; try (first | with_reducible rfl | rfl)) ((put_any W1 w.heap.size ⟨z, k⟩ acc (Q.add x.const (Q.mul y.const q)) uv.var m2 (Q.mul t.2 q) (HZ.out.up (GA.out.trans G1.of_drew)) (HK2.out.gr (GA.out.trans G1.of_drew)) hm2.is (Nat.le_trans HG2.out.size (GA.out.trans G1.of_drew).size) (by have := HL.out; simp only [List.length_cons, List.length_nil] at this; omega) (Nat.le_trans ((LB.out t (List.mem_cons_self ..)).bd.mul LQ.out.bd).num (by decide)) (Nat.lt_of_le_of_lt ((LB.out t (List.mem_cons_self ..)).bd.mul LQ.out.bd).den (by decide))).mono ?_)) ?_
        · rintro e w' ⟨yv, rfl, h1, h2⟩
          exact ⟨_, rfl, yv, rfl, h1, h2⟩
        rintro v w5 ⟨yv, rfl, hy, hF⟩
        refine hK.out _ _ ?_
        clear hK K
        try simp only [Act.put, List.setIfInBounds_toArray, List.set_cons_zero, List.set_cons_succ]
        have hz9 := HZ.out.up GB.out
        have DO3 := Lib.hid (hF.bk (GB.out.bk DO2.out) (fun e => hz9.ne (GB.out.bk DO2.out) (by decide) e))
        have DC3 := Lib.hid (hF.bk (GB.out.bk DC.out) (fun e => hz9.ne (GB.out.bk DC.out) (by decide) e))
        have DR3 := Lib.hid (hF.bk (GB.out.bk DR.out) (fun e => hz9.ne (GB.out.bk DR.out) (by decide) e))
        have hG5 := (HG2.out.trans GB.out).step hF (fun b _ e => (hz9.lt b e).1)
        have hK5 := (HK2.out.gr GB.out).tf hF (fun b cs fr e hh => (by obtain ⟨ts, t1, _⟩ := hz9; obtain ⟨cur, hc⟩ := rw_bk t1 b e; exact Bk.not_ty hc (by decide) _ _ hh))
        have HY5 := Lib.hid hy
        have HK5 := Lib.hid hK5
        have HG5 := Lib.hid hG5
        clear hz9 hy hF hG5 hK5 G1 u0 u1 u2 u3 o0 o1 o2 o3 c1 c2 c3 hm2
        obtain ⟨o0, o1, o2, o3⟩ := DO3.out.c4
        have oz := DO3.out.frozen
        refine wpAny_one 12 rfl (by kernel_rfl) (by rfl) (fun K hK => ?_)
        go_simp
        refine hK.out _ _ ?_
        clear hK K
        try simp only [Act.put, List.setIfInBounds_toArray, List.set_cons_zero, List.set_cons_succ]
        refine wpAny_end (by kernel_rfl) ?_
        obtain ⟨B5, F5⟩ := DO3.out.put4 (.slice yv.A yv.n yv.c) (.bool k.neg) (.slice k.num.A k.num.n k.num.c) (.slice k.den.A k.den.n k.den.c)
        have HY6 := Lib.hid (HY5.out.fr F5 (fun b cs fr e hh => Bk.not_ty DO3.out (by decide) cs fr (e ▸ hh)) fun b hb e => HY5.out.ne DO3.out (by decide) (e ▸ hb))
        have HK6 := Lib.hid (HK5.out.tf F5 (fun b cs fr e hh => Bk.not_ty DO3.out (by decide) cs fr (e ▸ hh)))
        have HG6 := Lib.hid (HG5.out.fr_at F5 HNO.out)
        have DO6 := Lib.hid B5
        have DC6 := Lib.hid (F5.bk DC3.out (fun e => Bk.ne DO3.out DC3.out (by decide) e.symm))
        have DR6 := Lib.hid (F5.bk DR3.out (fun e => hro.out e.symm))
        clear B5 F5 o0 o1 o2 o3 oz
        generalize (((w5.setCell ⟨o, 0, none⟩ (.slice yv.A yv.n yv.c)).setCell ⟨o, 1, none⟩ (.bool k.neg)).setCell ⟨o, 2, none⟩ (.slice k.num.A k.num.n k.num.c)).setCell ⟨o, 3, none⟩ (.slice k.den.A k.den.n k.den.c) = w6 at *
        go_wp2
        go_roundw
        · have HY7 : Hid (OwnT w6 w.heap.size yv (putT acc t.1 (Q.mul t.2 q))) := Lib.hid (by have := HY6.out; rw [HU.out.var] at this; exact this)
          exact ⟨⟨XA, 0, xc⟩, _, yv, [], lb, putT acc t.1 (Q.mul t.2 q), n - 1, rfl, rfl, TA.out, TB.out.tail, HY7.out, (hM.out.symm.trans HM.out), Lib.hid (by have := Hn.out; simp only [List.length_cons, List.length_nil] at this ⊢; omega), Lib.hid (by have := HL.out; have := putT_len acc t.1 (Q.mul t.2 q); simp only [List.length_cons, List.length_nil] at *; omega), LA.out, (fun i hi => LB.out i (List.mem_cons_of_mem _ hi)), HK6.out, HG6.out, DC6.out, DR6.out, DO6.out⟩
        · simp [lenOf]; try omega
    · rcases lb with _ | ⟨t, lb⟩
      · -- only a
        obtain ⟨xm, rfl⟩ : ∃ m, xn = m + 1 := ⟨_, HX1.out.symm⟩
        obtain ⟨tv, ad, ht, hA, d0, d1, d2, d3⟩ := (TA.out.gr HG2.out).head
        simp only at hA
        subst hA
        have HT := Lib.hid ht
        have hxp : ((xm + 1 : Nat) : Int) ≠ 0 := by omega
        obtain rfl : yn = 0 := HX2.out.symm
        clear ht
        have hM := Lib.hid (show mrgT q n (s :: la) [] acc = mrgT q (n - 1) la [] (putT acc s.1 s.2) from by obtain ⟨n, rfl⟩ : ∃ m, n = m + 1 := ⟨n - 1, by have := Hn.out; rw [List.length_cons] at this; omega⟩; rfl)
        go_wp2_with fail
        go_upto_region 6 with fail
        refine wp_region_any (by kernel_rfl) ?_
        have kc := Lib.hid (fun (W' : World) (G : Gr wr.drew W') => And.intro (G.keep d0) (And.intro (G.keep d1) (And.intro (G.keep d2) (G.keep d3))))
        have hst : ∀ p ∈ ([] : List (Nat × (Value → World → Prop))), ∀ (u : Value) (wA0 wB0 : World), Gr wr.drew wA0 → Gr wA0 wB0 → p.2 u wA0 → p.2 u wB0 := by
          intro p hp; cases hp
        refine wpAny_walk (m := 0) (last := #[true, true, true, true, true, true, true, true, true, true, true, true, true, true, true, true, true, true, true, true]) [0, 1, 2, 3, 4, 5, 6, 7, 8, 9, 10, 11, 12, 13, 14, 15, 16, 17, 18, 19] [] (by kernel_rfl) (by decide) (by kernel_rfl) hst ?_
        clear hst
        refine Walk.take (v := ?wv16) rfl rfl (Or.inl ⟨by rfl, ?wy16⟩) ?wr16
        case wy16 => (intro w' hw'; obtain ⟨d0, d1, d2, d3⟩ := kc.out w' hw'; go_simp; try with_reducible rfl)
        try simp only [Act.put, List.setIfInBounds_toArray, List.set_cons_zero, List.set_cons_succ]
        refine Walk.take (v := ?wv17) rfl rfl (Or.inl ⟨by rfl, ?wy17⟩) ?wr17
        case wy17 => (intro w' hw'; obtain ⟨d0, d1, d2, d3⟩ := kc.out w' hw'; go_simp; try with_reducible rfl)
        try simp only [Act.put, List.setIfInBounds_toArray, List.set_cons_zero, List.set_cons_succ]
        refine Walk.take (v := ?wv18) rfl rfl (Or.inl ⟨by rfl, ?wy18⟩) ?wr18
        case wy18 => (intro w' hw'; obtain ⟨d0, d1, d2, d3⟩ := kc.out w' hw'; go_simp; try with_reducible rfl)
        try simp only [Act.put, List.setIfInBounds_toArray, List.set_cons_zero, List.set_cons_succ]
        refine Walk.take (v := ?wv19) rfl rfl (Or.inl ⟨by rfl, ?wy19⟩) ?wr19
        case wy19 => (intro w' hw'; obtain ⟨d0, d1, d2, d3⟩ := kc.out w' hw'; go_simp; try with_reducible rfl)
        try simp only [Act.put, List.setIfInBounds_toArray, List.set_cons_zero, List.set_cons_succ]
        refine Walk.take (v := undef) rfl rfl (Or.inr ⟨by rfl, rfl⟩) ?_
        try simp only [Act.put, List.setIfInBounds_toArray, List.set_cons_zero, List.set_cons_succ]
        refine Walk.take (v := undef) rfl rfl (Or.inr ⟨by rfl, rfl⟩) ?_
        try simp only [Act.put, List.setIfInBounds_toArray, List.set_cons_zero, List.set_cons_succ]
        refine Walk.take (v := undef) rfl rfl (Or.inr ⟨by rfl, rfl⟩) ?_
        try simp only [Act.put, List.setIfInBounds_toArray, List.set_cons_zero, List.set_cons_succ]
        refine Walk.take (v := undef) rfl rfl (Or.inr ⟨by rfl, rfl⟩) ?_
        try simp only [Act.put, List.setIfInBounds_toArray, List.set_cons_zero, List.set_cons_succ]
        refine Walk.take (v := undef) rfl rfl (Or.inr ⟨by rfl, rfl⟩) ?_
        try simp only [Act.put, List.setIfInBounds_toArray, List.set_cons_zero, List.set_cons_succ]
        refine Walk.take (v := undef) rfl rfl (Or.inr ⟨by rfl, rfl⟩) ?_
        try simp only [Act.put, List.setIfInBounds_toArray, List.set_cons_zero, List.set_cons_succ]
        refine Walk.take (v := undef) rfl rfl (Or.inr ⟨by rfl, rfl⟩) ?_
        try simp only [Act.put, List.setIfInBounds_toArray, List.set_cons_zero, List.set_cons_succ]
        refine Walk.take (v := undef) rfl rfl (Or.inr ⟨by rfl, rfl⟩) ?_
        try simp only [Act.put, List.setIfInBounds_toArray, List.set_cons_zero, List.set_cons_succ]
        refine Walk.take (v := undef) rfl rfl (Or.inr ⟨by rfl, rfl⟩) ?_
        try simp only [Act.put, List.setIfInBounds_toArray, List.set_cons_zero, List.set_cons_succ]
        refine Walk.take (v := undef) rfl rfl (Or.inr ⟨by rfl, rfl⟩) ?_
        try simp only [Act.put, List.setIfInBounds_toArray, List.set_cons_zero, List.set_cons_succ]
        refine Walk.take (v := undef) rfl rfl (Or.inr ⟨by rfl, rfl⟩) ?_
        try simp only [Act.put, List.setIfInBounds_toArray, List.set_cons_zero, List.set_cons_succ]
        refine Walk.take (v := undef) rfl rfl (Or.inr ⟨by rfl, rfl⟩) ?_
        try simp only [Act.put, List.setIfInBounds_toArray, List.set_cons_zero, List.set_cons_succ]
        refine Walk.take (v := undef) rfl rfl (Or.inr ⟨by rfl, rfl⟩) ?_
        try simp only [Act.put, List.setIfInBounds_toArray, List.set_cons_zero, List.set_cons_succ]
        refine Walk.take (v := undef) rfl rfl (Or.inr ⟨by rfl, rfl⟩) ?_
        try simp only [Act.put, List.setIfInBounds_toArray, List.set_cons_zero, List.set_cons_succ]
        refine Walk.take (v := ?wv20) rfl rfl (Or.inl ⟨by rfl, ?wy20⟩) ?wr20
        case wy20 => (intro w' hw'; obtain ⟨d0, d1, d2, d3⟩ := kc.out w' hw'; go_simp; try with_reducible rfl)
        try simp only [Act.put, List.setIfInBounds_toArray, List.set_cons_zero, List.set_cons_succ]
        refine Walk.take (v := ?wv21) rfl rfl (Or.inl ⟨by rfl, ?wy21⟩) ?wr21
        case wy21 => (intro w' hw'; obtain ⟨d0, d1, d2, d3⟩ := kc.out w' hw'; go_simp; try with_reducible rfl)
        try simp only [Act.put, List.setIfInBounds_toArray, List.set_cons_zero, List.set_cons_succ]
        refine Walk.done (fun W1 G1 F1 => ?_)
        clear F1
        have kc1 := kc.out W1 G1
        clear kc d0 d1 d2 d3
        obtain ⟨d0, d1, d2, d3⟩ := kc1
        refine wpAny_end (by kernel_rfl) ?_
        have GA := Lib.hid G1.of_drew
        clear G1
        generalize hWa : W1 = Wa at *
        clear hWa
        go_wp2_with fail
        obtain ⟨o0, o1, o2, o3⟩ := (GA.out.bk DO2.out).c4
        obtain ⟨c1, c2, c3⟩ := (GA.out.bk DC.out).c3
        go_upto_region 7 with fail
        refine wp_region_any (by kernel_rfl) ?_
        have kc := Lib.hid (fun (W' : World) (G : Gr Wa.drew W') => And.intro (G.keep d0) (And.intro (G.keep d1) (And.intro (G.keep d2) (And.intro (G.keep d3) (And.intro (G.keep o0) (And.intro (G.keep o1) (And.intro (G.keep o2) (G.keep o3))))))))
        have hst : ∀ p ∈ ([] : List (Nat × (Value → World → Prop))), ∀ (u : Value) (wA0 wB0 : World), Gr Wa.drew wA0 → Gr wA0 wB0 → p.2 u wA0 → p.2 u wB0 := by
          intro p hp; cases hp
        refine wpAny_walk (m := 2) (last := #[true, true, true, true, true, true, true, true, true, false, false]) [0, 1, 2, 3, 4, 5, 6, 7, 8] [] (by kernel_rfl) (by decide) (by kernel_rfl) hst ?_
        clear hst
        refine Walk.take (v := ?wv22) rfl rfl (Or.inl ⟨by rfl, ?wy22⟩) ?wr22
        case wy22 => (intro w' hw'; obtain ⟨d0, d1, d2, d3, o0, o1, o2, o3⟩ := kc.out w' hw'; go_simp; try with_reducible rfl)
        try simp only [Act.put, List.setIfInBounds_toArray, List.set_cons_zero, List.set_cons_succ]
        refine Walk.take (v := ?wv23) rfl rfl (Or.inl ⟨by rfl, ?wy23⟩) ?wr23
        case wy23 => (intro w' hw'; obtain ⟨d0, d1, d2, d3, o0, o1, o2, o3⟩ := kc.out w' hw'; go_simp; try with_reducible rfl)
        try simp only [Act.put, List.setIfInBounds_toArray, List.set_cons_zero, List.set_cons_succ]
        refine Walk.take (v := ?wv24) rfl rfl (Or.inl ⟨by rfl, ?wy24⟩) ?wr24
        case wy24 => (intro w' hw'; obtain ⟨d0, d1, d2, d3, o0, o1, o2, o3⟩ := kc.out w' hw'; go_simp; try with_reducible rfl)
        try simp only [Act.put, List.setIfInBounds_toArray, List.set_cons_zero, List.set_cons_succ]
        refine Walk.take (v := ?wv25) rfl rfl (Or.inl ⟨by rfl, ?wy25⟩) ?wr25
        case wy25 => (intro w' hw'; obtain ⟨d0, d1, d2, d3, o0, o1, o2, o3⟩ := kc.out w' hw'; go_simp; try with_reducible rfl)
        try simp only [Act.put, List.setIfInBounds_toArray, List.set_cons_zero, List.set_cons_succ]
        refine Walk.take (v := ?wv26) rfl rfl (Or.inl ⟨by rfl, ?wy26⟩) ?wr26
        case wy26 => (intro w' hw'; obtain ⟨d0, d1, d2, d3, o0, o1, o2, o3⟩ := kc.out w' hw'; go_simp; try with_reducible rfl)
        try simp only [Act.put, List.setIfInBounds_toArray, List.set_cons_zero, List.set_cons_succ]
        refine Walk.take (v := ?wv27) rfl rfl (Or.inl ⟨by rfl, ?wy27⟩) ?wr27
        case wy27 => (intro w' hw'; obtain ⟨d0, d1, d2, d3, o0, o1, o2, o3⟩ := kc.out w' hw'; go_simp; try with_reducible rfl)
        try simp only [Act.put, List.setIfInBounds_toArray, List.set_cons_zero, List.set_cons_succ]
        refine Walk.take (v := ?wv28) rfl rfl (Or.inl ⟨by rfl, ?wy28⟩) ?wr28
        case wy28 => (intro w' hw'; obtain ⟨d0, d1, d2, d3, o0, o1, o2, o3⟩ := kc.out w' hw'; go_simp; try with_reducible rfl)
        try simp only [Act.put, List.setIfInBounds_toArray, List.set_cons_zero, List.set_cons_succ]
        refine Walk.take (v := ?wv29) rfl rfl (Or.inl ⟨by rfl, ?wy29⟩) ?wr29
        case wy29 => (intro w' hw'; obtain ⟨d0, d1, d2, d3, o0, o1, o2, o3⟩ := kc.out w' hw'; go_simp; try with_reducible rfl)
        try simp only [Act.put, List.setIfInBounds_toArray, List.set_cons_zero, List.set_cons_succ]
        refine Walk.take (v := ?wv30) rfl rfl (Or.inl ⟨by rfl, ?wy30⟩) ?wr30
        case wy30 => (intro w' hw'; obtain ⟨d0, d1, d2, d3, o0, o1, o2, o3⟩ := kc.out w' hw'; go_simp; try with_reducible rfl)
        try simp only [Act.put, List.setIfInBounds_toArray, List.set_cons_zero, List.set_cons_succ]
        refine Walk.done (fun W1 G1 F1 => ?_)
        clear F1
        have kc1 := kc.out W1 G1
        clear kc d0 d1 d2 d3 o0 o1 o2 o3
        obtain ⟨d0, d1, d2, d3, o0, o1, o2, o3⟩ := kc1
        have GB := Lib.hid (GA.out.trans G1.of_drew)
        refine wpAny_one 9 rfl (by kernel_rfl) (by rfl) (fun K hK => ?_)
        refine doesAt_wp (K := fun v W' => ∃ yv : Sv, v = Fv.v ⟨yv, k⟩ ∧ OwnT W' w.heap.size yv (putT acc tv.var (s.2)) ∧ Fr (fun b => (Value.slice z.A z.n z.c).ownBlock = some b) W1 W') (doesAt_enter (f := 168) (args := #[.agg #[.slice z.A z.n z.c, .bool k.neg, .slice k.num.A k.num.n k.num.c, .slice k.den.A k.den.n k.den.c], .int .i64 tv.var, .agg #[.bool tv.coef.neg, .slice tv.coef.num.A tv.coef.num.n tv.coef.num.c, .slice tv.coef.den.A tv.coef.den.n tv.coef.den.c]]) (by go_simp; try (first | with_reducible rfl | rfl)) ((put_any W1 w.heap.size ⟨z, k⟩ acc (Q.add x.const (Q.mul y.const q)) tv.var tv.coef s.2 (HZ.out.up (GA.out.trans G1.of_drew)) (HK2.out.gr (GA.out.trans G1.of_drew)) (HT.out.coef.gr (GA.out.trans G1.of_drew)) (Nat.le_trans HG2.out.size (GA.out.trans G1.of_drew).size) (by have := HL.out; simp only [List.length_cons, List.length_nil] at this; omega) (Nat.le_trans (LA.out s (List.mem_cons_self ..)).num (by decide)) (Nat.lt_of_le_of_lt (LA.out s (List.mem_cons_self ..)).den (by decide))).mono ?_)) ?_
        · rintro e w' ⟨yv, rfl, h1, h2⟩
          exact ⟨_, rfl, yv, rfl, h1, h2⟩
        rintro v w5 ⟨yv, rfl, hy, hF⟩
        refine hK.out _ _ ?_
        clear hK K
        try simp only [Act.put, List.setIfInBounds_toArray, List.set_cons_zero, List.set_cons_succ]
        have hz9 := HZ.out.up GB.out
        have DO3 := Lib.hid (hF.bk (GB.out.bk DO2.out) (fun e => hz9.ne (GB.out.bk DO2.out) (by decide) e))
        have DC3 := Lib.hid (hF.bk (GB.out.bk DC.out) (fun e => hz9.ne (GB.out.bk DC.out) (by decide) e))
        have DR3 := Lib.hid (hF.bk (GB.out.bk DR.out) (fun e => hz9.ne (GB.out.bk DR.out) (by decide) e))
        have hG5 := (HG2.out.trans GB.out).step hF (fun b _ e => (hz9.lt b e).1)
        have hK5 := (HK2.out.gr GB.out).tf hF (fun b cs fr e hh => (by obtain ⟨ts, t1, _⟩ := hz9; obtain ⟨cur, hc⟩ := rw_bk t1 b e; exact Bk.not_ty hc (by decide) _ _ hh))
        have HY5 := Lib.hid hy
        have HK5 := Lib.hid hK5
        have HG5 := Lib.hid hG5
        clear hz9 hy hF hG5 hK5 G1 d0 d1 d2 d3 o0 o1 o2 o3 c1 c2 c3
        obtain ⟨o0, o1, o2, o3⟩ := DO3.out.c4
        have oz := DO3.out.frozen
        refine wpAny_one 10 rfl (by kernel_rfl) (by rfl) (fun K hK => ?_)
        go_simp
        refine hK.out _ _ ?_
        clear hK K
        try simp only [Act.put, List.setIfInBounds_toArray, List.set_cons_zero, List.set_cons_succ]
        refine wpAny_end (by kernel_rfl) ?_
        obtain ⟨B5, F5⟩ := DO3.out.put4 (.slice yv.A yv.n yv.c) (.bool k.neg) (.slice k.num.A k.num.n k.num.c) (.slice k.den.A k.den.n k.den.c)
        have HY6 := Lib.hid (HY5.out.fr F5 (fun b cs fr e hh => Bk.not_ty DO3.out (by decide) cs fr (e ▸ hh)) fun b hb e => HY5.out.ne DO3.out (by decide) (e ▸ hb))
        have HK6 := Lib.hid (HK5.out.tf F5 (fun b cs fr e hh => Bk.not_ty DO3.out (by decide) cs fr (e ▸ hh)))
        have HG6 := Lib.hid (HG5.out.fr_at F5 HNO.out)
        have DO6 := Lib.hid B5
        have DC6 := Lib.hid (F5.bk DC3.out (fun e => Bk.ne DO3.out DC3.out (by decide) e.symm))
        have DR6 := Lib.hid (F5.bk DR3.out (fun e => hro.out e.symm))
        clear B5 F5 o0 o1 o2 o3 oz
        generalize (((w5.setCell ⟨o, 0, none⟩ (.slice yv.A yv.n yv.c)).setCell ⟨o, 1, none⟩ (.bool k.neg)).setCell ⟨o, 2, none⟩ (.slice k.num.A k.num.n k.num.c)).setCell ⟨o, 3, none⟩ (.slice k.den.A k.den.n k.den.c) = w6 at *
        go_wp2
        go_roundw
        · have HY7 : Hid (OwnT w6 w.heap.size yv (putT acc s.1 (s.2))) := Lib.hid (by have := HY6.out; rw [HT.out.var] at this; exact this)
          exact ⟨_, ⟨YA, 0, yc⟩, yv, la, [], putT acc s.1 (s.2), n - 1, rfl, rfl, TA.out.tail, TB.out, HY7.out, (hM.out.symm.trans HM.out), Lib.hid (by have := Hn.out; simp only [List.length_cons, List.length_nil] at this ⊢; omega), Lib.hid (by have := HL.out; have := putT_len acc s.1 (s.2); simp only [List.length_cons, List.length_nil] at *; omega), (fun i hi => LA.out i (List.mem_cons_of_mem _ hi)), LB.out, HK6.out, HG6.out, DC6.out, DR6.out, DO6.out⟩
        · simp [lenOf]; try omega
      · by_cases hst1 : s.1 < t.1
        · -- a first
          obtain ⟨xm, rfl⟩ : ∃ m, xn = m + 1 := ⟨_, HX1.out.symm⟩
          obtain ⟨tv, ad, ht, hA, d0, d1, d2, d3⟩ := (TA.out.gr HG2.out).head
          simp only at hA
          subst hA
          have HT := Lib.hid ht
          have hxp : ((xm + 1 : Nat) : Int) ≠ 0 := by omega
          obtain ⟨ym, rfl⟩ : ∃ m, yn = m + 1 := ⟨_, HX2.out.symm⟩
          obtain ⟨uv, bd, hu, hB, u0, u1, u2, u3⟩ := (TB.out.gr HG2.out).head
          simp only at hB
          subst hB
          have HU := Lib.hid hu
          clear ht
          clear hu
          have hM := Lib.hid (show mrgT q n (s :: la) (t :: lb) acc = mrgT q (n - 1) la (t :: lb) (putT acc s.1 s.2) from by obtain ⟨n, rfl⟩ : ∃ m, n = m + 1 := ⟨n - 1, by have := Hn.out; rw [List.length_cons] at this; omega⟩; exact if_pos hst1)
          have hl1 : decide (tv.var < uv.var) = true := by rw [HT.out.var, HU.out.var]; simp [hst1]
          have hl2 : decide (uv.var < tv.var) = false := by rw [HT.out.var, HU.out.var]; simp; omega
          clear hst1
          go_wp2_with fail
          go_upto_region 6 with fail
          refine wp_region_any (by kernel_rfl) ?_
          have kc := Lib.hid (fun (W' : World) (G : Gr wr.drew W') => And.intro (G.keep d0) (And.intro (G.keep d1) (And.intro (G.keep d2) (And.intro (G.keep d3) (And.intro (G.keep u0) (And.intro (G.keep u1) (And.intro (G.keep u2) (G.keep u3))))))))
          have hst : ∀ p ∈ ([] : List (Nat × (Value → World → Prop))), ∀ (u : Value) (wA0 wB0 : World), Gr wr.drew wA0 → Gr wA0 wB0 → p.2 u wA0 → p.2 u wB0 := by
            intro p hp; cases hp
          refine wpAny_walk (m := 0) (last := #[true, true, true, true, true, true, true, true, true, true, true, true, true, true, true, true, true, true, true, true]) [0, 1, 2, 3, 4, 5, 6, 7, 8, 9, 10, 11, 12, 13, 14, 15, 16, 17, 18, 19] [] (by kernel_rfl) (by decide) (by kernel_rfl) hst ?_
          clear hst
          refine Walk.take (v := ?wv31) rfl rfl (Or.inl ⟨by rfl, ?wy31⟩) ?wr31
          case wy31 => (intro w' hw'; obtain ⟨d0, d1, d2, d3, u0, u1, u2, u3⟩ := kc.out w' hw'; go_simp; try with_reducible rfl)
          try simp only [Act.put, List.setIfInBounds_toArray, List.set_cons_zero, List.set_cons_succ]
          refine Walk.take (v := ?wv32) rfl rfl (Or.inl ⟨by rfl, ?wy32⟩) ?wr32
          case wy32 => (intro w' hw'; obtain ⟨d0, d1, d2, d3, u0, u1, u2, u3⟩ := kc.out w' hw'; go_simp; try with_reducible rfl)
          try simp only [Act.put, List.setIfInBounds_toArray, List.set_cons_zero, List.set_cons_succ]
          refine Walk.take (v := ?wv33) rfl rfl (Or.inl ⟨by rfl, ?wy33⟩) ?wr33
          case wy33 => (intro w' hw'; obtain ⟨d0, d1, d2, d3, u0, u1, u2, u3⟩ := kc.out w' hw'; go_simp; try with_reducible rfl)
          try simp only [Act.put, List.setIfInBounds_toArray, List.set_cons_zero, List.set_cons_succ]
          refine Walk.take (v := ?wv34) rfl rfl (Or.inl ⟨by rfl, ?wy34⟩) ?wr34
          case wy34 => (intro w' hw'; obtain ⟨d0, d1, d2, d3, u0, u1, u2, u3⟩ := kc.out w' hw'; go_simp; try with_reducible rfl)
          try simp only [Act.put, List.setIfInBounds_toArray, List.set_cons_zero, List.set_cons_succ]
          refine Walk.take (v := ?wv35) rfl rfl (Or.inl ⟨by rfl, ?wy35⟩) ?wr35
          case wy35 => (intro w' hw'; obtain ⟨d0, d1, d2, d3, u0, u1, u2, u3⟩ := kc.out w' hw'; go_simp; try with_reducible rfl)
          try simp only [Act.put, List.setIfInBounds_toArray, List.set_cons_zero, List.set_cons_succ]
          refine Walk.take (v := ?wv36) rfl rfl (Or.inl ⟨by rfl, ?wy36⟩) ?wr36
          case wy36 => (intro w' hw'; obtain ⟨d0, d1, d2, d3, u0, u1, u2, u3⟩ := kc.out w' hw'; go_simp; try with_reducible rfl)
          try simp only [Act.put, List.setIfInBounds_toArray, List.set_cons_zero, List.set_cons_succ]
          refine Walk.take (v := ?wv37) rfl rfl (Or.inl ⟨by rfl, ?wy37⟩) ?wr37
          case wy37 => (intro w' hw'; obtain ⟨d0, d1, d2, d3, u0, u1, u2, u3⟩ := kc.out w' hw'; go_simp; try with_reducible rfl)
          try simp only [Act.put, List.setIfInBounds_toArray, List.set_cons_zero, List.set_cons_succ]
          refine Walk.take (v := ?wv38) rfl rfl (Or.inl ⟨by rfl, ?wy38⟩) ?wr38
          case wy38 => (intro w' hw'; obtain ⟨d0, d1, d2, d3, u0, u1, u2, u3⟩ := kc.out w' hw'; go_simp; try with_reducible rfl)
          try simp only [Act.put, List.setIfInBounds_toArray, List.set_cons_zero, List.set_cons_succ]
          refine Walk.take (v := ?wv39) rfl rfl (Or.inl ⟨by rfl, ?wy39⟩) ?wr39
          case wy39 => (intro w' hw'; obtain ⟨d0, d1, d2, d3, u0, u1, u2, u3⟩ := kc.out w' hw'; go_simp; try with_reducible rfl)
          try simp only [Act.put, List.setIfInBounds_toArray, List.set_cons_zero, List.set_cons_succ]
          refine Walk.take (v := ?wv40) rfl rfl (Or.inl ⟨by rfl, ?wy40⟩) ?wr40
          case wy40 => (intro w' hw'; obtain ⟨d0, d1, d2, d3, u0, u1, u2, u3⟩ := kc.out w' hw'; go_simp; try with_reducible rfl)
          try simp only [Act.put, List.setIfInBounds_toArray, List.set_cons_zero, List.set_cons_succ]
          refine Walk.take (v := ?wv41) rfl rfl (Or.inl ⟨by rfl, ?wy41⟩) ?wr41
          case wy41 => (intro w' hw'; obtain ⟨d0, d1, d2, d3, u0, u1, u2, u3⟩ := kc.out w' hw'; go_simp; try with_reducible rfl)
          try simp only [Act.put, List.setIfInBounds_toArray, List.set_cons_zero, List.set_cons_succ]
          refine Walk.take (v := ?wv42) rfl rfl (Or.inl ⟨by rfl, ?wy42⟩) ?wr42
          case wy42 => (intro w' hw'; obtain ⟨d0, d1, d2, d3, u0, u1, u2, u3⟩ := kc.out w' hw'; go_simp; try with_reducible rfl)
          try simp only [Act.put, List.setIfInBounds_toArray, List.set_cons_zero, List.set_cons_succ]
          refine Walk.take (v := ?wv43) rfl rfl (Or.inl ⟨by rfl, ?wy43⟩) ?wr43
          case wy43 => (intro w' hw'; obtain ⟨d0, d1, d2, d3, u0, u1, u2, u3⟩ := kc.out w' hw'; go_simp; try with_reducible rfl)
          try simp only [Act.put, List.setIfInBounds_toArray, List.set_cons_zero, List.set_cons_succ]
          refine Walk.take (v := ?wv44) rfl rfl (Or.inl ⟨by rfl, ?wy44⟩) ?wr44
          case wy44 => (intro w' hw'; obtain ⟨d0, d1, d2, d3, u0, u1, u2, u3⟩ := kc.out w' hw'; go_simp; try with_reducible rfl)
          try simp only [Act.put, List.setIfInBounds_toArray, List.set_cons_zero, List.set_cons_succ]
          refine Walk.take (v := ?wv45) rfl rfl (Or.inl ⟨by rfl, ?wy45⟩) ?wr45
          case wy45 => (intro w' hw'; obtain ⟨d0, d1, d2, d3, u0, u1, u2, u3⟩ := kc.out w' hw'; go_simp; try with_reducible rfl)
          try simp only [Act.put, List.setIfInBounds_toArray, List.set_cons_zero, List.set_cons_succ]
          refine Walk.take (v := ?wv46) rfl rfl (Or.inl ⟨by rfl, ?wy46⟩) ?wr46
          case wy46 => (intro w' hw'; obtain ⟨d0, d1, d2, d3, u0, u1, u2, u3⟩ := kc.out w' hw'; go_simp; try with_reducible rfl)
          try simp only [Act.put, List.setIfInBounds_toArray, List.set_cons_zero, List.set_cons_succ]
          refine Walk.take (v := ?wv47) rfl rfl (Or.inl ⟨by rfl, ?wy47⟩) ?wr47
          case wy47 => (intro w' hw'; obtain ⟨d0, d1, d2, d3, u0, u1, u2, u3⟩ := kc.out w' hw'; go_simp; try with_reducible rfl)
          try simp only [Act.put, List.setIfInBounds_toArray, List.set_cons_zero, List.set_cons_succ]
          refine Walk.take (v := ?wv48) rfl rfl (Or.inl ⟨by rfl, ?wy48⟩) ?wr48
          case wy48 => (intro w' hw'; obtain ⟨d0, d1, d2, d3, u0, u1, u2, u3⟩ := kc.out w' hw'; go_simp; try with_reducible rfl)
          try simp only [Act.put, List.setIfInBounds_toArray, List.set_cons_zero, List.set_cons_succ]
          refine Walk.take (v := ?wv49) rfl rfl (Or.inl ⟨by rfl, ?wy49⟩) ?wr49
          case wy49 => (intro w' hw'; obtain ⟨d0, d1, d2, d3, u0, u1, u2, u3⟩ := kc.out w' hw'; go_simp; try with_reducible rfl)
          try simp only [Act.put, List.setIfInBounds_toArray, List.set_cons_zero, List.set_cons_succ]
          refine Walk.take (v := ?wv50) rfl rfl (Or.inl ⟨by rfl, ?wy50⟩) ?wr50
          case wy50 => (intro w' hw'; obtain ⟨d0, d1, d2, d3, u0, u1, u2, u3⟩ := kc.out w' hw'; go_simp; try with_reducible rfl)
          try simp only [Act.put, List.setIfInBounds_toArray, List.set_cons_zero, List.set_cons_succ]
          refine Walk.done (fun W1 G1 F1 => ?_)
          clear F1
          have kc1 := kc.out W1 G1
          clear kc d0 d1 d2 d3 u0 u1 u2 u3
          obtain ⟨d0, d1, d2, d3, u0, u1, u2, u3⟩ := kc1
          refine wpAny_end (by kernel_rfl) ?_
          have GA := Lib.hid G1.of_drew
          clear G1
          generalize hWa : W1 = Wa at *
          clear hWa
          go_wp2_with fail
          obtain ⟨o0, o1, o2, o3⟩ := (GA.out.bk DO2.out).c4
          obtain ⟨c1, c2, c3⟩ := (GA.out.bk DC.out).c3
          go_upto_region 7 with fail
          refine wp_region_any (by kernel_rfl) ?_
          have kc := Lib.hid (fun (W' : World) (G : Gr Wa.drew W') => And.intro (G.keep d0) (And.intro (G.keep d1) (And.intro (G.keep d2) (And.intro (G.keep d3) (And.intro (G.keep u0) (And.intro (G.keep u1) (And.intro (G.keep u2) (And.intro (G.keep u3) (And.intro (G.keep o0) (And.intro (G.keep o1) (And.intro (G.keep o2) (G.keep o3))))))))))))
          have hst : ∀ p ∈ ([] : List (Nat × (Value → World → Prop))), ∀ (u : Value) (wA0 wB0 : World), Gr Wa.drew wA0 → Gr wA0 wB0 → p.2 u wA0 → p.2 u wB0 := by
            intro p hp; cases hp
          refine wpAny_walk (m := 2) (last := #[true, true, true, true, true, true, true, true, true, false, false]) [0, 1, 2, 3, 4, 5, 6, 7, 8] [] (by kernel_rfl) (by decide) (by kernel_rfl) hst ?_
          clear hst
          refine Walk.take (v := ?wv51) rfl rfl (Or.inl ⟨by rfl, ?wy51⟩) ?wr51
          case wy51 => (intro w' hw'; obtain ⟨d0, d1, d2, d3, u0, u1, u2, u3, o0, o1, o2, o3⟩ := kc.out w' hw'; go_simp; try with_reducible rfl)
          try simp only [Act.put, List.setIfInBounds_toArray, List.set_cons_zero, List.set_cons_succ]
          refine Walk.take (v := ?wv52) rfl rfl (Or.inl ⟨by rfl, ?wy52⟩) ?wr52
          case wy52 => (intro w' hw'; obtain ⟨d0, d1, d2, d3, u0, u1, u2, u3, o0, o1, o2, o3⟩ := kc.out w' hw'; go_simp; try with_reducible rfl)
          try simp only [Act.put, List.setIfInBounds_toArray, List.set_cons_zero, List.set_cons_succ]
          refine Walk.take (v := ?wv53) rfl rfl (Or.inl ⟨by rfl, ?wy53⟩) ?wr53
          case wy53 => (intro w' hw'; obtain ⟨d0, d1, d2, d3, u0, u1, u2, u3, o0, o1, o2, o3⟩ := kc.out w' hw'; go_simp; try with_reducible rfl)
          try simp only [Act.put, List.setIfInBounds_toArray, List.set_cons_zero, List.set_cons_succ]
          refine Walk.take (v := ?wv54) rfl rfl (Or.inl ⟨by rfl, ?wy54⟩) ?wr54
          case wy54 => (intro w' hw'; obtain ⟨d0, d1, d2, d3, u0, u1, u2, u3, o0, o1, o2, o3⟩ := kc.out w' hw'; go_simp; try with_reducible rfl)
          try simp only [Act.put, List.setIfInBounds_toArray, List.set_cons_zero, List.set_cons_succ]
          refine Walk.take (v := ?wv55) rfl rfl (Or.inl ⟨by rfl, ?wy55⟩) ?wr55
          case wy55 => (intro w' hw'; obtain ⟨d0, d1, d2, d3, u0, u1, u2, u3, o0, o1, o2, o3⟩ := kc.out w' hw'; go_simp; try with_reducible rfl)
          try simp only [Act.put, List.setIfInBounds_toArray, List.set_cons_zero, List.set_cons_succ]
          refine Walk.take (v := ?wv56) rfl rfl (Or.inl ⟨by rfl, ?wy56⟩) ?wr56
          case wy56 => (intro w' hw'; obtain ⟨d0, d1, d2, d3, u0, u1, u2, u3, o0, o1, o2, o3⟩ := kc.out w' hw'; go_simp; try with_reducible rfl)
          try simp only [Act.put, List.setIfInBounds_toArray, List.set_cons_zero, List.set_cons_succ]
          refine Walk.take (v := ?wv57) rfl rfl (Or.inl ⟨by rfl, ?wy57⟩) ?wr57
          case wy57 => (intro w' hw'; obtain ⟨d0, d1, d2, d3, u0, u1, u2, u3, o0, o1, o2, o3⟩ := kc.out w' hw'; go_simp; try with_reducible rfl)
          try simp only [Act.put, List.setIfInBounds_toArray, List.set_cons_zero, List.set_cons_succ]
          refine Walk.take (v := ?wv58) rfl rfl (Or.inl ⟨by rfl, ?wy58⟩) ?wr58
          case wy58 => (intro w' hw'; obtain ⟨d0, d1, d2, d3, u0, u1, u2, u3, o0, o1, o2, o3⟩ := kc.out w' hw'; go_simp; try with_reducible rfl)
          try simp only [Act.put, List.setIfInBounds_toArray, List.set_cons_zero, List.set_cons_succ]
          refine Walk.take (v := ?wv59) rfl rfl (Or.inl ⟨by rfl, ?wy59⟩) ?wr59
          case wy59 => (intro w' hw'; obtain ⟨d0, d1, d2, d3, u0, u1, u2, u3, o0, o1, o2, o3⟩ := kc.out w' hw'; go_simp; try with_reducible rfl)
          try simp only [Act.put, List.setIfInBounds_toArray, List.set_cons_zero, List.set_cons_succ]
          refine Walk.done (fun W1 G1 F1 => ?_)
          clear F1
          have kc1 := kc.out W1 G1
          clear kc d0 d1 d2 d3 u0 u1 u2 u3 o0 o1 o2 o3
          obtain ⟨d0, d1, d2, d3, u0, u1, u2, u3, o0, o1, o2, o3⟩ := kc1
          have GB := Lib.hid (GA.out.trans G1.of_drew)
          refine wpAny_one 9 rfl (by kernel_rfl) (by rfl) (fun K hK => ?_)
          refine doesAt_wp (K := fun v W' => ∃ yv : Sv, v = Fv.v ⟨yv, k⟩ ∧ OwnT W' w.heap.size yv (putT acc tv.var (s.2)) ∧ Fr (fun b => (Value.slice z.A z.n z.c).ownBlock = some b) W1 W') (doesAt_enter (f := 168) (args := #[.agg #[.slice z.A z.n z.c, .bool k.neg, .slice k.num.A k.num.n k.num.c, .slice k.den.A k.den.n k.den.c], .int .i64 tv.var, .agg #[.bool tv.coef.neg, .slice tv.coef.num.A tv.coef.num.n tv.coef.num.c, .slice tv.coef.den.A tv.coef.den.n tv.coef.den.c]]) (by go_simp; try (first | with_reducible rfl | rfl)) ((put_any W1 w.heap.size ⟨z, k⟩ acc (Q.add x.const (Q.mul y.const q)) tv.var tv.coef s.2 (HZ.out.up (GA.out.trans G1.of_drew)) (HK2.out.gr (GA.out.trans G1.of_drew)) (HT.out.coef.gr (GA.out.trans G1.of_drew)) (Nat.le_trans HG2.out.size (GA.out.trans G1.of_drew).size) (by have := HL.out; simp only [List.length_cons, List.length_nil] at this; omega) (Nat.le_trans (LA.out s (List.mem_cons_self ..)).num (by decide)) (Nat.lt_of_le_of_lt (LA.out s (List.mem_cons_self ..)).den (by decide))).mono ?_)) ?_
          · rintro e w' ⟨yv, rfl, h1, h2⟩
            exact ⟨_, rfl, yv, rfl, h1, h2⟩
          rintro v w5 ⟨yv, rfl, hy, hF⟩
          refine hK.out _ _ ?_
          clear hK K
          try simp only [Act.put, List.setIfInBounds_toArray, List.set_cons_zero, List.set_cons_succ]
          have hz9 := HZ.out.up GB.out
          have DO3 := Lib.hid (hF.bk (GB.out.bk DO2.out) (fun e => hz9.ne (GB.out.bk DO2.out) (by decide) e))
          have DC3 := Lib.hid (hF.bk (GB.out.bk DC.out) (fun e => hz9.ne (GB.out.bk DC.out) (by decide) e))
          have DR3 := Lib.hid (hF.bk (GB.out.bk DR.out) (fun e => hz9.ne (GB.out.bk DR.out) (by decide) e))
          have hG5 := (HG2.out.trans GB.out).step hF (fun b _ e => (hz9.lt b e).1)
          have hK5 := (HK2.out.gr GB.out).tf hF (fun b cs fr e hh => (by obtain ⟨ts, t1, _⟩ := hz9; obtain ⟨cur, hc⟩ := rw_bk t1 b e; exact Bk.not_ty hc (by decide) _ _ hh))
          have HY5 := Lib.hid hy
          have HK5 := Lib.hid hK5
          have HG5 := Lib.hid hG5
          clear hz9 hy hF hG5 hK5 G1 d0 d1 d2 d3 u0 u1 u2 u3 o0 o1 o2 o3 c1 c2 c3
          obtain ⟨o0, o1, o2, o3⟩ := DO3.out.c4
          have oz := DO3.out.frozen
          refine wpAny_one 10 rfl (by kernel_rfl) (by rfl) (fun K hK => ?_)
          go_simp
          refine hK.out _ _ ?_
          clear hK K
          try simp only [Act.put, List.setIfInBounds_toArray, List.set_cons_zero, List.set_cons_succ]
          refine wpAny_end (by kernel_rfl) ?_
          obtain ⟨B5, F5⟩ := DO3.out.put4 (.slice yv.A yv.n yv.c) (.bool k.neg) (.slice k.num.A k.num.n k.num.c) (.slice k.den.A k.den.n k.den.c)
          have HY6 := Lib.hid (HY5.out.fr F5 (fun b cs fr e hh => Bk.not_ty DO3.out (by decide) cs fr (e ▸ hh)) fun b hb e => HY5.out.ne DO3.out (by decide) (e ▸ hb))
          have HK6 := Lib.hid (HK5.out.tf F5 (fun b cs fr e hh => Bk.not_ty DO3.out (by decide) cs fr (e ▸ hh)))
          have HG6 := Lib.hid (HG5.out.fr_at F5 HNO.out)
          have DO6 := Lib.hid B5
          have DC6 := Lib.hid (F5.bk DC3.out (fun e => Bk.ne DO3.out DC3.out (by decide) e.symm))
          have DR6 := Lib.hid (F5.bk DR3.out (fun e => hro.out e.symm))
          clear B5 F5 o0 o1 o2 o3 oz
          generalize (((w5.setCell ⟨o, 0, none⟩ (.slice yv.A yv.n yv.c)).setCell ⟨o, 1, none⟩ (.bool k.neg)).setCell ⟨o, 2, none⟩ (.slice k.num.A k.num.n k.num.c)).setCell ⟨o, 3, none⟩ (.slice k.den.A k.den.n k.den.c) = w6 at *
          go_wp2
          go_roundw
          · have HY7 : Hid (OwnT w6 w.heap.size yv (putT acc s.1 (s.2))) := Lib.hid (by have := HY6.out; rw [HT.out.var] at this; exact this)
            exact ⟨_, ⟨some bd, ym + 1, yc⟩, yv, la, (t :: lb), putT acc s.1 (s.2), n - 1, rfl, rfl, TA.out.tail, TB.out, HY7.out, (hM.out.symm.trans HM.out), Lib.hid (by have := Hn.out; simp only [List.length_cons, List.length_nil] at this ⊢; omega), Lib.hid (by have := HL.out; have := putT_len acc s.1 (s.2); simp only [List.length_cons, List.length_nil] at *; omega), (fun i hi => LA.out i (List.mem_cons_of_mem _ hi)), LB.out, HK6.out, HG6.out, DC6.out, DR6.out, DO6.out⟩
          · simp [lenOf]; try omega
        · by_cases hst2 : t.1 < s.1
          · -- b first
            obtain ⟨xm, rfl⟩ : ∃ m, xn = m + 1 := ⟨_, HX1.out.symm⟩
            obtain ⟨tv, ad, ht, hA, d0, d1, d2, d3⟩ := (TA.out.gr HG2.out).head
            simp only at hA
            subst hA
            have HT := Lib.hid ht
            have hxp : ((xm + 1 : Nat) : Int) ≠ 0 := by omega
            obtain ⟨ym, rfl⟩ : ∃ m, yn = m + 1 := ⟨_, HX2.out.symm⟩
            obtain ⟨uv, bd, hu, hB, u0, u1, u2, u3⟩ := (TB.out.gr HG2.out).head
            simp only at hB
            subst hB
            have HU := Lib.hid hu
            clear ht
            clear hu
            have hM := Lib.hid (show mrgT q n (s :: la) (t :: lb) acc = mrgT q (n - 1) (s :: la) lb (putT acc t.1 (Q.mul t.2 q)) from by obtain ⟨n, rfl⟩ : ∃ m, n = m + 1 := ⟨n - 1, by have := Hn.out; rw [List.length_cons] at this; omega⟩; exact (if_neg hst1).trans (if_pos hst2))
            have hl1 : decide (tv.var < uv.var) = false := by rw [HT.out.var, HU.out.var]; simp [hst1]
            have hl2 : decide (uv.var < tv.var) = true := by rw [HT.out.var, HU.out.var]; simp [hst2]
            clear hst1 hst2
            go_wp2_with fail
            go_upto_region 6 with fail
            refine wp_region_any (by kernel_rfl) ?_
            have kc := Lib.hid (fun (W' : World) (G : Gr wr.drew W') => And.intro (G.keep d0) (And.intro (G.keep d1) (And.intro (G.keep d2) (And.intro (G.keep d3) (And.intro (G.keep u0) (And.intro (G.keep u1) (And.intro (G.keep u2) (G.keep u3))))))))
            have hst : ∀ p ∈ ([] : List (Nat × (Value → World → Prop))), ∀ (u : Value) (wA0 wB0 : World), Gr wr.drew wA0 → Gr wA0 wB0 → p.2 u wA0 → p.2 u wB0 := by
              intro p hp; cases hp
            refine wpAny_walk (m := 0) (last := #[true, true, true, true, true, true, true, true, true, true, true, true, true, true, true, true, true, true, true, true]) [0, 1, 2, 3, 4, 5, 6, 7, 8, 9, 10, 11, 12, 13, 14, 15, 16, 17, 18, 19] [] (by kernel_rfl) (by decide) (by kernel_rfl) hst ?_
            clear hst
            refine Walk.take (v := ?wv88) rfl rfl (Or.inl ⟨by rfl, ?wy88⟩) ?wr88
            case wy88 => (intro w' hw'; obtain ⟨d0, d1, d2, d3, u0, u1, u2, u3⟩ := kc.out w' hw'; go_simp; try with_reducible rfl)
            try simp only [Act.put, List.setIfInBounds_toArray, List.set_cons_zero, List.set_cons_succ]
            refine Walk.take (v := ?wv89) rfl rfl (Or.inl ⟨by rfl, ?wy89⟩) ?wr89
            case wy89 => (intro w' hw'; obtain ⟨d0, d1, d2, d3, u0, u1, u2, u3⟩ := kc.out w' hw'; go_simp; try with_reducible rfl)
            try simp only [Act.put, List.setIfInBounds_toArray, List.set_cons_zero, List.set_cons_succ]
            refine Walk.take (v := ?wv90) rfl rfl (Or.inl ⟨by rfl, ?wy90⟩) ?wr90
            case wy90 => (intro w' hw'; obtain ⟨d0, d1, d2, d3, u0, u1, u2, u3⟩ := kc.out w' hw'; go_simp; try with_reducible rfl)
            try simp only [Act.put, List.setIfInBounds_toArray, List.set_cons_zero, List.set_cons_succ]
            refine Walk.take (v := ?wv91) rfl rfl (Or.inl ⟨by rfl, ?wy91⟩) ?wr91
            case wy91 => (intro w' hw'; obtain ⟨d0, d1, d2, d3, u0, u1, u2, u3⟩ := kc.out w' hw'; go_simp; try with_reducible rfl)
            try simp only [Act.put, List.setIfInBounds_toArray, List.set_cons_zero, List.set_cons_succ]
            refine Walk.take (v := ?wv92) rfl rfl (Or.inl ⟨by rfl, ?wy92⟩) ?wr92
            case wy92 => (intro w' hw'; obtain ⟨d0, d1, d2, d3, u0, u1, u2, u3⟩ := kc.out w' hw'; go_simp; try with_reducible rfl)
            try simp only [Act.put, List.setIfInBounds_toArray, List.set_cons_zero, List.set_cons_succ]
            refine Walk.take (v := ?wv93) rfl rfl (Or.inl ⟨by rfl, ?wy93⟩) ?wr93
            case wy93 => (intro w' hw'; obtain ⟨d0, d1, d2, d3, u0, u1, u2, u3⟩ := kc.out w' hw'; go_simp; try with_reducible rfl)
            try simp only [Act.put, List.setIfInBounds_toArray, List.set_cons_zero, List.set_cons_succ]
            refine Walk.take (v := ?wv94) rfl rfl (Or.inl ⟨by rfl, ?wy94⟩) ?wr94
            case wy94 => (intro w' hw'; obtain ⟨d0, d1, d2, d3, u0, u1, u2, u3⟩ := kc.out w' hw'; go_simp; try with_reducible rfl)
            try simp only [Act.put, List.setIfInBounds_toArray, List.set_cons_zero, List.set_cons_succ]
            refine Walk.take (v := ?wv95) rfl rfl (Or.inl ⟨by rfl, ?wy95⟩) ?wr95
            case wy95 => (intro w' hw'; obtain ⟨d0, d1, d2, d3, u0, u1, u2, u3⟩ := kc.out w' hw'; go_simp; try with_reducible rfl)
            try simp only [Act.put, List.setIfInBounds_toArray, List.set_cons_zero, List.set_cons_succ]
            refine Walk.take (v := ?wv96) rfl rfl (Or.inl ⟨by rfl, ?wy96⟩) ?wr96
            case wy96 => (intro w' hw'; obtain ⟨d0, d1, d2, d3, u0, u1, u2, u3⟩ := kc.out w' hw'; go_simp; try with_reducible rfl)
            try simp only [Act.put, List.setIfInBounds_toArray, List.set_cons_zero, List.set_cons_succ]
            refine Walk.take (v := ?wv97) rfl rfl (Or.inl ⟨by rfl, ?wy97⟩) ?wr97
            case wy97 => (intro w' hw'; obtain ⟨d0, d1, d2, d3, u0, u1, u2, u3⟩ := kc.out w' hw'; go_simp; try with_reducible rfl)
            try simp only [Act.put, List.setIfInBounds_toArray, List.set_cons_zero, List.set_cons_succ]
            refine Walk.take (v := ?wv98) rfl rfl (Or.inl ⟨by rfl, ?wy98⟩) ?wr98
            case wy98 => (intro w' hw'; obtain ⟨d0, d1, d2, d3, u0, u1, u2, u3⟩ := kc.out w' hw'; go_simp; try with_reducible rfl)
            try simp only [Act.put, List.setIfInBounds_toArray, List.set_cons_zero, List.set_cons_succ]
            refine Walk.take (v := ?wv99) rfl rfl (Or.inl ⟨by rfl, ?wy99⟩) ?wr99
            case wy99 => (intro w' hw'; obtain ⟨d0, d1, d2, d3, u0, u1, u2, u3⟩ := kc.out w' hw'; go_simp; try with_reducible rfl)
            try simp only [Act.put, List.setIfInBounds_toArray, List.set_cons_zero, List.set_cons_succ]
            refine Walk.take (v := ?wv100) rfl rfl (Or.inl ⟨by rfl, ?wy100⟩) ?wr100
            case wy100 => (intro w' hw'; obtain ⟨d0, d1, d2, d3, u0, u1, u2, u3⟩ := kc.out w' hw'; go_simp; try with_reducible rfl)
            try simp only [Act.put, List.setIfInBounds_toArray, List.set_cons_zero, List.set_cons_succ]
            refine Walk.take (v := ?wv101) rfl rfl (Or.inl ⟨by rfl, ?wy101⟩) ?wr101
            case wy101 => (intro w' hw'; obtain ⟨d0, d1, d2, d3, u0, u1, u2, u3⟩ := kc.out w' hw'; go_simp; try with_reducible rfl)
            try simp only [Act.put, List.setIfInBounds_toArray, List.set_cons_zero, List.set_cons_succ]
            refine Walk.take (v := ?wv102) rfl rfl (Or.inl ⟨by rfl, ?wy102⟩) ?wr102
            case wy102 => (intro w' hw'; obtain ⟨d0, d1, d2, d3, u0, u1, u2, u3⟩ := kc.out w' hw'; go_simp; try with_reducible rfl)
            try simp only [Act.put, List.setIfInBounds_toArray, List.set_cons_zero, List.set_cons_succ]
            refine Walk.take (v := ?wv103) rfl rfl (Or.inl ⟨by rfl, ?wy103⟩) ?wr103
            case wy103 => (intro w' hw'; obtain ⟨d0, d1, d2, d3, u0, u1, u2, u3⟩ := kc.out w' hw'; go_simp; try with_reducible rfl)
            try simp only [Act.put, List.setIfInBounds_toArray, List.set_cons_zero, List.set_cons_succ]
            refine Walk.take (v := ?wv104) rfl rfl (Or.inl ⟨by rfl, ?wy104⟩) ?wr104
            case wy104 => (intro w' hw'; obtain ⟨d0, d1, d2, d3, u0, u1, u2, u3⟩ := kc.out w' hw'; go_simp; try with_reducible rfl)
            try simp only [Act.put, List.setIfInBounds_toArray, List.set_cons_zero, List.set_cons_succ]
            refine Walk.take (v := ?wv105) rfl rfl (Or.inl ⟨by rfl, ?wy105⟩) ?wr105
            case wy105 => (intro w' hw'; obtain ⟨d0, d1, d2, d3, u0, u1, u2, u3⟩ := kc.out w' hw'; go_simp; try with_reducible rfl)
            try simp only [Act.put, List.setIfInBounds_toArray, List.set_cons_zero, List.set_cons_succ]
            refine Walk.take (v := ?wv106) rfl rfl (Or.inl ⟨by rfl, ?wy106⟩) ?wr106
            case wy106 => (intro w' hw'; obtain ⟨d0, d1, d2, d3, u0, u1, u2, u3⟩ := kc.out w' hw'; go_simp; try with_reducible rfl)
            try simp only [Act.put, List.setIfInBounds_toArray, List.set_cons_zero, List.set_cons_succ]
            refine Walk.take (v := ?wv107) rfl rfl (Or.inl ⟨by rfl, ?wy107⟩) ?wr107
            case wy107 => (intro w' hw'; obtain ⟨d0, d1, d2, d3, u0, u1, u2, u3⟩ := kc.out w' hw'; go_simp; try with_reducible rfl)
            try simp only [Act.put, List.setIfInBounds_toArray, List.set_cons_zero, List.set_cons_succ]
            refine Walk.done (fun W1 G1 F1 => ?_)
            clear F1
            have kc1 := kc.out W1 G1
            clear kc d0 d1 d2 d3 u0 u1 u2 u3
            obtain ⟨d0, d1, d2, d3, u0, u1, u2, u3⟩ := kc1
            refine wpAny_end (by kernel_rfl) ?_
            have GA := Lib.hid G1.of_drew
            clear G1
            generalize hWa : W1 = Wa at *
            clear hWa
            go_wp2_with fail
            go_upto_region 9 with fail
            refine wp_region_any (by kernel_rfl) ?_
            have kc := Lib.hid (fun (W' : World) (G : Gr Wa.drew W') => And.intro (G.keep d0) (And.intro (G.keep d1) (And.intro (G.keep d2) (And.intro (G.keep d3) (And.intro (G.keep u0) (And.intro (G.keep u1) (And.intro (G.keep u2) (G.keep u3))))))))
            have hst : ∀ p ∈ ([] : List (Nat × (Value → World → Prop))), ∀ (u : Value) (wA0 wB0 : World), Gr Wa.drew wA0 → Gr wA0 wB0 → p.2 u wA0 → p.2 u wB0 := by
              intro p hp; cases hp
            refine wpAny_walk (m := 0) (last := #[true, true, true, true, true, true, true, true, true, true, true, true, true, true, true]) [0, 1, 2, 3, 4, 5, 6, 7, 8, 9, 10, 11, 12, 13, 14] [] (by kernel_rfl) (by decide) (by kernel_rfl) hst ?_
            clear hst
            refine Walk.take (v := ?wv108) rfl rfl (Or.inl ⟨by rfl, ?wy108⟩) ?wr108
            case wy108 => (intro w' hw'; obtain ⟨d0, d1, d2, d3, u0, u1, u2, u3⟩ := kc.out w' hw'; go_simp; try with_reducible rfl)
            try simp only [Act.put, List.setIfInBounds_toArray, List.set_cons_zero, List.set_cons_succ]
            refine Walk.take (v := ?wv109) rfl rfl (Or.inl ⟨by rfl, ?wy109⟩) ?wr109
            case wy109 => (intro w' hw'; obtain ⟨d0, d1, d2, d3, u0, u1, u2, u3⟩ := kc.out w' hw'; go_simp; try with_reducible rfl)
            try simp only [Act.put, List.setIfInBounds_toArray, List.set_cons_zero, List.set_cons_succ]
            refine Walk.take (v := ?wv110) rfl rfl (Or.inl ⟨by rfl, ?wy110⟩) ?wr110
            case wy110 => (intro w' hw'; obtain ⟨d0, d1, d2, d3, u0, u1, u2, u3⟩ := kc.out w' hw'; go_simp; try with_reducible rfl)
            try simp only [Act.put, List.setIfInBounds_toArray, List.set_cons_zero, List.set_cons_succ]
            refine Walk.take (v := ?wv111) rfl rfl (Or.inl ⟨by rfl, ?wy111⟩) ?wr111
            case wy111 => (intro w' hw'; obtain ⟨d0, d1, d2, d3, u0, u1, u2, u3⟩ := kc.out w' hw'; go_simp; try with_reducible rfl)
            try simp only [Act.put, List.setIfInBounds_toArray, List.set_cons_zero, List.set_cons_succ]
            refine Walk.take (v := ?wv112) rfl rfl (Or.inl ⟨by rfl, ?wy112⟩) ?wr112
            case wy112 => (intro w' hw'; obtain ⟨d0, d1, d2, d3, u0, u1, u2, u3⟩ := kc.out w' hw'; go_simp; try with_reducible rfl)
            try simp only [Act.put, List.setIfInBounds_toArray, List.set_cons_zero, List.set_cons_succ]
            refine Walk.take (v := ?wv113) rfl rfl (Or.inl ⟨by rfl, ?wy113⟩) ?wr113
            case wy113 => (intro w' hw'; obtain ⟨d0, d1, d2, d3, u0, u1, u2, u3⟩ := kc.out w' hw'; go_simp; try with_reducible rfl)
            try simp only [Act.put, List.setIfInBounds_toArray, List.set_cons_zero, List.set_cons_succ]
            refine Walk.take (v := ?wv114) rfl rfl (Or.inl ⟨by rfl, ?wy114⟩) ?wr114
            case wy114 => (intro w' hw'; obtain ⟨d0, d1, d2, d3, u0, u1, u2, u3⟩ := kc.out w' hw'; go_simp; try with_reducible rfl)
            try simp only [Act.put, List.setIfInBounds_toArray, List.set_cons_zero, List.set_cons_succ]
            refine Walk.take (v := ?wv115) rfl rfl (Or.inl ⟨by rfl, ?wy115⟩) ?wr115
            case wy115 => (intro w' hw'; obtain ⟨d0, d1, d2, d3, u0, u1, u2, u3⟩ := kc.out w' hw'; go_simp; try with_reducible rfl)
            try simp only [Act.put, List.setIfInBounds_toArray, List.set_cons_zero, List.set_cons_succ]
            refine Walk.take (v := ?wv116) rfl rfl (Or.inl ⟨by rfl, ?wy116⟩) ?wr116
            case wy116 => (intro w' hw'; obtain ⟨d0, d1, d2, d3, u0, u1, u2, u3⟩ := kc.out w' hw'; go_simp; try with_reducible rfl)
            try simp only [Act.put, List.setIfInBounds_toArray, List.set_cons_zero, List.set_cons_succ]
            refine Walk.take (v := ?wv117) rfl rfl (Or.inl ⟨by rfl, ?wy117⟩) ?wr117
            case wy117 => (intro w' hw'; obtain ⟨d0, d1, d2, d3, u0, u1, u2, u3⟩ := kc.out w' hw'; go_simp; try with_reducible rfl)
            try simp only [Act.put, List.setIfInBounds_toArray, List.set_cons_zero, List.set_cons_succ]
            refine Walk.take (v := ?wv118) rfl rfl (Or.inl ⟨by rfl, ?wy118⟩) ?wr118
            case wy118 => (intro w' hw'; obtain ⟨d0, d1, d2, d3, u0, u1, u2, u3⟩ := kc.out w' hw'; go_simp; try with_reducible rfl)
            try simp only [Act.put, List.setIfInBounds_toArray, List.set_cons_zero, List.set_cons_succ]
            refine Walk.take (v := ?wv119) rfl rfl (Or.inl ⟨by rfl, ?wy119⟩) ?wr119
            case wy119 => (intro w' hw'; obtain ⟨d0, d1, d2, d3, u0, u1, u2, u3⟩ := kc.out w' hw'; go_simp; try with_reducible rfl)
            try simp only [Act.put, List.setIfInBounds_toArray, List.set_cons_zero, List.set_cons_succ]
            refine Walk.take (v := ?wv120) rfl rfl (Or.inl ⟨by rfl, ?wy120⟩) ?wr120
            case wy120 => (intro w' hw'; obtain ⟨d0, d1, d2, d3, u0, u1, u2, u3⟩ := kc.out w' hw'; go_simp; try with_reducible rfl)
            try simp only [Act.put, List.setIfInBounds_toArray, List.set_cons_zero, List.set_cons_succ]
            refine Walk.take (v := ?wv121) rfl rfl (Or.inl ⟨by rfl, ?wy121⟩) ?wr121
            case wy121 => (intro w' hw'; obtain ⟨d0, d1, d2, d3, u0, u1, u2, u3⟩ := kc.out w' hw'; go_simp; try with_reducible rfl)
            try simp only [Act.put, List.setIfInBounds_toArray, List.set_cons_zero, List.set_cons_succ]
            refine Walk.take (v := ?wv122) rfl rfl (Or.inl ⟨by rfl, ?wy122⟩) ?wr122
            case wy122 => (intro w' hw'; obtain ⟨d0, d1, d2, d3, u0, u1, u2, u3⟩ := kc.out w' hw'; go_simp; try with_reducible rfl)
            try simp only [Act.put, List.setIfInBounds_toArray, List.set_cons_zero, List.set_cons_succ]
            refine Walk.done (fun W1 G1 F1 => ?_)
            clear F1
            have kc1 := kc.out W1 G1
            clear kc d0 d1 d2 d3 u0 u1 u2 u3
            obtain ⟨d0, d1, d2, d3, u0, u1, u2, u3⟩ := kc1
            refine wpAny_end (by kernel_rfl) ?_
            replace GA := Lib.hid (GA.out.trans G1.of_drew)
            clear G1
            generalize hWb : W1 = Wb at *
            clear hWb
            go_wp2_with fail
            obtain ⟨o0, o1, o2, o3⟩ := (GA.out.bk DO2.out).c4
            obtain ⟨c1, c2, c3⟩ := (GA.out.bk DC.out).c3
            go_upto_region 10 with fail
            refine wp_region_any (by kernel_rfl) ?_
            have kc := Lib.hid (fun (W' : World) (G : Gr Wb.drew W') => And.intro (G.keep d0) (And.intro (G.keep d1) (And.intro (G.keep d2) (And.intro (G.keep d3) (And.intro (G.keep u0) (And.intro (G.keep u1) (And.intro (G.keep u2) (And.intro (G.keep u3) (And.intro (G.keep o0) (And.intro (G.keep o1) (And.intro (G.keep o2) (And.intro (G.keep o3) (And.intro (G.keep c1) (And.intro (G.keep c2) (G.keep c3)))))))))))))))
            have hst : ∀ p ∈ ([(10, Rv.At (Q.mul t.2 q))] : List (Nat × (Value → World → Prop))), ∀ (u : Value) (wA0 wB0 : World), Gr Wb.drew wA0 → Gr wA0 wB0 → p.2 u wA0 → p.2 u wB0 := by
              intro p hp u wA0 wB0 h0 G h
              simp only [List.mem_cons, List.not_mem_nil, or_false] at hp
              subst hp
              · exact Rv.At.gr h G
            refine wpAny_walk (m := 2) (last := #[true, true, true, true, true, true, true, true, true, true, true, false, false]) [0, 1, 2, 3, 4, 5, 6, 7, 8, 9, 10] [(10, Rv.At (Q.mul t.2 q))] (by kernel_rfl) (by decide) (by kernel_rfl) hst ?_
            clear hst
            refine Walk.take (v := ?wv123) rfl rfl (Or.inl ⟨by rfl, ?wy123⟩) ?wr123
            case wy123 => (intro w' hw'; obtain ⟨d0, d1, d2, d3, u0, u1, u2, u3, o0, o1, o2, o3, c1, c2, c3⟩ := kc.out w' hw'; go_simp; try with_reducible rfl)
            try simp only [Act.put, List.setIfInBounds_toArray, List.set_cons_zero, List.set_cons_succ]
            refine Walk.take (v := ?wv124) rfl rfl (Or.inl ⟨by rfl, ?wy124⟩) ?wr124
            case wy124 => (intro w' hw'; obtain ⟨d0, d1, d2, d3, u0, u1, u2, u3, o0, o1, o2, o3, c1, c2, c3⟩ := kc.out w' hw'; go_simp; try with_reducible rfl)
            try simp only [Act.put, List.setIfInBounds_toArray, List.set_cons_zero, List.set_cons_succ]
            refine Walk.take (v := ?wv125) rfl rfl (Or.inl ⟨by rfl, ?wy125⟩) ?wr125
            case wy125 => (intro w' hw'; obtain ⟨d0, d1, d2, d3, u0, u1, u2, u3, o0, o1, o2, o3, c1, c2, c3⟩ := kc.out w' hw'; go_simp; try with_reducible rfl)
            try simp only [Act.put, List.setIfInBounds_toArray, List.set_cons_zero, List.set_cons_succ]
            refine Walk.take (v := ?wv126) rfl rfl (Or.inl ⟨by rfl, ?wy126⟩) ?wr126
            case wy126 => (intro w' hw'; obtain ⟨d0, d1, d2, d3, u0, u1, u2, u3, o0, o1, o2, o3, c1, c2, c3⟩ := kc.out w' hw'; go_simp; try with_reducible rfl)
            try simp only [Act.put, List.setIfInBounds_toArray, List.set_cons_zero, List.set_cons_succ]
            refine Walk.take (v := ?wv127) rfl rfl (Or.inl ⟨by rfl, ?wy127⟩) ?wr127
            case wy127 => (intro w' hw'; obtain ⟨d0, d1, d2, d3, u0, u1, u2, u3, o0, o1, o2, o3, c1, c2, c3⟩ := kc.out w' hw'; go_simp; try with_reducible rfl)
            try simp only [Act.put, List.setIfInBounds_toArray, List.set_cons_zero, List.set_cons_succ]
            refine Walk.take (v := ?wv128) rfl rfl (Or.inl ⟨by rfl, ?wy128⟩) ?wr128
            case wy128 => (intro w' hw'; obtain ⟨d0, d1, d2, d3, u0, u1, u2, u3, o0, o1, o2, o3, c1, c2, c3⟩ := kc.out w' hw'; go_simp; try with_reducible rfl)
            try simp only [Act.put, List.setIfInBounds_toArray, List.set_cons_zero, List.set_cons_succ]
            refine Walk.take (v := ?wv129) rfl rfl (Or.inl ⟨by rfl, ?wy129⟩) ?wr129
            case wy129 => (intro w' hw'; obtain ⟨d0, d1, d2, d3, u0, u1, u2, u3, o0, o1, o2, o3, c1, c2, c3⟩ := kc.out w' hw'; go_simp; try with_reducible rfl)
            try simp only [Act.put, List.setIfInBounds_toArray, List.set_cons_zero, List.set_cons_succ]
            refine Walk.take (v := ?wv130) rfl rfl (Or.inl ⟨by rfl, ?wy130⟩) ?wr130
            case wy130 => (intro w' hw'; obtain ⟨d0, d1, d2, d3, u0, u1, u2, u3, o0, o1, o2, o3, c1, c2, c3⟩ := kc.out w' hw'; go_simp; try with_reducible rfl)
            try simp only [Act.put, List.setIfInBounds_toArray, List.set_cons_zero, List.set_cons_succ]
            refine Walk.take (v := ?wv131) rfl rfl (Or.inl ⟨by rfl, ?wy131⟩) ?wr131
            case wy131 => (intro w' hw'; obtain ⟨d0, d1, d2, d3, u0, u1, u2, u3, o0, o1, o2, o3, c1, c2, c3⟩ := kc.out w' hw'; go_simp; try with_reducible rfl)
            try simp only [Act.put, List.setIfInBounds_toArray, List.set_cons_zero, List.set_cons_succ]
            refine Walk.take (v := ?wv132) rfl rfl (Or.inl ⟨by rfl, ?wy132⟩) ?wr132
            case wy132 => (intro w' hw'; obtain ⟨d0, d1, d2, d3, u0, u1, u2, u3, o0, o1, o2, o3, c1, c2, c3⟩ := kc.out w' hw'; go_simp; try with_reducible rfl)
            try simp only [Act.put, List.setIfInBounds_toArray, List.set_cons_zero, List.set_cons_succ]
            refine Walk.do rfl rfl (by rfl) (fun W1 G1 F1 => ?ws133) (fun v hv => ?wr133)
            case ws133 =>
              obtain ⟨d0, d1, d2, d3, u0, u1, u2, u3, o0, o1, o2, o3, c1, c2, c3⟩ := kc.out W1 G1
              refine doesAt_enter (f := 167) (args := #[.agg #[.bool uv.coef.neg, .slice uv.coef.num.A uv.coef.num.n uv.coef.num.c, .slice uv.coef.den.A uv.coef.den.n uv.coef.den.c], .agg #[.bool c.neg, .slice c.num.A c.num.n c.num.c, .slice c.den.A c.den.n c.den.c]]) (by go_simp; try (first | with_reducible rfl | rfl)) ?_
              refine (rmul_any W1 uv.coef c t.2 q (HU.out.coef.gr (GA.out.trans G1.of_drew)) (HC.out.gr (HG2.out.trans (GA.out.trans G1.of_drew))) (Nat.le_trans (LB.out t (List.mem_cons_self ..)).num (by decide)) (Nat.le_trans LQ.out.num (by decide)) (Nat.lt_of_le_of_lt (Nat.mul_le_mul (LB.out t (List.mem_cons_self ..)).den LQ.out.den) (by decide))).mono ?_
              rintro e w' ⟨m2, rfl, hi, G⟩
              exact ⟨_, rfl, G, m2, rfl, hi⟩
            obtain ⟨_, -, -, ⟨m2, rfl, -⟩⟩ := hv
            try simp only [Act.put, List.setIfInBounds_toArray, List.set_cons_zero, List.set_cons_succ]
            refine Walk.done (fun W1 G1 F1 => ?_)
            have hm2 := F1 _ (List.mem_of_getElem? (i := 0) rfl)
            clear F1
            have kc1 := kc.out W1 G1
            clear kc d0 d1 d2 d3 u0 u1 u2 u3 o0 o1 o2 o3 c1 c2 c3
            obtain ⟨d0, d1, d2, d3, u0, u1, u2, u3, o0, o1, o2, o3, c1, c2, c3⟩ := kc1
            have GB := Lib.hid (GA.out.trans G1.of_drew)
            refine wpAny_one 11 rfl (by kernel_rfl) (by rfl) (fun K hK => ?_)
            refine doesAt_wp (K := fun v W' => ∃ yv : Sv, v = Fv.v ⟨yv, k⟩ ∧ OwnT W' w.heap.size yv (putT acc uv.var (Q.mul t.2 q)) ∧ Fr (fun b => (Value.slice z.A z.n z.c).ownBlock = some b) W1 W') (doesAt_enter (f := 168) (args := #[.agg #[.slice z.A z.n z.c, .bool k.neg, .slice k.num.A k.num.n k.num.c, .slice k.den.A k.den.n k.den.c], .int .i64 uv.var, .agg #[.bool m2.neg, .slice m2.num.A m2.num.n m2.num.c, .slice m2.den.A m2.den.n m2.den.c]]) (by go_simp; try (first | with_reducible rfl | rfl)) ((put_any W1 w.heap.size ⟨z, k⟩ acc (Q.add x.const (Q.mul y.const q)) uv.var m2 (Q.mul t.2 q) (HZ.out.up (GA.out.trans G1.of_drew)) (HK2.out.gr (GA.out.trans G1.of_drew)) hm2.is (Nat.le_trans HG2.out.size (GA.out.trans G1.of_drew).size) (by have := HL.out; simp only [List.length_cons, List.length_nil] at this; omega) (Nat.le_trans ((LB.out t (List.mem_cons_self ..)).bd.mul LQ.out.bd).num (by decide)) (Nat.lt_of_le_of_lt ((LB.out t (List.mem_cons_self ..)).bd.mul LQ.out.bd).den (by decide))).mono ?_)) ?_
            · rintro e w' ⟨yv, rfl, h1, h2⟩
              exact ⟨_, rfl, yv, rfl, h1, h2⟩
            rintro v w5 ⟨yv, rfl, hy, hF⟩
            refine hK.out _ _ ?_
            clear hK K
            try simp only [Act.put, List.setIfInBounds_toArray, List.set_cons_zero, List.set_cons_succ]
            have hz9 := HZ.out.up GB.out
            have DO3 := Lib.hid (hF.bk (GB.out.bk DO2.out) (fun e => hz9.ne (GB.out.bk DO2.out) (by decide) e))
            have DC3 := Lib.hid (hF.bk (GB.out.bk DC.out) (fun e => hz9.ne (GB.out.bk DC.out) (by decide) e))
            have DR3 := Lib.hid (hF.bk (GB.out.bk DR.out) (fun e => hz9.ne (GB.out.bk DR.out) (by decide) e))
            have hG5 := (HG2.out.trans GB.out).step hF (fun b _ e => (hz9.lt b e).1)
            have hK5 := (HK2.out.gr GB.out).tf hF (fun b cs fr e hh => (by obtain ⟨ts, t1, _⟩ := hz9; obtain ⟨cur, hc⟩ := rw_bk t1 b e; exact Bk.not_ty hc (by decide) _ _ hh))
            have HY5 := Lib.hid hy
            have HK5 := Lib.hid hK5
            have HG5 := Lib.hid hG5
            clear hz9 hy hF hG5 hK5 G1 d0 d1 d2 d3 u0 u1 u2 u3 o0 o1 o2 o3 c1 c2 c3 hm2
            obtain ⟨o0, o1, o2, o3⟩ := DO3.out.c4
            have oz := DO3.out.frozen
            refine wpAny_one 12 rfl (by kernel_rfl) (by rfl) (fun K hK => ?_)
            go_simp
            refine hK.out _ _ ?_
            clear hK K
            try simp only [Act.put, List.setIfInBounds_toArray, List.set_cons_zero, List.set_cons_succ]
            refine wpAny_end (by kernel_rfl) ?_
            obtain ⟨B5, F5⟩ := DO3.out.put4 (.slice yv.A yv.n yv.c) (.bool k.neg) (.slice k.num.A k.num.n k.num.c) (.slice k.den.A k.den.n k.den.c)
            have HY6 := Lib.hid (HY5.out.fr F5 (fun b cs fr e hh => Bk.not_ty DO3.out (by decide) cs fr (e ▸ hh)) fun b hb e => HY5.out.ne DO3.out (by decide) (e ▸ hb))
            have HK6 := Lib.hid (HK5.out.tf F5 (fun b cs fr e hh => Bk.not_ty DO3.out (by decide) cs fr (e ▸ hh)))
            have HG6 := Lib.hid (HG5.out.fr_at F5 HNO.out)
            have DO6 := Lib.hid B5
            have DC6 := Lib.hid (F5.bk DC3.out (fun e => Bk.ne DO3.out DC3.out (by decide) e.symm))
            have DR6 := Lib.hid (F5.bk DR3.out (fun e => hro.out e.symm))
            clear B5 F5 o0 o1 o2 o3 oz
            generalize (((w5.setCell ⟨o, 0, none⟩ (.slice yv.A yv.n yv.c)).setCell ⟨o, 1, none⟩ (.bool k.neg)).setCell ⟨o, 2, none⟩ (.slice k.num.A k.num.n k.num.c)).setCell ⟨o, 3, none⟩ (.slice k.den.A k.den.n k.den.c) = w6 at *
            go_wp2
            go_roundw
            · have HY7 : Hid (OwnT w6 w.heap.size yv (putT acc t.1 (Q.mul t.2 q))) := Lib.hid (by have := HY6.out; rw [HU.out.var] at this; exact this)
              exact ⟨⟨some ad, xm + 1, xc⟩, _, yv, (s :: la), lb, putT acc t.1 (Q.mul t.2 q), n - 1, rfl, rfl, TA.out, TB.out.tail, HY7.out, (hM.out.symm.trans HM.out), Lib.hid (by have := Hn.out; simp only [List.length_cons, List.length_nil] at this ⊢; omega), Lib.hid (by have := HL.out; have := putT_len acc t.1 (Q.mul t.2 q); simp only [List.length_cons, List.length_nil] at *; omega), LA.out, (fun i hi => LB.out i (List.mem_cons_of_mem _ hi)), HK6.out, HG6.out, DC6.out, DR6.out, DO6.out⟩
            · simp [lenOf]; try omega
          · -- equal
            obtain ⟨xm, rfl⟩ : ∃ m, xn = m + 1 := ⟨_, HX1.out.symm⟩
            obtain ⟨tv, ad, ht, hA, d0, d1, d2, d3⟩ := (TA.out.gr HG2.out).head
            simp only at hA
            subst hA
            have HT := Lib.hid ht
            have hxp : ((xm + 1 : Nat) : Int) ≠ 0 := by omega
            obtain ⟨ym, rfl⟩ : ∃ m, yn = m + 1 := ⟨_, HX2.out.symm⟩
            obtain ⟨uv, bd, hu, hB, u0, u1, u2, u3⟩ := (TB.out.gr HG2.out).head
            simp only at hB
            subst hB
            have HU := Lib.hid hu
            clear ht
            clear hu
            have hM := Lib.hid (show mrgT q n (s :: la) (t :: lb) acc = mrgT q (n - 1) la lb (putT acc s.1 (Q.add s.2 (Q.mul t.2 q))) from by obtain ⟨n, rfl⟩ : ∃ m, n = m + 1 := ⟨n - 1, by have := Hn.out; rw [List.length_cons] at this; omega⟩; exact (if_neg hst1).trans (if_neg hst2))
            have hl1 : decide (tv.var < uv.var) = false := by rw [HT.out.var, HU.out.var]; simp [hst1]
            have hl2 : decide (uv.var < tv.var) = false := by rw [HT.out.var, HU.out.var]; simp [hst2]
            clear hst1 hst2
            go_wp2_with fail
            go_upto_region 6 with fail
            refine wp_region_any (by kernel_rfl) ?_
            have kc := Lib.hid (fun (W' : World) (G : Gr wr.drew W') => And.intro (G.keep d0) (And.intro (G.keep d1) (And.intro (G.keep d2) (And.intro (G.keep d3) (And.intro (G.keep u0) (And.intro (G.keep u1) (And.intro (G.keep u2) (G.keep u3))))))))
            have hst : ∀ p ∈ ([] : List (Nat × (Value → World → Prop))), ∀ (u : Value) (wA0 wB0 : World), Gr wr.drew wA0 → Gr wA0 wB0 → p.2 u wA0 → p.2 u wB0 := by
              intro p hp; cases hp
            refine wpAny_walk (m := 0) (last := #[true, true, true, true, true, true, true, true, true, true, true, true, true, true, true, true, true, true, true, true]) [0, 1, 2, 3, 4, 5, 6, 7, 8, 9, 10, 11, 12, 13, 14, 15, 16, 17, 18, 19] [] (by kernel_rfl) (by decide) (by kernel_rfl) hst ?_
            clear hst
            refine Walk.take (v := ?wv134) rfl rfl (Or.inl ⟨by rfl, ?wy134⟩) ?wr134
            case wy134 => (intro w' hw'; obtain ⟨d0, d1, d2, d3, u0, u1, u2, u3⟩ := kc.out w' hw'; go_simp; try with_reducible rfl)
            try simp only [Act.put, List.setIfInBounds_toArray, List.set_cons_zero, List.set_cons_succ]
            refine Walk.take (v := ?wv135) rfl rfl (Or.inl ⟨by rfl, ?wy135⟩) ?wr135
            case wy135 => (intro w' hw'; obtain ⟨d0, d1, d2, d3, u0, u1, u2, u3⟩ := kc.out w' hw'; go_simp; try with_reducible rfl)
            try simp only [Act.put, List.setIfInBounds_toArray, List.set_cons_zero, List.set_cons_succ]
            refine Walk.take (v := ?wv136) rfl rfl (Or.inl ⟨by rfl, ?wy136⟩) ?wr136
            case wy136 => (intro w' hw'; obtain ⟨d0, d1, d2, d3, u0, u1, u2, u3⟩ := kc.out w' hw'; go_simp; try with_reducible rfl)
            try simp only [Act.put, List.setIfInBounds_toArray, List.set_cons_zero, List.set_cons_succ]
            refine Walk.take (v := ?wv137) rfl rfl (Or.inl ⟨by rfl, ?wy137⟩) ?wr137
            case wy137 => (intro w' hw'; obtain ⟨d0, d1, d2, d3, u0, u1, u2, u3⟩ := kc.out w' hw'; go_simp; try with_reducible rfl)
            try simp only [Act.put, List.setIfInBounds_toArray, List.set_cons_zero, List.set_cons_succ]
            refine Walk.take (v := ?wv138) rfl rfl (Or.inl ⟨by rfl, ?wy138⟩) ?wr138
            case wy138 => (intro w' hw'; obtain ⟨d0, d1, d2, d3, u0, u1, u2, u3⟩ := kc.out w' hw'; go_simp; try with_reducible rfl)
            try simp only [Act.put, List.setIfInBounds_toArray, List.set_cons_zero, List.set_cons_succ]
            refine Walk.take (v := ?wv139) rfl rfl (Or.inl ⟨by rfl, ?wy139⟩) ?wr139
            case wy139 => (intro w' hw'; obtain ⟨d0, d1, d2, d3, u0, u1, u2, u3⟩ := kc.out w' hw'; go_simp; try with_reducible rfl)
            try simp only [Act.put, List.setIfInBounds_toArray, List.set_cons_zero, List.set_cons_succ]
            refine Walk.take (v := ?wv140) rfl rfl (Or.inl ⟨by rfl, ?wy140⟩) ?wr140
            case wy140 => (intro w' hw'; obtain ⟨d0, d1, d2, d3, u0, u1, u2, u3⟩ := kc.out w' hw'; go_simp; try with_reducible rfl)
            try simp only [Act.put, List.setIfInBounds_toArray, List.set_cons_zero, List.set_cons_succ]
            refine Walk.take (v := ?wv141) rfl rfl (Or.inl ⟨by rfl, ?wy141⟩) ?wr141
            case wy141 => (intro w' hw'; obtain ⟨d0, d1, d2, d3, u0, u1, u2, u3⟩ := kc.out w' hw'; go_simp; try with_reducible rfl)
            try simp only [Act.put, List.setIfInBounds_toArray, List.set_cons_zero, List.set_cons_succ]
            refine Walk.take (v := ?wv142) rfl rfl (Or.inl ⟨by rfl, ?wy142⟩) ?wr142
            case wy142 => (intro w' hw'; obtain ⟨d0, d1, d2, d3, u0, u1, u2, u3⟩ := kc.out w' hw'; go_simp; try with_reducible rfl)
            try simp only [Act.put, List.setIfInBounds_toArray, List.set_cons_zero, List.set_cons_succ]
            refine Walk.take (v := ?wv143) rfl rfl (Or.inl ⟨by rfl, ?wy143⟩) ?wr143
            case wy143 => (intro w' hw'; obtain ⟨d0, d1, d2, d3, u0, u1, u2, u3⟩ := kc.out w' hw'; go_simp; try with_reducible rfl)
            try simp only [Act.put, List.setIfInBounds_toArray, List.set_cons_zero, List.set_cons_succ]
            refine Walk.take (v := ?wv144) rfl rfl (Or.inl ⟨by rfl, ?wy144⟩) ?wr144
            case wy144 => (intro w' hw'; obtain ⟨d0, d1, d2, d3, u0, u1, u2, u3⟩ := kc.out w' hw'; go_simp; try with_reducible rfl)
            try simp only [Act.put, List.setIfInBounds_toArray, List.set_cons_zero, List.set_cons_succ]
            refine Walk.take (v := ?wv145) rfl rfl (Or.inl ⟨by rfl, ?wy145⟩) ?wr145
            case wy145 => (intro w' hw'; obtain ⟨d0, d1, d2, d3, u0, u1, u2, u3⟩ := kc.out w' hw'; go_simp; try with_reducible rfl)
            try simp only [Act.put, List.setIfInBounds_toArray, List.set_cons_zero, List.set_cons_succ]
            refine Walk.take (v := ?wv146) rfl rfl (Or.inl ⟨by rfl, ?wy146⟩) ?wr146
            case wy146 => (intro w' hw'; obtain ⟨d0, d1, d2, d3, u0, u1, u2, u3⟩ := kc.out w' hw'; go_simp; try with_reducible rfl)
            try simp only [Act.put, List.setIfInBounds_toArray, List.set_cons_zero, List.set_cons_succ]
            refine Walk.take (v := ?wv147) rfl rfl (Or.inl ⟨by rfl, ?wy147⟩) ?wr147
            case wy147 => (intro w' hw'; obtain ⟨d0, d1, d2, d3, u0, u1, u2, u3⟩ := kc.out w' hw'; go_simp; try with_reducible rfl)
            try simp only [Act.put, List.setIfInBounds_toArray, List.set_cons_zero, List.set_cons_succ]
            refine Walk.take (v := ?wv148) rfl rfl (Or.inl ⟨by rfl, ?wy148⟩) ?wr148
            case wy148 => (intro w' hw'; obtain ⟨d0, d1, d2, d3, u0, u1, u2, u3⟩ := kc.out w' hw'; go_simp; try with_reducible rfl)
            try simp only [Act.put, List.setIfInBounds_toArray, List.set_cons_zero, List.set_cons_succ]
            refine Walk.take (v := ?wv149) rfl rfl (Or.inl ⟨by rfl, ?wy149⟩) ?wr149
            case wy149 => (intro w' hw'; obtain ⟨d0, d1, d2, d3, u0, u1, u2, u3⟩ := kc.out w' hw'; go_simp; try with_reducible rfl)
            try simp only [Act.put, List.setIfInBounds_toArray, List.set_cons_zero, List.set_cons_succ]
            refine Walk.take (v := ?wv150) rfl rfl (Or.inl ⟨by rfl, ?wy150⟩) ?wr150
            case wy150 => (intro w' hw'; obtain ⟨d0, d1, d2, d3, u0, u1, u2, u3⟩ := kc.out w' hw'; go_simp; try with_reducible rfl)
            try simp only [Act.put, List.setIfInBounds_toArray, List.set_cons_zero, List.set_cons_succ]
            refine Walk.take (v := ?wv151) rfl rfl (Or.inl ⟨by rfl, ?wy151⟩) ?wr151
            case wy151 => (intro w' hw'; obtain ⟨d0, d1, d2, d3, u0, u1, u2, u3⟩ := kc.out w' hw'; go_simp; try with_reducible rfl)
            try simp only [Act.put, List.setIfInBounds_toArray, List.set_cons_zero, List.set_cons_succ]
            refine Walk.take (v := ?wv152) rfl rfl (Or.inl ⟨by rfl, ?wy152⟩) ?wr152
            case wy152 => (intro w' hw'; obtain ⟨d0, d1, d2, d3, u0, u1, u2, u3⟩ := kc.out w' hw'; go_simp; try with_reducible rfl)
            try simp only [Act.put, List.setIfInBounds_toArray, List.set_cons_zero, List.set_cons_succ]
            refine Walk.take (v := ?wv153) rfl rfl (Or.inl ⟨by rfl, ?wy153⟩) ?wr153
            case wy153 => (intro w' hw'; obtain ⟨d0, d1, d2, d3, u0, u1, u2, u3⟩ := kc.out w' hw'; go_simp; try with_reducible rfl)
            try simp only [Act.put, List.setIfInBounds_toArray, List.set_cons_zero, List.set_cons_succ]
            refine Walk.done (fun W1 G1 F1 => ?_)
            clear F1
            have kc1 := kc.out W1 G1
            clear kc d0 d1 d2 d3 u0 u1 u2 u3
            obtain ⟨d0, d1, d2, d3, u0, u1, u2, u3⟩ := kc1
            refine wpAny_end (by kernel_rfl) ?_
            have GA := Lib.hid G1.of_drew
            clear G1
            generalize hWa : W1 = Wa at *
            clear hWa
            go_wp2_with fail
            go_upto_region 9 with fail
            refine wp_region_any (by kernel_rfl) ?_
            have kc := Lib.hid (fun (W' : World) (G : Gr Wa.drew W') => And.intro (G.keep d0) (And.intro (G.keep d1) (And.intro (G.keep d2) (And.intro (G.keep d3) (And.intro (G.keep u0) (And.intro (G.keep u1) (And.intro (G.keep u2) (G.keep u3))))))))
            have hst : ∀ p ∈ ([] : List (Nat × (Value → World → Prop))), ∀ (u : Value) (wA0 wB0 : World), Gr Wa.drew wA0 → Gr wA0 wB0 → p.2 u wA0 → p.2 u wB0 := by
              intro p hp; cases hp
            refine wpAny_walk (m := 0) (last := #[true, true, true, true, true, true, true, true, true, true, true, true, true, true, true]) [0, 1, 2, 3, 4, 5, 6, 7, 8, 9, 10, 11, 12, 13, 14] [] (by kernel_rfl) (by decide) (by kernel_rfl) hst ?_
            clear hst
            refine Walk.take (v := ?wv154) rfl rfl (Or.inl ⟨by rfl, ?wy154⟩) ?wr154
            case wy154 => (intro w' hw'; obtain ⟨d0, d1, d2, d3, u0, u1, u2, u3⟩ := kc.out w' hw'; go_simp; try with_reducible rfl)
            try simp only [Act.put, List.setIfInBounds_toArray, List.set_cons_zero, List.set_cons_succ]
            refine Walk.take (v := ?wv155) rfl rfl (Or.inl ⟨by rfl, ?wy155⟩) ?wr155
            case wy155 => (intro w' hw'; obtain ⟨d0, d1, d2, d3, u0, u1, u2, u3⟩ := kc.out w' hw'; go_simp; try with_reducible rfl)
            try simp only [Act.put, List.setIfInBounds_toArray, List.set_cons_zero, List.set_cons_succ]
            refine Walk.take (v := ?wv156) rfl rfl (Or.inl ⟨by rfl, ?wy156⟩) ?wr156
            case wy156 => (intro w' hw'; obtain ⟨d0, d1, d2, d3, u0, u1, u2, u3⟩ := kc.out w' hw'; go_simp; try with_reducible rfl)
            try simp only [Act.put, List.setIfInBounds_toArray, List.set_cons_zero, List.set_cons_succ]
            refine Walk.take (v := ?wv157) rfl rfl (Or.inl ⟨by rfl, ?wy157⟩) ?wr157
            case wy157 => (intro w' hw'; obtain ⟨d0, d1, d2, d3, u0, u1, u2, u3⟩ := kc.out w' hw'; go_simp; try with_reducible rfl)
            try simp only [Act.put, List.setIfInBounds_toArray, List.set_cons_zero, List.set_cons_succ]
            refine Walk.take (v := ?wv158) rfl rfl (Or.inl ⟨by rfl, ?wy158⟩) ?wr158
            case wy158 => (intro w' hw'; obtain ⟨d0, d1, d2, d3, u0, u1, u2, u3⟩ := kc.out w' hw'; go_simp; try with_reducible rfl)
            try simp only [Act.put, List.setIfInBounds_toArray, List.set_cons_zero, List.set_cons_succ]
            refine Walk.take (v := ?wv159) rfl rfl (Or.inl ⟨by rfl, ?wy159⟩) ?wr159
            case wy159 => (intro w' hw'; obtain ⟨d0, d1, d2, d3, u0, u1, u2, u3⟩ := kc.out w' hw'; go_simp; try with_reducible rfl)
            try simp only [Act.put, List.setIfInBounds_toArray, List.set_cons_zero, List.set_cons_succ]
            refine Walk.take (v := ?wv160) rfl rfl (Or.inl ⟨by rfl, ?wy160⟩) ?wr160
            case wy160 => (intro w' hw'; obtain ⟨d0, d1, d2, d3, u0, u1, u2, u3⟩ := kc.out w' hw'; go_simp; try with_reducible rfl)
            try simp only [Act.put, List.setIfInBounds_toArray, List.set_cons_zero, List.set_cons_succ]
            refine Walk.take (v := ?wv161) rfl rfl (Or.inl ⟨by rfl, ?wy161⟩) ?wr161
            case wy161 => (intro w' hw'; obtain ⟨d0, d1, d2, d3, u0, u1, u2, u3⟩ := kc.out w' hw'; go_simp; try with_reducible rfl)
            try simp only [Act.put, List.setIfInBounds_toArray, List.set_cons_zero, List.set_cons_succ]
            refine Walk.take (v := ?wv162) rfl rfl (Or.inl ⟨by rfl, ?wy162⟩) ?wr162
            case wy162 => (intro w' hw'; obtain ⟨d0, d1, d2, d3, u0, u1, u2, u3⟩ := kc.out w' hw'; go_simp; try with_reducible rfl)
            try simp only [Act.put, List.setIfInBounds_toArray, List.set_cons_zero, List.set_cons_succ]
            refine Walk.take (v := ?wv163) rfl rfl (Or.inl ⟨by rfl, ?wy163⟩) ?wr163
            case wy163 => (intro w' hw'; obtain ⟨d0, d1, d2, d3, u0, u1, u2, u3⟩ := kc.out w' hw'; go_simp; try with_reducible rfl)
            try simp only [Act.put, List.setIfInBounds_toArray, List.set_cons_zero, List.set_cons_succ]
            refine Walk.take (v := ?wv164) rfl rfl (Or.inl ⟨by rfl, ?wy164⟩) ?wr164
            case wy164 => (intro w' hw'; obtain ⟨d0, d1, d2, d3, u0, u1, u2, u3⟩ := kc.out w' hw'; go_simp; try with_reducible rfl)
            try simp only [Act.put, List.setIfInBounds_toArray, List.set_cons_zero, List.set_cons_succ]
            refine Walk.take (v := ?wv165) rfl rfl (Or.inl ⟨by rfl, ?wy165⟩) ?wr165
            case wy165 => (intro w' hw'; obtain ⟨d0, d1, d2, d3, u0, u1, u2, u3⟩ := kc.out w' hw'; go_simp; try with_reducible rfl)
            try simp only [Act.put, List.setIfInBounds_toArray, List.set_cons_zero, List.set_cons_succ]
            refine Walk.take (v := ?wv166) rfl rfl (Or.inl ⟨by rfl, ?wy166⟩) ?wr166
            case wy166 => (intro w' hw'; obtain ⟨d0, d1, d2, d3, u0, u1, u2, u3⟩ := kc.out w' hw'; go_simp; try with_reducible rfl)
            try simp only [Act.put, List.setIfInBounds_toArray, List.set_cons_zero, List.set_cons_succ]
            refine Walk.take (v := ?wv167) rfl rfl (Or.inl ⟨by rfl, ?wy167⟩) ?wr167
            case wy167 => (intro w' hw'; obtain ⟨d0, d1, d2, d3, u0, u1, u2, u3⟩ := kc.out w' hw'; go_simp; try with_reducible rfl)
            try simp only [Act.put, List.setIfInBounds_toArray, List.set_cons_zero, List.set_cons_succ]
            refine Walk.take (v := ?wv168) rfl rfl (Or.inl ⟨by rfl, ?wy168⟩) ?wr168
            case wy168 => (intro w' hw'; obtain ⟨d0, d1, d2, d3, u0, u1, u2, u3⟩ := kc.out w' hw'; go_simp; try with_reducible rfl)
            try simp only [Act.put, List.setIfInBounds_toArray, List.set_cons_zero, List.set_cons_succ]
            refine Walk.done (fun W1 G1 F1 => ?_)
            clear F1
            have kc1 := kc.out W1 G1
            clear kc d0 d1 d2 d3 u0 u1 u2 u3
            obtain ⟨d0, d1, d2, d3, u0, u1, u2, u3⟩ := kc1
            refine wpAny_end (by kernel_rfl) ?_
            replace GA := Lib.hid (GA.out.trans G1.of_drew)
            clear G1
            generalize hWb : W1 = Wb at *
            clear hWb
            go_wp2_with fail
            obtain ⟨o0, o1, o2, o3⟩ := (GA.out.bk DO2.out).c4
            obtain ⟨c1, c2, c3⟩ := (GA.out.bk DC.out).c3
            go_upto_region 4 with fail
            refine wp_region_any (by kernel_rfl) ?_
            have kc := Lib.hid (fun (W' : World) (G : Gr Wb.drew W') => And.intro (G.keep d0) (And.intro (G.keep d1) (And.intro (G.keep d2) (And.intro (G.keep d3) (And.intro (G.keep u0) (And.intro (G.keep u1) (And.intro (G.keep u2) (And.intro (G.keep u3) (And.intro (G.keep o0) (And.intro (G.keep o1) (And.intro (G.keep o2) (And.intro (G.keep o3) (And.intro (G.keep c1) (And.intro (G.keep c2) (G.keep c3)))))))))))))))
            have hst : ∀ p ∈ ([(14, Rv.At (Q.mul t.2 q)), (15, Rv.At (Q.add s.2 (Q.mul t.2 q)))] : List (Nat × (Value → World → Prop))), ∀ (u : Value) (wA0 wB0 : World), Gr Wb.drew wA0 → Gr wA0 wB0 → p.2 u wA0 → p.2 u wB0 := by
              intro p hp u wA0 wB0 h0 G h
              simp only [List.mem_cons, List.not_mem_nil, or_false] at hp
              rcases hp with rfl | rfl
              · exact Rv.At.gr h G
              · exact Rv.At.gr h G
            refine wpAny_walk (m := 2) (last := #[true, true, true, true, true, true, true, true, true, true, true, true, true, true, true, true, false, false]) [0, 1, 2, 3, 4, 5, 6, 7, 8, 9, 10, 11, 12, 13, 14, 15] [(14, Rv.At (Q.mul t.2 q)), (15, Rv.At (Q.add s.2 (Q.mul t.2 q)))] (by kernel_rfl) (by decide) (by kernel_rfl) hst ?_
            clear hst
            refine Walk.take (v := ?wv169) rfl rfl (Or.inl ⟨by rfl, ?wy169⟩) ?wr169
            case wy169 => (intro w' hw'; obtain ⟨d0, d1, d2, d3, u0, u1, u2, u3, o0, o1, o2, o3, c1, c2, c3⟩ := kc.out w' hw'; go_simp; try with_reducible rfl)
            try simp only [Act.put, List.setIfInBounds_toArray, List.set_cons_zero, List.set_cons_succ]
            refine Walk.take (v := ?wv170) rfl rfl (Or.inl ⟨by rfl, ?wy170⟩) ?wr170
            case wy170 => (intro w' hw'; obtain ⟨d0, d1, d2, d3, u0, u1, u2, u3, o0, o1, o2, o3, c1, c2, c3⟩ := kc.out w' hw'; go_simp; try with_reducible rfl)
            try simp only [Act.put, List.setIfInBounds_toArray, List.set_cons_zero, List.set_cons_succ]
            refine Walk.take (v := ?wv171) rfl rfl (Or.inl ⟨by rfl, ?wy171⟩) ?wr171
            case wy171 => (intro w' hw'; obtain ⟨d0, d1, d2, d3, u0, u1, u2, u3, o0, o1, o2, o3, c1, c2, c3⟩ := kc.out w' hw'; go_simp; try with_reducible rfl)
            try simp only [Act.put, List.setIfInBounds_toArray, List.set_cons_zero, List.set_cons_succ]
            refine Walk.take (v := ?wv172) rfl rfl (Or.inl ⟨by rfl, ?wy172⟩) ?wr172
            case wy172 => (intro w' hw'; obtain ⟨d0, d1, d2, d3, u0, u1, u2, u3, o0, o1, o2, o3, c1, c2, c3⟩ := kc.out w' hw'; go_simp; try with_reducible rfl)
            try simp only [Act.put, List.setIfInBounds_toArray, List.set_cons_zero, List.set_cons_succ]
            refine Walk.take (v := ?wv173) rfl rfl (Or.inl ⟨by rfl, ?wy173⟩) ?wr173
            case wy173 => (intro w' hw'; obtain ⟨d0, d1, d2, d3, u0, u1, u2, u3, o0, o1, o2, o3, c1, c2, c3⟩ := kc.out w' hw'; go_simp; try with_reducible rfl)
            try simp only [Act.put, List.setIfInBounds_toArray, List.set_cons_zero, List.set_cons_succ]
            refine Walk.take (v := ?wv174) rfl rfl (Or.inl ⟨by rfl, ?wy174⟩) ?wr174
            case wy174 => (intro w' hw'; obtain ⟨d0, d1, d2, d3, u0, u1, u2, u3, o0, o1, o2, o3, c1, c2, c3⟩ := kc.out w' hw'; go_simp; try with_reducible rfl)
            try simp only [Act.put, List.setIfInBounds_toArray, List.set_cons_zero, List.set_cons_succ]
            refine Walk.take (v := ?wv175) rfl rfl (Or.inl ⟨by rfl, ?wy175⟩) ?wr175
            case wy175 => (intro w' hw'; obtain ⟨d0, d1, d2, d3, u0, u1, u2, u3, o0, o1, o2, o3, c1, c2, c3⟩ := kc.out w' hw'; go_simp; try with_reducible rfl)
            try simp only [Act.put, List.setIfInBounds_toArray, List.set_cons_zero, List.set_cons_succ]
            refine Walk.take (v := ?wv176) rfl rfl (Or.inl ⟨by rfl, ?wy176⟩) ?wr176
            case wy176 => (intro w' hw'; obtain ⟨d0, d1, d2, d3, u0, u1, u2, u3, o0, o1, o2, o3, c1, c2, c3⟩ := kc.out w' hw'; go_simp; try with_reducible rfl)
            try simp only [Act.put, List.setIfInBounds_toArray, List.set_cons_zero, List.set_cons_succ]
            refine Walk.take (v := ?wv177) rfl rfl (Or.inl ⟨by rfl, ?wy177⟩) ?wr177
            case wy177 => (intro w' hw'; obtain ⟨d0, d1, d2, d3, u0, u1, u2, u3, o0, o1, o2, o3, c1, c2, c3⟩ := kc.out w' hw'; go_simp; try with_reducible rfl)
            try simp only [Act.put, List.setIfInBounds_toArray, List.set_cons_zero, List.set_cons_succ]
            refine Walk.take (v := ?wv178) rfl rfl (Or.inl ⟨by rfl, ?wy178⟩) ?wr178
            case wy178 => (intro w' hw'; obtain ⟨d0, d1, d2, d3, u0, u1, u2, u3, o0, o1, o2, o3, c1, c2, c3⟩ := kc.out w' hw'; go_simp; try with_reducible rfl)
            try simp only [Act.put, List.setIfInBounds_toArray, List.set_cons_zero, List.set_cons_succ]
            refine Walk.take (v := ?wv179) rfl rfl (Or.inl ⟨by rfl, ?wy179⟩) ?wr179
            case wy179 => (intro w' hw'; obtain ⟨d0, d1, d2, d3, u0, u1, u2, u3, o0, o1, o2, o3, c1, c2, c3⟩ := kc.out w' hw'; go_simp; try with_reducible rfl)
            try simp only [Act.put, List.setIfInBounds_toArray, List.set_cons_zero, List.set_cons_succ]
            refine Walk.take (v := ?wv180) rfl rfl (Or.inl ⟨by rfl, ?wy180⟩) ?wr180
            case wy180 => (intro w' hw'; obtain ⟨d0, d1, d2, d3, u0, u1, u2, u3, o0, o1, o2, o3, c1, c2, c3⟩ := kc.out w' hw'; go_simp; try with_reducible rfl)
            try simp only [Act.put, List.setIfInBounds_toArray, List.set_cons_zero, List.set_cons_succ]
            refine Walk.take (v := ?wv181) rfl rfl (Or.inl ⟨by rfl, ?wy181⟩) ?wr181
            case wy181 => (intro w' hw'; obtain ⟨d0, d1, d2, d3, u0, u1, u2, u3, o0, o1, o2, o3, c1, c2, c3⟩ := kc.out w' hw'; go_simp; try with_reducible rfl)
            try simp only [Act.put, List.setIfInBounds_toArray, List.set_cons_zero, List.set_cons_succ]
            refine Walk.take (v := ?wv182) rfl rfl (Or.inl ⟨by rfl, ?wy182⟩) ?wr182
            case wy182 => (intro w' hw'; obtain ⟨d0, d1, d2, d3, u0, u1, u2, u3, o0, o1, o2, o3, c1, c2, c3⟩ := kc.out w' hw'; go_simp; try with_reducible rfl)
            try simp only [Act.put, List.setIfInBounds_toArray, List.set_cons_zero, List.set_cons_succ]
            refine Walk.do rfl rfl (by rfl) (fun W1 G1 F1 => ?ws183) (fun v hv => ?wr183)
            case ws183 =>
              obtain ⟨d0, d1, d2, d3, u0, u1, u2, u3, o0, o1, o2, o3, c1, c2, c3⟩ := kc.out W1 G1
              refine doesAt_enter (f := 167) (args := #[.agg #[.bool uv.coef.neg, .slice uv.coef.num.A uv.coef.num.n uv.coef.num.c, .slice uv.coef.den.A uv.coef.den.n uv.coef.den.c], .agg #[.bool c.neg, .slice c.num.A c.num.n c.num.c, .slice c.den.A c.den.n c.den.c]]) (by go_simp; try (first | with_reducible rfl | rfl)) ?_
              refine (rmul_any W1 uv.coef c t.2 q (HU.out.coef.gr (GA.out.trans G1.of_drew)) (HC.out.gr (HG2.out.trans (GA.out.trans G1.of_drew))) (Nat.le_trans (LB.out t (List.mem_cons_self ..)).num (by decide)) (Nat.le_trans LQ.out.num (by decide)) (Nat.lt_of_le_of_lt (Nat.mul_le_mul (LB.out t (List.mem_cons_self ..)).den LQ.out.den) (by decide))).mono ?_
              rintro e w' ⟨m2, rfl, hi, G⟩
              exact ⟨_, rfl, G, m2, rfl, hi⟩
            obtain ⟨_, -, -, ⟨m2, rfl, -⟩⟩ := hv
            try simp only [Act.put, List.setIfInBounds_toArray, List.set_cons_zero, List.set_cons_succ]
            refine Walk.do rfl rfl (by rfl) (fun W1 G1 F1 => ?ws184) (fun v hv => ?wr184)
            case ws184 =>
              obtain ⟨d0, d1, d2, d3, u0, u1, u2, u3, o0, o1, o2, o3, c1, c2, c3⟩ := kc.out W1 G1
              have hm2 := F1 _ (List.mem_of_getElem? (i := 0) rfl) (List.contains_iff_mem.1 (by kernel_rfl))
              have hm2 := Rv.At.is hm2
              refine doesAt_enter (f := 166) (args := #[.agg #[.bool tv.coef.neg, .slice tv.coef.num.A tv.coef.num.n tv.coef.num.c, .slice tv.coef.den.A tv.coef.den.n tv.coef.den.c], .agg #[.bool m2.neg, .slice m2.num.A m2.num.n m2.num.c, .slice m2.den.A m2.den.n m2.den.c]]) (by go_simp; try (first | with_reducible rfl | rfl)) ?_
              refine (radd_any W1 tv.coef m2 s.2 (Q.mul t.2 q) (HT.out.coef.gr (GA.out.trans G1.of_drew)) hm2 (Nat.le_trans (LA.out s (List.mem_cons_self ..)).num (by decide)) (Nat.le_trans ((LB.out t (List.mem_cons_self ..)).bd.mul LQ.out.bd).num (by decide)) (Nat.lt_of_le_of_lt (Nat.mul_le_mul (LA.out s (List.mem_cons_self ..)).den ((LB.out t (List.mem_cons_self ..)).bd.mul LQ.out.bd).den) (by decide))).mono ?_
              rintro e w' ⟨m3, rfl, hi, G⟩
              exact ⟨_, rfl, G, m3, rfl, hi⟩
            obtain ⟨_, -, -, ⟨m3, rfl, -⟩⟩ := hv
            try simp only [Act.put, List.setIfInBounds_toArray, List.set_cons_zero, List.set_cons_succ]
            refine Walk.done (fun W1 G1 F1 => ?_)
            have hm2 := F1 _ (List.mem_of_getElem? (i := 0) rfl)
            have hm3 := F1 _ (List.mem_of_getElem? (i := 1) rfl)
            clear F1
            have kc1 := kc.out W1 G1
            clear kc d0 d1 d2 d3 u0 u1 u2 u3 o0 o1 o2 o3 c1 c2 c3
            obtain ⟨d0, d1, d2, d3, u0, u1, u2, u3, o0, o1, o2, o3, c1, c2, c3⟩ := kc1
            have GB := Lib.hid (GA.out.trans G1.of_drew)
            refine wpAny_one 16 rfl (by kernel_rfl) (by rfl) (fun K hK => ?_)
            refine doesAt_wp (K := fun v W' => ∃ yv : Sv, v = Fv.v ⟨yv, k⟩ ∧ OwnT W' w.heap.size yv (putT acc tv.var (Q.add s.2 (Q.mul t.2 q))) ∧ Fr (fun b => (Value.slice z.A z.n z.c).ownBlock = some b) W1 W') (doesAt_enter (f := 168) (args := #[.agg #[.slice z.A z.n z.c, .bool k.neg, .slice k.num.A k.num.n k.num.c, .slice k.den.A k.den.n k.den.c], .int .i64 tv.var, .agg #[.bool m3.neg, .slice m3.num.A m3.num.n m3.num.c, .slice m3.den.A m3.den.n m3.den.c]]) (by go_simp; try (first | with_reducible rfl | rfl)) ((put_any W1 w.heap.size ⟨z, k⟩ acc (Q.add x.const (Q.mul y.const q)) tv.var m3 (Q.add s.2 (Q.mul t.2 q)) (HZ.out.up (GA.out.trans G1.of_drew)) (HK2.out.gr (GA.out.trans G1.of_drew)) hm3.is (Nat.le_trans HG2.out.size (GA.out.trans G1.of_drew).size) (by have := HL.out; simp only [List.length_cons, List.length_nil] at this; omega) (Nat.le_trans ((LA.out s (List.mem_cons_self ..)).bd.add ((LB.out t (List.mem_cons_self ..)).bd.mul LQ.out.bd) (by decide) (by decide)).num (by decide)) (Nat.lt_of_le_of_lt ((LA.out s (List.mem_cons_self ..)).bd.add ((LB.out t (List.mem_cons_self ..)).bd.mul LQ.out.bd) (by decide) (by decide)).den (by decide))).mono ?_)) ?_
            · rintro e w' ⟨yv, rfl, h1, h2⟩
              exact ⟨_, rfl, yv, rfl, h1, h2⟩
            rintro v w5 ⟨yv, rfl, hy, hF⟩
            refine hK.out _ _ ?_
            clear hK K
            try simp only [Act.put, List.setIfInBounds_toArray, List.set_cons_zero, List.set_cons_succ]
            have hz9 := HZ.out.up GB.out
            have DO3 := Lib.hid (hF.bk (GB.out.bk DO2.out) (fun e => hz9.ne (GB.out.bk DO2.out) (by decide) e))
            have DC3 := Lib.hid (hF.bk (GB.out.bk DC.out) (fun e => hz9.ne (GB.out.bk DC.out) (by decide) e))
            have DR3 := Lib.hid (hF.bk (GB.out.bk DR.out) (fun e => hz9.ne (GB.out.bk DR.out) (by decide) e))
            have hG5 := (HG2.out.trans GB.out).step hF (fun b _ e => (hz9.lt b e).1)
            have hK5 := (HK2.out.gr GB.out).tf hF (fun b cs fr e hh => (by obtain ⟨ts, t1, _⟩ := hz9; obtain ⟨cur, hc⟩ := rw_bk t1 b e; exact Bk.not_ty hc (by decide) _ _ hh))
            have HY5 := Lib.hid hy
            have HK5 := Lib.hid hK5
            have HG5 := Lib.hid hG5
            clear hz9 hy hF hG5 hK5 G1 d0 d1 d2 d3 u0 u1 u2 u3 o0 o1 o2 o3 c1 c2 c3 hm2 hm3
            obtain ⟨o0, o1, o2, o3⟩ := DO3.out.c4
            have oz := DO3.out.frozen
            refine wpAny_one 17 rfl (by kernel_rfl) (by rfl) (fun K hK => ?_)
            go_simp
            refine hK.out _ _ ?_
            clear hK K
            try simp only [Act.put, List.setIfInBounds_toArray, List.set_cons_zero, List.set_cons_succ]
            refine wpAny_end (by kernel_rfl) ?_
            obtain ⟨B5, F5⟩ := DO3.out.put4 (.slice yv.A yv.n yv.c) (.bool k.neg) (.slice k.num.A k.num.n k.num.c) (.slice k.den.A k.den.n k.den.c)
            have HY6 := Lib.hid (HY5.out.fr F5 (fun b cs fr e hh => Bk.not_ty DO3.out (by decide) cs fr (e ▸ hh)) fun b hb e => HY5.out.ne DO3.out (by decide) (e ▸ hb))
            have HK6 := Lib.hid (HK5.out.tf F5 (fun b cs fr e hh => Bk.not_ty DO3.out (by decide) cs fr (e ▸ hh)))
            have HG6 := Lib.hid (HG5.out.fr_at F5 HNO.out)
            have DO6 := Lib.hid B5
            have DC6 := Lib.hid (F5.bk DC3.out (fun e => Bk.ne DO3.out DC3.out (by decide) e.symm))
            have DR6 := Lib.hid (F5.bk DR3.out (fun e => hro.out e.symm))
            clear B5 F5 o0 o1 o2 o3 oz
            generalize (((w5.setCell ⟨o, 0, none⟩ (.slice yv.A yv.n yv.c)).setCell ⟨o, 1, none⟩ (.bool k.neg)).setCell ⟨o, 2, none⟩ (.slice k.num.A k.num.n k.num.c)).setCell ⟨o, 3, none⟩ (.slice k.den.A k.den.n k.den.c) = w6 at *
            have hx1 : (1 : Int) ≤ (xm : Int) + 1 := by omega
            have hy1 : (1 : Int) ≤ (ym : Int) + 1 := by omega
            go_wp2_with fail
            go_upto_region 5 with fail
            refine wp_region_any (by kernel_rfl) ?_
            show wpAny _ _ _ _ 6 _ _ _
            have hst : ∀ p ∈ ([] : List (Nat × (Value → World → Prop))), ∀ (u : Value) (wA0 wB0 : World), Gr w6.drew wA0 → Gr wA0 wB0 → p.2 u wA0 → p.2 u wB0 := by
              intro p hp; cases hp
            refine wpAny_walk (m := 0) (last := #[true, true, true, true, true, true]) [0, 1, 2, 3, 4, 5] [] (by kernel_rfl) (by decide) (by kernel_rfl) hst ?_
            clear hst
            refine Walk.take (v := ?wv185) rfl rfl (Or.inl ⟨by rfl, ?wy185⟩) ?wr185
            case wy185 => (intro w' hw'; go_simp; try with_reducible rfl)
            try simp only [Act.put, List.setIfInBounds_toArray, List.set_cons_zero, List.set_cons_succ]
            refine Walk.take (v := ?wv186) rfl rfl (Or.inl ⟨by rfl, ?wy186⟩) ?wr186
            case wy186 => (intro w' hw'; go_simp; try with_reducible rfl)
            try simp only [Act.put, List.setIfInBounds_toArray, List.set_cons_zero, List.set_cons_succ]
            refine Walk.take (v := ?wv187) rfl rfl (Or.inl ⟨by rfl, ?wy187⟩) ?wr187
            case wy187 => (intro w' hw'; go_simp; try with_reducible rfl)
            try simp only [Act.put, List.setIfInBounds_toArray, List.set_cons_zero, List.set_cons_succ]
            refine Walk.take (v := ?wv188) rfl rfl (Or.inl ⟨by rfl, ?wy188⟩) ?wr188
            case wy188 => (intro w' hw'; go_simp; try with_reducible rfl)
            try simp only [Act.put, List.setIfInBounds_toArray, List.set_cons_zero, List.set_cons_succ]
            refine Walk.take (v := ?wv189) rfl rfl (Or.inl ⟨by rfl, ?wy189⟩) ?wr189
            case wy189 => (intro w' hw'; go_simp; try with_reducible rfl)
            try simp only [Act.put, List.setIfInBounds_toArray, List.set_cons_zero, List.set_cons_succ]
            refine Walk.take (v := ?wv190) rfl rfl (Or.inl ⟨by rfl, ?wy190⟩) ?wr190
            case wy190 => (intro w' hw'; go_simp; try with_reducible rfl)
            try simp only [Act.put, List.setIfInBounds_toArray, List.set_cons_zero, List.set_cons_succ]
            refine Walk.done (fun W1 G1 F1 => ?_)
            clear F1
            refine wpAny_end (by kernel_rfl) ?_
            replace HY6 := Lib.hid (HY6.out.up G1.of_drew)
            replace HK6 := Lib.hid (HK6.out.gr G1.of_drew)
            replace HG6 := Lib.hid (HG6.out.trans G1.of_drew)
            replace DO6 := Lib.hid (G1.of_drew.bk DO6.out)
            replace DC6 := Lib.hid (G1.of_drew.bk DC6.out)
            replace DR6 := Lib.hid (G1.of_drew.bk DR6.out)
            clear G1
            go_wp2
            go_roundw
            · have HY7 := Lib.hid (show OwnT _ w.heap.size yv (putT acc s.1 (Q.add s.2 (Q.mul t.2 q))) from by have := HY6.out; rw [HT.out.var] at this; exact this)
              exact ⟨_, _, yv, la, lb, putT acc s.1 (Q.add s.2 (Q.mul t.2 q)), n - 1, rfl, rfl, TA.out.tail, TB.out.tail, HY7.out, (hM.out.symm.trans HM.out), Lib.hid (by have := Hn.out; simp only [List.length_cons, List.length_nil] at this ⊢; omega), Lib.hid (by have := HL.out; have := putT_len acc s.1 (Q.add s.2 (Q.mul t.2 q)); simp only [List.length_cons, List.length_nil] at *; omega), (fun i hi => LA.out i (List.mem_cons_of_mem _ hi)), (fun i hi => LB.out i (List.mem_cons_of_mem _ hi)), HK6.out, HG6.out, DC6.out, DR6.out, DO6.out⟩
            · simp [lenOf]; try omega
end Go.Proofs.YtcmfepaffhnemaaGreatDoor
