/- Small graphs that bytes describe. -/
import Derived.Test.YtcmfepaffhnemaaGreatDoorMg
import Derived.Test.YtcmfepaffhnemaaGreatDoorMd
import Derived.Test.YtcmfepaffhnemaaGreatDoorMc
import Derived.Deep.RegionHeld3
set_option linter.unusedSimpArgs false
set_option linter.unusedVariables false
namespace Go.Proofs.YtcmfepaffhnemaaGreatDoor
open Go.RowKit

attribute [local go_sem] Oper.semAt_some

/-- What Add makes of the terms. -/
def addT : List Tm → List Tm → List Tm
  | acc, [] => acc
  | acc, t :: r => addT (plusT acc t.1 t.2) r
theorem addT_snoc (t : Tm) : ∀ (l acc : List Tm), addT acc (l ++ [t]) = plusT (addT acc l) t.1 t.2
  | [], acc => rfl
  | s :: l, acc => addT_snoc t l (plusT acc s.1 s.2)
def Fm.addR (f g : Fm) : Fm := ⟨addT f.terms g.terms, Q.add f.const g.const⟩
/-- Numbers that the reference's arithmetic takes, canonical. -/
def Good (t : Tm) : Prop := t.2.Sm ∧ t.2.Ok

set_option maxRecDepth 100000 in
set_option maxHeartbeats 4000000 in
theorem r7add_any (w : World) (f g : Fv) (x y : Fm) (hf : f.Is w x) (hg : g.Is w y) (hx : ∀ n, n ≤ y.terms.length → ∀ t ∈ addT x.terms (y.terms.take n), Good t) (hy : ∀ t ∈ y.terms, Good t) (hk : Good (0, x.const)) (hl : Good (0, y.const)) (hn : x.terms.length + y.terms.length ≤ 900) (hp : ∀ n, n ≤ y.terms.length → (addT x.terms (y.terms.take n)).length ≤ 900) :
    Calls Tryz.prog 24 #[f.v, g.v] w fun e w' => ∃ r : Fv, e = .returned r.v ∧ r.Is w' (Fm.addR x y) ∧ Gr w w' := by
  obtain ⟨⟨gA, gn, gc⟩, gk⟩ := g
  have hgn : y.terms.length = gn := hg.terms.len
  obtain ⟨B1, B2, B3, G⟩ := made3 w 43 43 43 (#[.slice f.terms.A f.terms.n f.terms.c, .bool f.const.neg, .slice f.const.num.A f.const.num.n f.const.num.c, .slice f.const.den.A f.const.den.n f.const.den.c]) (#[.slice gA gn gc, .bool gk.neg, .slice gk.num.A gk.num.n gk.num.c, .slice gk.den.A gk.den.n gk.den.c]) (#[.slice none 0 0, .bool false, .slice none 0 0, .slice none 0 0])
  have HG := Lib.hid G
  have D_p := Lib.hid B1
  have D_g0 := Lib.hid B2
  have D_r := Lib.hid B3
  clear G B1 B2 B3
  have HF := Lib.hid hf
  have HH := Lib.hid hg
  have LX := Lib.hid hx
  have LY := Lib.hid hy
  have LK := Lib.hid hk
  have LL := Lib.hid hl
  have LN := Lib.hid hn
  have LP := Lib.hid hp
  have HGN := Lib.hid hgn
  clear hf hg hx hy hk hl hn hgn hp
  simp only [Rv.v, Fv.v] at *
  go_enter Tryz.func24, Tryz.ntmps24
  go_upto_region 1 with fail
  generalize hW : ((w.alloc (.cells #[.slice f.terms.A f.terms.n f.terms.c, .bool f.const.neg, .slice f.const.num.A f.const.num.n f.const.num.c, .slice f.const.den.A f.const.den.n f.const.den.c] 43)).alloc (.cells #[.slice gA gn gc, .bool gk.neg, .slice gk.num.A gk.num.n gk.num.c, .slice gk.den.A gk.den.n gk.den.c] 43)).alloc (.cells #[.slice none 0 0, .bool false, .slice none 0 0, .slice none 0 0] 43) = W at *
  clear hW
  have N_p : Hid (w.heap.size ≤ w.heap.size) := (by show w.heap.size ≤ w.heap.size; omega)
  have N_g0 : Hid (w.heap.size ≤ w.heap.size + 1) := (by show w.heap.size ≤ w.heap.size + 1; omega)
  have N_r : Hid (w.heap.size ≤ w.heap.size + 1 + 1) := (by show w.heap.size ≤ w.heap.size + 1 + 1; omega)
  generalize w.heap.size + 1 + 1 = r at *
  generalize w.heap.size + 1 = g0 at *
  have HG9 := Lib.hid HG.out.size
  have HRL := Lib.hid D_r.out.lt
  obtain ⟨a0, a1, a2, a3⟩ := D_p.out.c4
  obtain ⟨b0, b1, b2, b3⟩ := D_g0.out.c4
  refine wp_region_any (by kernel_rfl) ?_
  have kc := Lib.hid (fun (W' : World) (G : Gr W.drew W') => And.intro (G.keep a0) (And.intro (G.keep a1) (And.intro (G.keep a2) (And.intro (G.keep a3) (And.intro (G.keep b0) (And.intro (G.keep b1) (And.intro (G.keep b2) (G.keep b3))))))))
  have hst : ∀ p ∈ ([(6, Rv.At (Q.add x.const y.const)), (8, NewAt 43 #[.slice none 0 0, .bool false, .slice none 0 0, .slice none 0 0] W.heap.size)] : List (Nat × (Value → World → Prop))), ∀ (u : Value) (wA0 wB0 : World), Gr W.drew wA0 → Gr wA0 wB0 → p.2 u wA0 → p.2 u wB0 := by
    intro p hp u wA0 wB0 h0 G h
    simp only [List.mem_cons, List.not_mem_nil, or_false] at hp
    rcases hp with rfl | rfl
    · exact Rv.At.gr h G
    · exact NewAt.gr h G
  refine wpAny_walk (m := 1) (last := #[true, true, true, true, true, true, true, true, true, false]) [0, 1, 2, 3, 4, 5, 6, 7, 8] [(6, Rv.At (Q.add x.const y.const)), (8, NewAt 43 #[.slice none 0 0, .bool false, .slice none 0 0, .slice none 0 0] W.heap.size)] (by kernel_rfl) (by decide) (by kernel_rfl) hst ?_
  clear hst
  refine Walk.take (v := ?wv1) rfl rfl (Or.inl ⟨by rfl, ?wy1⟩) ?wr1
  case wy1 => (intro w' hw'; obtain ⟨a0, a1, a2, a3, b0, b1, b2, b3⟩ := kc.out w' hw'; go_simp; try with_reducible rfl)
  try simp only [Act.put, List.setIfInBounds_toArray, List.set_cons_zero, List.set_cons_succ]
  refine Walk.take (v := ?wv2) rfl rfl (Or.inl ⟨by rfl, ?wy2⟩) ?wr2
  case wy2 => (intro w' hw'; obtain ⟨a0, a1, a2, a3, b0, b1, b2, b3⟩ := kc.out w' hw'; go_simp; try with_reducible rfl)
  try simp only [Act.put, List.setIfInBounds_toArray, List.set_cons_zero, List.set_cons_succ]
  refine Walk.take (v := ?wv3) rfl rfl (Or.inl ⟨by rfl, ?wy3⟩) ?wr3
  case wy3 => (intro w' hw'; obtain ⟨a0, a1, a2, a3, b0, b1, b2, b3⟩ := kc.out w' hw'; go_simp; try with_reducible rfl)
  try simp only [Act.put, List.setIfInBounds_toArray, List.set_cons_zero, List.set_cons_succ]
  refine Walk.take (v := ?wv4) rfl rfl (Or.inl ⟨by rfl, ?wy4⟩) ?wr4
  case wy4 => (intro w' hw'; obtain ⟨a0, a1, a2, a3, b0, b1, b2, b3⟩ := kc.out w' hw'; go_simp; try with_reducible rfl)
  try simp only [Act.put, List.setIfInBounds_toArray, List.set_cons_zero, List.set_cons_succ]
  refine Walk.take (v := ?wv5) rfl rfl (Or.inl ⟨by rfl, ?wy5⟩) ?wr5
  case wy5 => (intro w' hw'; obtain ⟨a0, a1, a2, a3, b0, b1, b2, b3⟩ := kc.out w' hw'; go_simp; try with_reducible rfl)
  try simp only [Act.put, List.setIfInBounds_toArray, List.set_cons_zero, List.set_cons_succ]
  refine Walk.take (v := ?wv6) rfl rfl (Or.inl ⟨by rfl, ?wy6⟩) ?wr6
  case wy6 => (intro w' hw'; obtain ⟨a0, a1, a2, a3, b0, b1, b2, b3⟩ := kc.out w' hw'; go_simp; try with_reducible rfl)
  try simp only [Act.put, List.setIfInBounds_toArray, List.set_cons_zero, List.set_cons_succ]
  refine Walk.do rfl rfl (by rfl) (fun W1 G1 F1 => ?ws7) (fun v hv => ?wr7)
  case ws7 =>
    obtain ⟨a0, a1, a2, a3, b0, b1, b2, b3⟩ := kc.out W1 G1
    refine doesAt_enter (f := 45) (args := #[.agg #[.bool f.const.neg, .slice f.const.num.A f.const.num.n f.const.num.c, .slice f.const.den.A f.const.den.n f.const.den.c], .agg #[.bool gk.neg, .slice gk.num.A gk.num.n gk.num.c, .slice gk.den.A gk.den.n gk.den.c]]) (by go_simp; try (first | with_reducible rfl | rfl)) ?_
    refine (r3add_any W1 f.const gk x.const y.const (HF.out.const.gr (HG.out.trans G1.of_drew)) (HH.out.const.gr (HG.out.trans G1.of_drew)) LK.out.2 LL.out.2 LK.out.1.b31.1 LL.out.1.b31.1 LK.out.1.b31.2 LL.out.1.b31.2).mono ?_
    rintro e w' ⟨k, rfl, hi, G⟩
    exact ⟨_, rfl, G, k, rfl, hi⟩
  obtain ⟨_, -, -, ⟨k, rfl, -⟩⟩ := hv
  try simp only [Act.put, List.setIfInBounds_toArray, List.set_cons_zero, List.set_cons_succ]
  refine Walk.take (v := ?wv8) rfl rfl (Or.inl ⟨by rfl, ?wy8⟩) ?wr8
  case wy8 => (intro w' hw'; obtain ⟨a0, a1, a2, a3, b0, b1, b2, b3⟩ := kc.out w' hw'; go_simp; try with_reducible rfl)
  try simp only [Act.put, List.setIfInBounds_toArray, List.set_cons_zero, List.set_cons_succ]
  refine Walk.do rfl rfl (by rfl) (fun W1 G1 F1 => ?ws9) (fun v hv => ?wr9)
  case ws9 =>
    obtain ⟨a0, a1, a2, a3, b0, b1, b2, b3⟩ := kc.out W1 G1
    refine doesAt_value (v := .pointer (some ⟨W1.heap.size, 0, none⟩)) (W' := W1.alloc (.cells #[.slice none 0 0, .bool false, .slice none 0 0, .slice none 0 0] 43)) (by go_simp; try (first | with_reducible rfl | rfl)) ?_
    exact ⟨(Gr.refl W1).alloc _, NewAt.made W1 _ _ _ (Nat.le_trans (Nat.le_refl _) G1.of_drew.size)⟩
  obtain ⟨_, -, -, ⟨o, rfl, -, -⟩⟩ := hv
  try simp only [Act.put, List.setIfInBounds_toArray, List.set_cons_zero, List.set_cons_succ]
  refine Walk.done (fun W1 G1 F1 => ?_)
  have hk := F1 _ (List.mem_of_getElem? (i := 0) rfl)
  have ho := F1 _ (List.mem_of_getElem? (i := 1) rfl)
  clear F1
  have kc1 := kc.out W1 G1
  clear kc a0 a1 a2 a3 b0 b1 b2 b3
  obtain ⟨a0, a1, a2, a3, b0, b1, b2, b3⟩ := kc1
  refine wpAny_one 9 rfl (by kernel_rfl) (by rfl) (fun K hK => ?_)
  have hN := ho.is
  have fz := hN.1.frozen
  obtain ⟨o0, o1, o2, o3⟩ := hN.1.c4
  go_simp
  refine hK.out _ _ ?_
  clear hK K
  try simp only [Act.put, List.setIfInBounds_toArray, List.set_cons_zero, List.set_cons_succ]
  refine wpAny_end (by kernel_rfl) ?_
  obtain ⟨ho, hoN⟩ := ho.is
  obtain ⟨B5, F5⟩ := ho.put4 (.slice f.terms.A f.terms.n f.terms.c) (.bool k.neg) (.slice k.num.A k.num.n k.num.c) (.slice k.den.A k.den.n k.den.c)
  have HK := Lib.hid (Fv.Is.tf' (f := ⟨f.terms, k⟩) (x := ⟨x.terms, Q.add x.const y.const⟩) ⟨HF.out.terms.gr (HG.out.trans G1.of_drew), hk.is⟩ F5 ho (by decide) (by decide))
  have DO := Lib.hid B5
  have HNO := Lib.hid (Nat.le_trans HG9.out hoN)
  have hro := Lib.hid (show ¬ o = r from fun e => Nat.lt_irrefl _ (Nat.lt_of_lt_of_le (e ▸ HRL.out) hoN))
  have hgo := Lib.hid (show ¬ o = g0 from fun e => Nat.lt_irrefl _ (Nat.lt_of_lt_of_le (e ▸ D_g0.out.lt) hoN))
  replace HG := Lib.hid ((HG.out.trans G1.of_drew).fr_at F5 HNO.out)
  replace D_g0 := Lib.hid (F5.bk (G1.of_drew.bk D_g0.out) (Nat.ne_of_lt (Nat.lt_of_lt_of_le D_g0.out.lt hoN)))
  replace D_r := Lib.hid (F5.bk (G1.of_drew.bk D_r.out) (Nat.ne_of_lt (Nat.lt_of_lt_of_le D_r.out.lt hoN)))
  clear hk ho hoN G1 B5 F5 a0 a1 a2 a3 b0 b1 b2 b3 D_p
  generalize (((W1.setCell ⟨o, 0, none⟩ (.slice f.terms.A f.terms.n f.terms.c)).setCell ⟨o, 1, none⟩ (.bool k.neg)).setCell ⟨o, 2, none⟩ (.slice k.num.A k.num.n k.num.c)).setCell ⟨o, 3, none⟩ (.slice k.den.A k.den.n k.den.c) = W2 at *
  go_wp2_with fail
  go_loopw [6] (fun i wr => ∃ (k : Nat) (z : Fv) (acc : Fm), i = .int .i64 k ∧ k ≤ gn ∧ Hid (z.Is wr acc) ∧ Hid (acc.terms = addT x.terms (y.terms.take k)) ∧ Hid (addT acc.terms (y.terms.drop k) = addT x.terms y.terms) ∧ Hid (acc.const = Q.add x.const y.const) ∧ Hid (Gr w wr) ∧ Hid (Bk wr o 43 #[.slice z.terms.A z.terms.n z.terms.c, .bool z.const.neg, .slice z.const.num.A z.const.num.n z.const.num.c, .slice z.const.den.A z.const.den.n z.const.den.c]) ∧ Hid (Bk wr g0 43 #[.slice gA gn gc, .bool gk.neg, .slice gk.num.A gk.num.n gk.num.c, .slice gk.den.A gk.den.n gk.den.c]) ∧ Hid (Bk wr r 43 #[.slice none 0 0, .bool false, .slice none 0 0, .slice none 0 0])) (fun i _ => gn - (intOf i).toNat)
  case atStart => exact ⟨0, ⟨f.terms, k⟩, ⟨x.terms, Q.add x.const y.const⟩, rfl, Nat.zero_le _, HK, rfl, rfl, rfl, HG, DO, D_g0, D_r⟩
  case round =>
    obtain ⟨n, z, acc, rfl, hn, HZ, HAC, HAD, HCO, HG2, DO2, DG, DR2⟩ := hrel
    clear HG HK DO D_g0 D_r
    obtain ⟨b0, b1, b2, b3⟩ := DG.out.c4
    by_cases hng : n < gn
    · obtain ⟨s, hs⟩ : ∃ s, y.terms[n]? = some s := ⟨_, List.getElem?_eq_getElem (by rw [HGN.out]; exact hng)⟩
      obtain ⟨t, ad, ht, hA, d0, d1, d2, d3⟩ := (HH.out.terms.gr HG2.out).at hs
      simp only at hA
      subst hA
      have HT := Lib.hid ht
      have HV := Lib.hid ht.var
      have HSG := Lib.hid (LY.out s (List.mem_of_getElem? hs))
      have HAL : Hid (∀ t ∈ acc.terms, Good t) := by rw [HAC.out]; exact LX.out n (by rw [HGN.out]; exact hn)
      have HLN : Hid (acc.terms.length ≤ 900) := by rw [HAC.out]; exact LP.out n (by rw [HGN.out]; exact hn)
      have HTK : Hid (plusT acc.terms s.1 s.2 = addT x.terms (y.terms.take (n + 1))) := by rw [List.take_add_one, hs, HAC.out]; exact (addT_snoc s _ _).symm
      have HDR : Hid (addT (plusT acc.terms s.1 s.2) (y.terms.drop (n + 1)) = addT x.terms y.terms) := by rw [← HAD.out, show y.terms.drop n = s :: y.terms.drop (n + 1) from by rw [List.drop_eq_getElem?_toList_append, hs]; rfl]; exact rfl
      have hm9 : n < 900 := by have := LN.out; have := HGN.out; omega
      clear hs ht
      obtain ⟨o0, o1, o2, o3⟩ := DO2.out.c4
      go_wp2_with fail
      go_upto_region 5 with fail
      refine wp_region_any (by kernel_rfl) ?_
      have kc := Lib.hid (fun (W' : World) (G : Gr wr.drew W') => And.intro (G.keep o0) (And.intro (G.keep o1) (And.intro (G.keep o2) (And.intro (G.keep o3) (And.intro (G.keep b0) (And.intro (G.keep b1) (And.intro (G.keep b2) (And.intro (G.keep b3) (And.intro (G.keep d0) (And.intro (G.keep d1) (And.intro (G.keep d2) (G.keep d3))))))))))))
      have hst : ∀ p ∈ ([(13, Fv.At (⟨plusT acc.terms s.1 s.2, acc.const⟩))] : List (Nat × (Value → World → Prop))), ∀ (u : Value) (wA0 wB0 : World), Gr wr.drew wA0 → Gr wA0 wB0 → p.2 u wA0 → p.2 u wB0 := by
        intro p hp u wA0 wB0 h0 G h
        simp only [List.mem_cons, List.not_mem_nil, or_false] at hp
        subst hp
        · exact Fv.At.gr h G
      refine wpAny_walk (m := 1) (last := #[true, true, true, true, true, true, true, true, true, true, true, true, true, true, false]) [0, 1, 2, 3, 4, 5, 6, 7, 8, 9, 10, 11, 12, 13] [(13, Fv.At (⟨plusT acc.terms s.1 s.2, acc.const⟩))] (by kernel_rfl) (by decide) (by kernel_rfl) hst ?_
      clear hst
      refine Walk.take (v := ?wv10) rfl rfl (Or.inl ⟨by rfl, ?wy10⟩) ?wr10
      case wy10 => (intro w' hw'; obtain ⟨o0, o1, o2, o3, b0, b1, b2, b3, d0, d1, d2, d3⟩ := kc.out w' hw'; go_simp; try with_reducible rfl)
      try simp only [Act.put, List.setIfInBounds_toArray, List.set_cons_zero, List.set_cons_succ]
      refine Walk.take (v := ?wv11) rfl rfl (Or.inl ⟨by rfl, ?wy11⟩) ?wr11
      case wy11 => (intro w' hw'; obtain ⟨o0, o1, o2, o3, b0, b1, b2, b3, d0, d1, d2, d3⟩ := kc.out w' hw'; go_simp; try with_reducible rfl)
      try simp only [Act.put, List.setIfInBounds_toArray, List.set_cons_zero, List.set_cons_succ]
      refine Walk.take (v := ?wv12) rfl rfl (Or.inl ⟨by rfl, ?wy12⟩) ?wr12
      case wy12 => (intro w' hw'; obtain ⟨o0, o1, o2, o3, b0, b1, b2, b3, d0, d1, d2, d3⟩ := kc.out w' hw'; go_simp; try with_reducible rfl)
      try simp only [Act.put, List.setIfInBounds_toArray, List.set_cons_zero, List.set_cons_succ]
      refine Walk.take (v := ?wv13) rfl rfl (Or.inl ⟨by rfl, ?wy13⟩) ?wr13
      case wy13 => (intro w' hw'; obtain ⟨o0, o1, o2, o3, b0, b1, b2, b3, d0, d1, d2, d3⟩ := kc.out w' hw'; go_simp; try with_reducible rfl)
      try simp only [Act.put, List.setIfInBounds_toArray, List.set_cons_zero, List.set_cons_succ]
      refine Walk.take (v := ?wv14) rfl rfl (Or.inl ⟨by rfl, ?wy14⟩) ?wr14
      case wy14 => (intro w' hw'; obtain ⟨o0, o1, o2, o3, b0, b1, b2, b3, d0, d1, d2, d3⟩ := kc.out w' hw'; go_simp; try with_reducible rfl)
      try simp only [Act.put, List.setIfInBounds_toArray, List.set_cons_zero, List.set_cons_succ]
      refine Walk.take (v := ?wv15) rfl rfl (Or.inl ⟨by rfl, ?wy15⟩) ?wr15
      case wy15 => (intro w' hw'; obtain ⟨o0, o1, o2, o3, b0, b1, b2, b3, d0, d1, d2, d3⟩ := kc.out w' hw'; go_simp; try with_reducible rfl)
      try simp only [Act.put, List.setIfInBounds_toArray, List.set_cons_zero, List.set_cons_succ]
      refine Walk.take (v := ?wv16) rfl rfl (Or.inl ⟨by rfl, ?wy16⟩) ?wr16
      case wy16 => (intro w' hw'; obtain ⟨o0, o1, o2, o3, b0, b1, b2, b3, d0, d1, d2, d3⟩ := kc.out w' hw'; go_simp; try with_reducible rfl)
      try simp only [Act.put, List.setIfInBounds_toArray, List.set_cons_zero, List.set_cons_succ]
      refine Walk.take (v := ?wv17) rfl rfl (Or.inl ⟨by rfl, ?wy17⟩) ?wr17
      case wy17 => (intro w' hw'; obtain ⟨o0, o1, o2, o3, b0, b1, b2, b3, d0, d1, d2, d3⟩ := kc.out w' hw'; go_simp; try with_reducible rfl)
      try simp only [Act.put, List.setIfInBounds_toArray, List.set_cons_zero, List.set_cons_succ]
      refine Walk.take (v := ?wv18) rfl rfl (Or.inl ⟨by rfl, ?wy18⟩) ?wr18
      case wy18 => (intro w' hw'; obtain ⟨o0, o1, o2, o3, b0, b1, b2, b3, d0, d1, d2, d3⟩ := kc.out w' hw'; go_simp; try with_reducible rfl)
      try simp only [Act.put, List.setIfInBounds_toArray, List.set_cons_zero, List.set_cons_succ]
      refine Walk.take (v := ?wv19) rfl rfl (Or.inl ⟨by rfl, ?wy19⟩) ?wr19
      case wy19 => (intro w' hw'; obtain ⟨o0, o1, o2, o3, b0, b1, b2, b3, d0, d1, d2, d3⟩ := kc.out w' hw'; go_simp; try with_reducible rfl)
      try simp only [Act.put, List.setIfInBounds_toArray, List.set_cons_zero, List.set_cons_succ]
      refine Walk.take (v := ?wv20) rfl rfl (Or.inl ⟨by rfl, ?wy20⟩) ?wr20
      case wy20 => (intro w' hw'; obtain ⟨o0, o1, o2, o3, b0, b1, b2, b3, d0, d1, d2, d3⟩ := kc.out w' hw'; go_simp; try with_reducible rfl)
      try simp only [Act.put, List.setIfInBounds_toArray, List.set_cons_zero, List.set_cons_succ]
      refine Walk.take (v := ?wv21) rfl rfl (Or.inl ⟨by rfl, ?wy21⟩) ?wr21
      case wy21 => (intro w' hw'; obtain ⟨o0, o1, o2, o3, b0, b1, b2, b3, d0, d1, d2, d3⟩ := kc.out w' hw'; go_simp; try with_reducible rfl)
      try simp only [Act.put, List.setIfInBounds_toArray, List.set_cons_zero, List.set_cons_succ]
      refine Walk.take (v := ?wv22) rfl rfl (Or.inl ⟨by rfl, ?wy22⟩) ?wr22
      case wy22 => (intro w' hw'; obtain ⟨o0, o1, o2, o3, b0, b1, b2, b3, d0, d1, d2, d3⟩ := kc.out w' hw'; go_simp; try with_reducible rfl)
      try simp only [Act.put, List.setIfInBounds_toArray, List.set_cons_zero, List.set_cons_succ]
      refine Walk.do rfl rfl (by rfl) (fun W1 G1 F1 => ?ws23) (fun v hv => ?wr23)
      case ws23 =>
        obtain ⟨o0, o1, o2, o3, b0, b1, b2, b3, d0, d1, d2, d3⟩ := kc.out W1 G1
        refine doesAt_enter (f := 46) (args := #[.agg #[.slice z.terms.A z.terms.n z.terms.c, .bool z.const.neg, .slice z.const.num.A z.const.num.n z.const.num.c, .slice z.const.den.A z.const.den.n z.const.den.c], .int .i64 t.var, .agg #[.bool t.coef.neg, .slice t.coef.num.A t.coef.num.n t.coef.num.c, .slice t.coef.den.A t.coef.den.n t.coef.den.c]]) (by go_simp; try (first | with_reducible rfl | rfl)) ?_
        refine ((show Calls _ _ _ _ _ from by rw [HV.out]; exact plus_any W1 z t.coef acc s.1 s.2 (HZ.out.gr G1.of_drew) (HT.out.coef.gr G1.of_drew) HAL.out HSG.out.1 HSG.out.2 (by have := HLN.out; omega))).mono ?_
        rintro e w' ⟨y1, rfl, hi, G⟩
        exact ⟨_, rfl, G, y1, rfl, hi⟩
      obtain ⟨_, -, -, ⟨y1, rfl, -⟩⟩ := hv
      try simp only [Act.put, List.setIfInBounds_toArray, List.set_cons_zero, List.set_cons_succ]
      refine Walk.done (fun W1 G1 F1 => ?_)
      have hz2 := F1 _ (List.mem_of_getElem? (i := 0) rfl)
      clear F1
      have kc1 := kc.out W1 G1
      clear kc o0 o1 o2 o3 b0 b1 b2 b3 d0 d1 d2 d3
      obtain ⟨o0, o1, o2, o3, b0, b1, b2, b3, d0, d1, d2, d3⟩ := kc1
      have hR5 := G1.of_drew.bk DO2.out
      refine wpAny_one 14 rfl (by kernel_rfl) (by rfl) (fun K hK => ?_)
      have fz5 := hR5.frozen
      obtain ⟨z50, z51, z52, z53⟩ := hR5.c4
      go_simp
      refine hK.out _ _ ?_
      clear hK K
      try simp only [Act.put, List.setIfInBounds_toArray, List.set_cons_zero, List.set_cons_succ]
      refine wpAny_end (by kernel_rfl) ?_
      obtain ⟨B5, F5⟩ := hR5.put4 (.slice y1.terms.A y1.terms.n y1.terms.c) (.bool y1.const.neg) (.slice y1.const.num.A y1.const.num.n y1.const.num.c) (.slice y1.const.den.A y1.const.den.n y1.const.den.c)
      have H5 := Lib.hid F5
      have D5 := Lib.hid B5
      obtain ⟨d0, d1, d2, d3⟩ := B5.c4
      clear F5 B5
      generalize (((W1.setCell ⟨o, 0, none⟩ (.slice y1.terms.A y1.terms.n y1.terms.c)).setCell ⟨o, 1, none⟩ (.bool y1.const.neg)).setCell ⟨o, 2, none⟩ (.slice y1.const.num.A y1.const.num.n y1.const.num.c)).setCell ⟨o, 3, none⟩ (.slice y1.const.den.A y1.const.den.n y1.const.den.c) = W5 at *
      have HY := Lib.hid (hz2.is.tf' H5.out hR5 (by decide) (by decide))
      have HG5 := Lib.hid ((HG2.out.trans G1.of_drew).fr_at H5.out HNO.out)
      have DG5 := Lib.hid (H5.out.bk (G1.of_drew.bk DG.out) (fun e => hgo.out e.symm))
      have DR5 := Lib.hid (H5.out.bk (G1.of_drew.bk DR2.out) (fun e => hro.out e.symm))
      clear hz2 G1 hR5 H5 d0 d1 d2 d3 o0 o1 o2 o3 b0 b1 b2 b3
      go_wp2
      go_roundw
      · exact ⟨n + 1, y1, ⟨plusT acc.terms s.1 s.2, acc.const⟩, by go_num, by omega, HY, HTK, HDR, HCO, HG5, D5, DG5, DR5⟩
      · simp [intOf]; omega
    · obtain rfl : n = gn := by omega
      have hAE : Hid (acc.terms = addT x.terms y.terms) := by rw [← HAD.out, List.drop_eq_nil_of_le (by rw [HGN.out]; exact Nat.le_refl _)]; exact rfl
      have HT := Lib.hid HZ.out.terms
      rw [hAE] at HT
      have HCC := Lib.hid HZ.out.const
      rw [HCO.out] at HCC
      have HLN : Hid ((addT x.terms y.terms).length ≤ 900) := by have := LP.out y.terms.length (Nat.le_refl _); rw [List.take_length] at this; exact this
      have HSZ := Lib.hid HG2.out.size
      clear hAE
      obtain ⟨zt, zk⟩ := z
      have htn : (addT x.terms y.terms).length = zt.n := HT.out.len
      have HTN := Lib.hid htn
      obtain ⟨o0, o1, o2, o3⟩ := DO2.out.c4
      go_wp2_with fail
      go_upto_region 6 with fail
      clear b0 b1 b2 b3
      refine wp_region_any (by kernel_rfl) ?_
      have kc := Lib.hid (fun (W' : World) (G : Gr wr.drew W') => And.intro (G.keep o0) (And.intro (G.keep o1) (And.intro (G.keep o2) (G.keep o3))))
      have hst : ∀ p ∈ ([(0, NoRow), (3, Terms.At (addT x.terms y.terms))] : List (Nat × (Value → World → Prop))), ∀ (u : Value) (wA0 wB0 : World), Gr wr.drew wA0 → Gr wA0 wB0 → p.2 u wA0 → p.2 u wB0 := by
        intro p hp u wA0 wB0 h0 G h
        simp only [List.mem_cons, List.not_mem_nil, or_false] at hp
        rcases hp with rfl | rfl
        · exact h
        · exact Terms.At.gr h G
      refine wpAny_walk (m := 1) (last := #[true, true, true, true, true, true, true, false]) [0, 1, 2, 3, 4, 5, 6] [(0, NoRow), (3, Terms.At (addT x.terms y.terms))] (by kernel_rfl) (by decide) (by kernel_rfl) hst ?_
      clear hst
      refine Walk.do rfl rfl (by rfl) (fun W1 G1 F1 => ?ws24) (fun v hv => ?wr24)
      case ws24 =>
        obtain ⟨o0, o1, o2, o3⟩ := kc.out W1 G1
        refine doesAt_value (v := .slice (some ⟨W1.heap.size, 0, none⟩) 0 0) (W' := W1.alloc (.cells #[] 104)) (by go_simp; try (first | with_reducible rfl | rfl)) ?_
        exact ⟨(Gr.refl W1).alloc _, _, rfl⟩
      obtain ⟨_, -, -, ⟨b, rfl⟩⟩ := hv
      try simp only [Act.put, List.setIfInBounds_toArray, List.set_cons_zero, List.set_cons_succ]
      refine Walk.take (v := ?wv25) rfl rfl (Or.inl ⟨by rfl, ?wy25⟩) ?wr25
      case wy25 => (intro w' hw'; obtain ⟨o0, o1, o2, o3⟩ := kc.out w' hw'; go_simp; try with_reducible rfl)
      try simp only [Act.put, List.setIfInBounds_toArray, List.set_cons_zero, List.set_cons_succ]
      refine Walk.take (v := ?wv26) rfl rfl (Or.inl ⟨by rfl, ?wy26⟩) ?wr26
      case wy26 => (intro w' hw'; obtain ⟨o0, o1, o2, o3⟩ := kc.out w' hw'; go_simp; try with_reducible rfl)
      try simp only [Act.put, List.setIfInBounds_toArray, List.set_cons_zero, List.set_cons_succ]
      refine Walk.do rfl rfl (by rfl) (fun W1 G1 F1 => ?ws27) (fun v hv => ?wr27)
      case ws27 =>
        obtain ⟨o0, o1, o2, o3⟩ := kc.out W1 G1
        exact Rows.app0 elemT _ _ (by rfl) (some ⟨b, 0, none⟩) zt (addT x.terms y.terms) (by rfl) (by rfl) (HT.out.gr G1.of_drew) (fun h G => h.gr G) Tv.one (by unfold maxLen; have := HTN.out; have := HLN.out; omega) (by have := HTN.out; have := HLN.out; omega) (fun yy ww _ hy hg => ⟨hg, yy, rfl, hy⟩)
      obtain ⟨_, -, -, ⟨yv, rfl, -⟩⟩ := hv
      try simp only [Act.put, List.setIfInBounds_toArray, List.set_cons_zero, List.set_cons_succ]
      refine Walk.take (v := ?wv28) rfl rfl (Or.inl ⟨by rfl, ?wy28⟩) ?wr28
      case wy28 => (intro w' hw'; obtain ⟨o0, o1, o2, o3⟩ := kc.out w' hw'; go_simp; try with_reducible rfl)
      try simp only [Act.put, List.setIfInBounds_toArray, List.set_cons_zero, List.set_cons_succ]
      refine Walk.take (v := ?wv29) rfl rfl (Or.inl ⟨by rfl, ?wy29⟩) ?wr29
      case wy29 => (intro w' hw'; obtain ⟨o0, o1, o2, o3⟩ := kc.out w' hw'; go_simp; try with_reducible rfl)
      try simp only [Act.put, List.setIfInBounds_toArray, List.set_cons_zero, List.set_cons_succ]
      refine Walk.take (v := ?wv30) rfl rfl (Or.inl ⟨by rfl, ?wy30⟩) ?wr30
      case wy30 => (intro w' hw'; obtain ⟨o0, o1, o2, o3⟩ := kc.out w' hw'; go_simp; try with_reducible rfl)
      try simp only [Act.put, List.setIfInBounds_toArray, List.set_cons_zero, List.set_cons_succ]
      refine Walk.done (fun W1 G1 F1 => ?_)
      have hyv := F1 _ (List.mem_of_getElem? (i := 1) rfl)
      clear F1
      have kc1 := kc.out W1 G1
      clear kc o0 o1 o2 o3
      obtain ⟨o0, o1, o2, o3⟩ := kc1
      have hR5 := G1.of_drew.bk DR2.out
      refine wpAny_one 7 rfl (by kernel_rfl) (by rfl) (fun K hK => ?_)
      have fz5 := hR5.frozen
      obtain ⟨z50, z51, z52, z53⟩ := hR5.c4
      go_simp
      refine hK.out _ _ ?_
      clear hK K
      try simp only [Act.put, List.setIfInBounds_toArray, List.set_cons_zero, List.set_cons_succ]
      refine wpAny_end (by kernel_rfl) ?_
      obtain ⟨B5, F5⟩ := hR5.put4 (.slice yv.A yv.n yv.c) (.bool zk.neg) (.slice zk.num.A zk.num.n zk.num.c) (.slice zk.den.A zk.den.n zk.den.c)
      have H5 := Lib.hid F5
      have D5 := Lib.hid B5
      obtain ⟨d0, d1, d2, d3⟩ := B5.c4
      clear F5 B5
      generalize (((W1.setCell ⟨r, 0, none⟩ (.slice yv.A yv.n yv.c)).setCell ⟨r, 1, none⟩ (.bool zk.neg)).setCell ⟨r, 2, none⟩ (.slice zk.num.A zk.num.n zk.num.c)).setCell ⟨r, 3, none⟩ (.slice zk.den.A zk.den.n zk.den.c) = W5 at *
      go_wp2
      (try simp only [Exit.inBlock, Exit.then])
      refine bodyPost_ret (by simp [results, Tryz.results24, go_sem, d0, d1, d2, d3]; try rfl) rfl ?_
      exact ⟨⟨yv, zk⟩, rfl, Fv.Is.tf' (f := ⟨yv, zk⟩) (x := Fm.addR x y) ⟨hyv.is, HCC.out.gr G1.of_drew⟩ H5.out hR5 (by decide) (by decide), (HG2.out.trans G1.of_drew).fr_at H5.out N_r.out⟩
end Go.Proofs.YtcmfepaffhnemaaGreatDoor

set_option linter.unusedVariables false
namespace Go.Proofs.YtcmfepaffhnemaaGreatDoor
open Go.RowKit

attribute [local go_sem] Oper.semAt_some

/-- What Scale makes of the terms. -/
def scaleT (c : Q) : List Tm → List Tm → List Tm
  | acc, [] => acc
  | acc, t :: r => scaleT c (snoc acc t.1 (Q.mul t.2 c)) r
def Fm.scaleR (f : Fm) (c : Q) : Fm := ⟨scaleT c [] f.terms, Q.mul f.const c⟩

set_option maxRecDepth 100000 in
set_option maxHeartbeats 4000000 in
theorem r7scale_any (w : World) (f : Fv) (c : Rv) (x : Fm) (q : Q) (hf : f.Is w x) (hc : c.Is w q) (hx : ∀ t ∈ x.terms, t.2.Sm) (hk : x.const.Sm) (hq : q.Sm) (hn : x.terms.length ≤ 900) :
    Calls Tryz.prog 25 #[f.v, c.v] w fun e w' => ∃ r : Fv, e = .returned r.v ∧ r.Is w' (Fm.scaleR x q) ∧ Gr w w' := by
  obtain ⟨⟨xA, xn, xc⟩, fc⟩ := f
  have hxn : x.terms.length = xn := hf.terms.len
  obtain ⟨B1, B2, B3, G⟩ := made3 w 43 41 43 (#[.slice xA xn xc, .bool fc.neg, .slice fc.num.A fc.num.n fc.num.c, .slice fc.den.A fc.den.n fc.den.c]) (#[.bool c.neg, .slice c.num.A c.num.n c.num.c, .slice c.den.A c.den.n c.den.c]) (#[.slice none 0 0, .bool false, .slice none 0 0, .slice none 0 0])
  have HG := Lib.hid G
  have D_p := Lib.hid B1
  have D_c0 := Lib.hid B2
  have D_r := Lib.hid B3
  clear G B1 B2 B3
  have HF := Lib.hid hf
  have HC := Lib.hid hc
  have LX := Lib.hid hx
  have LK := Lib.hid hk
  have HQ := Lib.hid hq
  have HXN := Lib.hid hxn
  have hxn9 : xn ≤ 900 := by omega
  clear hf hc hx hk hq hxn hn
  obtain ⟨a0, a1, a2, a3⟩ := D_p.out.c4
  obtain ⟨c1, c2, c3⟩ := D_c0.out.c3
  simp only [Rv.v, Fv.v] at *
  go_enter Tryz.func25, Tryz.ntmps25
  go_wp2_with fail
  generalize hW : ((w.alloc (.cells #[.slice xA xn xc, .bool fc.neg, .slice fc.num.A fc.num.n fc.num.c, .slice fc.den.A fc.den.n fc.den.c] 43)).alloc (.cells #[.bool c.neg, .slice c.num.A c.num.n c.num.c, .slice c.den.A c.den.n c.den.c] 41)).alloc (.cells #[.slice none 0 0, .bool false, .slice none 0 0, .slice none 0 0] 43) = W at *
  clear hW
  have N_p : Hid (w.heap.size ≤ w.heap.size) := (by show w.heap.size ≤ w.heap.size; omega)
  have N_c0 : Hid (w.heap.size ≤ w.heap.size + 1) := (by show w.heap.size ≤ w.heap.size + 1; omega)
  have N_r : Hid (w.heap.size ≤ w.heap.size + 1 + 1) := (by show w.heap.size ≤ w.heap.size + 1 + 1; omega)
  generalize w.heap.size + 1 + 1 = r at *
  generalize w.heap.size + 1 = c0 at *
  refine (r3mul_any W fc c x.const q (HF.out.const.gr HG.out) (HC.out.gr HG.out) (Nat.lt_trans LK.out.num (by decide)) (Nat.lt_trans HQ.out.num (by decide)) (Nat.lt_trans LK.out.den (by decide)) (Nat.lt_trans HQ.out.den (by decide))).mono ?_
  rintro e w1 ⟨k, rfl, hk, G1⟩
  obtain ⟨B1, GB⟩ := made1 w1 43 #[.slice none 0 0, .bool k.neg, .slice k.num.A k.num.n k.num.c, .slice k.den.A k.den.n k.den.c]
  have HK0 := Lib.hid (hk.gr GB)
  have hlt : ∀ b, b < W.heap.size → b ≠ w1.heap.size := fun b hb e => by have := G1.size; omega
  have DP0 := Lib.hid (GB.bk (G1.bk D_p.out))
  have DC0 := Lib.hid (GB.bk (G1.bk D_c0.out))
  have DR0 := Lib.hid (GB.bk (G1.bk D_r.out))
  have HPO := Lib.hid (show ¬ w.heap.size = w1.heap.size from hlt _ D_p.out.lt)
  have hro := Lib.hid (show ¬ w1.heap.size = r from fun e => hlt _ D_r.out.lt e.symm)
  have HNO := Lib.hid (Nat.le_trans HG.out.size G1.size)
  have HG0 := Lib.hid ((HG.out.trans G1).trans GB)
  have DO0 := Lib.hid B1
  clear hk G1 B1 GB hlt a0 a1 a2 a3 c1 c2 c3 D_p D_c0 D_r HG
  go_upto_region 2 with fail
  generalize w1.alloc (.cells #[.slice none 0 0, .bool k.neg, .slice k.num.A k.num.n k.num.c, .slice k.den.A k.den.n k.den.c] 43) = W2 at *
  generalize w1.heap.size = o at *
  go_wp2_with fail
  go_loopw [6] (fun i wr => ∃ (n : Nat) (z : Sv) (acc : List Tm), i = .int .i64 n ∧ n ≤ xn ∧ Hid (OwnT wr w.heap.size z acc) ∧ Hid (k.Is wr (Q.mul x.const q)) ∧ Hid (scaleT q acc (x.terms.drop n) = scaleT q [] x.terms) ∧ Hid (acc.length ≤ n) ∧ Hid (Gr w wr) ∧ Hid (Bk wr o 43 #[.slice z.A z.n z.c, .bool k.neg, .slice k.num.A k.num.n k.num.c, .slice k.den.A k.den.n k.den.c]) ∧ Hid (Bk wr w.heap.size 43 #[.slice xA xn xc, .bool fc.neg, .slice fc.num.A fc.num.n fc.num.c, .slice fc.den.A fc.den.n fc.den.c]) ∧ Hid (Bk wr c0 41 #[.bool c.neg, .slice c.num.A c.num.n c.num.c, .slice c.den.A c.den.n c.den.c]) ∧ Hid (Bk wr r 43 #[.slice none 0 0, .bool false, .slice none 0 0, .slice none 0 0])) (fun i _ => xn - (intOf i).toNat)
  case atStart => exact ⟨0, Sv.none, [], rfl, Nat.zero_le _, Own.nil _ _, HK0, rfl, Nat.le_refl _, HG0, DO0, DP0, DC0, DR0⟩
  case round =>
    obtain ⟨n, z, acc, rfl, hn, HZ, HK, HSC, HLN, HG2, DO2, DP, DC, DR⟩ := hrel
    clear HG0 HK0 DO0 DP0 DC0 DR0
    obtain ⟨a0, a1, a2, a3⟩ := DP.out.c4
    by_cases hnx : n < xn
    · obtain ⟨s, hs⟩ : ∃ s, x.terms[n]? = some s := ⟨_, List.getElem?_eq_getElem (by rw [HXN.out]; exact hnx)⟩
      obtain ⟨t, ad, ht, hA, d0, d1, d2, d3⟩ := (HF.out.terms.gr HG2.out).at hs
      simp only at hA
      subst hA
      have HT := Lib.hid ht
      have HSG := Lib.hid (LX.out s (List.mem_of_getElem? hs))
      have HDR : Hid (scaleT q (snoc acc s.1 (Q.mul s.2 q)) (x.terms.drop (n + 1)) = scaleT q [] x.terms) := by rw [← HSC.out, show x.terms.drop n = s :: x.terms.drop (n + 1) from by rw [List.drop_eq_getElem?_toList_append, hs]; rfl]; exact rfl
      have hm9 : n < 900 := by omega
      clear hs ht
      obtain ⟨o0, o1, o2, o3⟩ := DO2.out.c4
      obtain ⟨c1, c2, c3⟩ := DC.out.c3
      go_wp2_with fail
      go_upto_region 5 with fail
      refine wp_region_any (by kernel_rfl) ?_
      have kc := Lib.hid (fun (W' : World) (G : Gr wr.drew W') => And.intro (G.keep a0) (And.intro (G.keep a1) (And.intro (G.keep a2) (And.intro (G.keep a3) (And.intro (G.keep c1) (And.intro (G.keep c2) (And.intro (G.keep c3) (And.intro (G.keep o0) (And.intro (G.keep o1) (And.intro (G.keep o2) (And.intro (G.keep o3) (And.intro (G.keep d0) (And.intro (G.keep d1) (And.intro (G.keep d2) (G.keep d3)))))))))))))))
      have hst : ∀ p ∈ ([(15, Rv.At (Q.mul s.2 q))] : List (Nat × (Value → World → Prop))), ∀ (u : Value) (wA0 wB0 : World), Gr wr.drew wA0 → Gr wA0 wB0 → p.2 u wA0 → p.2 u wB0 := by
        intro p hp u wA0 wB0 h0 G h
        simp only [List.mem_cons, List.not_mem_nil, or_false] at hp
        subst hp
        · exact Rv.At.gr h G
      refine wpAny_walk (m := 3) (last := #[true, true, true, true, true, true, true, true, true, true, true, true, true, true, true, true, true, false, false, false]) [0, 1, 2, 3, 4, 5, 6, 7, 8, 9, 10, 11, 12, 13, 14, 15, 16] [(15, Rv.At (Q.mul s.2 q))] (by kernel_rfl) (by decide) (by kernel_rfl) hst ?_
      clear hst
      refine Walk.take (v := ?wv1) rfl rfl (Or.inl ⟨by rfl, ?wy1⟩) ?wr1
      case wy1 => (intro w' hw'; obtain ⟨a0, a1, a2, a3, c1, c2, c3, o0, o1, o2, o3, d0, d1, d2, d3⟩ := kc.out w' hw'; go_simp; try with_reducible rfl)
      try simp only [Act.put, List.setIfInBounds_toArray, List.set_cons_zero, List.set_cons_succ]
      refine Walk.take (v := ?wv2) rfl rfl (Or.inl ⟨by rfl, ?wy2⟩) ?wr2
      case wy2 => (intro w' hw'; obtain ⟨a0, a1, a2, a3, c1, c2, c3, o0, o1, o2, o3, d0, d1, d2, d3⟩ := kc.out w' hw'; go_simp; try with_reducible rfl)
      try simp only [Act.put, List.setIfInBounds_toArray, List.set_cons_zero, List.set_cons_succ]
      refine Walk.take (v := ?wv3) rfl rfl (Or.inl ⟨by rfl, ?wy3⟩) ?wr3
      case wy3 => (intro w' hw'; obtain ⟨a0, a1, a2, a3, c1, c2, c3, o0, o1, o2, o3, d0, d1, d2, d3⟩ := kc.out w' hw'; go_simp; try with_reducible rfl)
      try simp only [Act.put, List.setIfInBounds_toArray, List.set_cons_zero, List.set_cons_succ]
      refine Walk.take (v := ?wv4) rfl rfl (Or.inl ⟨by rfl, ?wy4⟩) ?wr4
      case wy4 => (intro w' hw'; obtain ⟨a0, a1, a2, a3, c1, c2, c3, o0, o1, o2, o3, d0, d1, d2, d3⟩ := kc.out w' hw'; go_simp; try with_reducible rfl)
      try simp only [Act.put, List.setIfInBounds_toArray, List.set_cons_zero, List.set_cons_succ]
      refine Walk.take (v := ?wv5) rfl rfl (Or.inl ⟨by rfl, ?wy5⟩) ?wr5
      case wy5 => (intro w' hw'; obtain ⟨a0, a1, a2, a3, c1, c2, c3, o0, o1, o2, o3, d0, d1, d2, d3⟩ := kc.out w' hw'; go_simp; try with_reducible rfl)
      try simp only [Act.put, List.setIfInBounds_toArray, List.set_cons_zero, List.set_cons_succ]
      refine Walk.take (v := ?wv6) rfl rfl (Or.inl ⟨by rfl, ?wy6⟩) ?wr6
      case wy6 => (intro w' hw'; obtain ⟨a0, a1, a2, a3, c1, c2, c3, o0, o1, o2, o3, d0, d1, d2, d3⟩ := kc.out w' hw'; go_simp; try with_reducible rfl)
      try simp only [Act.put, List.setIfInBounds_toArray, List.set_cons_zero, List.set_cons_succ]
      refine Walk.take (v := ?wv7) rfl rfl (Or.inl ⟨by rfl, ?wy7⟩) ?wr7
      case wy7 => (intro w' hw'; obtain ⟨a0, a1, a2, a3, c1, c2, c3, o0, o1, o2, o3, d0, d1, d2, d3⟩ := kc.out w' hw'; go_simp; try with_reducible rfl)
      try simp only [Act.put, List.setIfInBounds_toArray, List.set_cons_zero, List.set_cons_succ]
      refine Walk.take (v := ?wv8) rfl rfl (Or.inl ⟨by rfl, ?wy8⟩) ?wr8
      case wy8 => (intro w' hw'; obtain ⟨a0, a1, a2, a3, c1, c2, c3, o0, o1, o2, o3, d0, d1, d2, d3⟩ := kc.out w' hw'; go_simp; try with_reducible rfl)
      try simp only [Act.put, List.setIfInBounds_toArray, List.set_cons_zero, List.set_cons_succ]
      refine Walk.take (v := ?wv9) rfl rfl (Or.inl ⟨by rfl, ?wy9⟩) ?wr9
      case wy9 => (intro w' hw'; obtain ⟨a0, a1, a2, a3, c1, c2, c3, o0, o1, o2, o3, d0, d1, d2, d3⟩ := kc.out w' hw'; go_simp; try with_reducible rfl)
      try simp only [Act.put, List.setIfInBounds_toArray, List.set_cons_zero, List.set_cons_succ]
      refine Walk.take (v := ?wv10) rfl rfl (Or.inl ⟨by rfl, ?wy10⟩) ?wr10
      case wy10 => (intro w' hw'; obtain ⟨a0, a1, a2, a3, c1, c2, c3, o0, o1, o2, o3, d0, d1, d2, d3⟩ := kc.out w' hw'; go_simp; try with_reducible rfl)
      try simp only [Act.put, List.setIfInBounds_toArray, List.set_cons_zero, List.set_cons_succ]
      refine Walk.take (v := ?wv11) rfl rfl (Or.inl ⟨by rfl, ?wy11⟩) ?wr11
      case wy11 => (intro w' hw'; obtain ⟨a0, a1, a2, a3, c1, c2, c3, o0, o1, o2, o3, d0, d1, d2, d3⟩ := kc.out w' hw'; go_simp; try with_reducible rfl)
      try simp only [Act.put, List.setIfInBounds_toArray, List.set_cons_zero, List.set_cons_succ]
      refine Walk.take (v := ?wv12) rfl rfl (Or.inl ⟨by rfl, ?wy12⟩) ?wr12
      case wy12 => (intro w' hw'; obtain ⟨a0, a1, a2, a3, c1, c2, c3, o0, o1, o2, o3, d0, d1, d2, d3⟩ := kc.out w' hw'; go_simp; try with_reducible rfl)
      try simp only [Act.put, List.setIfInBounds_toArray, List.set_cons_zero, List.set_cons_succ]
      refine Walk.take (v := ?wv13) rfl rfl (Or.inl ⟨by rfl, ?wy13⟩) ?wr13
      case wy13 => (intro w' hw'; obtain ⟨a0, a1, a2, a3, c1, c2, c3, o0, o1, o2, o3, d0, d1, d2, d3⟩ := kc.out w' hw'; go_simp; try with_reducible rfl)
      try simp only [Act.put, List.setIfInBounds_toArray, List.set_cons_zero, List.set_cons_succ]
      refine Walk.take (v := ?wv14) rfl rfl (Or.inl ⟨by rfl, ?wy14⟩) ?wr14
      case wy14 => (intro w' hw'; obtain ⟨a0, a1, a2, a3, c1, c2, c3, o0, o1, o2, o3, d0, d1, d2, d3⟩ := kc.out w' hw'; go_simp; try with_reducible rfl)
      try simp only [Act.put, List.setIfInBounds_toArray, List.set_cons_zero, List.set_cons_succ]
      refine Walk.take (v := ?wv15) rfl rfl (Or.inl ⟨by rfl, ?wy15⟩) ?wr15
      case wy15 => (intro w' hw'; obtain ⟨a0, a1, a2, a3, c1, c2, c3, o0, o1, o2, o3, d0, d1, d2, d3⟩ := kc.out w' hw'; go_simp; try with_reducible rfl)
      try simp only [Act.put, List.setIfInBounds_toArray, List.set_cons_zero, List.set_cons_succ]
      refine Walk.do rfl rfl (by rfl) (fun W1 G1 F1 => ?ws16) (fun v hv => ?wr16)
      case ws16 =>
        obtain ⟨a0, a1, a2, a3, c1, c2, c3, o0, o1, o2, o3, d0, d1, d2, d3⟩ := kc.out W1 G1
        refine doesAt_enter (f := 47) (args := #[.agg #[.bool t.coef.neg, .slice t.coef.num.A t.coef.num.n t.coef.num.c, .slice t.coef.den.A t.coef.den.n t.coef.den.c], .agg #[.bool c.neg, .slice c.num.A c.num.n c.num.c, .slice c.den.A c.den.n c.den.c]]) (by go_simp; try (first | with_reducible rfl | rfl)) ?_
        refine (r3mul_any W1 t.coef c s.2 q (HT.out.coef.gr G1.of_drew) (HC.out.gr (HG2.out.trans G1.of_drew)) (Nat.lt_trans HSG.out.num (by decide)) (Nat.lt_trans HQ.out.num (by decide)) (Nat.lt_trans HSG.out.den (by decide)) (Nat.lt_trans HQ.out.den (by decide))).mono ?_
        rintro e w' ⟨m, rfl, hi, G⟩
        exact ⟨_, rfl, G, m, rfl, hi⟩
      obtain ⟨_, -, -, ⟨m, rfl, -⟩⟩ := hv
      try simp only [Act.put, List.setIfInBounds_toArray, List.set_cons_zero, List.set_cons_succ]
      refine Walk.take (v := ?wv17) rfl rfl (Or.inl ⟨by rfl, ?wy17⟩) ?wr17
      case wy17 => (intro w' hw'; obtain ⟨a0, a1, a2, a3, c1, c2, c3, o0, o1, o2, o3, d0, d1, d2, d3⟩ := kc.out w' hw'; go_simp; try with_reducible rfl)
      try simp only [Act.put, List.setIfInBounds_toArray, List.set_cons_zero, List.set_cons_succ]
      refine Walk.done (fun W1 G1 F1 => ?_)
      have hm := F1 _ (List.mem_of_getElem? (i := 0) rfl)
      clear F1
      have kc1 := kc.out W1 G1
      clear kc a0 a1 a2 a3 c1 c2 c3 o0 o1 o2 o3 d0 d1 d2 d3
      obtain ⟨a0, a1, a2, a3, c1, c2, c3, o0, o1, o2, o3, d0, d1, d2, d3⟩ := kc1
      have GB := Lib.hid G1.of_drew
      refine wpAny_one 17 rfl (by kernel_rfl) (by rfl) (fun K hK => ?_)
      refine doesAt_wp (K := fun v W' => ∃ y : Sv, v = y.v ∧ OwnT W' w.heap.size y (snoc acc s.1 (Q.mul s.2 q)) ∧ Fr (fun b => (Value.slice z.A z.n z.c).ownBlock = some b) W1 W') (doesAt_enter (f := 48) (args := #[.slice z.A z.n z.c, .agg #[.int .i64 t.var, .bool m.neg, .slice m.num.A m.num.n m.num.c, .slice m.den.A m.den.n m.den.c]]) (by go_simp; try (first | with_reducible rfl | rfl)) ((nonzero_any W1 w.heap.size z acc ⟨t.var, m⟩ s.1 (Q.mul s.2 q) (HZ.out.up GB.out) ⟨HT.out.var, hm.is⟩ (Nat.le_trans HG2.out.size GB.out.size) (by have := HLN.out; omega) (Nat.le_trans (HSG.out.lo.bd.mul HQ.out.lo.bd).num (by decide))).mono ?_)) ?_
      · rintro e w' ⟨yv, rfl, h1, h2⟩
        exact ⟨_, rfl, yv, rfl, h1, h2⟩
      rintro v w5 ⟨yv, rfl, hy, hF⟩
      refine hK.out _ _ ?_
      clear hK K
      try simp only [Act.put, List.setIfInBounds_toArray, List.set_cons_zero, List.set_cons_succ]
      have hz9 := HZ.out.up GB.out
      have DO3 := Lib.hid (hF.bk (GB.out.bk DO2.out) (fun e => hz9.ne (GB.out.bk DO2.out) (by decide) e))
      have DP3 := Lib.hid (hF.bk (GB.out.bk DP.out) (fun e => hz9.ne (GB.out.bk DP.out) (by decide) e))
      have DC3 := Lib.hid (hF.bk (GB.out.bk DC.out) (fun e => hz9.ne (GB.out.bk DC.out) (by decide) e))
      have DR3 := Lib.hid (hF.bk (GB.out.bk DR.out) (fun e => hz9.ne (GB.out.bk DR.out) (by decide) e))
      have HG5 := Lib.hid ((HG2.out.trans GB.out).step hF (fun b _ e => (hz9.lt b e).1))
      have HK5 := Lib.hid ((HK.out.gr GB.out).tf hF (fun b cs fr e hh => (by obtain ⟨ts, t1, _⟩ := hz9; obtain ⟨cur, hc⟩ := rw_bk t1 b e; exact Bk.not_ty hc (by decide) _ _ hh)))
      have HY5 := Lib.hid hy
      clear hz9 hy hF G1 hm o0 o1 o2 o3 a0 a1 a2 a3 c1 c2 c3 d0 d1 d2 d3
      obtain ⟨o0, o1, o2, o3⟩ := DO3.out.c4
      have oz := DO3.out.frozen
      refine wpAny_one 18 rfl (by kernel_rfl) (by rfl) (fun K hK => ?_)
      go_simp
      refine hK.out _ _ ?_
      clear hK K
      try simp only [Act.put, List.setIfInBounds_toArray, List.set_cons_zero, List.set_cons_succ]
      refine wpAny_one 19 rfl (by kernel_rfl) (by rfl) (fun K hK => ?_)
      go_simp
      refine hK.out _ _ ?_
      clear hK K
      try simp only [Act.put, List.setIfInBounds_toArray, List.set_cons_zero, List.set_cons_succ]
      refine wpAny_end (by kernel_rfl) ?_
      have F6 := (Fr.set w5 ⟨o, 0, none⟩ (.slice yv.A yv.n yv.c) rfl : Fr (fun b => b = o) w5 _)
      have B6 := DO3.out.put 0 (.slice yv.A yv.n yv.c)
      have HY6 := Lib.hid (HY5.out.fr F6 (fun b cs fr e hh => Bk.not_ty DO3.out (by decide) cs fr (e ▸ hh)) fun b hb e => HY5.out.ne DO3.out (by decide) (e ▸ hb))
      have HK6 := Lib.hid (HK5.out.tf' F6 DO3.out (by decide))
      have HG6 := Lib.hid (HG5.out.fr_at F6 HNO.out)
      have DP6 := Lib.hid (F6.bk DP3.out HPO.out)
      have DC6 := Lib.hid (F6.bk DC3.out (fun e => Bk.ne DC3.out DO3.out (by decide) e))
      have DR6 := Lib.hid (F6.bk DR3.out (fun e => hro.out e.symm))
      have DO6 := Lib.hid B6
      simp only [Array.setIfInBounds, List.size_toArray, List.length_cons, List.length_nil] at DO6
      clear F6 B6 o0 o1 o2 o3 oz
      generalize w5.setCell ⟨o, 0, none⟩ (.slice yv.A yv.n yv.c) = w6 at *
      go_wp2
      go_roundw
      · exact ⟨n + 1, yv, snoc acc s.1 (Q.mul s.2 q), by go_num, by omega, HY6, HK6, HDR, Lib.hid (by have := snoc_len acc s.1 (Q.mul s.2 q); have := HLN.out; omega), HG6, DO6, DP6, DC6, DR6⟩
      · simp [intOf]; omega
    · obtain rfl : n = xn := by omega
      have hAE : Hid (acc = scaleT q [] x.terms) := by rw [← HSC.out, List.drop_eq_nil_of_le (by rw [HXN.out]; exact Nat.le_refl _)]; exact rfl
      obtain ⟨B5, F5⟩ := DR.out.put4 (.slice z.A z.n z.c) (.bool k.neg) (.slice k.num.A k.num.n k.num.c) (.slice k.den.A k.den.n k.den.c)
      have H5 := Lib.hid F5
      obtain ⟨d0, d1, d2, d3⟩ := B5.c4
      clear F5 B5
      obtain ⟨z0, z1, z2, z3⟩ := DR.out.c4
      have fz := DR.out.frozen
      obtain ⟨o0, o1, o2, o3⟩ := DO2.out.c4
      go_wp2
      generalize (((wr.setCell ⟨r, 0, none⟩ (.slice z.A z.n z.c)).setCell ⟨r, 1, none⟩ (.bool k.neg)).setCell ⟨r, 2, none⟩ (.slice k.num.A k.num.n k.num.c)).setCell ⟨r, 3, none⟩ (.slice k.den.A k.den.n k.den.c) = W5 at *
      (try simp only [Exit.inBlock, Exit.then])
      refine bodyPost_ret (by simp [results, Tryz.results25, go_sem, d0, d1, d2, d3]; try rfl) rfl ?_
      refine ⟨⟨z, k⟩, rfl, Fv.Is.tf' (f := ⟨z, k⟩) (x := Fm.scaleR x q) ⟨?_, HK.out⟩ H5.out DR.out (by decide) (by decide), HG2.out.fr_at H5.out N_r.out⟩
      rw [show (Fm.scaleR x q).terms = acc from hAE.out.symm]
      exact HZ.out.terms
end Go.Proofs.YtcmfepaffhnemaaGreatDoor

set_option linter.unusedVariables false
namespace Go.Proofs.YtcmfepaffhnemaaGreatDoor

theorem Q.one_mul {c : Q} (h : c.Ok) : Q.mul Q.one c = c := by
  have e := quot_self h
  unfold Q.mul
  have h1 : (Q.one.neg != c.neg) = c.neg := by cases c.neg <;> rfl
  have h2 : Q.one.un = 1 := rfl
  rw [h1, h2, show Q.one.num = 1 from rfl, Nat.one_mul, Nat.one_mul]
  exact e
theorem Q.zero_mul (c : Q) : Q.mul Q.zero c = Q.zero := by
  unfold Q.mul quot
  rw [show Q.zero.num = 0 from rfl, Nat.zero_mul, if_pos rfl]
theorem Q.add_zero {k : Q} (h : k.Ok) : Q.add k Q.zero = k := by
  have e := quot_self h
  have hs := sg_ok h
  unfold Q.add
  have h2 : Q.zero.un = 1 := rfl
  have h3 : Q.zero.num = 0 := rfl
  have h4 : Q.zero.sg = false := rfl
  rw [h2, h3, h4, hs, Nat.mul_one, Nat.zero_mul, Nat.mul_one]
  by_cases h0 : k.num = 0
  · obtain ⟨h5, h6⟩ := h.pos h0
    obtain rfl : k = Q.zero := by obtain ⟨n, a, d⟩ := k; simp only at h0 h5 h6; subst h0 h5 h6; rfl
    decide
  · have hd : decide (0 < k.num) = true := decide_eq_true (by omega)
    have : sadd (k.neg && decide (0 < k.num)) k.num (false && decide (0 < 0)) 0 = (k.neg, k.num) := by
      unfold sadd
      cases hn : k.neg
      · simp
      · simp; omega
    rw [this]
    exact e
theorem plusGo_snoc {v : Nat} {c : Q} (hc : c.Ok) : ∀ (l acc : List Tm), (∀ t ∈ l, t.1 < v ∧ t.2.num ≠ 0) → plusGo v c false l acc = snoc (acc ++ l) v c
  | [], acc, _ => by
    unfold plusGo
    rw [if_neg (by decide), canonQ_ok hc, List.append_nil]
  | t :: r, acc, h => by
    have ⟨h1, h2⟩ := h t (List.mem_cons_self ..)
    unfold plusGo
    rw [if_neg (by omega), if_neg (fun e => by have := e.2; omega), show snoc acc t.1 t.2 = acc ++ [t] from if_neg h2, plusGo_snoc hc r _ (fun s hs => h s (List.mem_cons_of_mem _ hs)), List.append_assoc]
    rfl
theorem plusT_snoc {v : Nat} {c : Q} (hc : c.Ok) (l : List Tm) (h : ∀ t ∈ l, t.1 < v ∧ t.2.num ≠ 0) : plusT l v c = snoc l v c := by
  unfold plusT
  rw [plusGo_snoc hc l [] h, List.nil_append]
/-- A small form and one more variable. -/
abbrev varF (v : Int) : Fm := ⟨[(v, Q.one)], Q.zero⟩
theorem scaleR_var {v : Int} {c : Q} (hc : c.Ok) : Fm.scaleR (varF v) c = ⟨snoc [] v c, Q.zero⟩ := by
  unfold Fm.scaleR scaleT scaleT
  rw [Q.one_mul hc, Q.zero_mul]
theorem addR_var {ts : List Tm} {k c : Q} {v : Nat} (h : Fm.Small ⟨ts, k⟩ v) (hc : c.Tiny) : Fm.addR ⟨ts, k⟩ (Fm.scaleR (varF v) c) = ⟨snoc ts v c, k⟩ := by
  rw [scaleR_var hc.ok]
  unfold Fm.addR
  simp only
  rw [Q.add_zero h.ok.const]
  congr 1
  by_cases h0 : c.num = 0
  · rw [show snoc [] (v : Int) c = [] from if_pos h0, show snoc ts (v : Int) c = ts from if_pos h0]; rfl
  · rw [show snoc [] (v : Int) c = [((v : Int), c)] from if_neg h0]
    show plusT ts v c = _
    exact plusT_snoc hc.ok ts fun t ht => ⟨(h.ok.each t ht).2.1, (h.ok.each t ht).2.2.1⟩
theorem Q.Tiny.good {c : Q} (h : c.Tiny) (v : Int) : Good (v, c) := ⟨h.sm, h.ok⟩
/-- What the reference's Add is asked at the next variable. -/
theorem addR_pre {ts : List Tm} {k c : Q} {v : Nat} (h : Fm.Small ⟨ts, k⟩ v) (hc : c.Tiny) (hl : ts.length ≤ v) (hv : v ≤ 800) :
    (∀ n, n ≤ (Fm.scaleR (varF v) c).terms.length → ∀ t ∈ addT ts ((Fm.scaleR (varF v) c).terms.take n), Good t) ∧ (∀ t ∈ (Fm.scaleR (varF v) c).terms, Good t) ∧ (ts.length + (Fm.scaleR (varF v) c).terms.length ≤ 900) ∧ (∀ n, n ≤ (Fm.scaleR (varF v) c).terms.length → (addT ts ((Fm.scaleR (varF v) c).terms.take n)).length ≤ 900) := by
  rw [scaleR_var hc.ok]
  simp only
  have ht : ∀ t ∈ ts, Good t := fun t ht => ⟨(h.num t ht).sm, (h.num t ht).ok⟩
  by_cases h0 : c.num = 0
  · rw [show snoc [] (v : Int) c = [] from if_pos h0]
    exact ⟨(fun n _ => by rw [List.take_nil]; exact ht), (fun t h => by cases h), (by simp; omega), (fun n _ => by rw [List.take_nil]; show ts.length ≤ 900; omega)⟩
  · rw [show snoc [] (v : Int) c = [((v : Int), c)] from if_neg h0]
    have e : ∀ n, addT ts (List.take n [((v : Int), c)]) = if n = 0 then ts else snoc ts v c := fun n => by
      cases n with
      | zero => rfl
      | succ n =>
        rw [List.take_of_length_le (by simp), if_neg (by omega)]
        show plusT ts v c = _
        rw [plusT_snoc hc.ok ts fun t ht => ⟨(h.ok.each t ht).2.1, (h.ok.each t ht).2.2.1⟩]
    have hg : ∀ t ∈ snoc ts (v : Int) c, Good t := fun t htt => by
      rw [show snoc ts (v : Int) c = ts ++ [((v : Int), c)] from if_neg h0] at htt
      rcases List.mem_append.1 htt with h1 | h1
      · exact ht t h1
      · rw [List.mem_singleton.1 h1]; exact hc.good _
    have hn := snoc_len ts (v : Int) c
    refine ⟨(fun n _ => by rw [e]; split; exact ht; exact hg), (fun t h => by rw [List.mem_singleton.1 h]; exact hc.good _), (by simp; omega), (fun n _ => by rw [e]; split <;> omega)⟩
end Go.Proofs.YtcmfepaffhnemaaGreatDoor

set_option linter.unusedVariables false
namespace Go.Proofs.YtcmfepaffhnemaaGreatDoor
open Go.RowKit

attribute [local go_sem] Oper.semAt_some

theorem formT_yes (n v : Nat) (ts : List Tm) (r : List Nat) (h : 0 < (nx 3 r).1) : formT (n + 1) v ts r = formT n (v + 1) (snoc ts v (numQ (nx 3 r).2).1) (numQ (nx 3 r).2).2 := if_pos h
theorem formT_no (n v : Nat) (ts : List Tm) (r : List Nat) (h : ¬ 0 < (nx 3 r).1) : formT (n + 1) v ts r = formT n (v + 1) ts (nx 3 r).2 := if_neg h
theorem sm_one : Q.one.Sm := ⟨by decide, by decide⟩
theorem sm_zero : Q.zero.Sm := ⟨by decide, by decide⟩
theorem ok_zero : Q.zero.Ok := by decide
theorem Fv.Is.fp {w w' : World} {p : Nat} {r : List Nat} {f : Fv} {x : Fm} (h : f.Is w x) (F : Fp p w w') (hd : Fd w p r) : f.Is w' x := by
  obtain ⟨cs, hc⟩ := hd.bk
  exact h.tf' F hc (by decide) (by decide)
theorem Rv.Is.fp {w w' : World} {p : Nat} {r : List Nat} {f : Rv} {x : Q} (h : f.Is w x) (F : Fp p w w') (hd : Fd w p r) : f.Is w' x := by
  obtain ⟨cs, hc⟩ := hd.bk
  exact h.tf' F hc (by decide)
theorem Bk.fp {w w' : World} {p b t : Nat} {us : Array Value} {r : List Nat} (h : Bk w b t us) (F : Fp p w w') (hd : Fd w p r) (ht : t ≠ 96) : Bk w' b t us := by
  obtain ⟨cs, hc⟩ := hd.bk
  exact F.bk h (fun e => Bk.ne h hc ht e)
/-- A store into a new variable of another type. -/
theorem Fd.st {w w' : World} {p b t : Nat} {us : Array Value} {r : List Nat} (h : Fd w p r) (F : Fr (fun x => x = b) w w') (hb : Bk w b t us) (h1 : t ≠ 96) (h2 : t ≠ 5) : Fd w' p r := by
  obtain ⟨cs, hc⟩ := h.bk
  exact h.fr F (fun e => Bk.ne hc hb (Ne.symm h1) e) (fun b cs fr e hh => Bk.not_ty hb h2 cs fr (e ▸ hh))

set_option maxRecDepth 100000 in
set_option maxHeartbeats 4000000 in
theorem form_any (w : World) (p vars : Nat) (r : List Nat) (hf : Fd w p r) (hv : vars ≤ 700) :
    Calls Tryz.prog 26 #[.pointer (some ⟨p, 0, none⟩), .int .i64 vars] w fun e w' => ∃ f : Fv, e = .returned f.v ∧ f.Is w' (formQ vars r).1 ∧ Fd w' p (formQ vars r).2 ∧ Fp p w w' := by
  obtain ⟨B1, G⟩ := made1 w 43 (#[.slice none 0 0, .bool false, .slice none 0 0, .slice none 0 0])
  have HG := Lib.hid G
  have D_r := Lib.hid B1
  clear G B1
  have HFD := Lib.hid hf
  clear hf
  go_enter Tryz.func26, Tryz.ntmps26
  go_wp2_with fail
  generalize hW : w.alloc (.cells #[.slice none 0 0, .bool false, .slice none 0 0, .slice none 0 0] 43) = W at *
  clear hW
  have N_r : Hid (w.heap.size ≤ w.heap.size) := (by show w.heap.size ≤ w.heap.size; omega)
  refine (number_any W p r (HFD.out.gr HG.out)).mono ?_
  rintro e w1 ⟨c, rfl, hc, hd, hp⟩
  obtain ⟨B1, GB⟩ := made1 w1 43 #[.slice none 0 0, .bool c.neg, .slice c.num.A c.num.n c.num.c, .slice c.den.A c.den.n c.den.c]
  have D_1 := D_r.out.fp hp (HFD.out.gr HG.out) (by decide)
  have HZ0 : Hid (Fv.Is (w1.alloc (.cells #[.slice none 0 0, .bool c.neg, .slice c.num.A c.num.n c.num.c, .slice c.den.A c.den.n c.den.c] 43)) ⟨Sv.none, c⟩ ⟨[], (numQ r).1⟩) := ⟨Rows.empty, hc.gr GB⟩
  have HD0 := Lib.hid (hd.gr GB)
  have HP0 := Lib.hid ((HG.out.fp.trans hp).stp GB.fr (fun _ _ h => h.elim))
  have HR0 := Lib.hid (GB.bk D_1)
  have HNO := Lib.hid (Nat.le_trans HG.out.size hp.size)
  have hro := Lib.hid (show ¬ w1.heap.size = w.heap.size from fun e => Nat.lt_irrefl _ (e ▸ D_1.lt))
  have HO0 := Lib.hid B1
  clear hc hd hp B1 GB D_1 D_r HG
  go_upto_region 2 with fail
  generalize w1.alloc (.cells #[.slice none 0 0, .bool c.neg, .slice c.num.A c.num.n c.num.c, .slice c.den.A c.den.n c.den.c] 43) = W2 at *
  generalize w1.heap.size = o at *
  go_wp2_with fail
  go_loopw [6] (fun i wr => ∃ (k : Nat) (z : Fv) (ts : List Tm) (rr : List Nat), i = .int .i64 k ∧ k ≤ vars ∧ Hid (z.Is wr ⟨ts, (numQ r).1⟩) ∧ Hid (Fm.Small ⟨ts, (numQ r).1⟩ k) ∧ Hid (ts.length ≤ k) ∧ Hid (Fd wr p rr) ∧ Hid (formT (vars - k) k ts rr = formT vars 0 [] (numQ r).2) ∧ Hid (Fp p w wr) ∧ Hid (Bk wr o 43 #[.slice z.terms.A z.terms.n z.terms.c, .bool z.const.neg, .slice z.const.num.A z.const.num.n z.const.num.c, .slice z.const.den.A z.const.den.n z.const.den.c]) ∧ Hid (Bk wr w.heap.size 43 #[.slice none 0 0, .bool false, .slice none 0 0, .slice none 0 0])) (fun i _ => vars - (intOf i).toNat)
  case atStart => exact ⟨0, ⟨Sv.none, c⟩, [], (numQ r).2, rfl, Nat.zero_le _, HZ0, ⟨⟨fun i s t hs => (by simp at hs), fun t ht => (by cases ht), (numQ_tiny r).ok⟩, fun t ht => (by cases ht), numQ_tiny r⟩, Nat.le_refl _, HD0, rfl, HP0, HO0, HR0⟩
  case round =>
    obtain ⟨k, z, ts, rr, rfl, hk, HZ, HSM, HLN, HD, HF, HP, HO, HR⟩ := hrel
    clear HZ0 HD0 HP0 HO0 HR0
    by_cases hkv : k < vars
    · have hm9 : k < 700 := by omega
      have HVK : Hid (vars - k = vars - k - 1 + 1) := by have : vars - k = vars - k - 1 + 1 := by omega
                                                         exact this
      go_wp2_with fail
      refine (next_any wr p 3 rr HD.out (by decide) (by decide)).mono ?_
      rintro e w2 ⟨rfl, hd2, hp2⟩
      have Z0 := Lib.hid ((HZ.out.fp hp2 HD.out).gr (Gr.refl w2).drew)
      have O0 := Lib.hid ((Gr.refl w2).drew.bk (HO.out.fp hp2 HD.out (by decide)))
      have R0 := Lib.hid ((Gr.refl w2).drew.bk (HR.out.fp hp2 HD.out (by decide)))
      have P0 := Lib.hid ((HP.out.trans hp2).trans (Gr.refl w2).drew.fp)
      have Z9 := Lib.hid (HZ.out.fp hp2 HD.out)
      have O9 := Lib.hid (HO.out.fp hp2 HD.out (by decide))
      have R9 := Lib.hid (HR.out.fp hp2 HD.out (by decide))
      have P9 := Lib.hid (HP.out.trans hp2)
      have D9 := Lib.hid hd2
      have D0 := Lib.hid (hd2.gr (Gr.refl w2).drew)
      clear hd2 hp2 HZ HO HR HP
      by_cases h0 : 0 < (nx 3 rr).1
      · have H0 := Lib.hid h0
        have hx1 : decide (0 < (((nx 3 rr).1 : Nat) : Int)) = true := by simp; omega
        have PRE := Lib.hid (addR_pre HSM.out (numQ_tiny (nx 3 rr).2) HLN.out (by omega))
        have HV1 : Hid (∀ t ∈ (varF (k : Int)).terms, t.2.Sm) := fun t ht => by rw [List.mem_singleton.1 ht]; exact sm_one
        have HV2 : Hid ((varF (k : Int)).const.Sm) := sm_zero
        have HV3 : Hid ((numQ (nx 3 rr).2).1.Sm) := (numQ_tiny _).sm
        have HV4 : Hid ((varF (k : Int)).terms.length ≤ 900) := by show 1 ≤ 900; decide
        have HG1 : Hid (Good (0, (numQ r).1)) := (numQ_tiny r).good 0
        have HG2 : Hid (Good (0, (Fm.scaleR (varF (k : Int)) (numQ (nx 3 rr).2).1).const)) := by rw [scaleR_var (numQ_tiny _).ok]; exact ⟨sm_zero, ok_zero⟩
        clear Z9 O9 R9 P9 D9 h0
        go_wp2_with fail
        go_upto_region 6 with fail
        have hS0 := O0.out.c4
        refine wp_region_E (fun W => W.cell? ⟨o, 0, none⟩ = some (.slice z.terms.A z.terms.n z.terms.c) ∧ W.cell? ⟨o, 1, none⟩ = some (.bool z.const.neg) ∧ W.cell? ⟨o, 2, none⟩ = some (.slice z.const.num.A z.const.num.n z.const.num.c) ∧ W.cell? ⟨o, 3, none⟩ = some (.slice z.const.den.A z.const.den.n z.const.den.c)) (by kernel_rfl) ?_
        show anyE _ _ _ _ 8 _ _ _
        refine anyE.take (i := 0) (v := ?wv1) rfl (by kernel_rfl) (by kernel_rfl) (by kernel_rfl) (fun _ _ _ h => h) (Or.inl ⟨by rfl, ?wy1⟩) hS0 ?wr1
        case wy1 => (intro w' hS'; obtain ⟨o0, o1, o2, o3⟩ := hS'; go_simp; try with_reducible rfl)
        try simp only [Act.put, List.setIfInBounds_toArray, List.set_cons_zero, List.set_cons_succ]
        refine anyE.take (i := 1) (v := ?wv2) rfl (by kernel_rfl) (by kernel_rfl) (by kernel_rfl) (fun _ _ _ h => h) (Or.inl ⟨by rfl, ?wy2⟩) hS0 ?wr2
        case wy2 => (intro w' hS'; obtain ⟨o0, o1, o2, o3⟩ := hS'; go_simp; try with_reducible rfl)
        try simp only [Act.put, List.setIfInBounds_toArray, List.set_cons_zero, List.set_cons_succ]
        refine anyE.take (i := 3) (v := ?wv3) rfl (by kernel_rfl) (by kernel_rfl) (by kernel_rfl) (fun _ _ _ h => h) (Or.inl ⟨by rfl, ?wy3⟩) hS0 ?wr3
        case wy3 => (intro w' hS'; obtain ⟨o0, o1, o2, o3⟩ := hS'; go_simp; try with_reducible rfl)
        try simp only [Act.put, List.setIfInBounds_toArray, List.set_cons_zero, List.set_cons_succ]
        refine anyE.one 2 rfl (by kernel_rfl) (by rfl) (fun K hK => ?_)
        refine doesAt_wp (K := fun v W => ∃ fv : Fv, v = fv.v ∧ fv.Is W (varF (k : Int)) ∧ Gr w2.drew W) (doesAt_enter (f := 29) (args := #[.int .i64 k]) (by go_simp; try (first | with_reducible rfl | rfl)) ((r7var_any _ (k : Int)).mono ?_)) ?_
        · rintro e w' ⟨fv, rfl, hv, G⟩
          exact ⟨_, rfl, fv, rfl, hv, G⟩
        rintro v w3 ⟨fv, rfl, hv, G⟩
        have V1 := Lib.hid hv
        have D1 := Lib.hid (D0.out.gr G)
        have Z1 := Lib.hid (Z0.out.gr G)
        have P1 := Lib.hid (P0.out.trans G.fp)
        have O1 := Lib.hid (G.bk O0.out)
        have R1 := Lib.hid (G.bk R0.out)
        clear hv G hS0
        refine hK.out _ _ ⟨Or.inl (O1.out.c4), ?_⟩
        clear hK K
        try simp only [Act.put, List.setIfInBounds_toArray, List.set_cons_zero, List.set_cons_succ]
        refine anyE.one 4 rfl (by kernel_rfl) (by rfl) (fun K hK => ?_)
        refine doesAt_wp (K := fun v W => ∃ cq : Rv, v = cq.v ∧ cq.Is W (numQ (nx 3 rr).2).1 ∧ Fd W p (numQ (nx 3 rr).2).2 ∧ Fp p w3 W) (doesAt_enter (f := 27) (args := #[.pointer (some ⟨p, 0, none⟩)]) (by go_simp; try (first | with_reducible rfl | rfl)) ((number_any _ p _ D1.out).mono ?_)) ?_
        · rintro e w' ⟨cq, rfl, hq, hd, hp⟩
          exact ⟨_, rfl, cq, rfl, hq, hd, hp⟩
        rintro v w4 ⟨cq, rfl, hq, hd, hp⟩
        have Q2 := Lib.hid hq
        have V2 := Lib.hid (V1.out.fp hp D1.out)
        have Z2 := Lib.hid (Z1.out.fp hp D1.out)
        have P2 := Lib.hid (P1.out.trans hp)
        have O2 := Lib.hid (O1.out.fp hp D1.out (by decide))
        have R2 := Lib.hid (R1.out.fp hp D1.out (by decide))
        have D2 := Lib.hid hd
        clear hq hd hp
        refine hK.out _ _ ⟨Or.inl (O2.out.c4), ?_⟩
        clear hK K
        try simp only [Act.put, List.setIfInBounds_toArray, List.set_cons_zero, List.set_cons_succ]
        refine anyE.one 5 rfl (by kernel_rfl) (by rfl) (fun K hK => ?_)
        refine doesAt_wp (K := fun v W => ∃ fs : Fv, v = fs.v ∧ fs.Is W (Fm.scaleR (varF (k : Int)) (numQ (nx 3 rr).2).1) ∧ Gr w4 W) (doesAt_enter (f := 25) (args := #[fv.v, cq.v]) (by go_simp; try (first | with_reducible rfl | rfl)) ((r7scale_any _ fv cq (varF k) _ V2.out Q2.out HV1.out HV2.out HV3.out HV4.out).mono ?_)) ?_
        · rintro e w' ⟨fs, rfl, hs, G⟩
          exact ⟨_, rfl, fs, rfl, hs, G⟩
        rintro v w5 ⟨fs, rfl, hs, G⟩
        have S3 := Lib.hid hs
        have D3 := Lib.hid (D2.out.gr G)
        have Z3 := Lib.hid (Z2.out.gr G)
        have P3 := Lib.hid (P2.out.trans G.fp)
        have O3 := Lib.hid (G.bk O2.out)
        have R3 := Lib.hid (G.bk R2.out)
        clear hs G
        refine hK.out _ _ ⟨Or.inl (O3.out.c4), ?_⟩
        clear hK K
        try simp only [Act.put, List.setIfInBounds_toArray, List.set_cons_zero, List.set_cons_succ]
        refine anyE.one 6 rfl (by kernel_rfl) (by rfl) (fun K hK => ?_)
        refine doesAt_wp (K := fun v W => ∃ y : Fv, v = y.v ∧ y.Is W (Fm.addR ⟨ts, (numQ r).1⟩ (Fm.scaleR (varF (k : Int)) (numQ (nx 3 rr).2).1)) ∧ Gr w5 W) (doesAt_enter (f := 24) (args := #[z.v, fs.v]) (by go_simp; try (first | with_reducible rfl | rfl)) ((r7add_any _ z fs _ _ Z3.out S3.out PRE.out.1 PRE.out.2.1 HG1.out HG2.out PRE.out.2.2.1 PRE.out.2.2.2).mono ?_)) ?_
        · rintro e w' ⟨y, rfl, hy, G⟩
          exact ⟨_, rfl, y, rfl, hy, G⟩
        rintro v v4 ⟨y, rfl, hy, G⟩
        have Y4 := Lib.hid hy
        have D4 := Lib.hid (D3.out.gr G)
        have Z4 := Lib.hid (Z3.out.gr G)
        have P4 := Lib.hid (P3.out.trans G.fp)
        have O4 := Lib.hid (G.bk O3.out)
        have R4 := Lib.hid (G.bk R3.out)
        clear hy G
        refine hK.out _ _ ⟨Or.inl (O4.out.c4), ?_⟩
        clear hK K
        try simp only [Act.put, List.setIfInBounds_toArray, List.set_cons_zero, List.set_cons_succ]
        refine anyE.one 7 rfl (by kernel_rfl) (by rfl) (fun K hK => ?_)
        have fz4 := O4.out.frozen
        have o9 := O4.out.c4
        have o0 := o9.1
        have o1 := o9.2.1
        have o2 := o9.2.2.1
        have o3 := o9.2.2.2
        clear o9
        go_simp
        refine hK.out _ _ ⟨Or.inr (by kernel_rfl), ?_⟩
        clear hK K
        try simp only [Act.put, List.setIfInBounds_toArray, List.set_cons_zero, List.set_cons_succ]
        refine anyE.done (by kernel_rfl) ?_
        obtain ⟨B5, F5⟩ := O4.out.put4 (.slice y.terms.A y.terms.n y.terms.c) (.bool y.const.neg) (.slice y.const.num.A y.const.num.n y.const.num.c) (.slice y.const.den.A y.const.den.n y.const.den.c)
        have D5 := Lib.hid (D4.out.st F5 O4.out (by decide) (by decide))
        have Y5 := Lib.hid (Y4.out.tf' F5 O4.out (by decide) (by decide))
        have P5 := Lib.hid (P4.out.stp F5 (fun b _ e => Or.inr (by rw [e]; exact HNO.out)))
        have R5 := Lib.hid (F5.bk R4.out (fun e => hro.out e.symm))
        have O5 := Lib.hid B5
        clear B5 F5 Y4 fz4 o0 o1 o2 o3
        generalize (((v4.setCell ⟨o, 0, none⟩ (.slice y.terms.A y.terms.n y.terms.c)).setCell ⟨o, 1, none⟩ (.bool y.const.neg)).setCell ⟨o, 2, none⟩ (.slice y.const.num.A y.const.num.n y.const.num.c)).setCell ⟨o, 3, none⟩ (.slice y.const.den.A y.const.den.n y.const.den.c) = W5 at *
        go_wp2
        go_roundw
        · refine ⟨k + 1, y, snoc ts (k : Int) (numQ (nx 3 rr).2).1, (numQ (nx 3 rr).2).2, by go_num, by omega, ?_, snoc_small HSM.out (numQ_tiny _), Lib.hid (by have := snoc_len ts (k : Int) (numQ (nx 3 rr).2).1; have := HLN.out; omega), D5, ?_, P5, O5, R5⟩
          · have := Y5.out; rw [addR_var HSM.out (numQ_tiny _)] at this; exact this
          · show formT (vars - (k + 1)) _ _ _ = _
            rw [← HF.out, HVK.out, formT_yes _ _ _ _ H0.out, show vars - (k + 1) = vars - k - 1 from by omega]
        · simp [intOf]; omega
      · have hx1 : decide (0 < (((nx 3 rr).1 : Nat) : Int)) = false := by simp; omega
        have H0 := Lib.hid h0
        clear Z0 O0 R0 P0 D0 h0
        go_wp2
        go_roundw
        · refine ⟨k + 1, z, ts, (nx 3 rr).2, by go_num, by omega, Z9, ⟨HSM.out.ok.mono (by omega), HSM.out.num, HSM.out.const⟩, Lib.hid (by have := HLN.out; omega), D9, ?_, P9, O9, R9⟩
          show formT (vars - (k + 1)) _ _ _ = _
          rw [← HF.out, HVK.out, formT_no _ _ _ _ H0.out, show vars - (k + 1) = vars - k - 1 from by omega]
        · simp [intOf]; omega
    · obtain rfl : k = vars := by omega
      obtain ⟨o0, o1, o2, o3⟩ := HO.out.c4
      have HFE : Hid ((ts, rr) = formT k 0 [] (numQ r).2) := by rw [← HF.out, Nat.sub_self]; exact rfl
      obtain ⟨B5, F5⟩ := HR.out.put4 (.slice z.terms.A z.terms.n z.terms.c) (.bool z.const.neg) (.slice z.const.num.A z.const.num.n z.const.num.c) (.slice z.const.den.A z.const.den.n z.const.den.c)
      have H5 := Lib.hid F5
      obtain ⟨d0, d1, d2, d3⟩ := B5.c4
      clear F5 B5
      obtain ⟨z0, z1, z2, z3⟩ := HR.out.c4
      have fz := HR.out.frozen
      go_wp2
      generalize (((wr.setCell ⟨w.heap.size, 0, none⟩ (.slice z.terms.A z.terms.n z.terms.c)).setCell ⟨w.heap.size, 1, none⟩ (.bool z.const.neg)).setCell ⟨w.heap.size, 2, none⟩ (.slice z.const.num.A z.const.num.n z.const.num.c)).setCell ⟨w.heap.size, 3, none⟩ (.slice z.const.den.A z.const.den.n z.const.den.c) = W5 at *
      (try simp only [Exit.inBlock, Exit.then])
      refine bodyPost_ret (by simp [results, Tryz.results26, go_sem, d0, d1, d2, d3]; try rfl) rfl ?_
      have HQ1 : (formQ k r).1 = ⟨ts, (numQ r).1⟩ := by unfold formQ; rw [← HFE.out]
      have HQ2 : (formQ k r).2 = rr := by unfold formQ; rw [← HFE.out]
      rw [HQ1, HQ2]
      exact ⟨z, rfl, HZ.out.tf' H5.out HR.out (by decide) (by decide), HD.out.st H5.out HR.out (by decide) (by decide), HP.out.stp H5.out (fun b _ e => Or.inr (by rw [e]; exact Nat.le_refl _))⟩
end Go.Proofs.YtcmfepaffhnemaaGreatDoor

set_option linter.unusedVariables false
namespace Go.Proofs.YtcmfepaffhnemaaGreatDoor
open Go.RowKit

attribute [local go_sem] Oper.semAt_some

theorem OwnF.fp {w w' : World} {p B : Nat} {r : List Nat} {x : Sv} {l : List Fm} (h : OwnF w B x l) (F : Fp p w w') (hd : Fd w p r) : OwnF w' B x l := by
  obtain ⟨cs, hc⟩ := hd.bk
  exact h.st F hc (by decide) (by decide) (by decide)
theorem Fd.own {w w' : World} {p B : Nat} {r : List Nat} {x : Sv} {l : List Fm} (h : Fd w p r) (ho : OwnF w B x l) (F : Fr (fun b => (Value.slice x.A x.n x.c).ownBlock = some b) w w') : Fd w' p r := by
  obtain ⟨cs, hc⟩ := h.bk
  refine h.fr F (fun e => ho.ne hc (by decide) e) fun b cs fr e hh => ?_
  obtain ⟨ts, t1, _⟩ := ho
  obtain ⟨cur, hc'⟩ := rw_bk t1 b e
  exact Bk.not_ty hc' (by decide) _ _ hh
theorem Forms.pg {w w' : World} {p g : Nat} {r : List Nat} {us : Array Value} {x : Sv} {l : List Fm} (h : Forms w x l) (F : Fr (fun b => b = p ∨ b = g) w w') (hd : Fd w p r) (hg : Bk w g 26 us) : Forms w' x l := by
  obtain ⟨cs, hc⟩ := hd.bk
  have no : ∀ t, t ≠ 96 → t ≠ 26 → ∀ b cs fr, (b = p ∨ b = g) → w.heap[b]? ≠ some (.cells cs t fr) := fun t h1 h2 b cs fr e hh => by
    rcases e with e | e
    · exact Bk.not_ty hc (Ne.symm h1) cs fr (e ▸ hh)
    · exact Bk.not_ty hg (Ne.symm h2) cs fr (e ▸ hh)
  exact Rows.tf h F (no _ (by decide) (by decide)) fun f a hf => hf.tf F (no _ (by decide) (by decide)) (no _ (by decide) (by decide))
theorem Forms.st {w w' : World} {p t : Nat} {us : Array Value} {x : Sv} {l : List Fm} (h : Forms w x l) (F : Fr (fun b => b = p) w w') (hb : Bk w p t us) (h0 : t ≠ 43) (h1 : t ≠ 104) (h2 : t ≠ 211) : Forms w' x l :=
  Rows.tf h F (fun b cs fr e hh => Bk.not_ty hb h0 cs fr (e ▸ hh)) fun f a hf => hf.tf' F hb h1 h2
theorem unitsQ_succ (n v : Nat) (r : List Nat) : unitsQ (n + 1) v r = ((formQ v r).1 :: (unitsQ n (v + 1) (formQ v r).2).1, (unitsQ n (v + 1) (formQ v r).2).2) := rfl
theorem outsQ_succ (n v : Nat) (r : List Nat) : outsQ (n + 1) v r = ((formQ v r).1 :: (outsQ n v (formQ v r).2).1, (outsQ n v (formQ v r).2).2) := rfl

set_option maxRecDepth 100000 in
set_option maxHeartbeats 4000000 in
theorem graph_any (w : World) (p : Nat) (r : List Nat) (hf : Fd w p r) :
    Calls Tryz.prog 17 #[.pointer (some ⟨p, 0, none⟩)] w fun e w' => ∃ g : Gv, e = .returned g.v ∧ g.Is w' (graphQ r).1 ∧ Fd w' p (graphQ r).2 ∧ Fp p w w' := by
  obtain ⟨B1, G⟩ := made1 w 26 (#[.int .i64 0, .slice none 0 0, .slice none 0 0])
  have HG := Lib.hid G
  have D_r := Lib.hid B1
  clear G B1
  have HFD := Lib.hid hf
  clear hf
  go_enter Tryz.func17, Tryz.ntmps17
  go_wp2_with fail
  generalize hW : w.alloc (.cells #[.int .i64 0, .slice none 0 0, .slice none 0 0] 26) = W at *
  clear hW
  have N_r : Hid (w.heap.size ≤ w.heap.size) := (by show w.heap.size ≤ w.heap.size; omega)
  refine (next_any W p 3 r (HFD.out.gr HG.out) (by decide) (by decide)).mono ?_
  rintro e w1 ⟨rfl, hd1, hp1⟩
  have hx9 := nx_lt (n := 3) (by decide) r
  generalize hx : (nx 3 r).1 = x at *
  have HX1 := Lib.hid hx
  obtain ⟨n, hn⟩ : ∃ n : Nat, n = 1 + x := ⟨_, rfl⟩
  have hw1 : IntKind.i64.wrap (1 + (x : Int)) = (n : Int) := by rw [IntWalk.i64_in _ (by omega)]; omega
  have hn9 : n ≤ 3 := by omega
  have hnx := Lib.hid hn
  have D_1 := D_r.out.fp hp1 (HFD.out.gr HG.out) (by decide)
  obtain ⟨B1, GB⟩ := made1 w1 26 #[.int .i64 (n : Int), .slice none 0 0, .slice none 0 0]
  have HD1 := Lib.hid (hd1.gr GB)
  have HP1 := Lib.hid ((HG.out.fp.trans hp1).stp GB.fr (fun _ _ h => h.elim))
  have DR1 := Lib.hid (GB.bk D_1)
  have DG1 := Lib.hid B1
  have HNO := Lib.hid (Nat.le_trans HG.out.size hp1.size)
  have hgr := Lib.hid (show ¬ w1.heap.size = w.heap.size from fun e => Nat.lt_irrefl _ (e ▸ D_1.lt))
  clear hx hn hd1 hp1 D_1 B1 GB D_r HG hx9
  go_wp2_with fail
  generalize w1.alloc (.cells #[.int .i64 (n : Int), .slice none 0 0, .slice none 0 0] 26) = W2 at *
  generalize w1.heap.size = g at *
  refine (next_any W2 p 5 _ HD1.out (by decide) (by decide)).mono ?_
  rintro e w3 ⟨rfl, hd1, hp1⟩
  have hu9 := nx_lt (n := 5) (by decide) (nx 3 r).2
  generalize hx : (nx 5 (nx 3 r).2).1 = u at *
  have HX2 := Lib.hid hx
  have HD2 := Lib.hid hd1
  have HP2 := Lib.hid (HP1.out.trans hp1)
  have DR2 := Lib.hid (DR1.out.fp hp1 HD1.out (by decide))
  have DG2 := Lib.hid (DG1.out.fp hp1 HD1.out (by decide))
  clear hx hd1 hp1 HD1 HP1 DR1 DG1
  go_wp2_with fail
  refine (next_any w3 p 3 _ HD2.out (by decide) (by decide)).mono ?_
  rintro e w4 ⟨rfl, hd1, hp1⟩
  have hy9 := nx_lt (n := 3) (by decide) (nx 5 (nx 3 r).2).2
  generalize hx : (nx 3 (nx 5 (nx 3 r).2).2).1 = y0 at *
  have HX3 := Lib.hid hx
  obtain ⟨m, hm⟩ : ∃ m : Nat, m = 1 + y0 := ⟨_, rfl⟩
  have hw2 : IntKind.i64.wrap (1 + (y0 : Int)) = (m : Int) := by rw [IntWalk.i64_in _ (by omega)]; omega
  have hm9 : m ≤ 3 := by omega
  have hmx := Lib.hid hm
  have HD := Lib.hid hd1
  have HPP := Lib.hid (HP2.out.trans hp1)
  have DR := Lib.hid (DR2.out.fp hp1 HD2.out (by decide))
  have DG := Lib.hid (DG2.out.fp hp1 HD2.out (by decide))
  obtain ⟨nu, hnu0⟩ : ∃ nu : Nat, nu = n + u := ⟨_, rfl⟩
  have hnu := Lib.hid hnu0
  have hnu9 : nu = n + u := hnu0
  clear hx hm hd1 hp1 HD2 HP2 DR2 DG2 hy9 hnu0
  generalize hr3 : (nx 3 (nx 5 (nx 3 r).2).2).2 = r3 at *
  have HR3 := Lib.hid hr3
  clear hr3
  go_wp2_with fail
  go_loopw [6] (fun i wr => ∃ (j : Nat) (z : Sv) (acc : List Fm) (rr : List Nat), i = .int .i64 j ∧ j ≤ u ∧ Hid (OwnF wr w4.heap.size z acc) ∧ Hid (acc ++ (unitsQ (u - j) (n + j) rr).1 = (unitsQ u n r3).1) ∧ Hid ((unitsQ (u - j) (n + j) rr).2 = (unitsQ u n r3).2) ∧ Hid (acc.length = j) ∧ Hid (Fd wr p rr) ∧ Hid (Fr (fun b => b = p ∨ b = g) w4 wr) ∧ Hid (Bk wr g 26 #[.int .i64 (n : Int), .slice z.A z.n z.c, .slice none 0 0]) ∧ Hid (Bk wr w.heap.size 26 #[.int .i64 0, .slice none 0 0, .slice none 0 0])) (fun i _ => u - (intOf i).toNat)
  case atStart => exact ⟨0, Sv.none, [], r3, rfl, Nat.zero_le _, Own.nil _ _, rfl, rfl, rfl, HD, Fr.refl _ _, DG, DR⟩
  case round =>
    obtain ⟨j, z, acc, rr, rfl, hj, HA, HE1, HE2, HAL, HD9, HP9, HG9, HR9⟩ := hrel
    clear HD DG DR
    by_cases hju : j < u
    · have HJ : Hid (u - j = u - j - 1 + 1) := (show u - j = u - j - 1 + 1 from by omega)
      obtain ⟨v, hv⟩ : ∃ v : Nat, v = n + j := ⟨_, rfl⟩
      have HV := Lib.hid hv.symm
      have hw7 : IntKind.i64.wrap ((n : Int) + (j : Int)) = (v : Int) := by rw [IntWalk.i64_in _ (by omega)]; omega
      have hv9 : v ≤ 100 := by omega
      have hj9 : j < 100 := by omega
      have D0 := Lib.hid (HD9.out.gr (Gr.refl wr).drew)
      have A0 := Lib.hid (HA.out.up (Gr.refl wr).drew)
      have P0 := Lib.hid (HP9.out.ext (Gr.refl wr).drew.fr (fun _ _ h => h.elim))
      have G0 := Lib.hid ((Gr.refl wr).drew.bk HG9.out)
      have R0 := Lib.hid ((Gr.refl wr).drew.bk HR9.out)
      clear HA HD9 HP9 HG9 HR9
      clear hv
      go_wp2_with fail
      go_upto_region 6 with fail
      have hS0 := G0.out.c3
      refine wp_region_E (fun W => W.cell? ⟨g, 0, none⟩ = some (.int .i64 (n : Int)) ∧ W.cell? ⟨g, 1, none⟩ = some (.slice z.A z.n z.c) ∧ W.cell? ⟨g, 2, none⟩ = some (.slice none 0 0)) (by kernel_rfl) ?_
      show anyE _ _ _ _ 12 _ _ _
      refine anyE.take (i := 0) (v := ?wv1) rfl (by kernel_rfl) (by kernel_rfl) (by kernel_rfl) (fun _ _ _ h => h) (Or.inl ⟨by rfl, ?wy1⟩) hS0 ?wr1
      case wy1 => (intro w' hS'; obtain ⟨g0, g1, g2⟩ := hS'; go_simp; try with_reducible rfl)
      try simp only [Act.put, List.setIfInBounds_toArray, List.set_cons_zero, List.set_cons_succ]
      refine anyE.take (i := 1) (v := ?wv2) rfl (by kernel_rfl) (by kernel_rfl) (by kernel_rfl) (fun _ _ _ h => h) (Or.inl ⟨by rfl, ?wy2⟩) hS0 ?wr2
      case wy2 => (intro w' hS'; obtain ⟨g0, g1, g2⟩ := hS'; go_simp; try with_reducible rfl)
      try simp only [Act.put, List.setIfInBounds_toArray, List.set_cons_zero, List.set_cons_succ]
      refine anyE.take (i := 2) (v := ?wv3) rfl (by kernel_rfl) (by kernel_rfl) (by kernel_rfl) (fun _ _ _ h => h) (Or.inl ⟨by rfl, ?wy3⟩) hS0 ?wr3
      case wy3 => (intro w' hS'; obtain ⟨g0, g1, g2⟩ := hS'; go_simp; try with_reducible rfl)
      try simp only [Act.put, List.setIfInBounds_toArray, List.set_cons_zero, List.set_cons_succ]
      refine anyE.take (i := 3) (v := ?wv4) rfl (by kernel_rfl) (by kernel_rfl) (by kernel_rfl) (fun _ _ _ h => h) (Or.inl ⟨by rfl, ?wy4⟩) hS0 ?wr4
      case wy4 => (intro w' hS'; obtain ⟨g0, g1, g2⟩ := hS'; go_simp; try with_reducible rfl)
      try simp only [Act.put, List.setIfInBounds_toArray, List.set_cons_zero, List.set_cons_succ]
      refine anyE.take (i := 4) (v := ?wv5) rfl (by kernel_rfl) (by kernel_rfl) (by kernel_rfl) (fun _ _ _ h => h) (Or.inl ⟨by rfl, ?wy5⟩) hS0 ?wr5
      case wy5 => (intro w' hS'; obtain ⟨g0, g1, g2⟩ := hS'; go_simp; try with_reducible rfl)
      try simp only [Act.put, List.setIfInBounds_toArray, List.set_cons_zero, List.set_cons_succ]
      refine anyE.take (i := 5) (v := ?wv6) rfl (by kernel_rfl) (by kernel_rfl) (by kernel_rfl) (fun _ _ _ h => h) (Or.inl ⟨by rfl, ?wy6⟩) hS0 ?wr6
      case wy6 => (intro w' hS'; obtain ⟨g0, g1, g2⟩ := hS'; go_simp; try with_reducible rfl)
      try simp only [Act.put, List.setIfInBounds_toArray, List.set_cons_zero, List.set_cons_succ]
      refine anyE.take (i := 6) (v := ?wv7) rfl (by kernel_rfl) (by kernel_rfl) (by kernel_rfl) (fun _ _ _ h => h) (Or.inl ⟨by rfl, ?wy7⟩) hS0 ?wr7
      case wy7 => (intro w' hS'; obtain ⟨g0, g1, g2⟩ := hS'; go_simp; try with_reducible rfl)
      try simp only [Act.put, List.setIfInBounds_toArray, List.set_cons_zero, List.set_cons_succ]
      refine anyE.one 7 rfl (by kernel_rfl) (by rfl) (fun K hK => ?_)
      refine doesAt_wp (K := fun v' W => ∃ f : Fv, v' = f.v ∧ f.Is W (formQ v rr).1 ∧ Fd W p (formQ v rr).2 ∧ Fp p wr.drew W) (doesAt_enter (f := 26) (args := #[.pointer (some ⟨p, 0, none⟩), .int .i64 (v : Int)]) (by go_simp; try (first | with_reducible rfl | rfl)) ((form_any _ p v _ D0.out (by omega)).mono ?_)) ?_
      · rintro e w' ⟨f, rfl, hf, hd, hp⟩
        exact ⟨_, rfl, f, rfl, hf, hd, hp⟩
      rintro v w5 ⟨f, rfl, hf, hd, hp⟩
      have FI1 := Lib.hid hf
      have D1 := Lib.hid hd
      have A1 := Lib.hid (A0.out.fp hp D0.out)
      have P1 := Lib.hid (P0.out.ext hp (fun i _ e => .inl (.inl e)))
      have G1 := Lib.hid (G0.out.fp hp D0.out (by decide))
      have R1 := Lib.hid (R0.out.fp hp D0.out (by decide))
      clear hf hd hp hS0
      refine hK.out _ _ ⟨Or.inl (G1.out.c3), ?_⟩
      clear hK K
      try simp only [Act.put, List.setIfInBounds_toArray, List.set_cons_zero, List.set_cons_succ]
      obtain ⟨B1, GB⟩ := made1 w5 43 #[.slice f.terms.A f.terms.n f.terms.c, .bool f.const.neg, .slice f.const.num.A f.const.num.n f.const.num.c, .slice f.const.den.A f.const.den.n f.const.den.c]
      have FI2 := Lib.hid (FI1.out.gr GB)
      have D2 := Lib.hid (D1.out.gr GB)
      have A2 := Lib.hid (A1.out.up GB)
      have P2 := Lib.hid (P1.out.ext GB.fr (fun _ _ h => h.elim))
      have G2 := Lib.hid (GB.bk G1.out)
      have R2 := Lib.hid (GB.bk R1.out)
      have BC := Lib.hid (bk_cells B1)
      clear GB B1
      refine anyE.one 8 rfl (by kernel_rfl) (by rfl) (fun K hK => ?_)
      go_simp
      refine hK.out _ _ ⟨Or.inl (G2.out.c3), ?_⟩
      clear hK K
      try simp only [Act.put, List.setIfInBounds_toArray, List.set_cons_zero, List.set_cons_succ]
      generalize hw6 : w5.alloc (.cells #[.slice f.terms.A f.terms.n f.terms.c, .bool f.const.neg, .slice f.const.num.A f.const.num.n f.const.num.c, .slice f.const.den.A f.const.den.n f.const.den.c] 43) = w6 at *
      clear hw6
      have LB2 := Lib.hid P2.out.size
      have LZ : Hid (z.n = j) := by rw [← HAL.out]; exact (A2.out.len Fv.len (by decide)).symm
      refine anyE.one 9 rfl (by kernel_rfl) (by rfl) (fun K hK => ?_)
      refine Own.app1 elemF _ _ (by rfl) (by rfl) A2.out ⟨w5.heap.size, 0, none⟩ 1 f _ (by rfl) FI2.out rfl BC.out (Fv.one f) (by unfold maxLen; have := LZ.out; omega) (by have := LZ.out; omega) LB2.out (fun w' F => A2.out.step F) (fun y w7 hyn hy hF => ?_)
      have A3 := Lib.hid hy
      have D3 := Lib.hid (D2.out.own A2.out hF)
      have P3 := Lib.hid (P2.out.ext hF (fun i _ e => .inr (A2.out.lt i e).1))
      have G3 := Lib.hid (hF.bk G2.out (fun e => A2.out.ne G2.out (by decide) e))
      have R3 := Lib.hid (hF.bk R2.out (fun e => A2.out.ne R2.out (by decide) e))
      clear hy hF hyn
      refine hK.out _ _ ⟨Or.inl (G3.out.c3), ?_⟩
      clear hK K
      try simp only [Act.put, List.setIfInBounds_toArray, List.set_cons_zero, List.set_cons_succ]
      have hS3 := G3.out.c3
      refine anyE.take (i := 10) (v := ?wv8) rfl (by kernel_rfl) (by kernel_rfl) (by kernel_rfl) (fun _ _ _ h => h) (Or.inl ⟨by rfl, ?wy8⟩) hS3 ?wr8
      case wy8 => (intro w' hS'; obtain ⟨g0, g1, g2⟩ := hS'; go_simp; try with_reducible rfl)
      try simp only [Act.put, List.setIfInBounds_toArray, List.set_cons_zero, List.set_cons_succ]
      clear hS3
      refine anyE.one 11 rfl (by kernel_rfl) (by rfl) (fun K hK => ?_)
      have fz3 := G3.out.frozen
      have g9 := G3.out.c3
      have g0 := g9.1
      have g1 := g9.2.1
      have g2 := g9.2.2
      clear g9
      go_simp
      refine hK.out _ _ ⟨Or.inr (by kernel_rfl), ?_⟩
      clear hK K
      try simp only [Act.put, List.setIfInBounds_toArray, List.set_cons_zero, List.set_cons_succ]
      refine anyE.done (by kernel_rfl) ?_
      have F4 := (Fr.set w7 ⟨g, 1, none⟩ (.slice y.A y.n y.c) rfl : Fr (fun b => b = g) w7 _)
      have B4 := G3.out.put 1 (.slice y.A y.n y.c)
      have D4 := Lib.hid (D3.out.st F4 G3.out (by decide) (by decide))
      have A4 := Lib.hid (OwnF.st A3.out F4 G3.out (by decide) (by decide) (by decide))
      have P4 := Lib.hid (P3.out.ext F4 (fun i _ e => .inl (.inr e)))
      have R4 := Lib.hid (F4.bk R3.out (fun e => hgr.out e.symm))
      have G4 := Lib.hid B4
      simp only [Array.setIfInBounds, List.size_toArray, List.length_cons, List.length_nil] at G4
      clear F4 B4 g0 g1 g2 fz3
      generalize w7.setCell ⟨g, 1, none⟩ (.slice y.A y.n y.c) = w8 at *
      go_wp2
      go_roundw
      · refine ⟨j + 1, y, acc ++ [(formQ v rr).1], (formQ v rr).2, by go_num, by omega, A4, ?_, ?_, Lib.hid (by have := HAL.out; rw [List.length_append, this]; rfl), D4, P4, G4, R4⟩
        · show _ ++ (unitsQ (u - (j + 1)) (n + (j + 1)) (formQ v rr).2).1 = _
          rw [← HE1.out, HJ.out, unitsQ_succ, show u - (j + 1) = u - j - 1 from by omega, List.append_assoc, HV.out, show n + (j + 1) = v + 1 from by have := HV.out; omega]
          all_goals rfl
        · show (unitsQ (u - (j + 1)) (n + (j + 1)) (formQ v rr).2).2 = _
          rw [← HE2.out, HJ.out, unitsQ_succ, show u - (j + 1) = u - j - 1 from by omega, HV.out, show n + (j + 1) = v + 1 from by have := HV.out; omega]
          all_goals rfl
      · simp [intOf]; omega
    · obtain rfl : u = j := by omega
      have HU1 : Hid (acc = (unitsQ u n r3).1) := by rw [← HE1.out, Nat.sub_self]; exact (List.append_nil _).symm
      have HU2 : Hid (rr = (unitsQ u n r3).2) := by rw [← HE2.out, Nat.sub_self]; exact rfl
      have HUF := Lib.hid HA.out.forms
      have HPW := Lib.hid (HPP.out.ext HP9.out (fun i _ e => e.elim (fun e => .inl e) (fun e => .inr (by rw [e]; exact HNO.out))))
      have HD := HD9
      have DG := HG9
      have DR := HR9
      have HGB := HG9
      clear HD9 HG9 HR9 HP9 HA HE1 HE2 HAL
      generalize z = zu at *
      generalize rr = r4 at *
      generalize acc = us at *
      go_wp2_with fail
      generalize wr = wB at *
      go_loopw [7] (fun i wr => ∃ (j : Nat) (z : Sv) (acc : List Fm) (rr : List Nat), i = .int .i64 j ∧ j ≤ m ∧ Hid (OwnF wr wB.heap.size z acc) ∧ Hid (acc ++ (outsQ (m - j) (nu) rr).1 = (outsQ m nu r4).1) ∧ Hid ((outsQ (m - j) (nu) rr).2 = (outsQ m nu r4).2) ∧ Hid (acc.length = j) ∧ Hid (Fd wr p rr) ∧ Hid (Fr (fun b => b = p ∨ b = g) wB wr) ∧ Hid (Bk wr g 26 #[.int .i64 (n : Int), .slice zu.A zu.n zu.c, .slice z.A z.n z.c]) ∧ Hid (Bk wr w.heap.size 26 #[.int .i64 0, .slice none 0 0, .slice none 0 0])) (fun i _ => m - (intOf i).toNat)
      case atStart => exact ⟨0, Sv.none, [], r4, rfl, Nat.zero_le _, Own.nil _ _, rfl, rfl, rfl, HD, Fr.refl _ _, DG, DR⟩
      case round =>
        obtain ⟨j, z, acc, rr, rfl, hj, HA, HE1, HE2, HAL, HD9, HP9, HG9, HR9⟩ := hrel
        have HDB := HD
        clear HD DG DR
        by_cases hju : j < m
        · have HJ : Hid (m - j = m - j - 1 + 1) := (show m - j = m - j - 1 + 1 from by omega)
          have hw7 : IntKind.i64.wrap ((n : Int) + (u : Int)) = (nu : Int) := by rw [IntWalk.i64_in _ (by omega)]; omega
          have hv9 : nu ≤ 100 := by omega
          have hj9 : j < 100 := by omega
          have D0 := Lib.hid (HD9.out.gr (Gr.refl wr).drew)
          have A0 := Lib.hid (HA.out.up (Gr.refl wr).drew)
          have P0 := Lib.hid (HP9.out.ext (Gr.refl wr).drew.fr (fun _ _ h => h.elim))
          have G0 := Lib.hid ((Gr.refl wr).drew.bk HG9.out)
          have R0 := Lib.hid ((Gr.refl wr).drew.bk HR9.out)
          clear HA HD9 HP9 HG9 HR9
    
          go_wp2_with fail
          go_upto_region 10 with fail
          have hS0 := G0.out.c3
          refine wp_region_E (fun W => W.cell? ⟨g, 0, none⟩ = some (.int .i64 (n : Int)) ∧ W.cell? ⟨g, 1, none⟩ = some (.slice zu.A zu.n zu.c) ∧ W.cell? ⟨g, 2, none⟩ = some (.slice z.A z.n z.c)) (by kernel_rfl) ?_
          show anyE _ _ _ _ 12 _ _ _
          refine anyE.take (i := 0) (v := ?wv9) rfl (by kernel_rfl) (by kernel_rfl) (by kernel_rfl) (fun _ _ _ h => h) (Or.inl ⟨by rfl, ?wy9⟩) hS0 ?wr9
          case wy9 => (intro w' hS'; obtain ⟨g0, g1, g2⟩ := hS'; go_simp; try with_reducible rfl)
          try simp only [Act.put, List.setIfInBounds_toArray, List.set_cons_zero, List.set_cons_succ]
          refine anyE.take (i := 1) (v := ?wv10) rfl (by kernel_rfl) (by kernel_rfl) (by kernel_rfl) (fun _ _ _ h => h) (Or.inl ⟨by rfl, ?wy10⟩) hS0 ?wr10
          case wy10 => (intro w' hS'; obtain ⟨g0, g1, g2⟩ := hS'; go_simp; try with_reducible rfl)
          try simp only [Act.put, List.setIfInBounds_toArray, List.set_cons_zero, List.set_cons_succ]
          refine anyE.take (i := 2) (v := ?wv11) rfl (by kernel_rfl) (by kernel_rfl) (by kernel_rfl) (fun _ _ _ h => h) (Or.inl ⟨by rfl, ?wy11⟩) hS0 ?wr11
          case wy11 => (intro w' hS'; obtain ⟨g0, g1, g2⟩ := hS'; go_simp; try with_reducible rfl)
          try simp only [Act.put, List.setIfInBounds_toArray, List.set_cons_zero, List.set_cons_succ]
          refine anyE.take (i := 3) (v := ?wv12) rfl (by kernel_rfl) (by kernel_rfl) (by kernel_rfl) (fun _ _ _ h => h) (Or.inl ⟨by rfl, ?wy12⟩) hS0 ?wr12
          case wy12 => (intro w' hS'; obtain ⟨g0, g1, g2⟩ := hS'; go_simp; try with_reducible rfl)
          try simp only [Act.put, List.setIfInBounds_toArray, List.set_cons_zero, List.set_cons_succ]
          refine anyE.take (i := 4) (v := ?wv13) rfl (by kernel_rfl) (by kernel_rfl) (by kernel_rfl) (fun _ _ _ h => h) (Or.inl ⟨by rfl, ?wy13⟩) hS0 ?wr13
          case wy13 => (intro w' hS'; obtain ⟨g0, g1, g2⟩ := hS'; go_simp; try with_reducible rfl)
          try simp only [Act.put, List.setIfInBounds_toArray, List.set_cons_zero, List.set_cons_succ]
          refine anyE.take (i := 5) (v := ?wv14) rfl (by kernel_rfl) (by kernel_rfl) (by kernel_rfl) (fun _ _ _ h => h) (Or.inl ⟨by rfl, ?wy14⟩) hS0 ?wr14
          case wy14 => (intro w' hS'; obtain ⟨g0, g1, g2⟩ := hS'; go_simp; try with_reducible rfl)
          try simp only [Act.put, List.setIfInBounds_toArray, List.set_cons_zero, List.set_cons_succ]
          refine anyE.take (i := 6) (v := ?wv15) rfl (by kernel_rfl) (by kernel_rfl) (by kernel_rfl) (fun _ _ _ h => h) (Or.inl ⟨by rfl, ?wy15⟩) hS0 ?wr15
          case wy15 => (intro w' hS'; obtain ⟨g0, g1, g2⟩ := hS'; go_simp; try with_reducible rfl)
          try simp only [Act.put, List.setIfInBounds_toArray, List.set_cons_zero, List.set_cons_succ]
          refine anyE.one 7 rfl (by kernel_rfl) (by rfl) (fun K hK => ?_)
          refine doesAt_wp (K := fun v' W => ∃ f : Fv, v' = f.v ∧ f.Is W (formQ nu rr).1 ∧ Fd W p (formQ nu rr).2 ∧ Fp p wr.drew W) (doesAt_enter (f := 26) (args := #[.pointer (some ⟨p, 0, none⟩), .int .i64 (nu : Int)]) (by go_simp; try (first | with_reducible rfl | rfl)) ((form_any _ p nu _ D0.out (by omega)).mono ?_)) ?_
          · rintro e w' ⟨f, rfl, hf, hd, hp⟩
            exact ⟨_, rfl, f, rfl, hf, hd, hp⟩
          rintro v w5 ⟨f, rfl, hf, hd, hp⟩
          have FI1 := Lib.hid hf
          have D1 := Lib.hid hd
          have A1 := Lib.hid (A0.out.fp hp D0.out)
          have P1 := Lib.hid (P0.out.ext hp (fun i _ e => .inl (.inl e)))
          have G1 := Lib.hid (G0.out.fp hp D0.out (by decide))
          have R1 := Lib.hid (R0.out.fp hp D0.out (by decide))
          clear hf hd hp hS0
          refine hK.out _ _ ⟨Or.inl (G1.out.c3), ?_⟩
          clear hK K
          try simp only [Act.put, List.setIfInBounds_toArray, List.set_cons_zero, List.set_cons_succ]
          obtain ⟨B1, GB⟩ := made1 w5 43 #[.slice f.terms.A f.terms.n f.terms.c, .bool f.const.neg, .slice f.const.num.A f.const.num.n f.const.num.c, .slice f.const.den.A f.const.den.n f.const.den.c]
          have FI2 := Lib.hid (FI1.out.gr GB)
          have D2 := Lib.hid (D1.out.gr GB)
          have A2 := Lib.hid (A1.out.up GB)
          have P2 := Lib.hid (P1.out.ext GB.fr (fun _ _ h => h.elim))
          have G2 := Lib.hid (GB.bk G1.out)
          have R2 := Lib.hid (GB.bk R1.out)
          have BC := Lib.hid (bk_cells B1)
          clear GB B1
          refine anyE.one 8 rfl (by kernel_rfl) (by rfl) (fun K hK => ?_)
          go_simp
          refine hK.out _ _ ⟨Or.inl (G2.out.c3), ?_⟩
          clear hK K
          try simp only [Act.put, List.setIfInBounds_toArray, List.set_cons_zero, List.set_cons_succ]
          generalize hw6 : w5.alloc (.cells #[.slice f.terms.A f.terms.n f.terms.c, .bool f.const.neg, .slice f.const.num.A f.const.num.n f.const.num.c, .slice f.const.den.A f.const.den.n f.const.den.c] 43) = w6 at *
          clear hw6
          have LB2 := Lib.hid P2.out.size
          have LZ : Hid (z.n = j) := by rw [← HAL.out]; exact (A2.out.len Fv.len (by decide)).symm
          refine anyE.one 9 rfl (by kernel_rfl) (by rfl) (fun K hK => ?_)
          refine Own.app1 elemF _ _ (by rfl) (by rfl) A2.out ⟨w5.heap.size, 0, none⟩ 1 f _ (by rfl) FI2.out rfl BC.out (Fv.one f) (by unfold maxLen; have := LZ.out; omega) (by have := LZ.out; omega) LB2.out (fun w' F => A2.out.step F) (fun y w7 hyn hy hF => ?_)
          have A3 := Lib.hid hy
          have D3 := Lib.hid (D2.out.own A2.out hF)
          have P3 := Lib.hid (P2.out.ext hF (fun i _ e => .inr (A2.out.lt i e).1))
          have G3 := Lib.hid (hF.bk G2.out (fun e => A2.out.ne G2.out (by decide) e))
          have R3 := Lib.hid (hF.bk R2.out (fun e => A2.out.ne R2.out (by decide) e))
          clear hy hF hyn
          refine hK.out _ _ ⟨Or.inl (G3.out.c3), ?_⟩
          clear hK K
          try simp only [Act.put, List.setIfInBounds_toArray, List.set_cons_zero, List.set_cons_succ]
          have hS3 := G3.out.c3
          refine anyE.take (i := 10) (v := ?wv16) rfl (by kernel_rfl) (by kernel_rfl) (by kernel_rfl) (fun _ _ _ h => h) (Or.inl ⟨by rfl, ?wy16⟩) hS3 ?wr16
          case wy16 => (intro w' hS'; obtain ⟨g0, g1, g2⟩ := hS'; go_simp; try with_reducible rfl)
          try simp only [Act.put, List.setIfInBounds_toArray, List.set_cons_zero, List.set_cons_succ]
          clear hS3
          refine anyE.one 11 rfl (by kernel_rfl) (by rfl) (fun K hK => ?_)
          have fz3 := G3.out.frozen
          have g9 := G3.out.c3
          have g0 := g9.1
          have g1 := g9.2.1
          have g2 := g9.2.2
          clear g9
          go_simp
          refine hK.out _ _ ⟨Or.inr (by kernel_rfl), ?_⟩
          clear hK K
          try simp only [Act.put, List.setIfInBounds_toArray, List.set_cons_zero, List.set_cons_succ]
          refine anyE.done (by kernel_rfl) ?_
          have F4 := (Fr.set w7 ⟨g, 2, none⟩ (.slice y.A y.n y.c) rfl : Fr (fun b => b = g) w7 _)
          have B4 := G3.out.put 2 (.slice y.A y.n y.c)
          have D4 := Lib.hid (D3.out.st F4 G3.out (by decide) (by decide))
          have A4 := Lib.hid (OwnF.st A3.out F4 G3.out (by decide) (by decide) (by decide))
          have P4 := Lib.hid (P3.out.ext F4 (fun i _ e => .inl (.inr e)))
          have R4 := Lib.hid (F4.bk R3.out (fun e => hgr.out e.symm))
          have G4 := Lib.hid B4
          simp only [Array.setIfInBounds, List.size_toArray, List.length_cons, List.length_nil] at G4
          clear F4 B4 g0 g1 g2 fz3
          generalize w7.setCell ⟨g, 2, none⟩ (.slice y.A y.n y.c) = w8 at *
          go_wp2
          go_roundw
          · refine ⟨j + 1, y, acc ++ [(formQ nu rr).1], (formQ nu rr).2, by go_num, by omega, A4, ?_, ?_, Lib.hid (by have := HAL.out; rw [List.length_append, this]; rfl), D4, P4, G4, R4⟩
            · show _ ++ (outsQ (m - (j + 1)) (nu) (formQ nu rr).2).1 = _
              rw [← HE1.out, HJ.out, outsQ_succ, show m - (j + 1) = m - j - 1 from by omega, List.append_assoc]
              all_goals rfl
            · show (outsQ (m - (j + 1)) (nu) (formQ nu rr).2).2 = _
              rw [← HE2.out, HJ.out, outsQ_succ, show m - (j + 1) = m - j - 1 from by omega]
              all_goals rfl
          · simp [intOf]; omega
        · obtain rfl : m = j := by omega
          have HO1 : Hid (acc = (outsQ m nu r4).1) := by rw [← HE1.out, Nat.sub_self]; exact (List.append_nil _).symm
          have HO2 : Hid (rr = (outsQ m nu r4).2) := by rw [← HE2.out, Nat.sub_self]; exact rfl
          have HOF := Lib.hid HA.out.forms
          have HUF2 := Lib.hid (HUF.out.pg HP9.out HDB.out HGB.out)
          have HPE := Lib.hid (HPW.out.ext HP9.out (fun i _ e => e.elim (fun e => .inl e) (fun e => .inr (by rw [e]; exact HNO.out))))
          obtain ⟨g0, g1, g2⟩ := HG9.out.c3
          obtain ⟨B5, F5⟩ := HR9.out.put3 (.int .i64 (n : Int)) (.slice zu.A zu.n zu.c) (.slice z.A z.n z.c)
          have H5 := Lib.hid F5
          obtain ⟨d0, d1, d2⟩ := B5.c3
          clear F5 B5
          obtain ⟨z0, z1, z2⟩ := HR9.out.c3
          have fz := HR9.out.frozen
          go_wp2
          generalize ((wr.setCell ⟨w.heap.size, 0, none⟩ (.int .i64 (n : Int))).setCell ⟨w.heap.size, 1, none⟩ (.slice zu.A zu.n zu.c)).setCell ⟨w.heap.size, 2, none⟩ (.slice z.A z.n z.c) = W5 at *
          (try simp only [Exit.inBlock, Exit.then])
          refine bodyPost_ret (by simp [results, Tryz.results17, go_sem, d0, d1, d2]; try rfl) rfl ?_
          have HQ : graphQ r = (⟨n, us, acc⟩, rr) := by
            unfold graphQ
            simp only
            rw [HX1.out, HX2.out, ← hnx.out, HX3.out, ← hmx.out, HR3.out, show n + u = nu from hnu.out.symm, ← HU2.out, ← HU1.out, ← HO1.out, ← HO2.out]
          rw [HQ]
          exact ⟨⟨n, zu, z⟩, rfl, ⟨rfl, HUF2.out.st H5.out HR9.out (by decide) (by decide) (by decide), HOF.out.st H5.out HR9.out (by decide) (by decide) (by decide)⟩, HD9.out.st H5.out HR9.out (by decide) (by decide), HPE.out.ext H5.out (fun i _ e => .inr (by rw [e]; exact Nat.le_refl _))⟩
set_option maxRecDepth 100000 in
set_option maxHeartbeats 4000000 in

theorem small_any (w : World) (x : Sv) (L : List Nat) (hx : x.Is w 1 (L.map bv)) (hl : ∀ y ∈ L, y < 256) (hn : x.n ≤ 1000) :
    Calls Tryz.prog 6 #[.slice x.A x.n x.c] w fun e w' => ∃ g : Gv, e = .returned g.v ∧ g.Is w' (graphQ L).1 ∧ Gr w w' := by
  obtain ⟨B1, G⟩ := made1 w 26 (#[.int .i64 0, .slice none 0 0, .slice none 0 0])
  have HG := Lib.hid G
  have D_r := Lib.hid B1
  clear G B1
  have HX := Lib.hid hx
  have HL := Lib.hid hl
  clear hx hl
  go_enter Tryz.func6, Tryz.ntmps6
  go_wp2_with fail
  generalize hW : w.alloc (.cells #[.int .i64 0, .slice none 0 0, .slice none 0 0] 26) = W at *
  clear hW
  have N_r : Hid (w.heap.size ≤ w.heap.size) := (by show w.heap.size ≤ w.heap.size; omega)
  refine (new_any W x L (HX.out.gr HG.out) HL.out hn).mono ?_
  rintro e w1 ⟨p, rfl, hp, hd, G1⟩
  have HD := Lib.hid hd
  have DR := Lib.hid (G1.bk D_r.out)
  have HG1 := Lib.hid (HG.out.trans G1)
  have HPO := Lib.hid (Nat.le_trans HG.out.size hp)
  clear hp hd G1
  go_wp2_with fail
  refine (graph_any w1 p L HD.out).mono ?_
  rintro e w2 ⟨g, rfl, hg, hd, hp⟩
  have DR2 := Lib.hid (DR.out.fp hp HD.out (by decide))
  have HGG := Lib.hid (HG1.out.step hp (fun b _ e => by rw [e]; exact HPO.out))
  have HV := Lib.hid hg
  clear hg hd hp
  obtain ⟨B5, F5⟩ := DR2.out.put3 (.int .i64 g.inputs) (.slice g.units.A g.units.n g.units.c) (.slice g.outs.A g.outs.n g.outs.c)
  have H5 := Lib.hid F5
  obtain ⟨d0, d1, d2⟩ := B5.c3
  clear F5 B5
  obtain ⟨z0, z1, z2⟩ := DR2.out.c3
  have fz := DR2.out.frozen
  go_wp2
  generalize ((w2.setCell ⟨w.heap.size, 0, none⟩ (.int .i64 g.inputs)).setCell ⟨w.heap.size, 1, none⟩ (.slice g.units.A g.units.n g.units.c)).setCell ⟨w.heap.size, 2, none⟩ (.slice g.outs.A g.outs.n g.outs.c) = W5 at *
  (try simp only [Exit.inBlock, Exit.then])
  refine bodyPost_ret (by simp [results, Tryz.results6, go_sem, d0, d1, d2]; try rfl) rfl ?_
  exact ⟨g, rfl, ⟨HV.out.inputs, HV.out.units.st H5.out DR2.out (by decide) (by decide) (by decide), HV.out.outs.st H5.out DR2.out (by decide) (by decide) (by decide)⟩, HGG.out.fr_at H5.out N_r.out⟩
end Go.Proofs.YtcmfepaffhnemaaGreatDoor
