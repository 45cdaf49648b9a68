/- Rational numbers, terms, forms, walks of regions. -/
import Derived.Test.YtcmfepaffhnemaaGreatDoorMb
import Derived.Deep.RegionHeld3
import Derived.Test.YtcmfepaffhnemaaGreatDoorMa
import Derived.OrdersHeld
import Derived.Deep.RegionHeld
import Derived.ArgAppend
import Derived.Deep.Cut
import Derived.WideMake
set_option linter.unusedSimpArgs false
set_option linter.unusedVariables false
namespace Go.Proofs.YtcmfepaffhnemaaGreatDoor
open Go.RowKit

attribute [local go_sem] Oper.semAt_some

theorem made2r (w : World) (t u : TypeId) (a b : Array Value) : (w.alloc (.cells a t)).heap.size = w.heap.size + 1 := World.size_alloc ..
theorem Q.sign_isg (q : Q) : isg q.sg q.num = q.sign := by
  unfold isg Q.sign Q.sg
  by_cases h : q.num = 0
  · rw [if_pos h, if_pos h]
  · rw [if_neg h, if_neg h, decide_eq_true (by omega), Bool.and_true]

set_option maxRecDepth 100000 in
set_option maxHeartbeats 4000000 in
theorem signed_any (w : World) (a : Rv) (q : Q) (ha : a.Is w q) (hl : (limbs q.num).length ≤ 1000000) :
    Calls Tryz.prog 108 #[a.v] w fun e w' => ∃ r : Iv, e = .returned r.v ∧ r.Is w' q.sg q.num ∧ Gr w w' := by
  obtain ⟨B1, B2, G⟩ := made2 w 41 110 #[.bool a.neg, .slice a.num.A a.num.n a.num.c, .slice a.den.A a.den.n a.den.c] #[.bool false, .slice none 0 0]
  have HA := Lib.hid (ha.gr G)
  have HG := Lib.hid G
  have hB2 := Lib.hid B2
  obtain ⟨a0, a1, a2⟩ := B1.c3
  have HI := Lib.hid (imake_any _ a.neg a.num _ (ha.num.gr G) hl)
  have hE : Hid ((a.neg && decide (0 < q.num)) = q.sg) := by rw [ha.neg]; exact rfl
  clear ha hl B1 B2 G
  simp only [Rv.v]
  go_enter Tryz.func108, Tryz.ntmps108
  go_wp2_with fail
  refine HI.out.mono ?_
  rintro e w1 ⟨i, rfl, hi, G1⟩
  rw [hE.out] at hi
  have HII := Lib.hid hi
  have HG1 := Lib.hid (HG.out.trans G1)
  have HBs := Lib.hid (G1.bk hB2.out)
  obtain ⟨r0, r1⟩ := HBs.out.c2
  have fz := HBs.out.frozen
  clear hi G1 HI a0 a1 a2 hB2
  have hle : Hid (w.heap.size ≤ w.heap.size + 1) := Nat.le_succ _
  generalize w.heap.size + 1 = r at *
  obtain ⟨B5, F5⟩ := HBs.out.put2 (.bool i.neg) (.slice i.mag.A i.mag.n i.mag.c)
  have H5 := Lib.hid F5
  obtain ⟨d0, d1⟩ := B5.c2
  clear F5 B5
  go_wp2
  generalize (w1.setCell ⟨r, 0, none⟩ (.bool i.neg)).setCell ⟨r, 1, none⟩ (.slice i.mag.A i.mag.n i.mag.c) = W5 at *
  (try simp only [Exit.inBlock, Exit.then])
  refine bodyPost_ret (by simp [results, Tryz.results108, go_sem, d0, d1]; try rfl) rfl ?_
  exact ⟨i, rfl, ⟨HII.out.neg, HII.out.mag.fr H5.out HBs.out (noLimb_int _ _ _ _)⟩, HG1.out.fr_at H5.out hle.out⟩

set_option maxRecDepth 100000 in
set_option maxHeartbeats 4000000 in
theorem sign_any (w : World) (a : Rv) (q : Q) (ha : a.Is w q) (hl : (limbs q.num).length ≤ 1000000) :
    Calls Tryz.prog 68 #[a.v] w fun e w' => e = .returned (.int .i64 q.sign) ∧ Gr w w' := by
  have B1 := Bk.made w 41 #[.bool a.neg, .slice a.num.A a.num.n a.num.c, .slice a.den.A a.den.n a.den.c]
  have HG := Lib.hid ((Gr.refl w).alloc (.cells #[.bool a.neg, .slice a.num.A a.num.n a.num.c, .slice a.den.A a.den.n a.den.c] 41))
  obtain ⟨a0, a1, a2⟩ := B1.c3
  have HS := Lib.hid (signed_any _ a q (ha.gr HG.out) hl)
  have hE := Lib.hid (Q.sign_isg q)
  have HL := Lib.hid hl
  clear ha B1 hl
  simp only [Rv.v] at *
  go_enter Tryz.func68, Tryz.ntmps68
  go_wp2_with fail
  refine HS.out.mono ?_
  rintro e w1 ⟨i, rfl, hi, G1⟩
  have HG1 := Lib.hid (HG.out.trans G1)
  have HI := Lib.hid (isign_any w1 i _ _ hi HL.out)
  rw [hE.out] at HI
  clear hi G1 HS a0 a1 a2
  go_wp2_with fail
  refine HI.out.mono ?_
  rintro e w2 ⟨rfl, G2⟩
  have HG2 := Lib.hid (HG1.out.trans G2)
  clear G2
  go_wp2
  go_ret
  exact ⟨rfl, HG2.out⟩

set_option maxRecDepth 100000 in
set_option maxHeartbeats 4000000 in
theorem canon_any (w : World) (a : Rv) (q : Q) (ha : a.Is w q) (hl : (limbs q.num).length ≤ 1000000) (hd : q.un < B32) :
    Calls Tryz.prog 110 #[a.v] w fun e w' => ∃ r : Rv, e = .returned r.v ∧ r.Is w' (quot q.neg q.num q.un) ∧ Gr w w' := by
  obtain ⟨B1, B2, G⟩ := made2 w 41 41 #[.bool a.neg, .slice a.num.A a.num.n a.num.c, .slice a.den.A a.den.n a.den.c] #[.bool false, .slice none 0 0, .slice none 0 0]
  have HA := Lib.hid (ha.gr G)
  have HG := Lib.hid G
  have hB1 := Lib.hid B1
  have hB2 := Lib.hid B2
  have hld : (limbs q.den).length ≤ 1000000 := by
    refine Nat.le_trans (limbs_len_le (k := 1) ?_) (by decide)
    rw [Nat.pow_one]
    unfold Q.un at hd
    split at hd
    · omega
    · exact hd
  have HL := Lib.hid hl
  have HD := Lib.hid hd
  have HLD := Lib.hid hld
  clear ha hl hd hld B1 B2 G
  simp only [Rv.v]
  go_enter Tryz.func110, Tryz.ntmps110
  go_wp2_with fail
  generalize hW : (w.alloc (.cells #[.bool a.neg, .slice a.num.A a.num.n a.num.c, .slice a.den.A a.den.n a.den.c] 41)).alloc (.cells #[.bool false, .slice none 0 0, .slice none 0 0] 41) = W at *
  clear hW
  have hpr : ¬ w.heap.size = w.heap.size + 1 := by omega
  have hle : Hid (w.heap.size ≤ w.heap.size + 1) := Nat.le_succ _
  generalize w.heap.size + 1 = r at *
  generalize hp : w.heap.size = p at *
  have hPE := Lib.hid hp
  clear hp
  have hpr2 : ¬ r = p := fun e => hpr e.symm
  obtain ⟨a0, a1, a2⟩ := hB1.out.c3
  have HU := Lib.hid (under_any W.drew a q (HA.out.gr (Gr.refl W).drew) HLD.out)
  simp only [Rv.v] at HU
  have HNN := Lib.hid HA.out.neg
  first | (go_region_held3 (fun W => W.cell? ⟨p, 0, none⟩ = some (.bool a.neg) ∧ W.cell? ⟨p, 1, none⟩ = some (.slice a.num.A a.num.n a.num.c) ∧ W.cell? ⟨p, 2, none⟩ = some (.slice a.den.A a.den.n a.den.c))
      (first | go_keep | exact ⟨hk.1, hk.2.1, hk.2.2⟩ | exact ⟨hj.1, hj.2.1, hj.2.2⟩)
      (first | (go_at_call 152; refine (HQ.out).mono ?_; rintro e w2 ⟨i, rfl, hi, G2⟩; have hE1 := Lib.hid (G2.bk hC1.out); have HBs := Lib.hid (G2.bk hC2.out); have HG2 := Lib.hid (HG1.out.trans G2); have hj := hE1.out.c3; obtain ⟨r0, r1, r2⟩ := HBs.out.c3; have fz := HBs.out.frozen; have HII := Lib.hid hi; clear hi G2) | (go_at_call 153; refine (HU.out).mono ?_; rintro e w1 ⟨y, rfl, hy, G1⟩; have hC1 := Lib.hid (G1.bk hB1.out); have hC2 := Lib.hid (G1.bk hB2.out); have HG1 := Lib.hid (HG.out.drew.trans G1); have hk := hC1.out.c3; have HQ := Lib.hid (quot_any w1 a.neg a.num y _ _ ((HA.out.num.gr (Gr.refl W).drew).gr G1) hy HL.out q.un_pos HD.out); clear hy G1))) | fail
  obtain ⟨B5, F5⟩ := HBs.out.put3 (.bool i.neg) (.slice i.num.A i.num.n i.num.c) (.slice i.den.A i.den.n i.den.c)
  have H5 := Lib.hid F5
  obtain ⟨d0, d1, d2⟩ := B5.c3
  clear F5 B5
  go_wp2
  generalize ((w2.setCell ⟨r, 0, none⟩ (.bool i.neg)).setCell ⟨r, 1, none⟩ (.slice i.num.A i.num.n i.num.c)).setCell ⟨r, 2, none⟩ (.slice i.den.A i.den.n i.den.c) = W5 at *
  (try simp only [Exit.inBlock, Exit.then])
  refine bodyPost_ret (by simp [results, Tryz.results110, go_sem, d0, d1, d2]; try rfl) rfl ?_
  exact ⟨i, rfl, by rw [← HNN.out]; exact ⟨HII.out.neg, HII.out.num.fr H5.out HBs.out (noLimb_rat _ _ _ _ _ _ _), HII.out.den.fr H5.out HBs.out (noLimb_rat _ _ _ _ _ _ _)⟩, HG2.out.fr_at H5.out (by rw [hPE.out]; exact hle.out)⟩
end Go.Proofs.YtcmfepaffhnemaaGreatDoor

set_option linter.unusedVariables false
namespace Go.Proofs.YtcmfepaffhnemaaGreatDoor
open Go.RowKit

attribute [local go_sem] Oper.semAt_some

theorem made4 (w : World) (t u v x : TypeId) (a b c d : Array Value) :
    Bk ((((w.alloc (.cells a t)).alloc (.cells b u)).alloc (.cells c v)).alloc (.cells d x)) w.heap.size t a ∧ Bk ((((w.alloc (.cells a t)).alloc (.cells b u)).alloc (.cells c v)).alloc (.cells d x)) (w.heap.size + 1) u b ∧ Bk ((((w.alloc (.cells a t)).alloc (.cells b u)).alloc (.cells c v)).alloc (.cells d x)) (w.heap.size + 1 + 1) v c ∧ Bk ((((w.alloc (.cells a t)).alloc (.cells b u)).alloc (.cells c v)).alloc (.cells d x)) (w.heap.size + 1 + 1 + 1) x d ∧ Gr w ((((w.alloc (.cells a t)).alloc (.cells b u)).alloc (.cells c v)).alloc (.cells d x)) := by
  obtain ⟨h1, h2, h3, h4⟩ := made3 w t u v a b c
  refine ⟨h1.alloc _, h2.alloc _, h3.alloc _, ?_, h4.alloc _⟩
  have s1 : (w.alloc (.cells a t)).heap.size = w.heap.size + 1 := World.size_alloc ..
  have s2 : ((w.alloc (.cells a t)).alloc (.cells b u)).heap.size = w.heap.size + 1 + 1 := by rw [World.size_alloc, s1]
  have s3 : (((w.alloc (.cells a t)).alloc (.cells b u)).alloc (.cells c v)).heap.size = w.heap.size + 1 + 1 + 1 := by rw [World.size_alloc, s2]
  have := Bk.made (((w.alloc (.cells a t)).alloc (.cells b u)).alloc (.cells c v)) x d
  rwa [s3] at this
theorem sg_false (s : Bool) (m : Nat) : ((s != false) && decide (0 < m)) = (s && decide (0 < m)) := by cases s <;> rfl

set_option maxRecDepth 100000 in
set_option maxHeartbeats 4000000 in
theorem cross_any (w : World) (a b : Rv) (x y : Q) (ha : a.Is w x) (hb : b.Is w y) (h1 : (limbs x.num).length ≤ 400000) (h2 : (limbs y.num).length ≤ 400000) (h3 : (limbs x.den).length ≤ 400000) (h4 : (limbs y.den).length ≤ 400000) :
    Calls Tryz.prog 122 #[a.v, b.v] w fun e w' => ∃ r1 r2 : Iv, e = .returned (.tuple #[r1.v, r2.v]) ∧ r1.Is w' (x.sg && decide (0 < x.num * y.un)) (x.num * y.un) ∧ r2.Is w' (y.sg && decide (0 < y.num * x.un)) (y.num * x.un) ∧ Gr w w' := by
  obtain ⟨B1, B2, B3, B4, G⟩ := made4 w 41 41 110 110 #[.bool a.neg, .slice a.num.A a.num.n a.num.c, .slice a.den.A a.den.n a.den.c] #[.bool b.neg, .slice b.num.A b.num.n b.num.c, .slice b.den.A b.den.n b.den.c] #[.bool false, .slice none 0 0] #[.bool false, .slice none 0 0]
  have HA := Lib.hid (ha.gr G)
  have HB := Lib.hid (hb.gr G)
  have HG := Lib.hid G
  have hB1 := Lib.hid B1
  have hB2 := Lib.hid B2
  have hB3 := Lib.hid B3
  have hB4 := Lib.hid B4
  have un_len : ∀ q : Q, (limbs q.den).length ≤ 400000 → (limbs q.un).length ≤ 400000 := fun q h => by
    unfold Q.un
    split
    · rw [limbs_one (by decide) (by decide)]; decide
    · exact h
  have L1 := Lib.hid h1
  have L2 := Lib.hid h2
  have L3 := Lib.hid (un_len x h3)
  have L4 := Lib.hid (un_len y h4)
  have L5 := Lib.hid (Nat.le_trans h3 (by decide : 400000 ≤ 1000000))
  have L6 := Lib.hid (Nat.le_trans h4 (by decide : 400000 ≤ 1000000))
  have L7 := Lib.hid (Nat.le_trans h1 (by decide : 400000 ≤ 1000000))
  have L8 := Lib.hid (Nat.le_trans h2 (by decide : 400000 ≤ 1000000))
  clear ha hb h1 h2 h3 h4 un_len B1 B2 B3 B4 G
  simp only [Rv.v]
  go_enter Tryz.func122, Tryz.ntmps122
  go_wp2_with fail
  generalize hW : (((w.alloc (.cells #[.bool a.neg, .slice a.num.A a.num.n a.num.c, .slice a.den.A a.den.n a.den.c] 41)).alloc (.cells #[.bool b.neg, .slice b.num.A b.num.n b.num.c, .slice b.den.A b.den.n b.den.c] 41)).alloc (.cells #[.bool false, .slice none 0 0] 110)).alloc (.cells #[.bool false, .slice none 0 0] 110) = W at *
  clear hW
  have hpr : ¬ w.heap.size = w.heap.size + 1 + 1 := by omega
  have hqr : ¬ w.heap.size + 1 = w.heap.size + 1 + 1 := by omega
  have hps : ¬ w.heap.size = w.heap.size + 1 + 1 + 1 := by omega
  have hqs : ¬ w.heap.size + 1 = w.heap.size + 1 + 1 + 1 := by omega
  have hrs : ¬ w.heap.size + 1 + 1 = w.heap.size + 1 + 1 + 1 := by omega
  have hle : Hid (w.heap.size ≤ w.heap.size + 1 + 1) := Nat.le_trans (Nat.le_succ _) (Nat.le_succ _)
  have hls : Hid (w.heap.size ≤ w.heap.size + 1 + 1 + 1) := Nat.le_trans (Nat.le_trans (Nat.le_succ _) (Nat.le_succ _)) (Nat.le_succ _)
  generalize w.heap.size + 1 + 1 + 1 = s at *
  generalize w.heap.size + 1 + 1 = r at *
  generalize w.heap.size + 1 = q at *
  generalize hp : w.heap.size = p at *
  have hPE := Lib.hid hp
  clear hp
  have hpr2 : ¬ r = p := fun e => hpr e.symm
  have hqr2 : ¬ r = q := fun e => hqr e.symm
  have hps2 : ¬ s = p := fun e => hps e.symm
  have hqs2 : ¬ s = q := fun e => hqs e.symm
  have hrs2 : ¬ s = r := fun e => hrs e.symm
  have hk : _ ∧ _ := ⟨hB1.out.c3, hB2.out.c3⟩
  obtain ⟨⟨a0, a1, a2⟩, b0, b1, b2⟩ := hk
  have HU1 := Lib.hid (under_any W.drew a x (HA.out.gr (Gr.refl W).drew) L5.out)
  have HU2 : Hid (∀ W2, Gr W W2 → Calls Tryz.prog 153 #[b.v] W2 fun e w' => ∃ y' : Sv, e = .returned y'.v ∧ y'.Num w' (limbs y.un) ∧ Gr W2 w') := fun W2 G => under_any W2 b y (HB.out.gr G) L6.out
  simp only [Rv.v] at HU1 HU2
  have HG0 : Hid (Gr W W.drew) := (Gr.refl W).drew
  first | (go_region_held3 (fun W => W.cell? ⟨p, 0, none⟩ = some (.bool a.neg) ∧ W.cell? ⟨p, 1, none⟩ = some (.slice a.num.A a.num.n a.num.c) ∧ W.cell? ⟨p, 2, none⟩ = some (.slice a.den.A a.den.n a.den.c) ∧ W.cell? ⟨q, 0, none⟩ = some (.bool b.neg) ∧ W.cell? ⟨q, 1, none⟩ = some (.slice b.num.A b.num.n b.num.c) ∧ W.cell? ⟨q, 2, none⟩ = some (.slice b.den.A b.den.n b.den.c))
      (first | go_keep | exact ⟨hk.1.1, hk.1.2.1, hk.1.2.2, hk.2.1, hk.2.2.1, hk.2.2.2⟩ | exact ⟨hj.1.1, hj.1.2.1, hj.1.2.2, hj.2.1, hj.2.2.1, hj.2.2.2⟩)
      (first | (go_at_call 153; refine ((HU2.out w1 HG1.out)).mono ?_; rintro e w2 ⟨v, rfl, hv, G2⟩; have HG2 := Lib.hid (HG1.out.trans G2); have hj := And.intro (HG2.out.bk hB1.out).c3 (HG2.out.bk hB2.out).c3; have HNV := Lib.hid hv; have HNU2 := Lib.hid (HNU.out.gr G2); clear hv G2) | (go_at_call 153; refine (HU1.out).mono ?_; rintro e w1 ⟨u, rfl, hu, G1⟩; have HG1 := Lib.hid (HG0.out.trans G1); have hk := And.intro (HG1.out.bk hB1.out).c3 (HG1.out.bk hB2.out).c3; have HNU := Lib.hid hu; clear hu G1))) | fail
  clear HU1 HU2 HG0 a0 a1 a2 b0 b1 b2 hk HG1 HNU
  obtain ⟨⟨a0, a1, a2⟩, b0, b1, b2⟩ := hj
  have hF := Lib.hid (HG.out.trans HG2.out)
  have C1 := Lib.hid (HG2.out.bk hB1.out)
  have C2 := Lib.hid (HG2.out.bk hB2.out)
  have C3 := Lib.hid (HG2.out.bk hB3.out)
  have C4 := Lib.hid (HG2.out.bk hB4.out)
  have HA2 := Lib.hid (HA.out.gr HG2.out)
  have HB2 := Lib.hid (HB.out.gr HG2.out)
  clear HG HG2 hB1 hB2 hB3 hB4 HA HB
  go_wp2_with fail
  have HG0 : Hid (Gr w2 w2.drew) := (Gr.refl w2).drew
  have HS1 := Lib.hid (signed_any w2.drew a x (HA2.out.gr HG0.out) L7.out)
  have HS2 : Hid (∀ W2, Gr w2 W2 → Calls Tryz.prog 108 #[b.v] W2 fun e w' => ∃ r : Iv, e = .returned r.v ∧ r.Is w' y.sg y.num ∧ Gr W2 w') := fun W2 G => signed_any W2 b y (HB2.out.gr G) L8.out
  simp only [Rv.v] at HS1 HS2
  first | (go_region_held3 (fun W => W.cell? ⟨p, 0, none⟩ = some (.bool a.neg) ∧ W.cell? ⟨p, 1, none⟩ = some (.slice a.num.A a.num.n a.num.c) ∧ W.cell? ⟨p, 2, none⟩ = some (.slice a.den.A a.den.n a.den.c) ∧ W.cell? ⟨q, 0, none⟩ = some (.bool b.neg) ∧ W.cell? ⟨q, 1, none⟩ = some (.slice b.num.A b.num.n b.num.c) ∧ W.cell? ⟨q, 2, none⟩ = some (.slice b.den.A b.den.n b.den.c))
      (first | go_keep | exact ⟨hk1.1.1, hk1.1.2.1, hk1.1.2.2, hk1.2.1, hk1.2.2.1, hk1.2.2.2⟩ | exact ⟨hk2.1.1, hk2.1.2.1, hk2.1.2.2, hk2.2.1, hk2.2.2.1, hk2.2.2.2⟩ | exact ⟨hk3.1.1, hk3.1.2.1, hk3.1.2.2, hk3.2.1, hk3.2.2.1, hk3.2.2.2⟩ | exact ⟨hk4.1.1, hk4.1.2.1, hk4.1.2.2, hk4.2.1, hk4.2.2.1, hk4.2.2.2⟩)
      (first | (go_at_call 159; refine (HM2.out).mono ?_; rintro e w6 ⟨m2, rfl, hm2, G6⟩; have HR3 := Lib.hid (HR2.out.gr G6); have HG6 := Lib.hid (HG5.out.trans G6); have hk4 := And.intro (HG6.out.bk C1.out).c3 (HG6.out.bk C2.out).c3; have HR4 := Lib.hid hm2; have D3 := Lib.hid (HG6.out.bk C3.out); have D4 := Lib.hid (HG6.out.bk C4.out); obtain ⟨r0, r1⟩ := D3.out.c2; obtain ⟨s0, s1⟩ := D4.out.c2; have fr := D3.out.frozen; have fs := D4.out.frozen; clear hm2 G6) | (go_at_call 108; refine (HS3.out).mono ?_; rintro e w5 ⟨i2, rfl, hi2, G5⟩; have HR2 := Lib.hid (HR1.out.gr G5); have HG5 := Lib.hid (HG4.out.trans G5); have hk3 := And.intro (HG5.out.bk C1.out).c3 (HG5.out.bk C2.out).c3; have HM2 := Lib.hid (imul_any w5 i2 ⟨false, u⟩ y.sg false y.num x.un hi2 ⟨rfl, HNU2.out.gr HG5.out⟩ L2.out L3.out); rw [sg_false] at HM2; simp only [Iv.v] at HM2; clear hi2 G5) | (go_at_call 159; refine (HM1.out).mono ?_; rintro e w4 ⟨m1, rfl, hm1, G4⟩; have HG4 := Lib.hid (HG3.out.trans G4); have hk2 := And.intro (HG4.out.bk C1.out).c3 (HG4.out.bk C2.out).c3; have HR1 := Lib.hid hm1; have HS3 := Lib.hid (HS2.out w4 HG4.out); clear hm1 G4) | (go_at_call 108; refine (HS1.out).mono ?_; rintro e w3 ⟨i1, rfl, hi1, G3⟩; have HG3 := Lib.hid (HG0.out.trans G3); have hk1 := And.intro (HG3.out.bk C1.out).c3 (HG3.out.bk C2.out).c3; have HM1 := Lib.hid (imul_any w3 i1 ⟨false, v⟩ x.sg false x.num y.un hi1 ⟨rfl, HNV.out.gr HG3.out⟩ L1.out L4.out); rw [sg_false] at HM1; simp only [Iv.v] at HM1; clear hi1 G3))) | fail
  obtain ⟨E3, F3⟩ := D3.out.put2 (.bool m1.neg) (.slice m1.mag.A m1.mag.n m1.mag.c)
  have E4 := F3.bk D4.out hrs2
  obtain ⟨E5, F5⟩ := E4.put2 (.bool m2.neg) (.slice m2.mag.A m2.mag.n m2.mag.c)
  have E6 := F5.bk E3 hrs
  have R1 := Lib.hid ((HR3.out.fr F3 D3.out (noLimb_int _ _ _ _)).fr F5 E4 (noLimb_int _ _ _ _))
  have R2 := Lib.hid ((HR4.out.fr F3 D3.out (noLimb_int _ _ _ _)).fr F5 E4 (noLimb_int _ _ _ _))
  have HGF := Lib.hid (((hF.out.trans HG6.out).fr_at F3 (by rw [hPE.out]; exact hle.out)).fr_at F5 (by rw [hPE.out]; exact hls.out))
  obtain ⟨d0, d1⟩ := E6.c2
  obtain ⟨e0, e1⟩ := E5.c2
  clear E3 E4 E5 E6 F3 F5
  go_wp2
  generalize (((w6.setCell ⟨r, 0, none⟩ (.bool m1.neg)).setCell ⟨r, 1, none⟩ (.slice m1.mag.A m1.mag.n m1.mag.c)).setCell ⟨s, 0, none⟩ (.bool m2.neg)).setCell ⟨s, 1, none⟩ (.slice m2.mag.A m2.mag.n m2.mag.c) = W5 at *
  (try simp only [Exit.inBlock, Exit.then])
  refine bodyPost_ret (by simp [results, Tryz.results122, go_sem, d0, d1, e0, e1]; try rfl) rfl ?_
  exact ⟨m1, m2, rfl, R1.out, R2.out, HGF.out⟩
end Go.Proofs.YtcmfepaffhnemaaGreatDoor

set_option linter.unusedVariables false
namespace Go.Proofs.YtcmfepaffhnemaaGreatDoor
open Go.RowKit

attribute [local go_sem] Oper.semAt_some

theorem un_left {x y : Q} (h : x.un * y.un < B32) : x.un < B32 := Nat.lt_of_le_of_lt (Nat.le_mul_of_pos_right _ y.un_pos) h
theorem un_right {x y : Q} (h : x.un * y.un < B32) : y.un < B32 := Nat.lt_of_le_of_lt (Nat.le_mul_of_pos_left _ x.un_pos) h
theorem den_len {x : Q} (h : x.un < B32) : (limbs x.den).length ≤ 1 := by
  refine limbs_len_le ?_
  rw [Nat.pow_one]
  unfold Q.un at h
  split at h
  · rename_i h0; rw [h0]; decide
  · exact h
theorem un_len1 {n : Nat} (h : n < B32) : (limbs n).length ≤ 1 := limbs_len_le (by rw [Nat.pow_one]; exact h)
theorem num_un_len {m n : Nat} (hm : (limbs m).length ≤ 100000) (hn : n < B32) : (limbs (m * n)).length ≤ 100001 := Nat.le_trans (limbs_mul_len m n) (Nat.add_le_add hm (un_len1 hn))
theorem sadd_len (s t : Bool) (m n : Nat) (hm : (limbs m).length ≤ 100001) (hn : (limbs n).length ≤ 100001) : (limbs (sadd s m t n).2).length ≤ 100002 := by
  unfold sadd
  split
  · exact limbs_add_len m n _ hm hn
  · split
    · exact Nat.le_trans (limbs_len_mono (Nat.sub_le n m)) (Nat.le_trans hn (by decide))
    · exact Nat.le_trans (limbs_len_mono (Nat.sub_le m n)) (Nat.le_trans hm (by decide))

set_option maxRecDepth 100000 in
set_option maxHeartbeats 4000000 in
theorem radd_any (w : World) (a b : Rv) (x y : Q) (ha : a.Is w x) (hb : b.Is w y) (h1 : (limbs x.num).length ≤ 100000) (h2 : (limbs y.num).length ≤ 100000) (h3 : x.un * y.un < B32) :
    Calls Tryz.prog 166 #[a.v, b.v] w fun e w' => ∃ r : Rv, e = .returned r.v ∧ r.Is w' (Q.add x y) ∧ Gr w w' := by
  obtain ⟨B1, B2, B3, G⟩ := made3 w 41 41 41 #[.bool a.neg, .slice a.num.A a.num.n a.num.c, .slice a.den.A a.den.n a.den.c] #[.bool b.neg, .slice b.num.A b.num.n b.num.c, .slice b.den.A b.den.n b.den.c] #[.bool false, .slice none 0 0, .slice none 0 0]
  have HA := Lib.hid (ha.gr G)
  have HB := Lib.hid (hb.gr G)
  have HG := Lib.hid G
  have hB1 := Lib.hid B1
  have hB2 := Lib.hid B2
  have hB3 := Lib.hid B3
  have U1 := Lib.hid (un_left h3)
  have U2 := Lib.hid (un_right h3)
  have U3 := Lib.hid h3
  have L1 := Lib.hid (num_un_len h1 U2.out)
  have L2 := Lib.hid (num_un_len h2 U1.out)
  have HX := Lib.hid (cross_any _ a b x y HA.out HB.out (Nat.le_trans h1 (by decide)) (Nat.le_trans h2 (by decide)) (Nat.le_trans (den_len U1.out) (by decide)) (Nat.le_trans (den_len U2.out) (by decide)))
  have hE : Hid (Q.add x y = quot (sadd (x.sg && decide (0 < x.num * y.un)) (x.num * y.un) (y.sg && decide (0 < y.num * x.un)) (y.num * x.un)).1 (sadd (x.sg && decide (0 < x.num * y.un)) (x.num * y.un) (y.sg && decide (0 < y.num * x.un)) (y.num * x.un)).2 (x.un * y.un)) := rfl
  obtain ⟨a0, a1, a2⟩ := B1.c3
  obtain ⟨b0, b1, b2⟩ := B2.c3
  clear ha hb h1 h2 h3 B1 B2 B3 G
  simp only [Rv.v] at *
  generalize (x.sg && decide (0 < x.num * y.un)) = s1 at *
  generalize (y.sg && decide (0 < y.num * x.un)) = s2 at *
  generalize x.num * y.un = m1 at *
  generalize y.num * x.un = m2 at *
  go_enter Tryz.func166, Tryz.ntmps166
  go_wp2_with fail
  refine HX.out.mono ?_
  rintro e w1 ⟨x1, x2, rfl, hx1, hx2, G1⟩
  obtain ⟨D1, D2, G2⟩ := made2 w1 110 110 #[.bool x1.neg, .slice x1.mag.A x1.mag.n x1.mag.c] #[.bool x2.neg, .slice x2.mag.A x2.mag.n x2.mag.c]
  have HI := Lib.hid (iadd_any _ x1 x2 _ _ _ _ (hx1.gr G2) (hx2.gr G2) (Nat.le_trans L1.out (by decide)) (Nat.le_trans L2.out (by decide)))
  have HG2 := Lib.hid ((HG.out.trans G1).trans G2)
  have HGa := Lib.hid (G1.trans G2)
  obtain ⟨x10, x11⟩ := D1.c2
  obtain ⟨x20, x21⟩ := D2.c2
  have HL := Lib.hid (sadd_len s1 s2 m1 m2 L1.out L2.out)
  clear hx1 hx2 G1 G2 D1 D2 HX a0 a1 a2 b0 b1 b2
  simp only [Iv.v] at *
  go_wp2_with fail
  refine HI.out.mono ?_
  rintro e w3 ⟨sm, rfl, hsm, G3⟩
  have D3 := Bk.made w3 110 #[.bool sm.neg, .slice sm.mag.A sm.mag.n sm.mag.c]
  have G4 := (Gr.refl w3).alloc (.cells #[.bool sm.neg, .slice sm.mag.A sm.mag.n sm.mag.c] 110)
  have HSM := Lib.hid (hsm.gr G4)
  have HG4 := Lib.hid ((HG2.out.trans G3).trans G4)
  have HGb := Lib.hid ((HGa.out.trans G3).trans G4)
  have C1 := Lib.hid (HGb.out.bk hB1.out)
  have C2 := Lib.hid (HGb.out.bk hB2.out)
  have C3 := Lib.hid (HGb.out.bk hB3.out)
  have HA4 := Lib.hid (HA.out.gr HGb.out)
  have HB4 := Lib.hid (HB.out.gr HGb.out)
  have C4 := Lib.hid D3
  have hpo : Hid (w.heap.size ≤ w.heap.size + 1 + 1) := Nat.le_trans (Nat.le_succ _) (Nat.le_succ _)
  have hlt := C3.out.lt
  rw [World.size_alloc] at hlt
  clear hsm G3 G4 HI D3 HG2 HGa HGb HA HB hB1 hB2 hB3 HG x10 x11 x20 x21
  go_wp2_with fail
  have h9 : ¬ w.heap.size = w.heap.size + 1 + 1 := by omega
  have h8 : ¬ w.heap.size + 1 = w.heap.size + 1 + 1 := by omega
  have h7 : ¬ w3.heap.size = w.heap.size + 1 + 1 := fun e => Bk.ne C4.out C3.out (by decide) e
  generalize hW : w3.alloc (.cells #[.bool sm.neg, .slice sm.mag.A sm.mag.n sm.mag.c] 110) = W at *
  clear hW hlt
  generalize w.heap.size + 1 + 1 = r at *
  generalize w.heap.size + 1 = q at *
  generalize hp : w.heap.size = p at *
  have hPE := Lib.hid hp
  clear hp
  generalize w3.heap.size = g at *
  have h6 : ¬ r = p := fun e => h9 e.symm
  have h5 : ¬ r = q := fun e => h8 e.symm
  have h4 : ¬ r = g := fun e => h7 e.symm
  obtain ⟨a0, a1, a2⟩ := C1.out.c3
  obtain ⟨b0, b1, b2⟩ := C2.out.c3
  obtain ⟨z0, z1⟩ := C4.out.c2
  have HG0 : Hid (Gr W W.drew) := (Gr.refl W).drew
  have HU1 := Lib.hid (under_any W.drew a x (HA4.out.gr HG0.out) (Nat.le_trans (den_len U1.out) (by decide)))
  have HU2 : Hid (∀ W2, Gr W W2 → Calls Tryz.prog 153 #[b.v] W2 fun e w' => ∃ y' : Sv, e = .returned y'.v ∧ y'.Num w' (limbs y.un) ∧ Gr W2 w') := fun W2 G => under_any W2 b y (HB4.out.gr G) (Nat.le_trans (den_len U2.out) (by decide))
  simp only [Rv.v] at HU1 HU2
  first | (go_region_held3 (fun W => W.cell? ⟨p, 0, none⟩ = some (.bool a.neg) ∧ W.cell? ⟨p, 1, none⟩ = some (.slice a.num.A a.num.n a.num.c) ∧ W.cell? ⟨p, 2, none⟩ = some (.slice a.den.A a.den.n a.den.c) ∧ W.cell? ⟨q, 0, none⟩ = some (.bool b.neg) ∧ W.cell? ⟨q, 1, none⟩ = some (.slice b.num.A b.num.n b.num.c) ∧ W.cell? ⟨q, 2, none⟩ = some (.slice b.den.A b.den.n b.den.c) ∧ W.cell? ⟨g, 0, none⟩ = some (.bool sm.neg) ∧ W.cell? ⟨g, 1, none⟩ = some (.slice sm.mag.A sm.mag.n sm.mag.c))
      (first | go_keep | exact ⟨hk1.1.1, hk1.1.2.1, hk1.1.2.2, hk1.2.1.1, hk1.2.1.2.1, hk1.2.1.2.2, hk1.2.2.1, hk1.2.2.2⟩ | exact ⟨hk2.1.1, hk2.1.2.1, hk2.1.2.2, hk2.2.1.1, hk2.2.1.2.1, hk2.2.1.2.2, hk2.2.2.1, hk2.2.2.2⟩ | exact ⟨hk3.1.1, hk3.1.2.1, hk3.1.2.2, hk3.2.1.1, hk3.2.1.2.1, hk3.2.1.2.2, hk3.2.2.1, hk3.2.2.2⟩ | exact ⟨hk4.1.1, hk4.1.2.1, hk4.1.2.2, hk4.2.1.1, hk4.2.1.2.1, hk4.2.1.2.2, hk4.2.2.1, hk4.2.2.2⟩)
      (first | (go_at_call 152; refine (HQ.out).mono ?_; rintro e w7 ⟨i, rfl, hi, G8⟩; have HG8 := Lib.hid (HG7.out.trans G8); have hk4 := And.intro (HG8.out.bk C1.out).c3 (And.intro (HG8.out.bk C2.out).c3 (HG8.out.bk C4.out).c2); have HBs := Lib.hid (HG8.out.bk C3.out); obtain ⟨r0, r1, r2⟩ := HBs.out.c3; have fz := HBs.out.frozen; have HII := Lib.hid hi; clear hi G8) | (go_at_call 205; refine (HM.out).mono ?_; rintro e w6 ⟨z, rfl, hz, G7⟩; have HG7 := Lib.hid (HG6.out.trans G7); have hk3 := And.intro (HG7.out.bk C1.out).c3 (And.intro (HG7.out.bk C2.out).c3 (HG7.out.bk C4.out).c2); have HQ := Lib.hid (quot_any w6 sm.neg sm.mag z _ _ (HSM.out.mag.gr HG7.out) hz (Nat.le_trans HL.out (by decide)) (Nat.mul_pos x.un_pos y.un_pos) U3.out); clear hz G7) | (go_at_call 153; refine ((HU2.out w4 HG5.out)).mono ?_; rintro e w5 ⟨v, rfl, hv, G6⟩; have HG6 := Lib.hid (HG5.out.trans G6); have hk2 := And.intro (HG6.out.bk C1.out).c3 (And.intro (HG6.out.bk C2.out).c3 (HG6.out.bk C4.out).c2); have HM := Lib.hid (mul_any w5 u v _ _ (HNU.out.gr G6) hv (Nat.le_trans (un_len1 U1.out) (by decide)) (Nat.le_trans (un_len1 U2.out) (by decide))); rw [val_limbs, val_limbs] at HM; clear hv G6) | (go_at_call 153; refine (HU1.out).mono ?_; rintro e w4 ⟨u, rfl, hu, G5⟩; have HG5 := Lib.hid (HG0.out.trans G5); have hk1 := And.intro (HG5.out.bk C1.out).c3 (And.intro (HG5.out.bk C2.out).c3 (HG5.out.bk C4.out).c2); have HNU := Lib.hid hu; clear hu G5))) | fail
  obtain ⟨B5, F5⟩ := HBs.out.put3 (.bool i.neg) (.slice i.num.A i.num.n i.num.c) (.slice i.den.A i.den.n i.den.c)
  have H5 := Lib.hid F5
  obtain ⟨d0, d1, d2⟩ := B5.c3
  clear F5 B5
  go_wp2
  generalize ((w7.setCell ⟨r, 0, none⟩ (.bool i.neg)).setCell ⟨r, 1, none⟩ (.slice i.num.A i.num.n i.num.c)).setCell ⟨r, 2, none⟩ (.slice i.den.A i.den.n i.den.c) = W5 at *
  (try simp only [Exit.inBlock, Exit.then])
  refine bodyPost_ret (by simp [results, Tryz.results166, go_sem, d0, d1, d2]; try rfl) rfl ?_
  exact ⟨i, rfl, by rw [hE.out, ← HSM.out.neg]; exact HII.out.fr H5.out HBs.out (noLimb_rat _ _ _ _ _ _ _), (HG4.out.trans HG8.out).fr_at H5.out (by rw [hPE.out]; exact hpo.out)⟩

set_option maxRecDepth 100000 in
set_option maxHeartbeats 4000000 in
theorem rmul_any (w : World) (a b : Rv) (x y : Q) (ha : a.Is w x) (hb : b.Is w y) (h1 : (limbs x.num).length ≤ 100000) (h2 : (limbs y.num).length ≤ 100000) (h3 : x.un * y.un < B32) :
    Calls Tryz.prog 167 #[a.v, b.v] w fun e w' => ∃ r : Rv, e = .returned r.v ∧ r.Is w' (Q.mul x y) ∧ Gr w w' := by
  obtain ⟨B1, B2, B3, G⟩ := made3 w 41 41 41 #[.bool a.neg, .slice a.num.A a.num.n a.num.c, .slice a.den.A a.den.n a.den.c] #[.bool b.neg, .slice b.num.A b.num.n b.num.c, .slice b.den.A b.den.n b.den.c] #[.bool false, .slice none 0 0, .slice none 0 0]
  have HA4 := Lib.hid (ha.gr G)
  have HB4 := Lib.hid (hb.gr G)
  have HG4 := Lib.hid G
  have C1 := Lib.hid B1
  have C2 := Lib.hid B2
  have C3 := Lib.hid B3
  have U1 := Lib.hid (un_left h3)
  have U2 := Lib.hid (un_right h3)
  have U3 := Lib.hid h3
  have L1 := Lib.hid h1
  have L2 := Lib.hid h2
  have hE : Hid (Q.mul x y = quot (x.neg != y.neg) (x.num * y.num) (x.un * y.un)) := rfl
  have N1 := Lib.hid ha.neg
  have N2 := Lib.hid hb.neg
  have HL : Hid ((limbs (x.num * y.num)).length ≤ 1000000) := Nat.le_trans (limbs_mul_len _ _) (Nat.le_trans (Nat.add_le_add h1 h2) (by decide))
  clear ha hb h1 h2 h3 B1 B2 B3 G
  simp only [Rv.v] at *
  go_enter Tryz.func167, Tryz.ntmps167
  go_wp2_with fail
  have h9 : ¬ w.heap.size = w.heap.size + 1 + 1 := by omega
  have h8 : ¬ w.heap.size + 1 = w.heap.size + 1 + 1 := by omega
  have hpo : Hid (w.heap.size ≤ w.heap.size + 1 + 1) := Nat.le_trans (Nat.le_succ _) (Nat.le_succ _)
  generalize hW : ((w.alloc (.cells #[.bool a.neg, .slice a.num.A a.num.n a.num.c, .slice a.den.A a.den.n a.den.c] 41)).alloc (.cells #[.bool b.neg, .slice b.num.A b.num.n b.num.c, .slice b.den.A b.den.n b.den.c] 41)).alloc (.cells #[.bool false, .slice none 0 0, .slice none 0 0] 41) = W at *
  clear hW
  generalize w.heap.size + 1 + 1 = r at *
  generalize w.heap.size + 1 = q at *
  generalize hp : w.heap.size = p at *
  have hPE := Lib.hid hp
  clear hp
  have h6 : ¬ r = p := fun e => h9 e.symm
  have h5 : ¬ r = q := fun e => h8 e.symm
  obtain ⟨a0, a1, a2⟩ := C1.out.c3
  obtain ⟨b0, b1, b2⟩ := C2.out.c3
  have HG0 : Hid (Gr W W.drew) := (Gr.refl W).drew
  have HM0 := Lib.hid (mul_any W.drew a.num b.num _ _ (HA4.out.num.gr HG0.out) (HB4.out.num.gr HG0.out) (Nat.le_trans L1.out (by decide)) (Nat.le_trans L2.out (by decide)))
  rw [val_limbs, val_limbs] at HM0
  have HU1 : Hid (∀ W2, Gr W W2 → Calls Tryz.prog 153 #[a.v] W2 fun e w' => ∃ y' : Sv, e = .returned y'.v ∧ y'.Num w' (limbs x.un) ∧ Gr W2 w') := fun W2 G => under_any W2 a x (HA4.out.gr G) (Nat.le_trans (den_len U1.out) (by decide))
  have HU2 : Hid (∀ W2, Gr W W2 → Calls Tryz.prog 153 #[b.v] W2 fun e w' => ∃ y' : Sv, e = .returned y'.v ∧ y'.Num w' (limbs y.un) ∧ Gr W2 w') := fun W2 G => under_any W2 b y (HB4.out.gr G) (Nat.le_trans (den_len U2.out) (by decide))
  simp only [Rv.v] at HU1 HU2
  first | (go_region_held3 (fun W => W.cell? ⟨p, 0, none⟩ = some (.bool a.neg) ∧ W.cell? ⟨p, 1, none⟩ = some (.slice a.num.A a.num.n a.num.c) ∧ W.cell? ⟨p, 2, none⟩ = some (.slice a.den.A a.den.n a.den.c) ∧ W.cell? ⟨q, 0, none⟩ = some (.bool b.neg) ∧ W.cell? ⟨q, 1, none⟩ = some (.slice b.num.A b.num.n b.num.c) ∧ W.cell? ⟨q, 2, none⟩ = some (.slice b.den.A b.den.n b.den.c))
      (first | go_keep | exact ⟨hk0.1.1, hk0.1.2.1, hk0.1.2.2, hk0.2.1, hk0.2.2.1, hk0.2.2.2⟩ | exact ⟨hk1.1.1, hk1.1.2.1, hk1.1.2.2, hk1.2.1, hk1.2.2.1, hk1.2.2.2⟩ | exact ⟨hk2.1.1, hk2.1.2.1, hk2.1.2.2, hk2.2.1, hk2.2.2.1, hk2.2.2.2⟩ | exact ⟨hk3.1.1, hk3.1.2.1, hk3.1.2.2, hk3.2.1, hk3.2.2.1, hk3.2.2.2⟩ | exact ⟨hk4.1.1, hk4.1.2.1, hk4.1.2.2, hk4.2.1, hk4.2.2.1, hk4.2.2.2⟩)
      (first | (go_at_call 152; refine (HQ.out).mono ?_; rintro e w7 ⟨i, rfl, hi, G8⟩; have HG8 := Lib.hid (HG7.out.trans G8); have hk4 := And.intro (HG8.out.bk C1.out).c3 (HG8.out.bk C2.out).c3; have HBs := Lib.hid (HG8.out.bk C3.out); obtain ⟨r0, r1, r2⟩ := HBs.out.c3; have fz := HBs.out.frozen; have HII := Lib.hid hi; clear hi G8) | (go_at_call 205; refine (HM.out).mono ?_; rintro e w6 ⟨z, rfl, hz, G7⟩; have HG7 := Lib.hid (HG6.out.trans G7); have hk3 := And.intro (HG7.out.bk C1.out).c3 (HG7.out.bk C2.out).c3; have HQ := Lib.hid (quot_any w6 (a.neg != b.neg) m z _ _ (HNM2.out.gr G7) hz HL.out (Nat.mul_pos x.un_pos y.un_pos) U3.out); clear hz G7) | (go_at_call 153; refine ((HU2.out w4 HG5.out)).mono ?_; rintro e w5 ⟨v, rfl, hv, G6⟩; have HNM2 := Lib.hid (HNM1.out.gr G6); have HG6 := Lib.hid (HG5.out.trans G6); have hk2 := And.intro (HG6.out.bk C1.out).c3 (HG6.out.bk C2.out).c3; have HM := Lib.hid (mul_any w5 u v _ _ (HNU.out.gr G6) hv (Nat.le_trans (un_len1 U1.out) (by decide)) (Nat.le_trans (un_len1 U2.out) (by decide))); rw [val_limbs, val_limbs] at HM; clear hv G6) | (go_at_call 153; refine ((HU1.out w3 HG3.out)).mono ?_; rintro e w4 ⟨u, rfl, hu, G5⟩; have HNM1 := Lib.hid (HNM.out.gr G5); have HG5 := Lib.hid (HG3.out.trans G5); have hk1 := And.intro (HG5.out.bk C1.out).c3 (HG5.out.bk C2.out).c3; have HNU := Lib.hid hu; clear hu G5) | (go_at_call 205; refine (HM0.out).mono ?_; rintro e w3 ⟨m, rfl, hm, G4⟩; have HG3 := Lib.hid (HG0.out.trans G4); have hk0 := And.intro (HG3.out.bk C1.out).c3 (HG3.out.bk C2.out).c3; have HNM := Lib.hid hm; clear hm G4))) | fail
  obtain ⟨B5, F5⟩ := HBs.out.put3 (.bool i.neg) (.slice i.num.A i.num.n i.num.c) (.slice i.den.A i.den.n i.den.c)
  have H5 := Lib.hid F5
  obtain ⟨d0, d1, d2⟩ := B5.c3
  clear F5 B5
  go_wp2
  generalize ((w7.setCell ⟨r, 0, none⟩ (.bool i.neg)).setCell ⟨r, 1, none⟩ (.slice i.num.A i.num.n i.num.c)).setCell ⟨r, 2, none⟩ (.slice i.den.A i.den.n i.den.c) = W5 at *
  (try simp only [Exit.inBlock, Exit.then])
  refine bodyPost_ret (by simp [results, Tryz.results167, go_sem, d0, d1, d2]; try rfl) rfl ?_
  exact ⟨i, rfl, by rw [hE.out, ← N1.out, ← N2.out]; exact HII.out.fr H5.out HBs.out (noLimb_rat _ _ _ _ _ _ _), (HG4.out.trans HG8.out).fr_at H5.out (by rw [hPE.out]; exact hpo.out)⟩
end Go.Proofs.YtcmfepaffhnemaaGreatDoor

set_option linter.unusedVariables false
namespace Go.Proofs.YtcmfepaffhnemaaGreatDoor
open Go.RowKit

attribute [local go_sem] Oper.semAt_some

set_option maxRecDepth 100000 in
set_option maxHeartbeats 4000000 in
theorem whole_any (w : World) (a : Iv) (s : Bool) (m : Nat) (ha : a.Is w s m) (hl : (limbs m).length ≤ 1000000) :
    Calls Tryz.prog 161 #[a.v] w fun e w' => ∃ r : Rv, e = .returned r.v ∧ r.Is w' (quot s m 1) ∧ Gr w w' := by
  obtain ⟨B1, B2, G⟩ := made2 w 110 41 #[.bool a.neg, .slice a.mag.A a.mag.n a.mag.c] #[.bool false, .slice none 0 0, .slice none 0 0]
  have HA := Lib.hid (ha.gr G)
  have HG := Lib.hid G
  have C1 := Lib.hid B1
  have C2 := Lib.hid B2
  have HL := Lib.hid hl
  clear ha hl B1 B2 G
  simp only [Iv.v]
  go_enter Tryz.func161, Tryz.ntmps161
  go_wp2_with fail
  generalize hW : (w.alloc (.cells #[.bool a.neg, .slice a.mag.A a.mag.n a.mag.c] 110)).alloc (.cells #[.bool false, .slice none 0 0, .slice none 0 0] 41) = W at *
  clear hW
  have hpr : ¬ w.heap.size = w.heap.size + 1 := by omega
  have hle : Hid (w.heap.size ≤ w.heap.size + 1) := Nat.le_succ _
  generalize w.heap.size + 1 = r at *
  generalize hp : w.heap.size = p at *
  have hPE := Lib.hid hp
  clear hp
  have hpr2 : ¬ r = p := fun e => hpr e.symm
  obtain ⟨a0, a1⟩ := C1.out.c2
  have HG0 : Hid (Gr W W.drew) := (Gr.refl W).drew
  have HO := Lib.hid (one_any W.drew)
  first | (go_region_held3 (fun W => W.cell? ⟨p, 0, none⟩ = some (.bool a.neg) ∧ W.cell? ⟨p, 1, none⟩ = some (.slice a.mag.A a.mag.n a.mag.c))
      (first | go_keep | exact ⟨hk1.1, hk1.2⟩ | exact ⟨hk2.1, hk2.2⟩)
      (first | (go_at_call 152; refine (HQ.out).mono ?_; rintro e w2 ⟨i, rfl, hi, G2⟩; have HG2 := Lib.hid (HG1.out.trans G2); have hk2 := (HG2.out.bk C1.out).c2; have HBs := Lib.hid (HG2.out.bk C2.out); obtain ⟨r0, r1, r2⟩ := HBs.out.c3; have fz := HBs.out.frozen; have HII := Lib.hid hi; clear hi G2) | (go_at_call 204; refine (HO.out).mono ?_; rintro e w1 ⟨u, rfl, hu, G1⟩; have HG1 := Lib.hid (HG0.out.trans G1); have hk1 := (HG1.out.bk C1.out).c2; have HQ := Lib.hid (quot_any w1 a.neg a.mag u _ 1 (HA.out.mag.gr HG1.out) hu HL.out (by decide) (by decide)); clear hu G1))) | fail
  obtain ⟨B5, F5⟩ := HBs.out.put3 (.bool i.neg) (.slice i.num.A i.num.n i.num.c) (.slice i.den.A i.den.n i.den.c)
  have H5 := Lib.hid F5
  obtain ⟨d0, d1, d2⟩ := B5.c3
  clear F5 B5
  go_wp2
  generalize ((w2.setCell ⟨r, 0, none⟩ (.bool i.neg)).setCell ⟨r, 1, none⟩ (.slice i.num.A i.num.n i.num.c)).setCell ⟨r, 2, none⟩ (.slice i.den.A i.den.n i.den.c) = W5 at *
  (try simp only [Exit.inBlock, Exit.then])
  refine bodyPost_ret (by simp [results, Tryz.results161, go_sem, d0, d1, d2]; try rfl) rfl ?_
  exact ⟨i, rfl, by rw [← HA.out.neg]; exact HII.out.fr H5.out HBs.out (noLimb_rat _ _ _ _ _ _ _), (HG.out.trans HG2.out).fr_at H5.out (by rw [hPE.out]; exact hle.out)⟩

/-- An integer. -/
def ofQ (x : Int) : Q := ⟨decide (x < 0), x.natAbs, 0⟩
theorem quot_one (x : Int) : quot (decide (x < 0)) x.natAbs 1 = ofQ x := by
  unfold quot ofQ
  by_cases h : x.natAbs = 0
  · have : x = 0 := by omega
    subst this
    rfl
  · rw [if_neg h, Nat.gcd_one_right, Nat.div_one]
    rfl

set_option maxRecDepth 100000 in
set_option maxHeartbeats 4000000 in
theorem rof_any (w : World) (x : Int) (h1 : -1000000000 ≤ x) (h2 : x ≤ 1000000000) :
    Calls Tryz.prog 128 #[.int .i64 x] w fun e w' => ∃ r : Rv, e = .returned r.v ∧ r.Is w' (ofQ x) ∧ Gr w w' := by
  have B1 := Bk.made w 41 #[.bool false, .slice none 0 0, .slice none 0 0]
  have HG := Lib.hid ((Gr.refl w).alloc (.cells #[.bool false, .slice none 0 0, .slice none 0 0] 41))
  have C1 := Lib.hid B1
  have HI := Lib.hid (fun W => iof_any W x h1 h2)
  have HL : Hid ((limbs x.natAbs).length ≤ 1000000) := Nat.le_trans (limbs_len_le (k := 1) (by rw [Nat.pow_one, B32_eq]; omega)) (by decide)
  have hE := Lib.hid (quot_one x)
  clear B1
  go_enter Tryz.func128, Tryz.ntmps128
  go_wp2_with fail
  refine (HI.out _).mono ?_
  rintro e w1 ⟨i, rfl, hi, G1⟩
  have HG1 := Lib.hid (HG.out.trans G1)
  have C2 := Lib.hid (G1.bk C1.out)
  have HW := Lib.hid (whole_any w1 i _ _ hi HL.out)
  rw [hE.out] at HW
  clear hi G1 HI C1
  go_wp2_with fail
  refine HW.out.mono ?_
  rintro e w2 ⟨j, rfl, hj, G2⟩
  have HG2 := Lib.hid (HG1.out.trans G2)
  have HBs := Lib.hid (G2.bk C2.out)
  have HII := Lib.hid hj
  obtain ⟨r0, r1, r2⟩ := HBs.out.c3
  have fz := HBs.out.frozen
  clear hj G2 HW C2
  generalize hp : w.heap.size = r at *
  have hPE := Lib.hid hp
  clear hp
  obtain ⟨B5, F5⟩ := HBs.out.put3 (.bool j.neg) (.slice j.num.A j.num.n j.num.c) (.slice j.den.A j.den.n j.den.c)
  have H5 := Lib.hid F5
  obtain ⟨d0, d1, d2⟩ := B5.c3
  clear F5 B5
  go_wp2
  generalize ((w2.setCell ⟨r, 0, none⟩ (.bool j.neg)).setCell ⟨r, 1, none⟩ (.slice j.num.A j.num.n j.num.c)).setCell ⟨r, 2, none⟩ (.slice j.den.A j.den.n j.den.c) = W5 at *
  (try simp only [Exit.inBlock, Exit.then])
  refine bodyPost_ret (by simp [results, Tryz.results128, go_sem, d0, d1, d2]; try rfl) rfl ?_
  exact ⟨j, rfl, HII.out.fr H5.out HBs.out (noLimb_rat _ _ _ _ _ _ _), HG2.out.fr_at H5.out (Nat.le_of_eq hPE.out)⟩

set_option maxRecDepth 100000 in
set_option maxHeartbeats 4000000 in
theorem nvalid_any (w : World) (x : Sv) (m : Nat) (hx : x.Num w (limbs m)) :
    Calls Tryz.prog 109 #[.slice x.A x.n x.c] w fun e w' => e = .returned (.bool true) ∧ Gr w w' := by
  obtain ⟨A, n, c⟩ := x
  have hn := hx.len
  simp only at hn
  have hc9 := hx.is.max
  have hcn := hx.is.cap
  simp only at hc9 hcn
  cases n with
  | zero =>
    go_enter Tryz.func109, Tryz.ntmps109
    go_wp2
    go_ret
    exact ⟨rfl, Gr.refl w⟩
  | succ j =>
    obtain ⟨p, ad, hp, hp9, hAe, hbl, d1⟩ := hx.at (i := j) (Nat.lt_succ_self j)
    simp only at hAe
    subst hAe
    have hp0 : p ≠ 0 := by
      have := limbs_cano m p
      rw [List.getLast?_eq_getElem?, hn] at this
      exact this hp
    have hpd : ((p : Int) != 0) = true := by simp; omega
    have hnd : (((j + 1 : Nat) : Int) == 0) = false := by simp; omega
    have hw1 : IntKind.i64.wrap (((j + 1 : Nat) : Int) - 1) = (j : Int) := by rw [IntWalk.i64_in _ (by omega)]; omega
    clear hp hbl hn hx
    go_enter Tryz.func109, Tryz.ntmps109
    go_wp2
    go_ret
    exact ⟨rfl, Gr.refl w⟩

theorem eq_len {a b : Nat} (h : a = b) : ((a : Int) == (b : Int)) = true := by simp [h]
set_option maxRecDepth 100000 in
set_option maxHeartbeats 4000000 in
theorem rvalid_any (w : World) (a : Rv) (q : Q) (ha : a.Is w q) (hq : q.Ok) (hl : (limbs q.num).length ≤ 1000000) (hd : q.un < B32) :
    Calls Tryz.prog 69 #[a.v] w fun e w' => e = .returned (.bool true) ∧ Gr w w' := by
  have B1 := Bk.made w 41 #[.bool a.neg, .slice a.num.A a.num.n a.num.c, .slice a.den.A a.den.n a.den.c]
  have HG := Lib.hid ((Gr.refl w).alloc (.cells #[.bool a.neg, .slice a.num.A a.num.n a.num.c, .slice a.den.A a.den.n a.den.c] 41))
  have C1 := Lib.hid B1
  have HA := Lib.hid (ha.gr HG.out)
  obtain ⟨a0, a1, a2⟩ := B1.c3
  have HNV := Lib.hid (nvalid_any _ a.num _ HA.out.num)
  have HC := Lib.hid (canon_any _ a q HA.out hl hd)
  rw [quot_self hq] at HC
  have hln : Hid (a.num.n = (limbs q.num).length) := ha.num.len.symm
  have hld : Hid (a.den.n = (limbs q.den).length) := ha.den.len.symm
  have HNN := Lib.hid ha.neg
  clear ha hl hd B1
  simp only [Rv.v] at *
  by_cases h0 : q.den = 0
  · have hdd : ((a.den.n : Int) == 0) = true := by
      have hd0 : a.den.n = 0 := by rw [hld.out, h0, limbs_zero]; rfl
      simp [hd0]
    clear h0
    go_enter Tryz.func69, Tryz.ntmps69
    go_wp2_with fail
    go_at_call 109
    refine HNV.out.mono ?_
    rintro e w1 ⟨rfl, G1⟩
    have HG1 := Lib.hid (HG.out.trans G1)
    obtain ⟨b0, b1, b2⟩ := (G1.bk C1.out).c3
    clear G1 HNV HC C1 HG a0 a1 a2
    cases hs : a.neg
    · rw [hs] at b0
      go_wp2
      go_ret
      exact ⟨rfl, HG1.out⟩
    · rw [hs] at b0
      have hn0 : 0 < a.num.n := by
        rw [hln.out]
        refine Nat.pos_of_ne_zero fun e => ?_
        have h := (hq.pos (limbs_len0.1 e)).1
        rw [← HNN.out, hs] at h
        cases h
      have hn1 : decide ((0 : Int) < a.num.n) = true := by simp; omega
      go_wp2
      go_ret
      exact ⟨rfl, HG1.out⟩
  · have hdd : ((a.den.n : Int) == 0) = false := by
      have hd0 : a.den.n ≠ 0 := by rw [hld.out]; exact fun e => h0 (limbs_len0.1 e)
      simp; omega
    clear h0
    go_enter Tryz.func69, Tryz.ntmps69
    go_wp2_with fail
    go_at_call 110
    refine HC.out.mono ?_
    rintro e w1 ⟨c, rfl, hc, G1⟩
    have D1 := Bk.made w1 41 #[.bool c.neg, .slice c.num.A c.num.n c.num.c, .slice c.den.A c.den.n c.den.c]
    have G2 := (Gr.refl w1).alloc (.cells #[.bool c.neg, .slice c.num.A c.num.n c.num.c, .slice c.den.A c.den.n c.den.c] 41)
    have HG1 := Lib.hid ((HG.out.trans G1).trans G2)
    have C2 := Lib.hid ((G1.trans G2).bk C1.out)
    have C3 := Lib.hid D1
    have HA2 := Lib.hid ((HA.out.gr G1).gr G2)
    have HC2 := Lib.hid (hc.gr G2)
    have e1 : ((a.num.n : Int) == (c.num.n : Int)) = true := eq_len (hln.out.trans hc.num.len)
    have e2 : ((a.den.n : Int) == (c.den.n : Int)) = true := eq_len (hld.out.trans hc.den.len)
    have e3 : (a.neg == c.neg) = true := by rw [HNN.out, hc.neg]; simp
    have HK1 := Lib.hid (cmp_any _ a.num c.num _ _ HA2.out.num HC2.out.num)
    rw [val_limbs, cmpN_eq] at HK1
    obtain ⟨b0, b1, b2⟩ := C2.out.c3
    obtain ⟨c0, c1, c2⟩ := C3.out.c3
    clear hc G1 G2 D1 HC HNV C1 HG a0 a1 a2 HA
    go_wp2_with fail
    go_at_call 111
    refine HK1.out.mono ?_
    rintro e w2 ⟨rfl, G2⟩
    have HG2 := Lib.hid (HG1.out.trans G2)
    have HK2 := Lib.hid (cmp_any w2 a.den c.den _ _ (HA2.out.den.gr G2) (HC2.out.den.gr G2))
    rw [val_limbs, cmpN_eq] at HK2
    obtain ⟨f0, f1, f2⟩ := (G2.bk C2.out).c3
    obtain ⟨g0, g1, g2⟩ := (G2.bk C3.out).c3
    clear G2 HK1 b0 b1 b2 c0 c1 c2
    go_wp2_with fail
    go_at_call 111
    refine HK2.out.mono ?_
    rintro e w3 ⟨rfl, G3⟩
    have HG3 := Lib.hid (HG2.out.trans G3)
    clear G3 HK2
    go_wp2
    go_ret
    exact ⟨rfl, HG3.out⟩
end Go.Proofs.YtcmfepaffhnemaaGreatDoor

set_option linter.unusedVariables false
namespace Go.Proofs.YtcmfepaffhnemaaGreatDoor
open Go.RowKit

attribute [local go_sem] Oper.semAt_some

/-- How two numbers compare. -/
def Q.cmpQ (x y : Q) : Int := if x.sign < y.sign then -1 else if y.sign < x.sign then 1 else cmpI (x.sg && decide (0 < x.num * y.un)) (x.num * y.un) (y.sg && decide (0 < y.num * x.un)) (y.num * x.un)

set_option maxRecDepth 100000 in
set_option maxHeartbeats 4000000 in
theorem rcmp3_any (w : World) (a b : Rv) (x y : Q) (ha : a.Is w x) (hb : b.Is w y) (h1 : (limbs x.num).length ≤ 100000) (h2 : (limbs y.num).length ≤ 100000) (h3 : x.un < B32) (h4 : y.un < B32) :
    Calls Tryz.prog 84 #[a.v, b.v] w fun e w' => e = .returned (.int .i64 (Q.cmpQ x y)) ∧ Gr w w' := by
  obtain ⟨B1, B2, G⟩ := made2 w 41 41 #[.bool a.neg, .slice a.num.A a.num.n a.num.c, .slice a.den.A a.den.n a.den.c] #[.bool b.neg, .slice b.num.A b.num.n b.num.c, .slice b.den.A b.den.n b.den.c]
  have HA := Lib.hid (ha.gr G)
  have HB := Lib.hid (hb.gr G)
  have HG := Lib.hid G
  have hB1 := Lib.hid B1
  have hB2 := Lib.hid B2
  have L1 := Lib.hid h1
  have L2 := Lib.hid h2
  have D1 := Lib.hid (Nat.le_trans (den_len h3) (by decide : 1 ≤ 400000))
  have D2 := Lib.hid (Nat.le_trans (den_len h4) (by decide : 1 ≤ 400000))
  have M1 := Lib.hid (Nat.le_trans (num_un_len h1 h4) (by decide : 100001 ≤ 1000000))
  have M2 := Lib.hid (Nat.le_trans (num_un_len h2 h3) (by decide : 100001 ≤ 1000000))
  have hE : Hid (Q.cmpQ x y = if x.sign < y.sign then -1 else if y.sign < x.sign then 1 else cmpI (x.sg && decide (0 < x.num * y.un)) (x.num * y.un) (y.sg && decide (0 < y.num * x.un)) (y.num * x.un)) := rfl
  clear ha hb h1 h2 h3 h4 G B1 B2
  simp only [Rv.v]
  go_enter Tryz.func84, Tryz.ntmps84
  go_wp2_with fail
  generalize hW : (w.alloc (.cells #[.bool a.neg, .slice a.num.A a.num.n a.num.c, .slice a.den.A a.den.n a.den.c] 41)).alloc (.cells #[.bool b.neg, .slice b.num.A b.num.n b.num.c, .slice b.den.A b.den.n b.den.c] 41) = W at *
  clear hW
  generalize w.heap.size + 1 = q at *
  generalize w.heap.size = p at *
  obtain ⟨a0, a1, a2⟩ := hB1.out.c3
  obtain ⟨b0, b1, b2⟩ := hB2.out.c3
  have HG0 : Hid (Gr W W.drew) := (Gr.refl W).drew
  have HX : Hid (∀ W2, Gr W W2 → Calls Tryz.prog 122 #[a.v, b.v] W2 fun e w' => ∃ r1 r2 : Iv, e = .returned (.tuple #[r1.v, r2.v]) ∧ r1.Is w' (x.sg && decide (0 < x.num * y.un)) (x.num * y.un) ∧ r2.Is w' (y.sg && decide (0 < y.num * x.un)) (y.num * x.un) ∧ Gr W2 w') := fun W2 G => cross_any W2 a b x y (HA.out.gr G) (HB.out.gr G) (Nat.le_trans L1.out (by decide)) (Nat.le_trans L2.out (by decide)) D1.out D2.out
  have HS1 := Lib.hid (sign_any W.drew a x (HA.out.gr HG0.out) (Nat.le_trans L1.out (by decide)))
  have HS2 : Hid (∀ W2, Gr W W2 → Calls Tryz.prog 68 #[b.v] W2 fun e w' => e = .returned (.int .i64 y.sign) ∧ Gr W2 w') := fun W2 G => sign_any W2 b y (HB.out.gr G) (Nat.le_trans L2.out (by decide))
  simp only [Rv.v] at HS1 HS2 HX
  generalize x.sign = sm at *
  generalize y.sign = tn at *
  first | (go_region_held3 (fun W => W.cell? ⟨p, 0, none⟩ = some (.bool a.neg) ∧ W.cell? ⟨p, 1, none⟩ = some (.slice a.num.A a.num.n a.num.c) ∧ W.cell? ⟨p, 2, none⟩ = some (.slice a.den.A a.den.n a.den.c) ∧ W.cell? ⟨q, 0, none⟩ = some (.bool b.neg) ∧ W.cell? ⟨q, 1, none⟩ = some (.slice b.num.A b.num.n b.num.c) ∧ W.cell? ⟨q, 2, none⟩ = some (.slice b.den.A b.den.n b.den.c))
      (first | go_keep | exact ⟨hk1.1.1, hk1.1.2.1, hk1.1.2.2, hk1.2.1, hk1.2.2.1, hk1.2.2.2⟩ | exact ⟨hk2.1.1, hk2.1.2.1, hk2.1.2.2, hk2.2.1, hk2.2.2.1, hk2.2.2.2⟩)
      (first | (go_at_call 68; refine ((HS2.out w1 HG1.out)).mono ?_; rintro e w2 ⟨rfl, G2⟩; have HG2 := Lib.hid (HG1.out.trans G2); have hk2 := And.intro (HG2.out.bk hB1.out).c3 (HG2.out.bk hB2.out).c3; clear G2) | (go_at_call 68; refine (HS1.out).mono ?_; rintro e w1 ⟨rfl, G1⟩; have HG1 := Lib.hid (HG0.out.trans G1); have hk1 := And.intro (HG1.out.bk hB1.out).c3 (HG1.out.bk hB2.out).c3; clear G1))) | fail
  clear HS1 HS2 a0 a1 a2 b0 b1 b2 hk1
  obtain ⟨⟨a0, a1, a2⟩, b0, b1, b2⟩ := hk2
  have HF := Lib.hid (HG.out.trans HG2.out)
  have HXX := Lib.hid (HX.out w2 HG2.out)
  by_cases h1 : sm < tn
  · rw [if_pos h1] at hE
    have hd : decide (sm < tn) = true := by simp [h1]
    have hn : (sm != tn) = true := by simp; omega
    go_wp2
    go_ret
    exact ⟨by rw [hE.out]; rfl, HF.out⟩
  · have hd : decide (sm < tn) = false := by simp; omega
    rw [if_neg h1] at hE
    by_cases h2 : tn < sm
    · rw [if_pos h2] at hE
      have hn : (sm != tn) = true := by simp; omega
      go_wp2
      go_ret
      exact ⟨by rw [hE.out]; rfl, HF.out⟩
    · rw [if_neg h2] at hE
      obtain rfl : sm = tn := by omega
      have hn : (sm != sm) = false := by simp
      generalize (x.sg && decide (0 < x.num * y.un)) = s1 at *
      generalize (y.sg && decide (0 < y.num * x.un)) = s2 at *
      generalize x.num * y.un = m1 at *
      generalize y.num * x.un = m2 at *
      go_wp2_with fail
      go_at_call 122
      refine HXX.out.mono ?_
      rintro e w3 ⟨x1, x2, rfl, hx1, hx2, G3⟩
      obtain ⟨E1, E2, G4⟩ := made2 w3 110 110 #[.bool x1.neg, .slice x1.mag.A x1.mag.n x1.mag.c] #[.bool x2.neg, .slice x2.mag.A x2.mag.n x2.mag.c]
      have HI := Lib.hid (icmp_any _ x1 x2 _ _ _ _ (hx1.gr G4) (hx2.gr G4) M1.out M2.out)
      have HG4 := Lib.hid ((HF.out.trans G3).trans G4)
      obtain ⟨x10, x11⟩ := E1.c2
      obtain ⟨x20, x21⟩ := E2.c2
      clear hx1 hx2 G3 G4 E1 E2 HXX a0 a1 a2 b0 b1 b2
      simp only [Iv.v] at *
      generalize cmpI s1 m1 s2 m2 = c at *
      go_wp2_with fail
      go_at_call 123
      refine HI.out.mono ?_
      rintro e w4 ⟨rfl, G5⟩
      have HG5 := Lib.hid (HG4.out.trans G5)
      clear G5
      go_wp2
      go_ret
      exact ⟨by rw [hE.out]; rfl, HG5.out⟩
end Go.Proofs.YtcmfepaffhnemaaGreatDoor

set_option linter.unusedVariables false
namespace Go.Proofs.YtcmfepaffhnemaaGreatDoor

abbrev Tm := Int × Q
structure Fm where
  terms : List Tm
  const : Q
  deriving DecidableEq, Inhabited

/-- The variables grow strictly. -/
def Asc : List Tm → Prop
  | [] => True
  | [_] => True
  | s :: t :: r => s.1 < t.1 ∧ Asc (t :: r)
theorem Asc.tail {s : Tm} : ∀ {r : List Tm}, Asc (s :: r) → Asc r
  | [], _ => trivial
  | _ :: _, h => h.2
/-- A term that a canonical form may have. -/
def Tm.Ok (vars : Nat) (t : Tm) : Prop := 0 ≤ t.1 ∧ t.1 < vars ∧ t.2.num ≠ 0 ∧ t.2.Ok
instance (vars : Nat) (t : Tm) : Decidable (Tm.Ok vars t) := by unfold Tm.Ok; infer_instance
/-- What Valid asks. -/
structure Fm.Ok (f : Fm) (vars : Nat) : Prop where
  asc : ∀ (i : Nat) (s t : Tm), f.terms[i]? = some s → f.terms[i + 1]? = some t → s.1 < t.1
  each : ∀ t ∈ f.terms, Tm.Ok vars t
  const : f.const.Ok
/-- A further term, unless it is 0. -/
def snoc (l : List Tm) (v : Int) (c : Q) : List Tm := if c.num = 0 then l else l ++ [(v, c)]
theorem Fm.Ok.mono {f : Fm} {a b : Nat} (h : f.Ok a) (hab : a ≤ b) : f.Ok b := ⟨h.asc, fun t ht => by
  obtain ⟨h1, h2, h3⟩ := h.each t ht
  exact ⟨h1, by omega, h3⟩, h.const⟩
theorem Fm.Ok.snoc {l : List Tm} {k c : Q} {v : Nat} (h : Fm.Ok ⟨l, k⟩ v) (hc : c.Ok) : Fm.Ok ⟨snoc l v c, k⟩ (v + 1) := by
  unfold Go.Proofs.YtcmfepaffhnemaaGreatDoor.snoc
  split
  · exact h.mono (by omega)
  · rename_i h0
    refine ⟨fun i s t hs ht => ?_, fun t ht => ?_, h.const⟩
    · simp only at hs ht
      have hi := (List.getElem?_eq_some_iff.1 ht).1
      rw [List.length_append, List.length_singleton] at hi
      rw [List.getElem?_append_left (by omega)] at hs
      rcases Nat.lt_or_ge (i + 1) l.length with h1 | h1
      · rw [List.getElem?_append_left h1] at ht
        exact h.asc i s t hs ht
      · rw [List.getElem?_append_right h1, show i + 1 - l.length = 0 by omega] at ht
        obtain rfl : (((v : Int), c) : Tm) = t := by simpa using ht
        have := (h.each s (List.mem_of_getElem? hs)).2.1
        simpa using this
    · rcases List.mem_append.1 ht with h1 | h1
      · exact (h.mono (by omega)).each t h1
      · rw [List.mem_singleton.1 h1]
        exact ⟨by simp only; omega, by simp only; omega, h0, hc⟩
end Go.Proofs.YtcmfepaffhnemaaGreatDoor

set_option linter.unusedVariables false
namespace Go.Proofs.YtcmfepaffhnemaaGreatDoor
open Go.RowKit

/-- A term in a slot. -/
structure Tv where
  var : Int
  coef : Rv
abbrev Tv.v (t : Tv) : Value := .agg #[.int .i64 t.var, .bool t.coef.neg, .slice t.coef.num.A t.coef.num.n t.coef.num.c, .slice t.coef.den.A t.coef.den.n t.coef.den.c]
def Tv.cs (t : Tv) : List Value := [.int .i64 t.var, .bool t.coef.neg, .slice t.coef.num.A t.coef.num.n t.coef.num.c, .slice t.coef.den.A t.coef.den.n t.coef.den.c]
structure Tv.Is (w : World) (t : Tv) (x : Tm) : Prop where
  var : t.var = x.1
  coef : t.coef.Is w x.2
theorem Tv.Is.gr {w w' : World} {t : Tv} {x : Tm} (h : t.Is w x) (G : Gr w w') : t.Is w' x := ⟨h.var, h.coef.gr G⟩
theorem Tv.len (t : Tv) : t.cs.length = 4 := rfl
/-- A slice of terms. -/
abbrev Terms (w : World) (x : Sv) (l : List Tm) : Prop := Rows Tv.cs Tv.Is 104 4 w x l
theorem Terms.gr {w w' : World} {x : Sv} {l : List Tm} (h : Terms w x l) (G : Gr w w') : Terms w' x l := Rows.gr (fun h G => h.gr G) h G
theorem Terms.len {w : World} {x : Sv} {l : List Tm} (h : Terms w x l) : l.length = x.n := Rows.len Tv.len (by decide) h
/-- Term i, where the slice says. -/
theorem Terms.at {w : World} {x : Sv} {l : List Tm} (h : Terms w x l) {i : Nat} {a : Tm} (ha : l[i]? = some a) :
    ∃ (t : Tv) (ad : Addr), t.Is w a ∧ x.A = some ad ∧ w.cell? (ad.add (i * 4)) = some (.int .i64 t.var) ∧ w.cell? ⟨(ad.add (i * 4)).block, (ad.add (i * 4)).off + 1, none⟩ = some (.bool t.coef.neg) ∧ w.cell? ⟨(ad.add (i * 4)).block, (ad.add (i * 4)).off + 2, none⟩ = some (.slice t.coef.num.A t.coef.num.n t.coef.num.c) ∧ w.cell? ⟨(ad.add (i * 4)).block, (ad.add (i * 4)).off + 3, none⟩ = some (.slice t.coef.den.A t.coef.den.n t.coef.den.c) := by
  obtain ⟨t, ht, hc⟩ := Rows.at Tv.len h ha
  obtain ⟨ad, hA, _, c0⟩ := hc 0 _ rfl
  obtain ⟨ad1, h1, _, c1⟩ := hc 1 _ rfl
  obtain ⟨ad2, h2, _, c2⟩ := hc 2 _ rfl
  obtain ⟨ad3, h3, _, c3⟩ := hc 3 _ rfl
  rw [hA] at h1 h2 h3
  cases h1; cases h2; cases h3
  rw [add_in _ _ (by decide)] at c1 c2 c3
  exact ⟨t, ad, ht, hA, c0, c1, c2, c3⟩
/-- A form in a slot. -/
structure Fv where
  terms : Sv
  const : Rv
abbrev Fv.v (f : Fv) : Value := .agg #[.slice f.terms.A f.terms.n f.terms.c, .bool f.const.neg, .slice f.const.num.A f.const.num.n f.const.num.c, .slice f.const.den.A f.const.den.n f.const.den.c]
def Fv.cs (f : Fv) : List Value := [.slice f.terms.A f.terms.n f.terms.c, .bool f.const.neg, .slice f.const.num.A f.const.num.n f.const.num.c, .slice f.const.den.A f.const.den.n f.const.den.c]
structure Fv.Is (w : World) (f : Fv) (x : Fm) : Prop where
  terms : Terms w f.terms x.terms
  const : f.const.Is w x.const
theorem Fv.Is.gr {w w' : World} {f : Fv} {x : Fm} (h : f.Is w x) (G : Gr w w') : f.Is w' x := ⟨h.terms.gr G, h.const.gr G⟩
theorem Fv.len (f : Fv) : f.cs.length = 4 := rfl
abbrev Forms (w : World) (x : Sv) (l : List Fm) : Prop := Rows Fv.cs Fv.Is 43 4 w x l
theorem Forms.gr {w w' : World} {x : Sv} {l : List Fm} (h : Forms w x l) (G : Gr w w') : Forms w' x l := Rows.gr (fun h G => h.gr G) h G
theorem Forms.len {w : World} {x : Sv} {l : List Fm} (h : Forms w x l) : l.length = x.n := Rows.len Fv.len (by decide) h
/-- Form i, where the slice says. -/
theorem Forms.at {w : World} {x : Sv} {l : List Fm} (h : Forms w x l) {i : Nat} {a : Fm} (ha : l[i]? = some a) :
    ∃ (t : Fv) (ad : Addr), t.Is w a ∧ x.A = some ad ∧ w.cell? (ad.add (i * 4)) = some (.slice t.terms.A t.terms.n t.terms.c) ∧ w.cell? ⟨(ad.add (i * 4)).block, (ad.add (i * 4)).off + 1, none⟩ = some (.bool t.const.neg) ∧ w.cell? ⟨(ad.add (i * 4)).block, (ad.add (i * 4)).off + 2, none⟩ = some (.slice t.const.num.A t.const.num.n t.const.num.c) ∧ w.cell? ⟨(ad.add (i * 4)).block, (ad.add (i * 4)).off + 3, none⟩ = some (.slice t.const.den.A t.const.den.n t.const.den.c) := by
  obtain ⟨t, ht, hc⟩ := Rows.at Fv.len h ha
  obtain ⟨ad, hA, _, c0⟩ := hc 0 _ rfl
  obtain ⟨ad1, h1, _, c1⟩ := hc 1 _ rfl
  obtain ⟨ad2, h2, _, c2⟩ := hc 2 _ rfl
  obtain ⟨ad3, h3, _, c3⟩ := hc 3 _ rfl
  rw [hA] at h1 h2 h3
  cases h1; cases h2; cases h3
  rw [add_in _ _ (by decide)] at c1 c2 c3
  exact ⟨t, ad, ht, hA, c0, c1, c2, c3⟩
theorem Tv.Is.tf {w w' : World} {t : Tv} {x : Tm} {X : Nat → Prop} (h : t.Is w x) (F : Fr X w w') (hX : ∀ b cs fr, X b → w.heap[b]? ≠ some (.cells cs 211 fr)) : t.Is w' x := ⟨h.var, h.coef.tf F hX⟩
theorem Terms.tf {w w' : World} {x : Sv} {l : List Tm} {X : Nat → Prop} (h : Terms w x l) (F : Fr X w w') (hX : ∀ b cs fr, X b → w.heap[b]? ≠ some (.cells cs 104 fr)) (hU : ∀ b cs fr, X b → w.heap[b]? ≠ some (.cells cs 211 fr)) : Terms w' x l :=
  Rows.tf h F hX fun _ _ h => h.tf F hU
theorem Fv.Is.tf {w w' : World} {f : Fv} {x : Fm} {X : Nat → Prop} (h : f.Is w x) (F : Fr X w w') (hX : ∀ b cs fr, X b → w.heap[b]? ≠ some (.cells cs 104 fr)) (hU : ∀ b cs fr, X b → w.heap[b]? ≠ some (.cells cs 211 fr)) : f.Is w' x := ⟨h.terms.tf F hX hU, h.const.tf F hU⟩
/-- A store into a variable of another type. -/
theorem Fv.Is.tf' {w w' : World} {f : Fv} {x : Fm} {p t : Nat} {us : Array Value} (h : f.Is w x) (F : Fr (fun b => b = p) w w') (hb : Bk w p t us) (h1 : t ≠ 104) (h2 : t ≠ 211) : f.Is w' x :=
  h.tf F (fun b cs fr e hh => Bk.not_ty hb h1 cs fr (e ▸ hh)) (fun b cs fr e hh => Bk.not_ty hb h2 cs fr (e ▸ hh))
theorem Rv.Is.tf' {w w' : World} {f : Rv} {x : Q} {p t : Nat} {us : Array Value} (h : f.Is w x) (F : Fr (fun b => b = p) w w') (hb : Bk w p t us) (h2 : t ≠ 211) : f.Is w' x :=
  h.tf F (fun b cs fr e hh => Bk.not_ty hb h2 cs fr (e ▸ hh))
end Go.Proofs.YtcmfepaffhnemaaGreatDoor

set_option linter.unusedVariables false
namespace Go.Proofs.YtcmfepaffhnemaaGreatDoor
open Go.RowKit

section
variable {P : Program}

/-- Carried out in the world W, the operation hands back some v and leaves some W' with K v W'. -/
def doesAt (P : Program) (o : Oper) (a : Act) (W : World) (K : Value → World → Prop) : Prop :=
  match (execOp a.eval o).run P W with
  | .ok (.value v) W' => K v W'
  | .ok .skip W' => K undef W'
  | .ok (.enter f args) W' => Calls P f args W' fun e W'' => ∃ v, e = .returned v ∧ K v W''
  | _ => False
theorem doesAt_some {o : Oper} {a : Act} {W : World} {K : Value → World → Prop} (h : doesAt P o a W K) : ∃ v W', K v W' := by
  unfold doesAt at h
  split at h
  · exact ⟨_, _, h⟩
  · exact ⟨_, _, h⟩
  · obtain ⟨e, w', fr, ⟨v, _, hv⟩, _⟩ := h []
    exact ⟨v, w', hv⟩
  · exact h.elim
theorem doesAt_wp {o : Oper} {a : Act} {W : World} {K : Value → World → Prop} {K' : Act → World → Prop} {Q : Exit → Act → World → Prop} (h : doesAt P o a W K) (hK : ∀ v W', K v W' → K' (a.put o.dst v) W') : o.wp P a W K' Q := by
  unfold doesAt at h
  unfold Oper.wp
  split at h
  · rename_i e; rw [e]; exact hK _ _ h
  · rename_i e; rw [e]; exact hK _ _ h
  · rename_i e
    rw [e]
    exact h.mono fun e w'' ⟨v, he, hv⟩ => by subst he; exact hK _ _ hv
  · exact h.elim
theorem doesAt_same {o : Oper} {a a' : Act} {W : World} {K : Value → World → Prop} (he : execOp a'.eval o = execOp a.eval o) (h : doesAt P o a W K) : doesAt P o a' W K := by
  unfold doesAt at *
  rw [he]
  exact h
theorem doesAt_value {o : Oper} {a : Act} {W W' : World} {v : Value} {K : Value → World → Prop} (h : (execOp a.eval o).run P W = .ok (.value v) W') (hK : K v W') : doesAt P o a W K := by
  unfold doesAt; rw [h]; exact hK
theorem doesAt_enter {o : Oper} {a : Act} {W : World} {f : FuncId} {args : Array Value} {K : Value → World → Prop} (h : (execOp a.eval o).run P W = .ok (.enter f args) W) (hK : Calls P f args W fun e W'' => ∃ v, e = .returned v ∧ K v W'') : doesAt P o a W K := by
  unfold doesAt; rw [h]; exact hK
end

/-- All operations that come before number j, by way of the edges of the region. -/
def depsOf (ops : Array Oper) : Array (List Nat) :=
  ops.foldl (init := #[]) fun acc o => acc.push (o.after.foldl (init := []) fun l e => if Region.binds .any e then (e.on :: acc.getD e.on []).foldl (fun l x => if l.contains x then l else x :: l) l else l)
/-- What is asked of the region itself: the edges go backwards; what no edge parts is apart; D is closed. -/
def monoB (ops : Array Oper) (D : Array (List Nat)) : Bool :=
  Region.noSelect ops && (List.range ops.size).all fun j => match ops[j]? with
    | none => false
    | some oj => (oj.after.all fun e => !Region.binds .any e || decide (e.on < j)) && ((D.getD j []).all fun i => decide (i < j) && oj.after.any fun e => Region.binds .any e && (e.on == i || (D.getD e.on []).contains i)) &&
      ((List.range j).all fun i => match ops[i]? with
        | none => false
        | some oi => (oj.after.any fun e => Region.binds .any e && e.on == i) || oi.apart ops oj)

section
variable {P : Program} {ops : Array Oper} {R : World → World → Prop} {W0 : World} {Φ : Nat → Option (Value → World → Prop)} {D : Nat → List Nat} {Q : Act → World → Prop}

/-- What has been shown so far, at a world. -/
def Holds (F : List (Nat × (World → Prop))) (W : World) : Prop := ∀ p ∈ F, p.2 W
/-- What an operation may lean on. -/
def Leans (F : List (Nat × (World → Prop))) (d : List Nat) (W : World) : Prop := ∀ p ∈ F, p.1 ∈ d → p.2 W

/-- The walk in the order of the text: an operation without a row in Φ yields one value in every world that R leads to; one with a row (ψ) yields, in every such world in which holds what it leans on, some v with ψ v. -/
def Walk (P : Program) (ops : Array Oper) (R : World → World → Prop) (W0 : World) (Φ : Nat → Option (Value → World → Prop)) (D : Nat → List Nat) (Q : Act → World → Prop) : List Nat → List (Nat × (World → Prop)) → Act → Prop
  | [], F, a => ∀ W, R W0 W → Holds F W → Q a W
  | k :: rest, F, a => ∃ o, ops[k]? = some o ∧
    match Φ k with
    | none => ∃ v, YieldsIf P ops (R W0) o v a ∧ Walk P ops R W0 Φ D Q rest F (a.put o.dst v)
    | some ψ => Region.wanted o (yielded ops a.tmps) = true ∧ (∀ W, R W0 W → Leans F (D k) W → doesAt P o a W fun v W' => R W W' ∧ ψ v W') ∧
        ∀ v, (∃ W, R W0 W ∧ Holds F W ∧ ψ v W) → Walk P ops R W0 Φ D Q rest (F ++ [(k, ψ v)]) (a.put o.dst v)

theorem Walk.congr : ∀ {rest : List Nat} {F F' : List (Nat × (World → Prop))} {a : Act}, (∀ p, p ∈ F ↔ p ∈ F') → Walk P ops R W0 Φ D Q rest F a → Walk P ops R W0 Φ D Q rest F' a
  | [], F, F', a, hF, h => fun W hW hh => h W hW fun p hp => hh p ((hF p).1 hp)
  | k :: rest, F, F', a, hF, h => by
    obtain ⟨o, ho, h⟩ := h
    refine ⟨o, ho, ?_⟩
    cases e : Φ k with
    | none =>
      simp only [e] at h ⊢
      obtain ⟨v, hy, h⟩ := h
      exact ⟨v, hy, Walk.congr hF h⟩
    | some ψ =>
      simp only [e] at h ⊢
      obtain ⟨hw, hs, h⟩ := h
      refine ⟨hw, fun W hW hl => hs W hW fun p hp hd => hl p ((hF p).1 hp) hd, fun v ⟨W, hW, hh, hv⟩ => Walk.congr (fun p => ?_) (h v ⟨W, hW, fun p hp => hh p ((hF p).1 hp), hv⟩)⟩
      simp only [List.mem_append, hF]

/-- An operation is of one value, or of a row. -/
def Front (P : Program) (ops : Array Oper) (R : World → World → Prop) (W0 : World) (Φ : Nat → Option (Value → World → Prop)) (D : Nat → List Nat) (Q : Act → World → Prop) (j : Nat) (o : Oper) (rest : List Nat) (F : List (Nat × (World → Prop))) (a : Act) : Prop :=
  match Φ j with
  | none => ∃ v, YieldsIf P ops (R W0) o v a ∧ Walk P ops R W0 Φ D Q rest F (a.put o.dst v)
  | some ψ => Region.wanted o (yielded ops a.tmps) = true ∧ (∀ W, R W0 W → Leans F (D j) W → doesAt P o a W fun v W' => R W W' ∧ ψ v W') ∧
      ∀ v, (∃ W, R W0 W ∧ Holds F W ∧ ψ v W) → Walk P ops R W0 Φ D Q rest (F ++ [(j, ψ v)]) (a.put o.dst v)

theorem YieldsIf.unique {S : World → Prop} {o : Oper} {a : Act} {v u : Value} {W : World} (hW : S W) (h : YieldsIf P ops S o v a) (k : YieldsIf P ops S o u a) : u = v := by
  rcases h with ⟨h1, h2⟩ | ⟨h1, rfl⟩
  · rcases k with ⟨k1, k2⟩ | ⟨k1, rfl⟩
    · have := (h2 W hW).symm.trans (k2 W hW)
      injection this with this
      injection this with this
      exact this.symm
    · rw [h1] at k1; cases k1
  · rcases k with ⟨k1, k2⟩ | ⟨k1, rfl⟩
    · rw [h1] at k1; cases k1
    · rfl

/-- Number j may be walked first, where it leans on nothing that is left and is apart from all that stands ahead of it. -/
theorem Walk.pull (hs : Region.noSelect ops = true) (hrefl : R W0 W0) (hst : ∀ k ψ, Φ k = some ψ → ∀ v W W', R W0 W → R W W' → ψ v W → ψ v W') (htr : ∀ {a b c}, R a b → R b c → R a c) {j : Nat} {oj : Oper} (hj : ops[j]? = some oj) :
    ∀ (rest : List Nat) (F : List (Nat × (World → Prop))) (a : Act), j ∈ rest → rest.Pairwise (· < ·) → (∀ k ∈ rest, k < j → ∀ o, ops[k]? = some o → o.apart ops oj = true) → (∀ k ∈ rest, k < j → k ∉ D j ∧ j ∉ D k) →
    (∀ p ∈ F, ∀ W W', R W0 W → R W W' → p.2 W → p.2 W') → (∃ W, R W0 W ∧ Holds F W) → Walk P ops R W0 Φ D Q rest F a → Front P ops R W0 Φ D Q j oj (rest.erase j) F a
  | [], F, a, hm, _, _, _, _, _, _ => by cases hm
  | k :: rest, F, a, hm, hp, hap, hD, hF, hex, h => by
    obtain ⟨ok, hk, h⟩ := h
    by_cases hjk : k = j
    · subst hjk
      rw [hj] at hk
      injection hk with hk
      subst hk
      rw [List.erase_cons_head]
      exact h
    · have hm' : j ∈ rest := by rcases List.mem_cons.1 hm with e | e; exact absurd e.symm hjk; exact e
      have hlt : k < j := (List.pairwise_cons.1 hp).1 j hm'
      obtain ⟨a1, a2, a3⟩ := Oper.apart_spec (hap k (List.mem_cons_self ..) hlt ok hk)
      have hnd := hD k (List.mem_cons_self ..) hlt
      have hsj : ∀ cs b, oj.op ≠ .select cs b := fun cs b => Region.noSelect_spec hs j oj cs b hj
      have hsk : ∀ cs b, ok.op ≠ .select cs b := fun cs b => Region.noSelect_spec hs k ok cs b hk
      have ih : ∀ F' a', (∀ p ∈ F', ∀ W W', R W0 W → R W W' → p.2 W → p.2 W') → (∃ W, R W0 W ∧ Holds F' W) → Walk P ops R W0 Φ D Q rest F' a' → Front P ops R W0 Φ D Q j oj (rest.erase j) F' a' := fun F' a' =>
        Walk.pull hs hrefl hst htr hj rest F' a' hm' (List.pairwise_cons.1 hp).2 (fun i hi => hap i (List.mem_cons_of_mem _ hi)) (fun i hi => hD i (List.mem_cons_of_mem _ hi))
      have her : (k :: rest).erase j = k :: rest.erase j := by
        rw [List.erase_cons_tail]
        simpa using hjk
      rw [her]
      have we : ∀ (b : Act) (u : Value), Region.wanted oj (yielded ops (b.put ok.dst u).tmps) = Region.wanted oj (yielded ops b.tmps) := fun b u => wanted_put oj b ok.dst u a1
      have wk : ∀ (b : Act) (u : Value), Region.wanted ok (yielded ops (b.put oj.dst u).tmps) = Region.wanted ok (yielded ops b.tmps) := fun b u => wanted_put ok b oj.dst u a3
      have ej : ∀ (b : Act) (u : Value), execOp (b.put ok.dst u).eval oj = execOp b.eval oj := fun b u => execOp_put oj hsj b ok.dst u a1
      have ek : ∀ (b : Act) (u : Value), execOp (b.put oj.dst u).eval ok = execOp b.eval ok := fun b u => execOp_put ok hsk b oj.dst u a3
      have pc : ∀ (b : Act) (v u : Value), (b.put ok.dst v).put oj.dst u = (b.put oj.dst u).put ok.dst v := fun b v u => Act.put_comm b v u a2
      unfold Front
      cases hΦk : Φ k with
      | none =>
        simp only [hΦk] at h
        obtain ⟨vk, hy, h⟩ := h
        have := ih F _ hF hex h
        unfold Front at this
        cases hΦj : Φ j with
        | none =>
          simp only [hΦj] at this ⊢
          obtain ⟨vj, hyj, h2⟩ := this
          refine ⟨vj, hyj.of_same (ej a vk).symm (we a vk).symm, ok, hk, ?_⟩
          simp only [hΦk]
          exact ⟨vk, hy.of_same (ek a vj) (wk a vj), by rw [← pc]; exact h2⟩
        | some ψ =>
          simp only [hΦj] at this ⊢
          obtain ⟨hw, hsp, h2⟩ := this
          refine ⟨by rw [← we a vk]; exact hw, fun W hW hl => doesAt_same (ej a vk).symm (hsp W hW hl), fun v hv => ⟨ok, hk, ?_⟩⟩
          simp only [hΦk]
          exact ⟨vk, hy.of_same (ek a v) (wk a v), by rw [← pc]; exact h2 v hv⟩
      | some χ =>
        simp only [hΦk] at h
        obtain ⟨hwk, hspk, h⟩ := h
        have hχ := hst k χ hΦk
        have hFk : ∀ v, ∀ p ∈ F ++ [(k, χ v)], ∀ W W', R W0 W → R W W' → p.2 W → p.2 W' := fun v p hp => by
          rcases List.mem_append.1 hp with hp | hp
          · exact hF p hp
          · rw [List.mem_singleton.1 hp]; exact hχ v
        have all : ∀ v W, R W0 W → Holds F W → χ v W → Front P ops R W0 Φ D Q j oj (rest.erase j) (F ++ [(k, χ v)]) (a.put ok.dst v) := fun v W hW hh hv =>
          ih _ _ (hFk v) ⟨W, hW, fun p hp => by
            rcases List.mem_append.1 hp with hp | hp
            · exact hh p hp
            · rw [List.mem_singleton.1 hp]; exact hv⟩ (h v ⟨W, hW, hh, hv⟩)
        obtain ⟨W, hW, hh⟩ := hex
        obtain ⟨v1, W1, hR1, hv1⟩ := doesAt_some (hspk W hW fun p hp _ => hh p hp)
        have hh1 : Holds F W1 := fun p hp => hF p hp _ _ hW hR1 (hh p hp)
        have first := all v1 W1 (htr hW hR1) hh1 hv1
        unfold Front at first all
        cases hΦj : Φ j with
        | none =>
          simp only [hΦj] at first all ⊢
          obtain ⟨vj, hyj, _⟩ := first
          have hyj' := hyj.of_same (ej a v1).symm (we a v1).symm
          refine ⟨vj, hyj', ok, hk, ?_⟩
          simp only [hΦk]
          refine ⟨by rw [wk]; exact hwk, fun W hW hl => doesAt_same (ek a vj) (hspk W hW hl), fun v ⟨W2, hW2, hh2, hv2⟩ => ?_⟩
          obtain ⟨u, hu, h3⟩ := all v W2 hW2 hh2 hv2
          obtain rfl := YieldsIf.unique hrefl hyj' (hu.of_same (ej a v).symm (we a v).symm)
          rw [← pc]
          exact h3
        | some ψ =>
          simp only [hΦj] at first all ⊢
          obtain ⟨hwj, hspj, _⟩ := first
          have less : ∀ v W, Leans F (D j) W → Leans (F ++ [(k, χ v)]) (D j) W := fun v W hl p hp hd => by
            rcases List.mem_append.1 hp with hp | hp
            · exact hl p hp hd
            · rw [List.mem_singleton.1 hp] at hd; exact absurd hd hnd.1
          refine ⟨by rw [← we a v1]; exact hwj, fun W hW hl => doesAt_same (ej a v1).symm (hspj W hW (less v1 W hl)), fun v hv => ⟨ok, hk, ?_⟩⟩
          simp only [hΦk]
          refine ⟨by rw [wk]; exact hwk, fun W hW hl => doesAt_same (ek a v) (hspk W hW fun p hp hd => hl p (List.mem_append_left _ hp) hd), fun u ⟨W2, hW2, hh2, hu2⟩ => ?_⟩
          have hh3 : Holds F W2 := fun p hp => hh2 p (List.mem_append_left _ hp)
          have hv2 : ψ v W2 := hh2 (j, ψ v) (List.mem_append_right _ (List.mem_singleton.2 rfl))
          obtain ⟨_, _, h3⟩ := all u W2 hW2 hh3 hu2
          have h4 := h3 v ⟨W2, hW2, fun p hp => by
            rcases List.mem_append.1 hp with hp | hp
            · exact hh3 p hp
            · rw [List.mem_singleton.1 hp]; exact hu2, hv2⟩
          rw [← pc]
          refine h4.congr fun p => ?_
          simp only [List.mem_append, List.mem_singleton]
          constructor <;> (rintro ((h | h) | h) <;> simp [h])

theorem mem_getD_set {listed : Array Bool} {i k : Nat} (hi : i < listed.size) : (listed.setIfInBounds i true).getD k true = false ↔ listed.getD k true = false ∧ k ≠ i := by
  by_cases h : k = i
  · subst h; simp [hi]
  · rw [getD_set_ne true (Ne.symm h)]; simp [h]

/-- What is asked of a walk that begins where 'listed' have come up, takes 'rest', and ends where 'last' have come up: what is left waits for all of rest. -/
def walkB (ops : Array Oper) (D : Array (List Nat)) (listed last : Array Bool) (rest : List Nat) : Bool :=
  listed.size == ops.size && last.size == ops.size && rest.all (fun k => !listed.getD k true) && (List.range ops.size).all fun j =>
    (last.getD j true == (listed.getD j true || rest.contains j)) && (!listed.getD j false || (D.getD j []).all fun i => listed.getD i false) && (listed.getD j true || rest.contains j || rest.all fun k => (D.getD j []).contains k)
theorem Walk.any (hs : Region.noSelect ops = true) (hB : monoB ops (depsOf ops) = true) (hD : ∀ j, D j = (depsOf ops).getD j []) (hst : ∀ k ψ, Φ k = some ψ → ∀ v W W', R W0 W → R W W' → ψ v W → ψ v W') (hrefl : R W0 W0) (htr : ∀ {a b c}, R a b → R b c → R a c) {Q' : Exit → Act → World → Prop} {m : Nat} {last : Array Bool} (hQ : ∀ a W, Q a W → wpAny P .any ops Q' m last a W) :
    ∀ (rest : List Nat) (listed : Array Bool) (F : List (Nat × (World → Prop))) (a : Act) (W : World), listed.size = ops.size → last.size = ops.size → (∀ k ∈ rest, listed.getD k true = false) → (∀ j, j < ops.size → last.getD j true = (listed.getD j true || rest.contains j)) → rest.Pairwise (· < ·) → (∀ j, listed.getD j false = true → ∀ i ∈ D j, listed.getD i false = true) →
    (∀ j, listed.getD j true = false → j ∉ rest → ∀ k ∈ rest, k ∈ D j) →
    (∀ p ∈ F, ∀ W W', R W0 W → R W W' → p.2 W → p.2 W') → R W0 W → Holds F W → Walk P ops R W0 Φ D Q rest F a → wpAny P .any ops Q' (rest.length + m) listed a W := by
  intro rest
  generalize hn : rest.length = n
  induction n generalizing rest with
  | zero =>
    intro listed F a W hsz hsl hrest hlast hp hcl htl hF hW hh h
    obtain rfl := List.length_eq_zero_iff.1 hn
    have : listed = last := by
      apply Array.ext
      · rw [hsz, hsl]
      · intro i h1 h2
        have := hlast i (by rw [← hsz]; exact h1)
        simpa [h1, h2] using this.symm
    rw [this, Nat.zero_add]
    exact hQ _ _ (h W hW hh)
  | succ n ih =>
    intro listed F a W hsz hsl hrest hlast hp hcl htl hF hW hh h
    rw [show n + 1 + m = (n + m) + 1 from by omega]
    simp only [monoB, Bool.and_eq_true, List.all_eq_true, List.mem_range] at hB
    have spec : ∀ j oj, ops[j]? = some oj → (∀ e ∈ oj.after, Region.binds .any e = true → e.on < j) ∧ (∀ i ∈ D j, i < j ∧ ∃ e ∈ oj.after, Region.binds .any e = true ∧ (e.on = i ∨ i ∈ D e.on)) ∧ (∀ i, i < j → ∀ oi, ops[i]? = some oi → (∃ e ∈ oj.after, Region.binds .any e = true ∧ e.on = i) ∨ oi.apart ops oj = true) := fun j oj hj => by
      have h1 := hB.2 j (Array.getElem?_eq_some_iff.1 hj).1
      simp only [hj, Bool.and_eq_true, List.all_eq_true, List.mem_range, Array.all_eq_true_iff_forall_mem, decide_eq_true_eq, Bool.or_eq_true, Bool.not_eq_true'] at h1
      refine ⟨fun e he hb => (h1.1.1 e he).resolve_left (by rw [hb]; exact Bool.noConfusion), fun i hi => ?_, fun i hi oi hoi => ?_⟩
      · rw [hD] at hi
        obtain ⟨h2, h3⟩ := h1.1.2 i hi
        obtain ⟨e, he, hb⟩ := Array.any_eq_true'.1 h3
        simp only [Bool.and_eq_true, Bool.or_eq_true, beq_iff_eq, List.contains_iff_mem] at hb
        exact ⟨h2, e, he, hb.1, by rw [hD]; exact hb.2⟩
      · have h2 := h1.2 i hi
        simp only [hoi, Bool.or_eq_true] at h2
        rcases h2 with h2 | h2
        · obtain ⟨e, he, hb⟩ := Array.any_eq_true'.1 h2
          simp only [Bool.and_eq_true, beq_iff_eq] at hb
          exact .inl ⟨e, he, hb.1, hb.2⟩
        · exact .inr h2
    have false_of : ∀ k ∈ rest, listed.getD k false = true → False := fun k hk ht => by
      have h1 := hrest k hk
      rcases Nat.lt_or_ge k listed.size with h' | h'
      · simp [h'] at h1 ht; rw [h1] at ht; cases ht
      · simp [Array.getElem?_eq_none h'] at ht
    have dl : ∀ j oj, ops[j]? = some oj → (∀ e ∈ oj.after, Region.binds .any e = true → listed.getD e.on false = true) → ∀ i ∈ D j, listed.getD i false = true := fun j oj hoj hall i hi => by
      obtain ⟨_, e, he, hb, h2⟩ := (spec j oj hoj).2.1 i hi
      rcases h2 with h2 | h2
      · rw [← h2]; exact hall e he hb
      · exact hcl _ (hall e he hb) i h2
    have size_of : ∀ k, listed.getD k true = false → k < ops.size := fun k hk => by
      rcases Nat.lt_or_ge k listed.size with h' | h'
      · omega
      · rw [show listed.getD k true = true from by simp [Array.getElem?_eq_none h']] at hk; cases hk
    have get_of : ∀ k, listed.getD k true = false → ∃ o, ops[k]? = some o := fun k hk => ⟨_, Array.getElem?_eq_getElem (size_of k hk)⟩
    refine ⟨fun h0 => ?_, fun j hj => ?_⟩
    · -- the first that is left may come up
      exfalso
      cases rest with
      | nil => simp at hn
      | cons k rest =>
        obtain ⟨o, ho, _⟩ := h
        have : k ∈ Region.ready .any ops listed := mem_ready.2 ⟨hrest k (List.mem_cons_self ..), o, ho, fun e he hb => by
          have hlt := (spec k o ho).1 e he hb
          cases hl : listed.getD e.on true with
          | true =>
            have hb : e.on < listed.size := by rw [hsz]; have := (Array.getElem?_eq_some_iff.1 ho).1; omega
            simpa [hb] using hl
          | false =>
            exfalso
            by_cases hm : e.on ∈ k :: rest
            · rcases List.mem_cons.1 hm with e1 | e1
              · omega
              · have := (List.pairwise_cons.1 hp).1 _ e1; omega
            · have h1 := htl e.on hl hm k (List.mem_cons_self ..)
              obtain ⟨oe, hoe⟩ := get_of e.on hl
              have := ((spec _ oe hoe).2.1 k h1).1
              omega⟩
        rw [h0] at this
        cases this
    · obtain ⟨hun, oj, hoj, hall⟩ := mem_ready.1 hj
      have hdl := dl j oj hoj hall
      have hm : j ∈ rest := by
        by_cases hm : j ∈ rest
        · exact hm
        · exfalso
          cases rest with
          | nil => simp at hn
          | cons k rest => exact false_of k (List.mem_cons_self ..) (hdl k (htl j hun hm k (List.mem_cons_self ..)))
      have hjs : j < listed.size := by rw [hsz]; exact (Array.getElem?_eq_some_iff.1 hoj).1
      have front := h.pull hs hrefl hst htr hoj rest F a hm hp (fun k hk hlt o ho => by
          rcases (spec j oj hoj).2.2 k hlt o ho with ⟨e, he, hb, e1⟩ | h1
          · exact (false_of k hk (by rw [← e1]; exact hall e he hb)).elim
          · exact h1)
        (fun k hk hlt => ⟨fun hd => false_of k hk (hdl k hd), fun hd => by
          obtain ⟨o, ho⟩ := get_of k (hrest k hk)
          have := ((spec k o ho).2.1 j hd).1
          omega⟩) hF ⟨W, hW, hh⟩
      have len : (rest.erase j).length = n := by rw [List.length_erase_of_mem hm, hn]; rfl
      have nd : rest.Nodup := hp.imp fun h => Nat.ne_of_lt h
      have hrest' : ∀ k ∈ rest.erase j, (listed.setIfInBounds j true).getD k true = false := fun k hk => by
        rw [nd.mem_erase_iff] at hk
        exact (mem_getD_set hjs).2 ⟨hrest k hk.2, hk.1⟩
      have hlast' : ∀ k, k < ops.size → last.getD k true = ((listed.setIfInBounds j true).getD k true || (rest.erase j).contains k) := fun k hk => by
        rw [hlast k hk]
        by_cases hkj : k = j
        · subst hkj
          rw [show (listed.setIfInBounds k true).getD k true = true from by simp [hjs], List.contains_iff_mem.2 hm]
          simp
        · rw [getD_set_ne true (Ne.symm hkj)]
          congr 1
          rw [Bool.eq_iff_iff, List.contains_iff_mem, List.contains_iff_mem, nd.mem_erase_iff]
          simp [hkj]
      have hcl' : ∀ i, (listed.setIfInBounds j true).getD i false = true → ∀ d ∈ D i, (listed.setIfInBounds j true).getD d false = true := fun i hi d hd => by
        by_cases hij : i = j
        · subst hij; exact getD_set_true (hdl d hd)
        · rw [getD_set_ne false (Ne.symm hij)] at hi
          exact getD_set_true (hcl i hi d hd)
      have htl' : ∀ i, (listed.setIfInBounds j true).getD i true = false → i ∉ rest.erase j → ∀ k ∈ rest.erase j, k ∈ D i := fun i hi hni k hk => by
        obtain ⟨h1, h2⟩ := (mem_getD_set hjs).1 hi
        refine htl i h1 (fun h3 => hni ?_) k (List.mem_of_mem_erase hk)
        rw [nd.mem_erase_iff]; exact ⟨h2, h3⟩
      have next := ih (rest.erase j) len (listed.setIfInBounds j true)
      unfold Front at front
      cases hΦ : Φ j with
      | none =>
        simp only [hΦ] at front
        obtain ⟨v, hy, h2⟩ := front
        exact hy.wpOp hoj hW (next F _ W (by simpa using hsz) hsl hrest' hlast' (hp.sublist (List.erase_sublist ..)) hcl' htl' hF hW hh h2)
      | some ψ =>
        simp only [hΦ] at front
        obtain ⟨hw, hsp, h2⟩ := front
        unfold wpOp
        simp only [hoj, hw, if_true]
        refine .inl (doesAt_wp (hsp W hW fun p hp _ => hh p hp) fun v W' ⟨hR, hv⟩ => ?_)
        have hh' : Holds F W' := fun p hp => hF p hp _ _ hW hR (hh p hp)
        exact next (F ++ [(j, ψ v)]) _ W' (by simpa using hsz) hsl hrest' hlast' (hp.sublist (List.erase_sublist ..)) hcl' htl' (fun p hp => by
            rcases List.mem_append.1 hp with hp | hp
            · exact hF p hp
            · rw [List.mem_singleton.1 hp]; exact hst j ψ hΦ v) (htr hW hR) (fun p hp => by
            rcases List.mem_append.1 hp with hp | hp
            · exact hh' p hp
            · rw [List.mem_singleton.1 hp]; exact hv) (h2 v ⟨W', htr hW hR, hh', hv⟩)

/-- What stands in a short list of rows. -/
def rowsOf (l : List (Nat × (Value → World → Prop))) (k : Nat) : Option (Value → World → Prop) := (l.find? fun p => p.1 == k).map (·.2)
theorem rowsOf_mem {l : List (Nat × (Value → World → Prop))} {k : Nat} {ψ : Value → World → Prop} (h : rowsOf l k = some ψ) : ∃ p ∈ l, p.2 = ψ := by
  unfold rowsOf at h
  obtain ⟨p, hp, e⟩ := Option.map_eq_some_iff.1 h
  exact ⟨p, List.mem_of_find?_eq_some hp, e⟩

/-- A walk that begins where some have come up and ends ahead of what waits for all of them. -/
theorem wpAny_walk {Q : Exit → Act → World → Prop} {a : Act} {w : World} {ops : Array Oper} {m : Nat} {listed last : Array Bool} (rest : List Nat) (L : List (Nat × (Value → World → Prop))) (hB : monoB ops (depsOf ops) = true) (hp : decide (rest.Pairwise (· < ·)) = true) (hW : walkB ops (depsOf ops) listed last rest = true)
    (hst : ∀ p ∈ L, ∀ v W W', Gr w W → Gr W W' → p.2 v W → p.2 v W')
    (h : Walk P ops Gr w (rowsOf L) (fun j => (depsOf ops).getD j []) (fun a W => wpAny P .any ops Q m last a W) rest [] a) : wpAny P .any ops Q (rest.length + m) listed a w := by
  have hB' := hB
  simp only [monoB, Bool.and_eq_true] at hB'
  simp only [walkB, Bool.and_eq_true, beq_iff_eq, List.all_eq_true, List.mem_range, Bool.not_eq_true', Bool.or_eq_true, List.contains_iff_mem] at hW
  obtain ⟨⟨⟨h1, h2⟩, h3⟩, h4⟩ := hW
  have bd : ∀ j, listed.getD j true = false → j < ops.size := fun k hk => by
    rcases Nat.lt_or_ge k listed.size with h' | h'
    · omega
    · rw [show listed.getD k true = true from by simp [Array.getElem?_eq_none h']] at hk; cases hk
  refine Walk.any hB'.1 hB (fun _ => rfl) (fun k ψ hk v W W' h0 hR hv => by
      obtain ⟨p, hp, rfl⟩ := rowsOf_mem hk
      exact hst p hp v W W' h0 hR hv) (Gr.refl w) (fun h k => Gr.trans h k) (fun a W h => h) rest listed [] a w h1 h2 h3 (fun j hj => (h4 j hj).1.1) (of_decide_eq_true hp) (fun j hj i hi => ?_) (fun j hj hn k hk => ?_) (fun p hp => by cases hp) (Gr.refl w) (fun p hp => by cases hp) h
  · have hjs : j < ops.size := by
      rcases Nat.lt_or_ge j listed.size with h' | h'
      · omega
      · simp [Array.getElem?_eq_none h'] at hj
    rcases (h4 j hjs).1.2 with h5 | h5
    · rw [hj] at h5; cases h5
    · exact h5 i hi
  · rcases (h4 j (bd j hj)).2 with (h5 | h5) | h5
    · rw [hj] at h5; cases h5
    · exact absurd h5 hn
    · exact h5 k hk
/-- A region that draws its order, by the walk in the order of the text. -/
theorem wp_region_walk {id : Nat} {Q : Exit → Act → World → Prop} {a : Act} {w : World} {l : List Oper} (L : List (Nat × (Value → World → Prop))) (hm : P.follows .mixedOrders = true) (hB : monoB l.toArray (depsOf l.toArray) = true) (hW : walkB l.toArray (depsOf l.toArray) (Array.replicate l.length false) (Array.replicate l.length true) (List.range l.length) = true)
    (hst : ∀ p ∈ L, ∀ v W W', Gr w.drew W → Gr W W' → p.2 v W → p.2 v W')
    (h : Walk P l.toArray Gr w.drew (rowsOf L) (fun j => (depsOf l.toArray).getD j []) (Q .normal) (List.range l.length) [] a) : (Code.region id l.toArray true).wp P Q a w := by
  refine wp_region_any hm ?_
  have := wpAny_walk (P := P) (Q := Q) (a := a) (w := w.drew) (m := 0) (last := Array.replicate l.length true) (listed := Array.replicate l.length false) (List.range l.length) L hB (decide_eq_true List.pairwise_lt_range) hW hst ?_
  · simpa using this
  · have hd : ∀ (rest : List Nat) (F : List (Nat × (World → Prop))) (a : Act) (Q1 Q2 : Act → World → Prop), (∀ a W, Q1 a W → Q2 a W) → Walk P l.toArray Gr w.drew (rowsOf L) (fun j => (depsOf l.toArray).getD j []) Q1 rest F a → Walk P l.toArray Gr w.drew (rowsOf L) (fun j => (depsOf l.toArray).getD j []) Q2 rest F a := by
      intro rest
      induction rest with
      | nil => exact fun F a Q1 Q2 h12 h W hW hh => h12 _ _ (h W hW hh)
      | cons k rest ih =>
        intro F a Q1 Q2 h12 h
        obtain ⟨o, ho, h⟩ := h
        refine ⟨o, ho, ?_⟩
        cases e : rowsOf L k with
        | none =>
          simp only [e] at h ⊢
          obtain ⟨v, hy, h⟩ := h
          exact ⟨v, hy, ih _ _ _ _ h12 h⟩
        | some ψ =>
          simp only [e] at h ⊢
          exact ⟨h.1, h.2.1, fun v hv => ih _ _ _ _ h12 (h.2.2 v hv)⟩
    refine hd _ _ _ _ _ (fun a W hQ => ⟨?_, hQ⟩) h
    apply List.eq_nil_iff_forall_not_mem.2
    intro j hj
    have := (mem_ready.1 hj).1
    rcases Nat.lt_or_ge j l.length with h' | h' <;> simp [h'] at this
/-- A region that draws its order: the walk of a part, then what waits for all of it. -/
theorem wp_region_part {id : Nat} {Q : Exit → Act → World → Prop} {a : Act} {w : World} {l : List Oper} {last : Array Bool} (rest : List Nat) (m : Nat) (L : List (Nat × (Value → World → Prop))) (hm : P.follows .mixedOrders = true) (hl : rest.length + m = l.length) (hp : decide (rest.Pairwise (· < ·)) = true) (hB : monoB l.toArray (depsOf l.toArray) = true) (hW : walkB l.toArray (depsOf l.toArray) (Array.replicate l.length false) last rest = true)
    (hst : ∀ p ∈ L, ∀ v W W', Gr w.drew W → Gr W W' → p.2 v W → p.2 v W')
    (h : Walk P l.toArray Gr w.drew (rowsOf L) (fun j => (depsOf l.toArray).getD j []) (fun a W => wpAny P .any l.toArray Q m last a W) rest [] a) : (Code.region id l.toArray true).wp P Q a w := by
  refine wp_region_any hm ?_
  have := wpAny_walk (P := P) (Q := Q) (a := a) (w := w.drew) rest L hB hp hW hst h
  rw [hl] at this
  simpa using this
/-- A step: an operation of one value. -/
theorem Walk.take {l : List Oper} {k : Nat} {rest : List Nat} {F : List (Nat × (World → Prop))} {a : Act} {o : Oper} {v : Value} (ho : l[k]? = some o) (hΦ : Φ k = none) (hy : YieldsIf P l.toArray (R W0) o v a) (h : Walk P l.toArray R W0 Φ D Q rest F (a.put o.dst v)) : Walk P l.toArray R W0 Φ D Q (k :: rest) F a :=
  ⟨o, by rw [List.getElem?_toArray]; exact ho, by simp only [hΦ]; exact ⟨v, hy, h⟩⟩
/-- A step: an operation with a row. -/
theorem Walk.do {l : List Oper} {k : Nat} {rest : List Nat} {F : List (Nat × (World → Prop))} {a : Act} {o : Oper} {ψ : Value → World → Prop} (ho : l[k]? = some o) (hΦ : Φ k = some ψ) (hw : Region.wanted o (yielded l.toArray a.tmps) = true) (hs : ∀ W, R W0 W → Leans F (D k) W → doesAt P o a W fun v W' => R W W' ∧ ψ v W')
    (h : ∀ v, (∃ W, R W0 W ∧ Holds F W ∧ ψ v W) → Walk P l.toArray R W0 Φ D Q rest (F ++ [(k, ψ v)]) (a.put o.dst v)) : Walk P l.toArray R W0 Φ D Q (k :: rest) F a :=
  ⟨o, by rw [List.getElem?_toArray]; exact ho, by simp only [hΦ]; exact ⟨hw, hs, h⟩⟩
theorem Walk.done {F : List (Nat × (World → Prop))} {a : Act} (h : ∀ W, R W0 W → Holds F W → Q a W) : Walk P ops R W0 Φ D Q [] F a := h
/-- What is left comes up one by one. -/
theorem wpAny_one {Q : Exit → Act → World → Prop} {fuel : Nat} {listed : Array Bool} {a : Act} {w : World} {l : List Oper} (k : Nat) {o : Oper} (ho : l[k]? = some o) (hr : Region.ready .any l.toArray listed = [k]) (hw : Region.wanted o (yielded l.toArray a.tmps) = true)
    (h : ∀ K : Act → World → Prop, Shut (∀ a w, wpAny P .any l.toArray Q fuel (listed.setIfInBounds k true) a w → K a w) → o.wp P a w K Q) : wpAny P .any l.toArray Q (fuel + 1) listed a w :=
  ⟨fun h0 => by (rw [hr] at h0; cases h0), fun i hi => by
    rw [hr] at hi
    obtain rfl := List.mem_singleton.1 hi
    unfold wpOp
    rw [List.getElem?_toArray, ho]
    simp only [hw, if_true]
    exact .inl (h _ fun _ _ h => h)⟩
theorem wpAny_skip {Q : Exit → Act → World → Prop} {fuel : Nat} {listed : Array Bool} {a : Act} {w : World} {l : List Oper} (k : Nat) {o : Oper} (ho : l[k]? = some o) (hr : Region.ready .any l.toArray listed = [k]) (hw : Region.wanted o (yielded l.toArray a.tmps) = false)
    (h : wpAny P .any l.toArray Q fuel (listed.setIfInBounds k true) (a.put o.dst undef) w) : wpAny P .any l.toArray Q (fuel + 1) listed a w :=
  ⟨fun h0 => by (rw [hr] at h0; cases h0), fun i hi => by
    rw [hr] at hi
    obtain rfl := List.mem_singleton.1 hi
    unfold wpOp
    rw [List.getElem?_toArray, ho]
    simp only [hw]
    exact h⟩
theorem wpAny_end {Q : Exit → Act → World → Prop} {listed : Array Bool} {a : Act} {w : World} {ops : Array Oper} (hr : Region.ready .any ops listed = []) (h : Q .normal a w) : wpAny P .any ops Q 0 listed a w := ⟨hr, h⟩
end
end Go.Proofs.YtcmfepaffhnemaaGreatDoor

set_option linter.unusedVariables false
namespace Go.Proofs.YtcmfepaffhnemaaGreatDoor
open Go.RowKit

/-! Bounds on numbers. -/
structure Q.Bd (q : Q) (n d : Nat) : Prop where
  num : (limbs q.num).length ≤ n
  den : q.un ≤ d
theorem Q.Bd.up {q : Q} {n d m e : Nat} (h : q.Bd n d) (h1 : n ≤ m) (h2 : d ≤ e) : q.Bd m e := ⟨Nat.le_trans h.num h1, Nat.le_trans h.den h2⟩
theorem den0_un (s : Bool) (a d : Nat) (hd : 0 < d) : (Q.mk s a (den0 d)).un = d := by
  unfold Q.un den0
  by_cases h : d = 1
  · rw [if_pos h]; exact (if_pos rfl).trans h.symm
  · rw [if_neg h]; exact if_neg (Nat.ne_of_gt hd)
theorem quot_bd (s : Bool) {a b n d : Nat} (ha : (limbs a).length ≤ n) (hb0 : 0 < b) (hb : b ≤ d) : (quot s a b).Bd n d := by
  unfold quot
  split
  · exact ⟨by rw [show (Q.zero).num = 0 from rfl, limbs_zero]; exact Nat.zero_le _, Nat.le_trans (by show (1 : Nat) ≤ b; exact hb0) hb⟩
  · rename_i h0
    have hg := Nat.gcd_pos_of_pos_left b (Nat.pos_of_ne_zero h0)
    have hd2 : 0 < b / Nat.gcd a b := Nat.div_pos (Nat.le_of_dvd hb0 (Nat.gcd_dvd_right ..)) hg
    refine ⟨Nat.le_trans (limbs_len_mono (Nat.div_le_self _ _)) ha, ?_⟩
    rw [den0_un _ _ _ hd2]
    exact Nat.le_trans (Nat.div_le_self _ _) hb
theorem Q.Bd.mul {x y : Q} {n d m e : Nat} (h : x.Bd n d) (k : y.Bd m e) : (Q.mul x y).Bd (n + m) (d * e) :=
  quot_bd _ (Nat.le_trans (limbs_mul_len _ _) (Nat.add_le_add h.num k.num)) (Nat.mul_pos x.un_pos y.un_pos) (Nat.mul_le_mul h.den k.den)
theorem Q.Bd.add {x y : Q} {n d m e : Nat} (h : x.Bd n d) (k : y.Bd m e) (hd : d < B32) (he : e < B32) : (Q.add x y).Bd (n + m + 2) (d * e) := by
  have h1 : (limbs (x.num * y.un)).length ≤ n + m + 1 := Nat.le_trans (limbs_mul_len _ _) (by have := h.num; have := un_len1 (Nat.lt_of_le_of_lt k.den he); omega)
  have h2 : (limbs (y.num * x.un)).length ≤ n + m + 1 := Nat.le_trans (limbs_mul_len _ _) (by have := k.num; have := un_len1 (Nat.lt_of_le_of_lt h.den hd); omega)
  unfold Q.add
  refine quot_bd _ ?_ (Nat.mul_pos x.un_pos y.un_pos) (Nat.mul_le_mul h.den k.den)
  unfold sadd
  split
  · exact limbs_add_len _ _ _ h1 h2
  · split
    · exact Nat.le_trans (limbs_len_mono (Nat.sub_le _ _)) (by omega)
    · exact Nat.le_trans (limbs_len_mono (Nat.sub_le _ _)) (by omega)
/-- Numbers that the arithmetic takes. -/
structure Q.Lo (q : Q) : Prop where
  num : (limbs q.num).length ≤ 1000
  den : q.un ≤ 1000
theorem Q.Lo.bd {q : Q} (h : q.Lo) : q.Bd 1000 1000 := ⟨h.num, h.den⟩
def canonQ (q : Q) : Q := quot q.neg q.num q.un
theorem Q.Bd.canon {x : Q} {n d : Nat} (h : x.Bd n d) : (canonQ x).Bd n d := quot_bd _ h.num x.un_pos h.den
theorem canonQ_ok {q : Q} (h : q.Ok) : canonQ q = q := quot_self h
theorem sign_zero (q : Q) : (q.sign != 0) = !decide (q.num = 0) := by
  unfold Q.sign
  by_cases h : q.num = 0
  · simp [h]
  · rw [if_neg h]
    cases q.neg <;> simp [h]

/-! Rows that grow. -/
theorem fr_own {w w' : World} {o : Obj} {v : Value} (hg : (w.alloc o).grownBy w' v.ownBlock) : Fr (fun b => v.ownBlock = some b) w w' := by
  have hsz : (w.alloc o).heap.size = w.heap.size + 1 := World.size_alloc ..
  refine ⟨?_, fun b hb hne => (hg.block b (by omega) (fun e => hne e.symm)).trans (Below.heap_alloc w o b hb)⟩
  have hb0 : Below 0 w (w.alloc o) := (Below.refl _ _).alloc (Nat.zero_le _) _
  exact hb0.grown hg (Nat.zero_le _) (fun _ _ => Nat.zero_le _)
theorem fr_own0 {w w' : World} {v : Value} (hg : w.grownBy w' v.ownBlock) : Fr (fun b => v.ownBlock = some b) w w' :=
  ⟨(Below.refl 0 w).grown hg (Nat.zero_le _) (fun _ _ => Nat.zero_le _), fun b hb hne => hg.block b hb (fun e => hne e.symm)⟩
theorem made_cells0 (w : World) (t : TypeId) (us : Array Value) (j : Nat) (u : Value) (h : us.toList[j]? = some u) : (w.alloc (.cells us t)).cell? ((⟨w.heap.size, 0, none⟩ : Addr).add j) = some u := by
  rw [add_mk, Nat.zero_add]
  refine ((Bk.made w t us).cell j).trans ?_
  rw [← Array.getElem?_toList]
  exact h
/-- A slice of our own (element type e, k cells each, in a block from B on), and what its elements stand for. -/
def Own {α β : Type} (cs : β → List Value) (Is : World → β → α → Prop) (e k : Nat) (w : World) (B : Nat) (x : Sv) (xs : List α) : Prop :=
  ∃ ts : List (β × α), w.ownsRow B e k (.slice x.A x.n x.c) x.n (ts.flatMap fun p => cs p.1) ∧ xs = ts.map (·.2) ∧ ∀ p ∈ ts, Is w p.1 p.2
section
variable {α β : Type} {cs : β → List Value} {Is : World → β → α → Prop} {e k : Nat} {w w' : World} {B : Nat} {x : Sv} {xs : List α}
theorem Own.nil (w : World) (B : Nat) : Own cs Is e k w B Sv.none [] := ⟨[], World.ownsRow_nil w B e k, rfl, fun p h => by cases h⟩
theorem Own.len (h : Own cs Is e k w B x xs) (hk : ∀ b, (cs b).length = k) (h0 : 0 < k) : xs.length = x.n := by
  obtain ⟨ts, ⟨h1, _⟩, rfl, _⟩ := h
  rw [flat_len (F := fun p : β × α => cs p.1) (k := k) (fun p => hk p.1)] at h1
  rw [List.length_map]
  exact Nat.eq_of_mul_eq_mul_right h0 h1
theorem Own.rows (h : Own cs Is e k w B x xs) (h0 : 0 < k) : Rows cs Is e k w x xs := by
  obtain ⟨ts, h1, h2, h3⟩ := h
  obtain ⟨y, hy, _, hi, ht⟩ := Sv.of_row h1 h0
  obtain ⟨yA, yn, yc⟩ := y
  obtain ⟨xA, xn, xc⟩ := x
  simp only [Value.slice.injEq] at hy
  obtain ⟨rfl, rfl, rfl⟩ := hy
  exact ⟨ts, hi, h2, h3, ht⟩
theorem Own.go (h : Own cs Is e k w B x xs) (hI : ∀ p, ∀ a, Is w p a → Is w' p a) (hk : ∀ b, (Value.slice x.A x.n x.c).ownBlock = some b → w'.heap[b]? = w.heap[b]?) : Own cs Is e k w' B x xs := by
  obtain ⟨ts, h1, h2, h3⟩ := h
  exact ⟨ts, rw_keep h1 hk, h2, fun p hp => hI _ _ (h3 p hp)⟩
theorem Own.lt (h : Own cs Is e k w B x xs) : ∀ b, (Value.slice x.A x.n x.c).ownBlock = some b → B ≤ b ∧ b < w.heap.size := by
  obtain ⟨ts, h1, _⟩ := h
  exact World.ownsRow.lt h1
theorem Own.gr (h : Own cs Is e k w B x xs) (hI : ∀ p, ∀ a, Is w p a → Is w' p a) (G : Gr w w') : Own cs Is e k w' B x xs := h.go hI fun b hb => G.below.block b (h.lt b hb).2
theorem Own.ne (h : Own cs Is e k w B x xs) {g t : Nat} {us : Array Value} (hb : Bk w g t us) (ht : t ≠ e) : (Value.slice x.A x.n x.c).ownBlock ≠ some g := by
  obtain ⟨ts, h1, _⟩ := h
  exact rw_ne h1 hb ht
end
theorem Rv.Is.own {w w' : World} {r : Rv} {q : Q} {v : Value} {B e k n : Nat} {xs : List Value} (h : r.Is w q) (ho : w.ownsRow B e k v n xs) (he : e ≠ 211) (F : Fr (fun b => v.ownBlock = some b) w w') : r.Is w' q :=
  h.tf F fun b cs fr hb hh => by
    obtain ⟨cur, hc⟩ := rw_bk ho b hb
    exact Bk.not_ty hc he _ _ hh

theorem Bk.put4 {w : World} {p t : Nat} {a b c d : Value} (h : Bk w p t #[a, b, c, d]) (x y z u : Value) :
    Bk ((((w.setCell ⟨p, 0, none⟩ x).setCell ⟨p, 1, none⟩ y).setCell ⟨p, 2, none⟩ z).setCell ⟨p, 3, none⟩ u) p t #[x, y, z, u] ∧ Fr (fun b => b = p) w ((((w.setCell ⟨p, 0, none⟩ x).setCell ⟨p, 1, none⟩ y).setCell ⟨p, 2, none⟩ z).setCell ⟨p, 3, none⟩ u) := by
  refine ⟨?_, Fr.trans (Fr.trans (Fr.trans (Fr.set w ⟨p, 0, none⟩ x rfl) (Fr.set _ ⟨p, 1, none⟩ y rfl)) (Fr.set _ ⟨p, 2, none⟩ z rfl)) (Fr.set _ ⟨p, 3, none⟩ u rfl)⟩
  have := (((Bk.put h 0 x).put 1 y).put 2 z).put 3 u
  simpa using this

/-! What a value stands for. -/
theorem Rv.inj {a b : Rv} (h : a.v = b.v) : a = b := by
  obtain ⟨n, ⟨A, k, c⟩, ⟨B, l, d⟩⟩ := a
  obtain ⟨n', ⟨A', k', c'⟩, ⟨B', l', d'⟩⟩ := b
  simp only [Rv.v, Value.agg.injEq, Array.mk.injEq, List.cons.injEq, Value.bool.injEq, Value.slice.injEq, and_true] at h
  obtain ⟨rfl, ⟨rfl, rfl, rfl⟩, rfl, rfl, rfl⟩ := h
  rfl
def Rv.At (q : Q) (v : Value) (W : World) : Prop := ∃ r : Rv, v = r.v ∧ r.Is W q
theorem Rv.At.gr {W W' : World} {v : Value} {q : Q} (h : Rv.At q v W) (G : Gr W W') : Rv.At q v W' := by
  obtain ⟨r, e, hr⟩ := h
  exact ⟨r, e, hr.gr G⟩
theorem Rv.At.is {W : World} {r : Rv} {q : Q} (h : Rv.At q r.v W) : r.Is W q := by
  obtain ⟨s, e, hs⟩ := h
  rw [Rv.inj e]; exact hs
theorem Fv.inj {a b : Fv} (h : a.v = b.v) : a = b := by
  obtain ⟨⟨A, k, c⟩, n, ⟨B, l, d⟩, ⟨C, m, e⟩⟩ := a
  obtain ⟨⟨A', k', c'⟩, n', ⟨B', l', d'⟩, ⟨C', m', e'⟩⟩ := b
  simp only [Fv.v, Value.agg.injEq, Array.mk.injEq, List.cons.injEq, Value.bool.injEq, Value.slice.injEq, and_true] at h
  obtain ⟨⟨rfl, rfl, rfl⟩, rfl, ⟨rfl, rfl, rfl⟩, rfl, rfl, rfl⟩ := h
  rfl
def Fv.At (x : Fm) (v : Value) (W : World) : Prop := ∃ f : Fv, v = f.v ∧ f.Is W x
theorem Fv.At.gr {W W' : World} {v : Value} {x : Fm} (h : Fv.At x v W) (G : Gr W W') : Fv.At x v W' := by
  obtain ⟨r, e, hr⟩ := h
  exact ⟨r, e, hr.gr G⟩
theorem Fv.At.is {W : World} {f : Fv} {x : Fm} (h : Fv.At x f.v W) : f.Is W x := by
  obtain ⟨s, e, hs⟩ := h
  rw [Fv.inj e]; exact hs

theorem made1 (w : World) (t0 : TypeId) (a0 : Array Value) : Bk (w.alloc (.cells a0 t0)) w.heap.size t0 a0 ∧ Gr w (w.alloc (.cells a0 t0)) := ⟨Bk.made w t0 a0, (Gr.refl w).alloc _⟩
theorem made5 (w : World) (t0 t1 t2 t3 t4 : TypeId) (a0 a1 a2 a3 a4 : Array Value) : Bk (((((w.alloc (.cells a0 t0)).alloc (.cells a1 t1)).alloc (.cells a2 t2)).alloc (.cells a3 t3)).alloc (.cells a4 t4)) (w.heap.size) t0 a0 ∧ Bk (((((w.alloc (.cells a0 t0)).alloc (.cells a1 t1)).alloc (.cells a2 t2)).alloc (.cells a3 t3)).alloc (.cells a4 t4)) (w.heap.size + 1) t1 a1 ∧ Bk (((((w.alloc (.cells a0 t0)).alloc (.cells a1 t1)).alloc (.cells a2 t2)).alloc (.cells a3 t3)).alloc (.cells a4 t4)) (w.heap.size + 1 + 1) t2 a2 ∧ Bk (((((w.alloc (.cells a0 t0)).alloc (.cells a1 t1)).alloc (.cells a2 t2)).alloc (.cells a3 t3)).alloc (.cells a4 t4)) (w.heap.size + 1 + 1 + 1) t3 a3 ∧ Bk (((((w.alloc (.cells a0 t0)).alloc (.cells a1 t1)).alloc (.cells a2 t2)).alloc (.cells a3 t3)).alloc (.cells a4 t4)) (w.heap.size + 1 + 1 + 1 + 1) t4 a4 ∧ Gr w (((((w.alloc (.cells a0 t0)).alloc (.cells a1 t1)).alloc (.cells a2 t2)).alloc (.cells a3 t3)).alloc (.cells a4 t4)) := by
  obtain ⟨h0, h1, h2, h3, g⟩ := made4 w t0 t1 t2 t3 a0 a1 a2 a3
  refine ⟨h0.alloc _, h1.alloc _, h2.alloc _, h3.alloc _, ?_, g.alloc _⟩
  have s1 : ((((w.alloc (.cells a0 t0)).alloc (.cells a1 t1)).alloc (.cells a2 t2)).alloc (.cells a3 t3)).heap.size = w.heap.size + 1 + 1 + 1 + 1 := by simp [World.size_alloc]
  have := Bk.made ((((w.alloc (.cells a0 t0)).alloc (.cells a1 t1)).alloc (.cells a2 t2)).alloc (.cells a3 t3)) t4 a4
  rwa [s1] at this
theorem made6 (w : World) (t0 t1 t2 t3 t4 t5 : TypeId) (a0 a1 a2 a3 a4 a5 : Array Value) : Bk ((((((w.alloc (.cells a0 t0)).alloc (.cells a1 t1)).alloc (.cells a2 t2)).alloc (.cells a3 t3)).alloc (.cells a4 t4)).alloc (.cells a5 t5)) (w.heap.size) t0 a0 ∧ Bk ((((((w.alloc (.cells a0 t0)).alloc (.cells a1 t1)).alloc (.cells a2 t2)).alloc (.cells a3 t3)).alloc (.cells a4 t4)).alloc (.cells a5 t5)) (w.heap.size + 1) t1 a1 ∧ Bk ((((((w.alloc (.cells a0 t0)).alloc (.cells a1 t1)).alloc (.cells a2 t2)).alloc (.cells a3 t3)).alloc (.cells a4 t4)).alloc (.cells a5 t5)) (w.heap.size + 1 + 1) t2 a2 ∧ Bk ((((((w.alloc (.cells a0 t0)).alloc (.cells a1 t1)).alloc (.cells a2 t2)).alloc (.cells a3 t3)).alloc (.cells a4 t4)).alloc (.cells a5 t5)) (w.heap.size + 1 + 1 + 1) t3 a3 ∧ Bk ((((((w.alloc (.cells a0 t0)).alloc (.cells a1 t1)).alloc (.cells a2 t2)).alloc (.cells a3 t3)).alloc (.cells a4 t4)).alloc (.cells a5 t5)) (w.heap.size + 1 + 1 + 1 + 1) t4 a4 ∧ Bk ((((((w.alloc (.cells a0 t0)).alloc (.cells a1 t1)).alloc (.cells a2 t2)).alloc (.cells a3 t3)).alloc (.cells a4 t4)).alloc (.cells a5 t5)) (w.heap.size + 1 + 1 + 1 + 1 + 1) t5 a5 ∧ Gr w ((((((w.alloc (.cells a0 t0)).alloc (.cells a1 t1)).alloc (.cells a2 t2)).alloc (.cells a3 t3)).alloc (.cells a4 t4)).alloc (.cells a5 t5)) := by
  obtain ⟨h0, h1, h2, h3, h4, g⟩ := made5 w t0 t1 t2 t3 t4 a0 a1 a2 a3 a4
  refine ⟨h0.alloc _, h1.alloc _, h2.alloc _, h3.alloc _, h4.alloc _, ?_, g.alloc _⟩
  have s1 : (((((w.alloc (.cells a0 t0)).alloc (.cells a1 t1)).alloc (.cells a2 t2)).alloc (.cells a3 t3)).alloc (.cells a4 t4)).heap.size = w.heap.size + 1 + 1 + 1 + 1 + 1 := by simp [World.size_alloc]
  have := Bk.made (((((w.alloc (.cells a0 t0)).alloc (.cells a1 t1)).alloc (.cells a2 t2)).alloc (.cells a3 t3)).alloc (.cells a4 t4)) t5 a5
  rwa [s1] at this
theorem made7 (w : World) (t0 t1 t2 t3 t4 t5 t6 : TypeId) (a0 a1 a2 a3 a4 a5 a6 : Array Value) : Bk (((((((w.alloc (.cells a0 t0)).alloc (.cells a1 t1)).alloc (.cells a2 t2)).alloc (.cells a3 t3)).alloc (.cells a4 t4)).alloc (.cells a5 t5)).alloc (.cells a6 t6)) (w.heap.size) t0 a0 ∧ Bk (((((((w.alloc (.cells a0 t0)).alloc (.cells a1 t1)).alloc (.cells a2 t2)).alloc (.cells a3 t3)).alloc (.cells a4 t4)).alloc (.cells a5 t5)).alloc (.cells a6 t6)) (w.heap.size + 1) t1 a1 ∧ Bk (((((((w.alloc (.cells a0 t0)).alloc (.cells a1 t1)).alloc (.cells a2 t2)).alloc (.cells a3 t3)).alloc (.cells a4 t4)).alloc (.cells a5 t5)).alloc (.cells a6 t6)) (w.heap.size + 1 + 1) t2 a2 ∧ Bk (((((((w.alloc (.cells a0 t0)).alloc (.cells a1 t1)).alloc (.cells a2 t2)).alloc (.cells a3 t3)).alloc (.cells a4 t4)).alloc (.cells a5 t5)).alloc (.cells a6 t6)) (w.heap.size + 1 + 1 + 1) t3 a3 ∧ Bk (((((((w.alloc (.cells a0 t0)).alloc (.cells a1 t1)).alloc (.cells a2 t2)).alloc (.cells a3 t3)).alloc (.cells a4 t4)).alloc (.cells a5 t5)).alloc (.cells a6 t6)) (w.heap.size + 1 + 1 + 1 + 1) t4 a4 ∧ Bk (((((((w.alloc (.cells a0 t0)).alloc (.cells a1 t1)).alloc (.cells a2 t2)).alloc (.cells a3 t3)).alloc (.cells a4 t4)).alloc (.cells a5 t5)).alloc (.cells a6 t6)) (w.heap.size + 1 + 1 + 1 + 1 + 1) t5 a5 ∧ Bk (((((((w.alloc (.cells a0 t0)).alloc (.cells a1 t1)).alloc (.cells a2 t2)).alloc (.cells a3 t3)).alloc (.cells a4 t4)).alloc (.cells a5 t5)).alloc (.cells a6 t6)) (w.heap.size + 1 + 1 + 1 + 1 + 1 + 1) t6 a6 ∧ Gr w (((((((w.alloc (.cells a0 t0)).alloc (.cells a1 t1)).alloc (.cells a2 t2)).alloc (.cells a3 t3)).alloc (.cells a4 t4)).alloc (.cells a5 t5)).alloc (.cells a6 t6)) := by
  obtain ⟨h0, h1, h2, h3, h4, h5, g⟩ := made6 w t0 t1 t2 t3 t4 t5 a0 a1 a2 a3 a4 a5
  refine ⟨h0.alloc _, h1.alloc _, h2.alloc _, h3.alloc _, h4.alloc _, h5.alloc _, ?_, g.alloc _⟩
  have s1 : ((((((w.alloc (.cells a0 t0)).alloc (.cells a1 t1)).alloc (.cells a2 t2)).alloc (.cells a3 t3)).alloc (.cells a4 t4)).alloc (.cells a5 t5)).heap.size = w.heap.size + 1 + 1 + 1 + 1 + 1 + 1 := by simp [World.size_alloc]
  have := Bk.made ((((((w.alloc (.cells a0 t0)).alloc (.cells a1 t1)).alloc (.cells a2 t2)).alloc (.cells a3 t3)).alloc (.cells a4 t4)).alloc (.cells a5 t5)) t6 a6
  rwa [s1] at this
theorem made8 (w : World) (t0 t1 t2 t3 t4 t5 t6 t7 : TypeId) (a0 a1 a2 a3 a4 a5 a6 a7 : Array Value) : Bk ((((((((w.alloc (.cells a0 t0)).alloc (.cells a1 t1)).alloc (.cells a2 t2)).alloc (.cells a3 t3)).alloc (.cells a4 t4)).alloc (.cells a5 t5)).alloc (.cells a6 t6)).alloc (.cells a7 t7)) (w.heap.size) t0 a0 ∧ Bk ((((((((w.alloc (.cells a0 t0)).alloc (.cells a1 t1)).alloc (.cells a2 t2)).alloc (.cells a3 t3)).alloc (.cells a4 t4)).alloc (.cells a5 t5)).alloc (.cells a6 t6)).alloc (.cells a7 t7)) (w.heap.size + 1) t1 a1 ∧ Bk ((((((((w.alloc (.cells a0 t0)).alloc (.cells a1 t1)).alloc (.cells a2 t2)).alloc (.cells a3 t3)).alloc (.cells a4 t4)).alloc (.cells a5 t5)).alloc (.cells a6 t6)).alloc (.cells a7 t7)) (w.heap.size + 1 + 1) t2 a2 ∧ Bk ((((((((w.alloc (.cells a0 t0)).alloc (.cells a1 t1)).alloc (.cells a2 t2)).alloc (.cells a3 t3)).alloc (.cells a4 t4)).alloc (.cells a5 t5)).alloc (.cells a6 t6)).alloc (.cells a7 t7)) (w.heap.size + 1 + 1 + 1) t3 a3 ∧ Bk ((((((((w.alloc (.cells a0 t0)).alloc (.cells a1 t1)).alloc (.cells a2 t2)).alloc (.cells a3 t3)).alloc (.cells a4 t4)).alloc (.cells a5 t5)).alloc (.cells a6 t6)).alloc (.cells a7 t7)) (w.heap.size + 1 + 1 + 1 + 1) t4 a4 ∧ Bk ((((((((w.alloc (.cells a0 t0)).alloc (.cells a1 t1)).alloc (.cells a2 t2)).alloc (.cells a3 t3)).alloc (.cells a4 t4)).alloc (.cells a5 t5)).alloc (.cells a6 t6)).alloc (.cells a7 t7)) (w.heap.size + 1 + 1 + 1 + 1 + 1) t5 a5 ∧ Bk ((((((((w.alloc (.cells a0 t0)).alloc (.cells a1 t1)).alloc (.cells a2 t2)).alloc (.cells a3 t3)).alloc (.cells a4 t4)).alloc (.cells a5 t5)).alloc (.cells a6 t6)).alloc (.cells a7 t7)) (w.heap.size + 1 + 1 + 1 + 1 + 1 + 1) t6 a6 ∧ Bk ((((((((w.alloc (.cells a0 t0)).alloc (.cells a1 t1)).alloc (.cells a2 t2)).alloc (.cells a3 t3)).alloc (.cells a4 t4)).alloc (.cells a5 t5)).alloc (.cells a6 t6)).alloc (.cells a7 t7)) (w.heap.size + 1 + 1 + 1 + 1 + 1 + 1 + 1) t7 a7 ∧ Gr w ((((((((w.alloc (.cells a0 t0)).alloc (.cells a1 t1)).alloc (.cells a2 t2)).alloc (.cells a3 t3)).alloc (.cells a4 t4)).alloc (.cells a5 t5)).alloc (.cells a6 t6)).alloc (.cells a7 t7)) := by
  obtain ⟨h0, h1, h2, h3, h4, h5, h6, g⟩ := made7 w t0 t1 t2 t3 t4 t5 t6 a0 a1 a2 a3 a4 a5 a6
  refine ⟨h0.alloc _, h1.alloc _, h2.alloc _, h3.alloc _, h4.alloc _, h5.alloc _, h6.alloc _, ?_, g.alloc _⟩
  have s1 : (((((((w.alloc (.cells a0 t0)).alloc (.cells a1 t1)).alloc (.cells a2 t2)).alloc (.cells a3 t3)).alloc (.cells a4 t4)).alloc (.cells a5 t5)).alloc (.cells a6 t6)).heap.size = w.heap.size + 1 + 1 + 1 + 1 + 1 + 1 + 1 := by simp [World.size_alloc]
  have := Bk.made (((((((w.alloc (.cells a0 t0)).alloc (.cells a1 t1)).alloc (.cells a2 t2)).alloc (.cells a3 t3)).alloc (.cells a4 t4)).alloc (.cells a5 t5)).alloc (.cells a6 t6)) t7 a7
  rwa [s1] at this
/-- The length of a slice. -/
def lenOf : Value → Nat
  | .slice _ n _ => n
  | _ => 0
theorem lenOf_slice (A : Option Addr) (n c : Nat) : lenOf (.slice A n c) = n := rfl
/-- A new variable: a block of its own, from N on. -/
def NewAt (t : TypeId) (cs : Array Value) (N : Nat) (v : Value) (W : World) : Prop := ∃ b, v = .pointer (some ⟨b, 0, Option.none⟩) ∧ Bk W b t cs ∧ N ≤ b
theorem NewAt.gr {W W' : World} {v : Value} {t N : Nat} {cs : Array Value} (h : NewAt t cs N v W) (G : Gr W W') : NewAt t cs N v W' := by
  obtain ⟨b, e, h1, h2⟩ := h
  exact ⟨b, e, G.bk h1, h2⟩
theorem NewAt.made (W : World) (t : TypeId) (cs : Array Value) (N : Nat) (h : N ≤ W.heap.size) : NewAt t cs N (.pointer (some ⟨W.heap.size, 0, Option.none⟩)) (W.alloc (.cells cs t)) := ⟨_, rfl, Bk.made _ _ _, h⟩
theorem NewAt.is {W : World} {b t N : Nat} {cs : Array Value} (h : NewAt t cs N (.pointer (some ⟨b, 0, Option.none⟩)) W) : Bk W b t cs ∧ N ≤ b := by
  obtain ⟨b', e, h1, h2⟩ := h
  injection e with e
  injection e with e
  injection e with e
  subst e
  exact ⟨h1, h2⟩
theorem Gr.of_drew {W W' : World} (G : Gr W.drew W') : Gr W W' := (Gr.refl W).drew.trans G
theorem Fr.none {X : Nat → Prop} {w w' : World} (h : Fr (fun _ => False) w w') : Fr X w w' := h.wide fun _ _ h => h.elim
theorem Fr.fr0 {X : Nat → Prop} {w w' : World} (h : Fr X w w') : Fr (fun _ => True) w w' := ⟨h.bel, fun b hb hx => (hx trivial).elim⟩
theorem op_appS {P : Program} {t e size bytes : Nat} (h : ElemS P t e size bytes) {w : World} {o : Oper} {a : Act} {K : Act → World → Prop} {Q : Exit → Act → World → Prop} (hgd : o.guard = none) (s x : Operand) (ho : o.op = .call { callee := .builtin .append, args := #[s, x], argTypes := #[t, t] })
    (base : Nat) (v : Value) (n : Nat) (xs : List Value) (hs : a.eval s = v) (hown : w.ownsRow base e size v n xs) (ad : Addr) (m c : Nat) (news : List Value) (hx : a.eval x = .slice (some ad) m c) (hl : news.length = m * size) (hnews : ∀ j u, news[j]? = some u → w.cell? (ad.add j) = some u) (h1 : ∀ u ∈ news, u.oneCell' = true)
    (h63 : n + m ≤ maxLen) (hbytes : (n + m) * bytes ≤ 140737488355328) (hbase : base ≤ w.heap.size)
    (hK : ∀ v' w', w'.ownsRow base e size v' (n + m) (xs ++ news) → w.grownBy w' v.ownBlock → (v'.ownBlock = v.ownBlock ∨ v'.ownBlock = some w.heap.size) → K (a.put o.dst v') w') : Oper.wp P o a w K Q := by
  have := step_appS (ops := #[]) (E := True) (Q := Q) h hgd s x ho base v n xs hs hown ad m c news hx hl hnews h1 h63 hbytes hbase hK
  rwa [if_pos (by simp [Region.wanted, hgd])] at this
theorem bk_cells {W : World} {b t : Nat} {us : Array Value} (h : Bk W b t us) (j : Nat) (u : Value) (hu : us.toList[j]? = some u) : W.cell? ((⟨b, 0, none⟩ : Addr).add j) = some u := by
  rw [add_mk, Nat.zero_add]
  refine (h.cell j).trans ?_
  rw [← Array.getElem?_toList]
  exact hu
end Go.Proofs.YtcmfepaffhnemaaGreatDoor

set_option linter.unusedVariables false
namespace Go.Proofs.YtcmfepaffhnemaaGreatDoor
open Go.RowKit

section
variable {P : Program} {t e size bytes : Nat}
theorem app0_run (h : ElemS P t e size bytes) (ty : TypeId) (w : World) (base : Option Addr) (x : Sv) (ds : List Value) (hx : x.Is w size ds) (h1 : ∀ u ∈ ds, u.oneCell' = true) (h63 : x.n ≤ maxLen) (hbytes : x.n * bytes ≤ 140737488355328) :
    ∃ (y : Sv) (w' : World), (Builtin.append_ #[t, t] ty #[.slice base 0 0, x.v]).run P w = .ok y.v w' ∧ y.n = x.n ∧ y.Is w' size ds ∧ y.Ty w' e ∧ Gr w w' := by
  obtain ⟨i, z, hi, hz, hsz, hby, hzs⟩ := h.hi
  have ht := h.ht
  obtain ⟨A, n, c⟩ := x
  have hlen := hx.len
  simp only at hlen h63 hbytes
  rcases A with _ | ad
  · obtain ⟨h9, rfl⟩ := hx.mk0 rfl
    injection h9 with _ h8 h7
    subst h8 h7
    refine ⟨⟨base, 0, 0⟩, w, ?_, rfl, ⟨(Nat.zero_mul _).symm, Nat.le_refl _, Nat.zero_le _, (fun _ => rfl), Sees.nil⟩, (fun ad _ h => absurd h (Nat.lt_irrefl _)), Gr.refl w⟩
    cases base <;> simp [Builtin.append_, run_underlying ht, sizeOf, typeInfo, hi, Builtin.lenOf, Builtin.firstCells, storeCells]
  · by_cases h0 : n = 0
    · subst h0
      rw [Nat.zero_mul] at hlen
      obtain rfl := List.length_eq_zero_iff.1 hlen
      refine ⟨⟨base, 0, 0⟩, w, ?_, rfl, ⟨(Nat.zero_mul _).symm, Nat.le_refl _, Nat.zero_le _, (fun _ => rfl), Sees.nil⟩, (fun ad _ h => absurd h (Nat.lt_irrefl _)), Gr.refl w⟩
      have hf := run_firstCells_some (P := P) w i.size 0 ad 0 c [] (by simp) (by simp)
      cases base <;> simp [Builtin.append_, run_underlying ht, sizeOf, typeInfo, hi, Builtin.lenOf, hf, storeCells]
    · have hc := hx.cells rfl
      rcases base with _ | b
      · obtain ⟨v', w', hr, ho, hg, _⟩ := run_append_own_at (P := P) w w.heap.size t ty e i z size bytes ht hi hz hsz hby hzs h.pos (.slice none 0 0) 0 [] ⟨by simp, .inl ⟨rfl, rfl⟩⟩ ad n c ds hlen hc h1 (by omega) (by rw [Nat.zero_add]; exact hbytes) (Nat.le_refl _)
        rw [Nat.zero_add, List.nil_append] at ho
        obtain ⟨y, rfl, hyn, hy, hty⟩ := Sv.of_row ho h.pos
        exact ⟨y, w', hr, hyn, hy, hty, Gr.of ((Below.refl _ w).grown hg (Nat.le_refl _) (fun k e => by cases e))⟩
      · obtain ⟨v', w', hr, ho, hg⟩ := run_append_arg_grows (P := P) w t ty e i z size bytes ht hi hz hsz hby hzs h.pos b 0 0 [] (by simp) (by simp) ad n c ds hlen hc (by omega) (by omega) (by rw [Nat.zero_add]; exact hbytes)
        rw [Nat.zero_add, List.nil_append] at ho
        obtain ⟨y, rfl, hyn, hy, hty⟩ := Sv.of_row ho h.pos
        exact ⟨y, w', hr, hyn, hy, hty, Gr.of ((Below.refl _ w).grown hg (Nat.le_refl _) (fun k e => by cases e))⟩
theorem doesAt_app0 (h : ElemS P t e size bytes) {o : Oper} {a : Act} {w : World} {K : Value → World → Prop} (s x : Operand) (ho : o.op = .call { callee := .builtin .append, args := #[s, x], argTypes := #[t, t] }) (base : Option Addr) (xv : Sv) (ds : List Value) (hs : a.eval s = .slice base 0 0) (hxe : a.eval x = xv.v) (hx : xv.Is w size ds) (h1 : ∀ u ∈ ds, u.oneCell' = true) (h63 : xv.n ≤ maxLen) (hbytes : xv.n * bytes ≤ 140737488355328)
    (hK : ∀ (y : Sv) (w' : World), y.n = xv.n → y.Is w' size ds → y.Ty w' e → Gr w w' → K y.v w') : doesAt P o a w K := by
  obtain ⟨y, w', hr, hn, hy, hty, hg⟩ := app0_run (P := P) h o.type w base xv ds hx h1 h63 hbytes
  refine doesAt_value (v := y.v) (W' := w') ?_ (hK y w' hn hy hty hg)
  unfold execOp
  simp only [ho, resolve, invoke, builtin, Sem.run_bind, Sem.run_pure, Result.andThen_ok, List.map_toArray, List.map_cons, List.map_nil, hs, hxe, hr]
end
/-- The same for rows of structs. -/
theorem Rows.app0 {α β : Type} {cs : β → List Value} {Is : World → β → α → Prop} {P : Program} {t e k bytes : Nat} (h : ElemS P t e k bytes) {o : Oper} {a : Act} {w : World} {K : Value → World → Prop} (s x : Operand) (ho : o.op = .call { callee := .builtin .append, args := #[s, x], argTypes := #[t, t] }) (base : Option Addr) (xv : Sv) (xs : List α) (hs : a.eval s = .slice base 0 0) (hxe : a.eval x = xv.v)
    (hx : Rows cs Is e k w xv xs) (hI : ∀ {w w' : World} {b : β} {a : α}, Is w b a → Gr w w' → Is w' b a) (h1 : ∀ b, ∀ u ∈ cs b, u.oneCell' = true) (h63 : xv.n ≤ maxLen) (hbytes : xv.n * bytes ≤ 140737488355328) (hK : ∀ (y : Sv) (w' : World), y.n = xv.n → Rows cs Is e k w' y xs → Gr w w' → K y.v w') : doesAt P o a w K := by
  obtain ⟨ts, t1, t2, t3, t4⟩ := hx
  refine doesAt_app0 h s x ho base xv _ hs hxe t1 (fun u hu => by obtain ⟨p, _, hp⟩ := List.mem_flatMap.1 hu; exact h1 _ u hp) h63 hbytes fun y w' hn hy hty hg => hK y w' hn ⟨ts, hy, t2, fun p hp => hI (t3 p hp) hg, hty⟩ hg
theorem Tv.one (t : Tv) : ∀ u ∈ t.cs, u.oneCell' = true := fun u hu => by
  simp only [Tv.cs, List.mem_cons, List.not_mem_nil, or_false] at hu
  rcases hu with rfl | rfl | rfl | rfl <;> rfl
theorem Fv.one (t : Fv) : ∀ u ∈ t.cs, u.oneCell' = true := fun u hu => by
  simp only [Fv.cs, List.mem_cons, List.not_mem_nil, or_false] at hu
  rcases hu with rfl | rfl | rfl | rfl <;> rfl
theorem Sv.inj {a b : Sv} (h : a.v = b.v) : a = b := by
  obtain ⟨A, n, c⟩ := a
  obtain ⟨A', n', c'⟩ := b
  simp only [Sv.v, Value.slice.injEq] at h
  obtain ⟨rfl, rfl, rfl⟩ := h
  rfl
/-- An empty slice. -/
def NoRow (v : Value) (_ : World) : Prop := ∃ b : Nat, v = .slice (some ⟨b, 0, none⟩) 0 0
def Terms.At (l : List Tm) (v : Value) (W : World) : Prop := ∃ x : Sv, v = x.v ∧ Terms W x l
theorem Terms.At.gr {W W' : World} {v : Value} {l : List Tm} (h : Terms.At l v W) (G : Gr W W') : Terms.At l v W' := by
  obtain ⟨r, e, hr⟩ := h
  exact ⟨r, e, hr.gr G⟩
theorem Terms.At.is {W : World} {x : Sv} {l : List Tm} (h : Terms.At l x.v W) : Terms W x l := by
  obtain ⟨s, e, hs⟩ := h
  rw [Sv.inj e]; exact hs
end Go.Proofs.YtcmfepaffhnemaaGreatDoor

set_option linter.unusedVariables false
namespace Go.Proofs.YtcmfepaffhnemaaGreatDoor
open Go.RowKit

/-- Operation i waits for all others. -/
def waitsAll (ops : Array Oper) (i : Nat) : Bool := match ops[i]? with
  | none => false
  | some o => (List.range ops.size).all fun k => k == i || o.after.any fun e => Region.binds .any e && e.on == k
section
variable {P : Program} {ops : Array Oper} {Q : Exit → Act → World → Prop} {S : World → Prop}

/-- Whatever comes up: S holds behind it, unless it waits for all others. -/
def anyE (P : Program) (ops : Array Oper) (Q : Exit → Act → World → Prop) (S : World → Prop) : Nat → Array Bool → Act → World → Prop
  | 0, l, a, w => Region.ready .any ops l = [] ∧ Q .normal a w
  | n + 1, l, a, w => (Region.ready .any ops l = [] → Q .normal a w) ∧ ∀ i ∈ Region.ready .any ops l, wpOp P ops Q i (fun a' w' => (S w' ∨ waitsAll ops i = true) ∧ anyE P ops Q S n (l.setIfInBounds i true) a' w') a w
theorem anyE.any : ∀ {n : Nat} {l : Array Bool} {a : Act} {w : World}, anyE P ops Q S n l a w → wpAny P .any ops Q n l a w
  | 0, _, _, _, h => h
  | n + 1, _, _, _, h => ⟨h.1, fun i hi => wpOp_mono (fun _ _ k => anyE.any k.2) (h.2 i hi)⟩
theorem anyE.first {i : Nat} {oi : Oper} {v : Value} (hi : ops[i]? = some oi) (hn : Region.noSelect ops = true) (hQ : ∀ c a w, Q (.panic c) (a.put oi.dst v) w → Q (.panic c) a w) :
    ∀ (n : Nat) (l : Array Bool) (a : Act) (w : World), (∀ j oj, ops[j]? = some oj → j ≠ i → l.getD j true = false → (∀ e ∈ oj.after, Region.binds .any e = true → e.on ≠ i) → oi.apart ops oj = true) →
      i ∈ Region.ready .any ops l → YieldsIf P ops S oi v a → S w → anyE P ops Q S n (l.setIfInBounds i true) (a.put oi.dst v) w → anyE P ops Q S (n + 1) l a w := by
  intro n
  induction n with
  | zero =>
    intro l a w _ hr hy hS H
    refine ⟨fun h => (by rw [h] at hr; cases hr), fun j hj => ?_⟩
    by_cases e : j = i
    · rw [e]; exact hy.wpOp hi hS ⟨.inl hS, H⟩
    · have := ready_mono hj e
      rw [H.1] at this; cases this
  | succ n ih =>
    intro l a w hap hr hy hS H
    refine ⟨fun h => (by rw [h] at hr; cases hr), fun j hj => ?_⟩
    by_cases e : j = i
    · rw [e]; exact hy.wpOp hi hS ⟨.inl hS, H⟩
    · have later := H.2 j (ready_mono hj e)
      obtain ⟨hun, oj, hoj, hall⟩ := mem_ready.1 hj
      have li : l.getD i true = false := (mem_ready.1 hr).1
      have hno : ∀ e ∈ oj.after, Region.binds .any e = true → e.on ≠ i := fun e he hb heq => by
        have h1 := hall e he hb
        rw [heq] at h1
        rcases Nat.lt_or_ge i l.size with h' | h'
        · simp [h'] at li h1; rw [li] at h1; cases h1
        · simp [Array.getElem?_eq_none h'] at h1
      have swapped := wpOp_putIf hoj (hap j oj hoj e hun hno) (fun cs b => Region.noSelect_spec hn i oi cs b hi) (fun cs b => Region.noSelect_spec hn j oj cs b hoj) hQ hy later
      refine wpOp_mono (fun a' w' ⟨hy', hS', H'⟩ => ?_) swapped
      have hS2 : S w' := by
        rcases hS' with h | h
        · exact h
        · exfalso
          unfold waitsAll at h
          rw [hoj] at h
          have hlt := (Array.getElem?_eq_some_iff.1 hi).1
          have := List.all_eq_true.1 h i (List.mem_range.2 hlt)
          rw [Bool.or_eq_true] at this
          rcases this with h1 | h1
          · exact e (by simpa using (beq_iff_eq.1 h1).symm)
          · obtain ⟨x, hx, h2⟩ := Array.any_eq_true'.1 h1
            simp only [Bool.and_eq_true, beq_iff_eq] at h2
            exact hno x hx h2.1 h2.2
      refine ⟨.inl hS2, ih _ a' w' (fun k ok hk hki hl hw => hap k ok hk hki ?_ hw) (ready_mono hr (Ne.symm e)) hy' hS2 ?_⟩
      · by_cases ejk : j = k
        · rw [← ejk]; exact hun
        · rw [getD_set_ne true ejk] at hl; exact hl
      · rw [Array.setIfInBounds_comm _ _ e]; exact H'
/-- A step: an operation that yields one value wherever S holds. -/
theorem anyE.take {i : Nat} {oi : Oper} {v : Value} {n : Nat} {listed : Array Bool} {a : Act} {w : World} (hi : ops[i]? = some oi) (hs : Region.noSelect ops = true) (hf : Region.free .any ops listed i = true) (hr : (Region.ready .any ops listed).contains i = true)
    (hQ : ∀ c a w, Q (.panic c) (a.put oi.dst v) w → Q (.panic c) a w) (hy : YieldsIf P ops S oi v a) (hS : S w) (h : anyE P ops Q S n (listed.setIfInBounds i true) (a.put oi.dst v) w) : anyE P ops Q S (n + 1) listed a w :=
  anyE.first hi hs hQ n listed a w (Region.free_spec hi hf) (by simpa using hr) hy hS h
theorem anyE.takeL {i : Nat} {oi : Oper} {v : Value} {n : Nat} {listed : Array Bool} {a : Act} {w : World} {l : List Oper} (hi : l[i]? = some oi) (hs : Region.noSelect l.toArray = true) (hf : Region.free .any l.toArray listed i = true) (hr : (Region.ready .any l.toArray listed).contains i = true)
    (hQ : ∀ c a w, Q (.panic c) (a.put oi.dst v) w → Q (.panic c) a w) (hy : YieldsIf P l.toArray S oi v a) (hS : S w) (h : anyE P l.toArray Q S n (listed.setIfInBounds i true) (a.put oi.dst v) w) : anyE P l.toArray Q S (n + 1) listed a w :=
  anyE.take (by rw [List.getElem?_toArray]; exact hi) hs hf hr hQ hy hS h
/-- A step: the only operation that may come up now. -/
theorem anyE.one {n : Nat} {listed : Array Bool} {a : Act} {w : World} {l : List Oper} (k : Nat) {o : Oper} (ho : l[k]? = some o) (hr : Region.ready .any l.toArray listed = [k]) (hw : Region.wanted o (yielded l.toArray a.tmps) = true)
    (h : ∀ K : Act → World → Prop, Shut (∀ a w, (S w ∨ waitsAll l.toArray k = true) ∧ anyE P l.toArray Q S n (listed.setIfInBounds k true) a w → K a w) → o.wp P a w K Q) : anyE P l.toArray Q S (n + 1) listed a w :=
  ⟨fun h0 => by (rw [hr] at h0; cases h0), fun i hi => by
    rw [hr] at hi
    obtain rfl := List.mem_singleton.1 hi
    unfold wpOp
    rw [List.getElem?_toArray, ho]
    simp only [hw, if_true]
    exact .inl (h _ fun _ _ h => h)⟩
/-- A step: one of two may come up now. -/
theorem anyE.two {n : Nat} {listed : Array Bool} {a : Act} {w : World} {l : List Oper} (k k' : Nat) {o o' : Oper} (ho : l[k]? = some o) (ho' : l[k']? = some o') (hr : Region.ready .any l.toArray listed = [k, k']) (hw : Region.wanted o (yielded l.toArray a.tmps) = true) (hw' : Region.wanted o' (yielded l.toArray a.tmps) = true)
    (h : ∀ K : Act → World → Prop, Shut (∀ a w, (S w ∨ waitsAll l.toArray k = true) ∧ anyE P l.toArray Q S n (listed.setIfInBounds k true) a w → K a w) → o.wp P a w K Q)
    (h' : ∀ K : Act → World → Prop, Shut (∀ a w, (S w ∨ waitsAll l.toArray k' = true) ∧ anyE P l.toArray Q S n (listed.setIfInBounds k' true) a w → K a w) → o'.wp P a w K Q) : anyE P l.toArray Q S (n + 1) listed a w :=
  ⟨fun h0 => by (rw [hr] at h0; cases h0), fun i hi => by
    rw [hr] at hi
    rcases List.mem_cons.1 hi with e | hi
    · subst e
      unfold wpOp
      rw [List.getElem?_toArray, ho]
      simp only [hw, if_true]
      exact .inl (h _ fun _ _ h => h)
    · obtain rfl := List.mem_singleton.1 hi
      unfold wpOp
      rw [List.getElem?_toArray, ho']
      simp only [hw', if_true]
      exact .inl (h' _ fun _ _ h => h)⟩
theorem anyE.done {listed : Array Bool} {a : Act} {w : World} (hr : Region.ready .any ops listed = []) (h : Q .normal a w) : anyE P ops Q S 0 listed a w := ⟨hr, h⟩
theorem wp_region_E {id : Nat} {a : Act} {w : World} (S : World → Prop) (hm : P.follows .mixedOrders = true) (h : anyE P ops Q S ops.size (Array.replicate ops.size false) a w.drew) : (Code.region id ops true).wp P Q a w :=
  wp_region_any hm h.any
end
end Go.Proofs.YtcmfepaffhnemaaGreatDoor

set_option linter.unusedVariables false
namespace Go.Proofs.YtcmfepaffhnemaaGreatDoor
open Go.RowKit

attribute [local go_sem] Oper.semAt_some

theorem elemT : ElemS Tryz.prog 37 104 4 64 := elem_of (z := .agg #[.int .i64 0, .bool false, .slice none 0 0, .slice none 0 0]) (by kernel_rfl) (by kernel_rfl) rfl (by decide)
/-- Terms in a row of our own. -/
abbrev OwnT (w : World) (B : Nat) (x : Sv) (l : List Tm) : Prop := Own Tv.cs Tv.Is 104 4 w B x l
theorem OwnT.fr {w w' : World} {B : Nat} {x : Sv} {l : List Tm} {X : Nat → Prop} (h : OwnT w B x l) (F : Fr X w w') (hX : ∀ b cs fr, X b → w.heap[b]? ≠ some (.cells cs 211 fr)) (hx : ∀ b, (Value.slice x.A x.n x.c).ownBlock = some b → ¬ X b) : OwnT w' B x l :=
  h.go (fun p a ha => ⟨ha.var, ha.coef.tf F hX⟩) fun b hb => F.keep b (h.lt b hb).2 (hx b hb)
theorem OwnT.up {w w' : World} {B : Nat} {x : Sv} {l : List Tm} (h : OwnT w B x l) (G : Gr w w') : OwnT w' B x l := Own.gr h (fun _ _ ha => ha.gr G) G
theorem OwnT.terms {w : World} {B : Nat} {x : Sv} {l : List Tm} (h : OwnT w B x l) : Terms w x l := h.rows (by decide)
/-- One term in a block of its own. -/
def TermsOne (x : Int) (q : Q) (v : Value) (W : World) : Prop := ∃ (b : Nat) (t : Tv), v = .slice (some ⟨b, 0, none⟩) 1 1 ∧ Bk W b 104 #[.int .i64 t.var, .bool t.coef.neg, .slice t.coef.num.A t.coef.num.n t.coef.num.c, .slice t.coef.den.A t.coef.den.n t.coef.den.c] ∧ t.Is W (x, q)
theorem TermsOne.gr {W W' : World} {x : Int} {q : Q} {v : Value} (h : TermsOne x q v W) (G : Gr W W') : TermsOne x q v W' := by
  obtain ⟨b, t, e, h1, h2⟩ := h
  exact ⟨b, t, e, G.bk h1, h2.gr G⟩
/-- What put makes of the terms. -/
def putT (l : List Tm) (v : Int) (q : Q) : List Tm := if q.num = 0 then l else l ++ [(v, canonQ q)]
theorem putT_snoc (l : List Tm) (v : Int) {q : Q} (h : q.Ok) : putT l v q = snoc l v q := by unfold putT snoc; rw [canonQ_ok h]
theorem OwnT.push {w w' : World} {B : Nat} {x : Sv} {l : List Tm} {t : Tv} {v : Int} {q : Q} {v' : Value} (ts : List (Tv × Tm)) (h1 : w.ownsRow B 104 4 (.slice x.A x.n x.c) x.n (ts.flatMap fun p => p.1.cs)) (hl : l = ts.map (·.2)) (hts : ∀ p ∈ ts, p.1.Is w p.2) (ht : t.Is w (v, q))
    (h : w'.ownsRow B 104 4 v' (x.n + 1) ((ts.flatMap fun p => p.1.cs) ++ t.cs)) (F : Fr (fun b => (Value.slice x.A x.n x.c).ownBlock = some b) w w') : ∃ y : Sv, v' = y.v ∧ y.n = x.n + 1 ∧ OwnT w' B y (l ++ [(v, q)]) := by
  obtain ⟨A, c, rfl⟩ := rw_form h
  refine ⟨⟨A, x.n + 1, c⟩, rfl, rfl, ts ++ [(t, (v, q))], ?_, ?_, ?_⟩
  · rw [List.flatMap_append]
    simpa using h
  · rw [hl, List.map_append]; rfl
  · intro p hp
    rcases List.mem_append.1 hp with hp | hp
    · exact ⟨(hts p hp).var, (hts p hp).coef.own h1 (by decide) F⟩
    · rw [List.mem_singleton.1 hp]
      exact ⟨ht.var, ht.coef.own h1 (by decide) F⟩

set_option maxRecDepth 100000 in
set_option maxHeartbeats 4000000 in
theorem put_any (w : World) (B : Nat) (f : Fv) (l : List Tm) (k : Q) (v : Int) (c : Rv) (q : Q) (hf : OwnT w B f.terms l) (hk : f.const.Is w k) (hc : c.Is w q) (hB : B ≤ w.heap.size) (hn : l.length ≤ 1000000) (h1 : (limbs q.num).length ≤ 1000000) (h2 : q.un < B32) :
    Calls Tryz.prog 168 #[f.v, .int .i64 v, c.v] w fun e w' => ∃ y : Sv, e = .returned (Fv.v ⟨y, f.const⟩) ∧ OwnT w' B y (putT l v q) ∧ Fr (fun b => (Value.slice f.terms.A f.terms.n f.terms.c).ownBlock = some b) w w' := by
  obtain ⟨B1, B2, B3, G⟩ := made3 w 43 41 43 #[.slice f.terms.A f.terms.n f.terms.c, .bool f.const.neg, .slice f.const.num.A f.const.num.n f.const.num.c, .slice f.const.den.A f.const.den.n f.const.den.c] #[.bool c.neg, .slice c.num.A c.num.n c.num.c, .slice c.den.A c.den.n c.den.c] #[.slice none 0 0, .bool false, .slice none 0 0, .slice none 0 0]
  have HA := Lib.hid (hf.up G)
  have HK := Lib.hid (hk.gr G)
  have HC := Lib.hid (hc.gr G)
  have HG := Lib.hid G
  have C1 := Lib.hid B1
  have C2 := Lib.hid B2
  have C3 := Lib.hid B3
  have L1 := Lib.hid h1
  have L2 := Lib.hid h2
  have LN := Lib.hid hn
  have LB := Lib.hid hB
  have HS := Lib.hid (sign_any _ c q HC.out h1)
  have hz := Lib.hid (sign_zero q)
  obtain ⟨a0, a1, a2, a3⟩ := B1.c4
  obtain ⟨b0, b1, b2⟩ := B2.c3
  clear hf hk hc B1 B2 B3 G h1 h2 hn hB
  simp only [Rv.v, Fv.v] at *
  go_enter Tryz.func168, Tryz.ntmps168
  go_wp2_with fail
  refine HS.out.mono ?_
  rintro e w1 ⟨rfl, G1⟩
  have D1 := Lib.hid (G1.bk C1.out)
  have D2 := Lib.hid (G1.bk C2.out)
  have D3 := Lib.hid (G1.bk C3.out)
  have HA1 := Lib.hid (HA.out.up G1)
  have HK1 := Lib.hid (HK.out.gr G1)
  have HC1 := Lib.hid (HC.out.gr G1)
  have HG1 := Lib.hid (HG.out.trans G1)
  clear a0 a1 a2 a3 b0 b1 b2 C1 C2 C3 HA HK HC HG G1 HS
  obtain ⟨a0, a1, a2, a3⟩ := D1.out.c4
  obtain ⟨b0, b1, b2⟩ := D2.out.c3
  obtain ⟨r0, r1, r2, r3⟩ := D3.out.c4
  have fz := D3.out.frozen
  have h9 : ¬ w.heap.size = w.heap.size + 1 + 1 := by omega
  have h8 : ¬ w.heap.size = w.heap.size + 1 := by omega
  have hpo : Hid (w.heap.size ≤ w.heap.size + 1 + 1) := Nat.le_trans (Nat.le_succ _) (Nat.le_succ _)
  have hqo : Hid (w.heap.size ≤ w.heap.size) := Nat.le_refl _
  generalize w.heap.size + 1 + 1 = r at *
  generalize w.heap.size + 1 = g at *
  generalize hp : w.heap.size = p at *
  have hPE := Lib.hid hp
  clear hp
  have h7 : ¬ r = p := fun e => h9 e.symm
  generalize q.sign = sg at *
  by_cases h0 : q.num = 0
  · have hd : (sg != 0) = false := by rw [hz.out, decide_eq_true h0]; rfl
    obtain ⟨B5, F5⟩ := D3.out.put4 (.slice f.terms.A f.terms.n f.terms.c) (.bool f.const.neg) (.slice f.const.num.A f.const.num.n f.const.num.c) (.slice f.const.den.A f.const.den.n f.const.den.c)
    have H5 := Lib.hid F5
    obtain ⟨d0, d1, d2, d3⟩ := B5.c4
    clear F5 B5
    go_wp2
    generalize (((w1.setCell ⟨r, 0, none⟩ (.slice f.terms.A f.terms.n f.terms.c)).setCell ⟨r, 1, none⟩ (.bool f.const.neg)).setCell ⟨r, 2, none⟩ (.slice f.const.num.A f.const.num.n f.const.num.c)).setCell ⟨r, 3, none⟩ (.slice f.const.den.A f.const.den.n f.const.den.c) = W5 at *
    (try simp only [Exit.inBlock, Exit.then])
    refine bodyPost_ret (by simp [results, Tryz.results168, go_sem, d0, d1, d2, d3]; try rfl) rfl ?_
    refine ⟨f.terms, rfl, ?_, ?_⟩
    · unfold putT
      rw [if_pos h0]
      exact HA1.out.fr H5.out (fun b cs fr e hh => Bk.not_ty D3.out (by decide) cs fr (e ▸ hh)) fun b hb e => HA1.out.ne D3.out (by decide) (e ▸ hb)
    · exact ((HG1.out.fr_at H5.out (by rw [hPE.out]; exact hpo.out)).fr).wide fun _ _ h => h.elim
  · have hd : (sg != 0) = true := by rw [hz.out, decide_eq_false h0]; rfl
    have h8' : ¬ g = p := fun e => h8 e.symm
    obtain ⟨ts, t1, t2, t3⟩ := HA1.out
    have T1 := Lib.hid t1
    have T2 := Lib.hid t2
    have T3 := Lib.hid t3
    have LX : Hid (f.terms.n ≤ 1000000) := by
      have e := HA1.out.len Tv.len (by decide)
      show f.terms.n ≤ 1000000
      rw [← e]
      exact LN.out
    clear t1 t2 t3 HA1
    go_upto_region 2 with fail
    refine wp_region_any (by kernel_rfl) ?_
    have kc := Lib.hid (fun (W' : World) (G : Gr w1.drew W') => And.intro (G.keep a0) (And.intro (G.keep a1) (And.intro (G.keep a2) (And.intro (G.keep a3) (And.intro (G.keep b0) (And.intro (G.keep b1) (G.keep b2)))))))
    have hst : ∀ p ∈ ([(4, Rv.At (canonQ q)), (6, TermsOne v (canonQ q))] : List (Nat × (Value → World → Prop))), ∀ (u : Value) (wA0 wB0 : World), Gr w1.drew wA0 → Gr wA0 wB0 → p.2 u wA0 → p.2 u wB0 := by
      intro p hp u wA0 wB0 h0 G h
      simp only [List.mem_cons, List.not_mem_nil, or_false] at hp
      rcases hp with rfl | rfl
      · exact Rv.At.gr h G
      · exact h.gr G
    refine wpAny_walk (m := 3) (last := #[true, true, true, true, true, true, true, false, false, false]) [0, 1, 2, 3, 4, 5, 6] [(4, Rv.At (canonQ q)), (6, TermsOne v (canonQ q))] (by kernel_rfl) (by decide) (by kernel_rfl) hst ?_
    clear hst
    refine Walk.take (v := ?wv1) rfl rfl (Or.inl ⟨by rfl, ?wy1⟩) ?wr1
    case wy1 => (intro w' hw'; obtain ⟨a0, a1, a2, a3, b0, b1, b2⟩ := kc.out w' hw'; go_simp; try with_reducible rfl)
    try simp only [Act.put, List.setIfInBounds_toArray, List.set_cons_zero, List.set_cons_succ]
    refine Walk.take (v := ?wv2) rfl rfl (Or.inl ⟨by rfl, ?wy2⟩) ?wr2
    case wy2 => (intro w' hw'; obtain ⟨a0, a1, a2, a3, b0, b1, b2⟩ := kc.out w' hw'; go_simp; try with_reducible rfl)
    try simp only [Act.put, List.setIfInBounds_toArray, List.set_cons_zero, List.set_cons_succ]
    refine Walk.take (v := ?wv3) rfl rfl (Or.inl ⟨by rfl, ?wy3⟩) ?wr3
    case wy3 => (intro w' hw'; obtain ⟨a0, a1, a2, a3, b0, b1, b2⟩ := kc.out w' hw'; go_simp; try with_reducible rfl)
    try simp only [Act.put, List.setIfInBounds_toArray, List.set_cons_zero, List.set_cons_succ]
    refine Walk.take (v := ?wv4) rfl rfl (Or.inl ⟨by rfl, ?wy4⟩) ?wr4
    case wy4 => (intro w' hw'; obtain ⟨a0, a1, a2, a3, b0, b1, b2⟩ := kc.out w' hw'; go_simp; try with_reducible rfl)
    try simp only [Act.put, List.setIfInBounds_toArray, List.set_cons_zero, List.set_cons_succ]
    refine Walk.do rfl rfl (by rfl) (fun W1 G1 F1 => ?ws5) (fun v hv => ?wr5)
    case ws5 =>
      obtain ⟨a0, a1, a2, a3, b0, b1, b2⟩ := kc.out W1 G1
      refine doesAt_enter (f := 110) (args := #[.agg #[.bool c.neg, .slice c.num.A c.num.n c.num.c, .slice c.den.A c.den.n c.den.c]]) (by go_simp; try (first | with_reducible rfl | rfl)) ?_
      refine (canon_any W1 c q (HC1.out.gr ((Gr.refl w1).drew.trans G1)) L1.out L2.out).mono ?_
      rintro e w' ⟨i, rfl, hi, G⟩
      exact ⟨_, rfl, G, i, rfl, hi⟩
    obtain ⟨_, -, -, ⟨i, rfl, -⟩⟩ := hv
    try simp only [Act.put, List.setIfInBounds_toArray, List.set_cons_zero, List.set_cons_succ]
    refine Walk.take (v := ?wv6) rfl rfl (Or.inl ⟨by rfl, ?wy6⟩) ?wr6
    case wy6 => (intro w' hw'; obtain ⟨a0, a1, a2, a3, b0, b1, b2⟩ := kc.out w' hw'; go_simp; try with_reducible rfl)
    try simp only [Act.put, List.setIfInBounds_toArray, List.set_cons_zero, List.set_cons_succ]
    refine Walk.do rfl rfl (by rfl) (fun W1 G1 F1 => ?ws7) (fun v hv => ?wr7)
    case ws7 =>
      obtain ⟨a0, a1, a2, a3, b0, b1, b2⟩ := kc.out W1 G1
      have hi := F1 _ (List.mem_of_getElem? (i := 0) rfl) (List.contains_iff_mem.1 (by kernel_rfl))
      have hi := Rv.At.is hi
      refine doesAt_value (v := .slice (some ⟨W1.heap.size, 0, none⟩) 1 1) (W' := W1.alloc (.cells #[.int .i64 v, .bool i.neg, .slice i.num.A i.num.n i.num.c, .slice i.den.A i.den.n i.den.c] 104)) (by go_simp; try first | with_reducible rfl | rfl) ?_
      exact ⟨(Gr.refl W1).alloc _, W1.heap.size, ⟨v, i⟩, rfl, Bk.made _ _ _, rfl, hi.gr ((Gr.refl W1).alloc _)⟩
    obtain ⟨_, -, -, ⟨b, -, rfl, -⟩⟩ := hv
    try simp only [Act.put, List.setIfInBounds_toArray, List.set_cons_zero, List.set_cons_succ]
    refine Walk.done (fun W1 G1 F1 => ?_)
    have hi := F1 _ (List.mem_of_getElem? (i := 0) rfl)
    have hb := F1 _ (List.mem_of_getElem? (i := 1) rfl)
    clear F1
    have kc1 := kc.out W1 G1
    clear kc a0 a1 a2 a3 b0 b1 b2
    obtain ⟨a0, a1, a2, a3, b0, b1, b2⟩ := kc1
    have GW := Lib.hid ((Gr.refl w1).drew.trans G1)
    obtain ⟨b', t, he, hb, ht⟩ := hb
    obtain rfl : b = b' := by injection he with he; injection he with he; injection he
    have T4 := Lib.hid (rw_keep T1.out (fun b hb => GW.out.below.block b (rw_lt T1.out b hb).2))
    have BT := Lib.hid hb
    have HT := Lib.hid ht
    have E1 := Lib.hid (GW.out.bk D1.out)
    have E2 := Lib.hid (GW.out.bk D3.out)
    clear he hb ht hi G1
    refine wpAny_one 7 rfl (by kernel_rfl) (by rfl) (fun K hK => ?_)
    refine op_appS elemT rfl _ _ rfl B (.slice f.terms.A f.terms.n f.terms.c) f.terms.n (ts.flatMap fun p => p.1.cs) (by rfl) T4.out ⟨b, 0, none⟩ 1 1 [.int .i64 t.var, .bool t.coef.neg, .slice t.coef.num.A t.coef.num.n t.coef.num.c, .slice t.coef.den.A t.coef.den.n t.coef.den.c] (by rfl) (by rfl) (bk_cells BT.out) (by simp [Value.oneCell']) (by unfold maxLen; have := LX.out; omega) (by have := LX.out; omega) (by have := LB.out; have := HG1.out.size; have := GW.out.size; have := hPE.out; omega) (fun v' w5 e1 e2 e3 => ?_)
    have F := fr_own0 e2
    obtain ⟨y, rfl, hyn, hy⟩ := OwnT.push (t := t) ts T4.out T2.out (fun a ha => (T3.out a ha).gr GW.out) HT.out e1 F
    have HY := Lib.hid hy
    have KP2 := Lib.hid (F.bk E1.out (fun e => rw_ne T4.out E1.out (by decide) e))
    have KR2 := Lib.hid (F.bk E2.out (fun e => rw_ne T4.out E2.out (by decide) e))
    have FF := Lib.hid F
    clear e1 e2 e3 F hy hyn
    refine hK.out _ _ ?_
    clear hK K
    try simp only [Act.put, List.setIfInBounds_toArray, List.set_cons_zero, List.set_cons_succ]
    obtain ⟨m0, m1, m2, m3⟩ := KP2.out.c4
    have fz1 := KP2.out.frozen
    have qz1 := KR2.out.frozen
    obtain ⟨q0, q1, q2, q3⟩ := KR2.out.c4
    clear a0 a1 a2 a3 b0 b1 b2 r0 r1 r2 r3 fz
    refine wpAny_one 8 rfl (by kernel_rfl) (by rfl) (fun K hK => ?_)
    go_simp
    refine hK.out _ _ ?_
    clear hK K
    try simp only [Act.put, List.setIfInBounds_toArray, List.set_cons_zero, List.set_cons_succ]
    refine wpAny_one 9 rfl (by kernel_rfl) (by rfl) (fun K hK => ?_)
    go_simp
    refine hK.out _ _ ?_
    clear hK K
    try simp only [Act.put, List.setIfInBounds_toArray, List.set_cons_zero, List.set_cons_succ]
    refine wpAny_end (by kernel_rfl) ?_
    have KP3 : Hid (Bk (w5.setCell ⟨p, 0, none⟩ (.slice y.A y.n y.c)) p 43 #[.slice y.A y.n y.c, .bool f.const.neg, .slice f.const.num.A f.const.num.n f.const.num.c, .slice f.const.den.A f.const.den.n f.const.den.c]) := Lib.hid (by have := KP2.out.put 0 (.slice y.A y.n y.c); simpa using this)
    have F3 := Lib.hid (Fr.set w5 ⟨p, 0, none⟩ (.slice y.A y.n y.c) rfl : Fr (fun b => b = p) w5 (w5.setCell ⟨p, 0, none⟩ (.slice y.A y.n y.c)))
    have KR3 := Lib.hid (F3.out.bk KR2.out h7)
    have HY3 := Lib.hid (HY.out.fr F3.out (fun b cs fr e hh => Bk.not_ty KP2.out (by decide) cs fr (e ▸ hh)) fun b hb e => HY.out.ne KP2.out (by decide) (e ▸ hb))
    generalize w5.setCell ⟨p, 0, none⟩ (.slice y.A y.n y.c) = w6 at *
    clear m0 m1 m2 m3 q0 q1 q2 q3 fz1 qz1
    obtain ⟨m0, m1, m2, m3⟩ := KP3.out.c4
    obtain ⟨q0, q1, q2, q3⟩ := KR3.out.c4
    have qz1 := KR3.out.frozen
    obtain ⟨B5, F5⟩ := KR3.out.put4 (.slice y.A y.n y.c) (.bool f.const.neg) (.slice f.const.num.A f.const.num.n f.const.num.c) (.slice f.const.den.A f.const.den.n f.const.den.c)
    have H5 := Lib.hid F5
    obtain ⟨d0, d1, d2, d3⟩ := B5.c4
    clear F5 B5
    go_wp2
    generalize (((w6.setCell ⟨r, 0, none⟩ (.slice y.A y.n y.c)).setCell ⟨r, 1, none⟩ (.bool f.const.neg)).setCell ⟨r, 2, none⟩ (.slice f.const.num.A f.const.num.n f.const.num.c)).setCell ⟨r, 3, none⟩ (.slice f.const.den.A f.const.den.n f.const.den.c) = W5 at *
    (try simp only [Exit.inBlock, Exit.then])
    refine bodyPost_ret (by simp [results, Tryz.results168, go_sem, d0, d1, d2, d3]; try rfl) rfl ?_
    refine ⟨y, rfl, ?_, ?_⟩
    · unfold putT
      rw [if_neg h0]
      exact HY3.out.fr H5.out (fun b cs fr e hh => Bk.not_ty KR3.out (by decide) cs fr (e ▸ hh)) fun b hb e => HY3.out.ne KR3.out (by decide) (e ▸ hb)
    · refine ⟨(((HG1.out.trans GW.out).fr.fr0.trans FF.out.fr0).trans (F3.out.fr0.trans H5.out.fr0)).bel, fun b hb hx => ?_⟩
      have hbp : b ≠ p := fun e => by have := hPE.out; omega
      have hbr : b ≠ r := fun e => by have := hPE.out; have := hpo.out; omega
      rw [H5.out.keep b (by have := HG1.out.size; have := GW.out.size; have := FF.out.size; have := F3.out.size; omega) hbr, F3.out.keep b (by have := HG1.out.size; have := GW.out.size; have := FF.out.size; omega) hbp, FF.out.keep b (by have := HG1.out.size; have := GW.out.size; omega) hx]
      exact (HG1.out.trans GW.out).below.block b hb
end Go.Proofs.YtcmfepaffhnemaaGreatDoor

set_option linter.unusedVariables false
namespace Go.Proofs.YtcmfepaffhnemaaGreatDoor
open Go.RowKit

theorem Fr.ext {X Y : Nat → Prop} {a b c : World} (h : Fr X a b) (k : Fr Y b c) (hX : ∀ i, i < b.heap.size → Y i → X i ∨ a.heap.size ≤ i) : Fr X a c := ⟨h.bel.trans k.bel, fun i hi hx => by
  have hib := Nat.lt_of_lt_of_le hi h.size
  rw [k.keep i hib (fun e => by rcases hX i hib e with e | e; exact hx e; omega)]
  exact h.keep i hi hx⟩
section
variable {α β : Type} {cs : β → List Value} {Is : World → β → α → Prop} {e k : Nat} {w w' : World} {B : Nat} {x : Sv} {xs : List α}
theorem Own.push (hz : Own cs Is e k w B x xs) {b : β} {u : α} {v' : Value} (ts : List (β × α)) (hl : xs = ts.map (·.2)) (hts : ∀ p ∈ ts, Is w p.1 p.2) (hb : Is w b u) (h : w'.ownsRow B e k v' (x.n + 1) ((ts.flatMap fun p => cs p.1) ++ cs b)) (hI : ∀ p a, Is w p a → Is w' p a) :
    ∃ y : Sv, v' = y.v ∧ y.n = x.n + 1 ∧ Own cs Is e k w' B y (xs ++ [u]) := by
  obtain ⟨A, c, rfl⟩ := rw_form h
  refine ⟨⟨A, x.n + 1, c⟩, rfl, rfl, ts ++ [(b, u)], ?_, ?_, ?_⟩
  · rw [List.flatMap_append]
    simpa using h
  · rw [hl, List.map_append]; rfl
  · intro p hp
    rcases List.mem_append.1 hp with hp | hp
    · exact hI _ _ (hts p hp)
    · rw [List.mem_singleton.1 hp]
      exact hI _ _ hb
/-- The append of one element that lies somewhere. -/
theorem Own.app1 {P : Program} {t bytes : Nat} (h : ElemS P t e k bytes) {o : Oper} {a : Act} {K : Act → World → Prop} {Q : Exit → Act → World → Prop} (s xo : Operand) (ho : o.op = .call { callee := .builtin .append, args := #[s, xo], argTypes := #[t, t] }) (hs : a.eval s = x.v) (hz : Own cs Is e k w B x xs) (ad : Addr) (c : Nat) (b : β) (u : α)
    (hx : a.eval xo = .slice (some ad) 1 c) (hb : Is w b u) (hlen : (cs b).length = k) (hcell : ∀ j v, (cs b)[j]? = some v → w.cell? (ad.add j) = some v) (h1 : ∀ v ∈ cs b, v.oneCell' = true) (h63 : x.n + 1 ≤ maxLen) (hbytes : (x.n + 1) * bytes ≤ 140737488355328) (hB : B ≤ w.heap.size) (hI : ∀ w', Fr (fun b => (Value.slice x.A x.n x.c).ownBlock = some b) w w' → ∀ p a, Is w p a → Is w' p a)
    (hK : ∀ (y : Sv) (w' : World), y.n = x.n + 1 → Own cs Is e k w' B y (xs ++ [u]) → Fr (fun b => (Value.slice x.A x.n x.c).ownBlock = some b) w w' → K (a.put o.dst y.v) w') : o.wp P a w K Q := by
  obtain ⟨i, z, hi, hzz, hsz, hby, hzs⟩ := h.hi
  have hz' := hz
  obtain ⟨ts, t1, t2, t3⟩ := hz'
  obtain ⟨v', w', hrun, h2, h3, _, h5⟩ := run_append_own_at (P := P) w B t o.type e i z k bytes h.ht hi hzz hsz hby hzs h.pos _ x.n _ t1 ad 1 c (cs b) (by rw [hlen, Nat.one_mul]) hcell h1 h63 hbytes hB
  have F := fr_own0 h3
  obtain ⟨y, rfl, hyn, hy⟩ := hz.push ts t2 t3 hb h2 (hI w' F)
  unfold Oper.wp execOp
  simp only [ho, resolve, invoke, builtin, Sem.run_bind, Sem.run_pure, Result.andThen_ok, List.map_toArray, List.map_cons, List.map_nil, hs, hx, hrun]
  exact hK y w' hyn hy F
end
theorem elemF : ElemS Tryz.prog 24 43 4 80 := elem_of (z := .agg #[.slice none 0 0, .bool false, .slice none 0 0, .slice none 0 0]) (by kernel_rfl) (by kernel_rfl) rfl (by decide)
abbrev OwnF (w : World) (B : Nat) (x : Sv) (l : List Fm) : Prop := Own Fv.cs Fv.Is 43 4 w B x l
/-- Blocks of forms are not touched. -/
theorem Fv.Is.own {w w' : World} {f : Fv} {x : Fm} {v : Value} {B k n : Nat} {xs : List Value} (h : f.Is w x) (ho : w.ownsRow B 43 k v n xs) (F : Fr (fun b => v.ownBlock = some b) w w') : f.Is w' x :=
  h.tf F (fun b cs fr hb hh => by obtain ⟨cur, hc⟩ := rw_bk ho b hb; exact Bk.not_ty hc (by decide) _ _ hh) (fun b cs fr hb hh => by obtain ⟨cur, hc⟩ := rw_bk ho b hb; exact Bk.not_ty hc (by decide) _ _ hh)
theorem OwnF.step {w w' : World} {B : Nat} {x : Sv} {l : List Fm} (h : OwnF w B x l) (F : Fr (fun b => (Value.slice x.A x.n x.c).ownBlock = some b) w w') : ∀ (p : Fv) (a : Fm), p.Is w a → p.Is w' a := fun p a hp => by
  obtain ⟨ts, t1, _⟩ := h
  exact hp.own t1 F
theorem OwnF.up {w w' : World} {B : Nat} {x : Sv} {l : List Fm} (h : OwnF w B x l) (G : Gr w w') : OwnF w' B x l := Own.gr h (fun _ _ ha => ha.gr G) G
theorem OwnF.forms {w : World} {B : Nat} {x : Sv} {l : List Fm} (h : OwnF w B x l) : Forms w x l := h.rows (by decide)
/-- A store into a variable of another type. -/
theorem OwnF.st {w w' : World} {B p t : Nat} {x : Sv} {l : List Fm} {us : Array Value} (h : OwnF w B x l) (F : Fr (fun b => b = p) w w') (hb : Bk w p t us) (h0 : t ≠ 43) (h1 : t ≠ 104) (h2 : t ≠ 211) : OwnF w' B x l :=
  Own.go h (fun f a ha => ha.tf' F hb h1 h2) fun b hb' => F.keep b (h.lt b hb').2 fun e => h.ne hb h0 (e ▸ hb')
end Go.Proofs.YtcmfepaffhnemaaGreatDoor

set_option linter.unusedVariables false
namespace Go.Proofs.YtcmfepaffhnemaaGreatDoor
open Go.RowKit

/-- What lies in block b. -/
def Ob (w : World) (b : Nat) (o : Obj) : Prop := w.heap[b]? = some o
section
variable {w w' : World} {b : Nat} {o : Obj}
theorem Ob.made (w : World) (o : Obj) : Ob (w.alloc o) w.heap.size o := heap_alloc_new w o
theorem Ob.lt (h : Ob w b o) : b < w.heap.size := by
  rcases Nat.lt_or_ge b w.heap.size with h1 | h1
  · exact h1
  · unfold Ob at h; rw [Array.getElem?_eq_none h1] at h; cases h
theorem Ob.gr (h : Ob w b o) (G : Gr w w') : Ob w' b o := (G.below.block b h.lt).trans h
theorem Ob.fr (h : Ob w b o) {X : Nat → Prop} (F : Fr X w w') (hx : ¬ X b) : Ob w' b o := (F.keep b h.lt hx).trans h
/-- Another object in block r. -/
def putObj (w : World) (r : Nat) (o : Obj) : World := { w with heap := w.heap.setIfInBounds r o }
theorem putObj.fr (w : World) (r : Nat) (o : Obj) : Fr (fun b => b = r) w (putObj w r o) := by
  refine ⟨⟨rfl, rfl, rfl, by simp [putObj], fun b hb => absurd hb (Nat.not_lt_zero b)⟩, fun b hb hx => ?_⟩
  simp only [putObj]
  rw [Array.getElem?_setIfInBounds_ne (fun e => hx e.symm)]
theorem putObj.ob {w : World} {r : Nat} {o o' : Obj} (h : Ob w r o) : Ob (putObj w r o') r o' := by
  have := h.lt
  unfold Ob putObj
  simp [this]
end
section
variable {P : Program} {w : World} {r : Nat}
theorem look0 {t kt et : TypeId} {c : Nat} {s : ByteArray} {z : Value} (hm : P.underlying t = some (.map kt et)) (hk : P.underlying kt = some .string) (hz : (P.info? et).map (fun i => i.zero) = some (some z)) (hb : Ob w r (.map #[] c)) :
    (Instr.lookup t (.map (some r)) (.string s) false).run P w = .ok z w := by
  obtain ⟨i, hi, hz'⟩ := Option.map_eq_some_iff.1 hz
  have hf : Instr.findNow .string (.string s) ([] : List MapEntry) 0 = some none := rfl
  have hc : (Instr.checkKey true 10000 kt (.string s)).run P w = .ok () w := MapKept.run_checkKey (k := .string s) hk (by simp [MapKept.IsKey]) true 9999
  simp [Instr.lookup, run_underlying hm, MapKept.run_getObj_map hb, hc, MapKept.run_findKey hk hf, Result.andThen, zeroValue, typeInfo, hi, hz']
theorem look1 {t kt et : TypeId} {c d : Nat} {s : ByteArray} {v : Value} (hs : (s == s) = true) (hm : P.underlying t = some (.map kt et)) (hk : P.underlying kt = some .string) (hb : Ob w r (.map #[{ key := .string s, val := v, born := d }] c)) :
    (Instr.lookup t (.map (some r)) (.string s) false).run P w = .ok v w := by
  have hf : Instr.findNow .string (.string s) [({ key := .string s, val := v, born := d } : MapEntry)] 0 = some (some (0, v)) := by simp [Instr.findNow, Instr.sameNow, hs]
  have hc : (Instr.checkKey false 10000 kt (.string s)).run P w = .ok () w := MapKept.run_checkKey (k := .string s) hk (by simp [MapKept.IsKey]) false 9999
  simp [Instr.lookup, run_underlying hm, MapKept.run_getObj_map hb, hc, MapKept.run_findKey hk hf, Result.andThen]
theorem upd0 {t kt et : TypeId} {c : Nat} {s : ByteArray} {v : Value} (hm : P.underlying t = some (.map kt et)) (hk : P.underlying kt = some .string) (hb : Ob w r (.map #[] c)) :
    (Instr.mapUpdate t (.map (some r)) (.string s) v).run P w = .ok () (putObj w r (.map #[{ key := .string s, val := v, born := c }] (c + 1))) := run_mapUpdate_first w t kt et r c s v hm hk hb
end
end Go.Proofs.YtcmfepaffhnemaaGreatDoor
