/- linear.Valid and Equal, the reference. -/
import Derived.Test.YtcmfepaffhnemaaGreatDoorMc
import Derived.Test.YtcmfepaffhnemaaGreatDoorMd
import Derived.Deep.RegionHeld3
import Derived.Test.YtcmfepaffhnemaaGreatDoorMb
set_option linter.unusedSimpArgs false
set_option linter.unusedVariables false
namespace Go.Proofs.YtcmfepaffhnemaaGreatDoor
open Go.RowKit

attribute [local go_sem] Oper.semAt_some

/-- Small numbers. -/
structure Q.Sm (q : Q) : Prop where
  num : q.num < 1000000
  den : q.den < 1000
theorem Q.Sm.lo {q : Q} (h : q.Sm) : q.Lo := ⟨Nat.le_trans (un_len1 (Nat.lt_trans h.num (by decide))) (by decide), by unfold Q.un; split; omega; exact Nat.le_of_lt h.den⟩
set_option maxRecDepth 100000 in
set_option maxHeartbeats 4000000 in
theorem lvalid_any (w : World) (f : Fv) (x : Fm) (vars : Nat) (hf : f.Is w x) (hx : x.Ok vars) (hl : ∀ t ∈ x.terms, t.2.Lo) (hk : x.const.Lo) :
    Calls Tryz.prog 38 #[f.v, .int .i64 vars] w fun e w' => e = .returned (.bool true) ∧ Gr w w' := by
  obtain ⟨⟨xA, xn, xc⟩, fc⟩ := f
  have hvn : x.terms.length = xn := hf.terms.len
  have hmx : xn ≤ 9223372036854775807 := (by obtain ⟨_, h1, _⟩ := hf.terms; exact Nat.le_trans h1.cap h1.max)
  obtain ⟨B1, G⟩ := made1 w 43 (#[.slice xA xn xc, .bool fc.neg, .slice fc.num.A fc.num.n fc.num.c, .slice fc.den.A fc.den.n fc.den.c])
  have HG := Lib.hid G
  have D_p := Lib.hid B1
  clear G B1
  have HF := Lib.hid hf
  have HX := Lib.hid hx
  have HV := Lib.hid hvn
  have HM := Lib.hid hmx
  have HL := Lib.hid hl
  have HK := Lib.hid hk
  clear hf hx hvn hmx hl hk
  obtain ⟨a0, a1, a2, a3⟩ := D_p.out.c4
  simp only [Rv.v, Fv.v] at *
  go_enter Tryz.func38, Tryz.ntmps38
  go_wp2_with fail
  generalize hW : w.alloc (.cells #[.slice xA xn xc, .bool fc.neg, .slice fc.num.A fc.num.n fc.num.c, .slice fc.den.A fc.den.n fc.den.c] 43) = W at *
  clear hW
  have N_p : Hid (w.heap.size ≤ w.heap.size) := (by show w.heap.size ≤ w.heap.size; omega)
  go_loopw [10] (fun i wr => ∃ k : Nat, i = .int .i64 k ∧ k ≤ xn ∧ Hid (Gr w wr) ∧ Hid (Bk wr w.heap.size 43 #[.slice xA xn xc, .bool fc.neg, .slice fc.num.A fc.num.n fc.num.c, .slice fc.den.A fc.den.n fc.den.c])) (fun i _ => xn - (intOf i).toNat)
  case atStart => exact ⟨0, rfl, Nat.zero_le _, HG, D_p⟩
  case round =>
    obtain ⟨k, rfl, hk, HG2, DP⟩ := hrel
    clear HG D_p a0 a1 a2 a3
    obtain ⟨a0, a1, a2, a3⟩ := DP.out.c4
    by_cases hkn : k < xn
    · have hkl : k < x.terms.length := by rw [HV.out]; exact hkn
      obtain ⟨q, hq⟩ : ∃ q, x.terms[k]? = some q := ⟨_, List.getElem?_eq_getElem hkl⟩
      obtain ⟨t, ad, ht, hA, d0, d1, d2, d3⟩ := (HF.out.terms.gr HG2.out).at hq
      simp only at hA
      subst hA
      have HT := Lib.hid ht
      have HE := Lib.hid (HX.out.each q (List.mem_of_getElem? hq))
      have HL2 := Lib.hid (HL.out q (List.mem_of_getElem? hq))
      have HQ := Lib.hid hq
      have n0 : decide (t.var < 0) = false := by rw [HT.out.var]; have := HE.out.1; simp; omega
      have n1 : decide ((vars : Int) ≤ t.var) = false := by rw [HT.out.var]; have := HE.out.2.1; simp; omega
      have n2 : (q.2.sign == 0) = false := by have := HE.out.2.2.1; unfold Q.sign; rw [if_neg this]; cases q.2.neg <;> rfl
      have hm9 : k < 9223372036854775807 := Nat.lt_of_lt_of_le hkn HM.out
      generalize hsg : q.2.sign = sg at *
      have HSG := Lib.hid hsg
      clear hq ht hsg hkl
      by_cases hk0 : k = 0
      · have n3 : decide ((0 : Int) < (k : Int)) = false := by simp [hk0]
        have n6 : decide (0 < k) = false := by simp [hk0]
        clear hk0
        go_wp2_with fail
        obtain ⟨B1, GB⟩ := made1 wr 104 #[.int .i64 t.var, .bool t.coef.neg, .slice t.coef.num.A t.coef.num.n t.coef.num.c, .slice t.coef.den.A t.coef.den.n t.coef.den.c]
        have GT := Lib.hid GB
        obtain ⟨c0, c1, c2, c3⟩ := B1.c4
        replace a0 := GB.keep a0
        clear B1 GB d0 d1 d2 d3 a1 a2 a3
        generalize wr.alloc (.cells #[.int .i64 t.var, .bool t.coef.neg, .slice t.coef.num.A t.coef.num.n t.coef.num.c, .slice t.coef.den.A t.coef.den.n t.coef.den.c] 104) = W3 at *
        generalize wr.heap.size = tb at *
        refine wp_region_any (by kernel_rfl) ?_
        have kc := Lib.hid (fun (W' : World) (G : Gr W3.drew W') => And.intro (G.keep c0) (And.intro (G.keep c1) (And.intro (G.keep c2) (G.keep c3))))
        have hst : ∀ p ∈ ([(28, fun v _ => v = .int .i64 sg), (34, fun v _ => v = .bool true)] : List (Nat × (Value → World → Prop))), ∀ (u : Value) (wA0 wB0 : World), Gr W3.drew wA0 → Gr wA0 wB0 → p.2 u wA0 → p.2 u wB0 := by
          intro p hp u wA0 wB0 h0 G h
          simp only [List.mem_cons, List.not_mem_nil, or_false] at hp
          rcases hp with rfl | rfl
          · exact h
          · exact h
        refine wpAny_walk (m := 0) (last := #[true, true, true, true, true, true, true, true, true, true, true, true, true, true, true, true, true, true, true, true, true, true, true, true, true, true, true, true, true, true, true, true, true, true, true, true, true]) [0, 1, 2, 3, 4, 5, 6, 7, 8, 9, 10, 11, 12, 13, 14, 15, 16, 17, 18, 19, 20, 21, 22, 23, 24, 25, 26, 27, 28, 29, 30, 31, 32, 33, 34, 35, 36] [(28, fun v _ => v = .int .i64 sg), (34, fun v _ => v = .bool true)] (by kernel_rfl) (by decide) (by kernel_rfl) hst ?_
        clear hst
        refine Walk.take (v := ?wv1) rfl rfl (Or.inl ⟨by rfl, ?wy1⟩) ?wr1
        case wy1 => (intro w' hw'; obtain ⟨c0, c1, c2, c3⟩ := kc.out w' hw'; go_simp; try with_reducible rfl)
        try simp only [Act.put, List.setIfInBounds_toArray, List.set_cons_zero, List.set_cons_succ]
        refine Walk.take (v := ?wv2) rfl rfl (Or.inl ⟨by rfl, ?wy2⟩) ?wr2
        case wy2 => (intro w' hw'; obtain ⟨c0, c1, c2, c3⟩ := kc.out w' hw'; go_simp; try with_reducible rfl)
        try simp only [Act.put, List.setIfInBounds_toArray, List.set_cons_zero, List.set_cons_succ]
        refine Walk.take (v := ?wv3) rfl rfl (Or.inl ⟨by rfl, ?wy3⟩) ?wr3
        case wy3 => (intro w' hw'; obtain ⟨c0, c1, c2, c3⟩ := kc.out w' hw'; go_simp; try with_reducible rfl)
        try simp only [Act.put, List.setIfInBounds_toArray, List.set_cons_zero, List.set_cons_succ]
        refine Walk.take (v := ?wv4) rfl rfl (Or.inl ⟨by rfl, ?wy4⟩) ?wr4
        case wy4 => (intro w' hw'; obtain ⟨c0, c1, c2, c3⟩ := kc.out w' hw'; go_simp; try with_reducible rfl)
        try simp only [Act.put, List.setIfInBounds_toArray, List.set_cons_zero, List.set_cons_succ]
        refine Walk.take (v := ?wv5) rfl rfl (Or.inl ⟨by rfl, ?wy5⟩) ?wr5
        case wy5 => (intro w' hw'; obtain ⟨c0, c1, c2, c3⟩ := kc.out w' hw'; go_simp; try with_reducible rfl)
        try simp only [Act.put, List.setIfInBounds_toArray, List.set_cons_zero, List.set_cons_succ]
        refine Walk.take (v := ?wv6) rfl rfl (Or.inl ⟨by rfl, ?wy6⟩) ?wr6
        case wy6 => (intro w' hw'; obtain ⟨c0, c1, c2, c3⟩ := kc.out w' hw'; go_simp; try with_reducible rfl)
        try simp only [Act.put, List.setIfInBounds_toArray, List.set_cons_zero, List.set_cons_succ]
        refine Walk.take (v := ?wv7) rfl rfl (Or.inl ⟨by rfl, ?wy7⟩) ?wr7
        case wy7 => (intro w' hw'; obtain ⟨c0, c1, c2, c3⟩ := kc.out w' hw'; go_simp; try with_reducible rfl)
        try simp only [Act.put, List.setIfInBounds_toArray, List.set_cons_zero, List.set_cons_succ]
        refine Walk.take (v := ?wv8) rfl rfl (Or.inl ⟨by rfl, ?wy8⟩) ?wr8
        case wy8 => (intro w' hw'; obtain ⟨c0, c1, c2, c3⟩ := kc.out w' hw'; go_simp; try with_reducible rfl)
        try simp only [Act.put, List.setIfInBounds_toArray, List.set_cons_zero, List.set_cons_succ]
        refine Walk.take (v := ?wv9) rfl rfl (Or.inl ⟨by rfl, ?wy9⟩) ?wr9
        case wy9 => (intro w' hw'; obtain ⟨c0, c1, c2, c3⟩ := kc.out w' hw'; go_simp; try with_reducible rfl)
        try simp only [Act.put, List.setIfInBounds_toArray, List.set_cons_zero, List.set_cons_succ]
        refine Walk.take (v := ?wv10) rfl rfl (Or.inl ⟨by rfl, ?wy10⟩) ?wr10
        case wy10 => (intro w' hw'; obtain ⟨c0, c1, c2, c3⟩ := kc.out w' hw'; go_simp; try with_reducible rfl)
        try simp only [Act.put, List.setIfInBounds_toArray, List.set_cons_zero, List.set_cons_succ]
        refine Walk.take (v := ?wv11) rfl rfl (Or.inl ⟨by rfl, ?wy11⟩) ?wr11
        case wy11 => (intro w' hw'; obtain ⟨c0, c1, c2, c3⟩ := kc.out w' hw'; go_simp; try with_reducible rfl)
        try simp only [Act.put, List.setIfInBounds_toArray, List.set_cons_zero, List.set_cons_succ]
        refine Walk.take (v := ?wv12) rfl rfl (Or.inl ⟨by rfl, ?wy12⟩) ?wr12
        case wy12 => (intro w' hw'; obtain ⟨c0, c1, c2, c3⟩ := kc.out w' hw'; go_simp; try with_reducible rfl)
        try simp only [Act.put, List.setIfInBounds_toArray, List.set_cons_zero, List.set_cons_succ]
        refine Walk.take (v := ?wv13) rfl rfl (Or.inl ⟨by rfl, ?wy13⟩) ?wr13
        case wy13 => (intro w' hw'; obtain ⟨c0, c1, c2, c3⟩ := kc.out w' hw'; go_simp; try with_reducible rfl)
        try simp only [Act.put, List.setIfInBounds_toArray, List.set_cons_zero, List.set_cons_succ]
        refine Walk.take (v := undef) rfl rfl (Or.inr ⟨by rfl, rfl⟩) ?_
        try simp only [Act.put, List.setIfInBounds_toArray, List.set_cons_zero, List.set_cons_succ]
        refine Walk.take (v := undef) rfl rfl (Or.inr ⟨by rfl, rfl⟩) ?_
        try simp only [Act.put, List.setIfInBounds_toArray, List.set_cons_zero, List.set_cons_succ]
        refine Walk.take (v := undef) rfl rfl (Or.inr ⟨by rfl, rfl⟩) ?_
        try simp only [Act.put, List.setIfInBounds_toArray, List.set_cons_zero, List.set_cons_succ]
        refine Walk.take (v := undef) rfl rfl (Or.inr ⟨by rfl, rfl⟩) ?_
        try simp only [Act.put, List.setIfInBounds_toArray, List.set_cons_zero, List.set_cons_succ]
        refine Walk.take (v := undef) rfl rfl (Or.inr ⟨by rfl, rfl⟩) ?_
        try simp only [Act.put, List.setIfInBounds_toArray, List.set_cons_zero, List.set_cons_succ]
        refine Walk.take (v := undef) rfl rfl (Or.inr ⟨by rfl, rfl⟩) ?_
        try simp only [Act.put, List.setIfInBounds_toArray, List.set_cons_zero, List.set_cons_succ]
        refine Walk.take (v := undef) rfl rfl (Or.inr ⟨by rfl, rfl⟩) ?_
        try simp only [Act.put, List.setIfInBounds_toArray, List.set_cons_zero, List.set_cons_succ]
        refine Walk.take (v := undef) rfl rfl (Or.inr ⟨by rfl, rfl⟩) ?_
        try simp only [Act.put, List.setIfInBounds_toArray, List.set_cons_zero, List.set_cons_succ]
        refine Walk.take (v := undef) rfl rfl (Or.inr ⟨by rfl, rfl⟩) ?_
        try simp only [Act.put, List.setIfInBounds_toArray, List.set_cons_zero, List.set_cons_succ]
        refine Walk.take (v := undef) rfl rfl (Or.inr ⟨by rfl, rfl⟩) ?_
        try simp only [Act.put, List.setIfInBounds_toArray, List.set_cons_zero, List.set_cons_succ]
        refine Walk.take (v := ?wv14) rfl rfl (Or.inl ⟨by rfl, ?wy14⟩) ?wr14
        case wy14 => (intro w' hw'; obtain ⟨c0, c1, c2, c3⟩ := kc.out w' hw'; go_simp; try with_reducible rfl)
        try simp only [Act.put, List.setIfInBounds_toArray, List.set_cons_zero, List.set_cons_succ]
        refine Walk.take (v := ?wv15) rfl rfl (Or.inl ⟨by rfl, ?wy15⟩) ?wr15
        case wy15 => (intro w' hw'; obtain ⟨c0, c1, c2, c3⟩ := kc.out w' hw'; go_simp; try with_reducible rfl)
        try simp only [Act.put, List.setIfInBounds_toArray, List.set_cons_zero, List.set_cons_succ]
        refine Walk.take (v := ?wv16) rfl rfl (Or.inl ⟨by rfl, ?wy16⟩) ?wr16
        case wy16 => (intro w' hw'; obtain ⟨c0, c1, c2, c3⟩ := kc.out w' hw'; go_simp; try with_reducible rfl)
        try simp only [Act.put, List.setIfInBounds_toArray, List.set_cons_zero, List.set_cons_succ]
        refine Walk.take (v := ?wv17) rfl rfl (Or.inl ⟨by rfl, ?wy17⟩) ?wr17
        case wy17 => (intro w' hw'; obtain ⟨c0, c1, c2, c3⟩ := kc.out w' hw'; go_simp; try with_reducible rfl)
        try simp only [Act.put, List.setIfInBounds_toArray, List.set_cons_zero, List.set_cons_succ]
        refine Walk.take (v := ?wv18) rfl rfl (Or.inl ⟨by rfl, ?wy18⟩) ?wr18
        case wy18 => (intro w' hw'; obtain ⟨c0, c1, c2, c3⟩ := kc.out w' hw'; go_simp; try with_reducible rfl)
        try simp only [Act.put, List.setIfInBounds_toArray, List.set_cons_zero, List.set_cons_succ]
        refine Walk.do rfl rfl (by rfl) (fun W1 G1 F1 => ?ws19) (fun v hv => ?wr19)
        case ws19 =>
          obtain ⟨c0, c1, c2, c3⟩ := kc.out W1 G1
          refine doesAt_enter (f := 68) (args := #[.agg #[.bool t.coef.neg, .slice t.coef.num.A t.coef.num.n t.coef.num.c, .slice t.coef.den.A t.coef.den.n t.coef.den.c]]) (by go_simp; try (first | with_reducible rfl | rfl)) ?_
          refine ((show Calls _ _ _ _ (fun e w' => e = .returned (.int .i64 sg) ∧ Gr W1 w') from by rw [← HSG.out]; exact sign_any W1 t.coef q.2 (HT.out.coef.gr (GT.out.trans G1.of_drew)) (Nat.le_trans HL2.out.num (by decide)))).mono ?_
          rintro e w' ⟨rfl, G⟩
          exact ⟨_, rfl, G, rfl⟩
        obtain ⟨_, -, -, rfl⟩ := hv
        try simp only [Act.put, List.setIfInBounds_toArray, List.set_cons_zero, List.set_cons_succ]
        refine Walk.take (v := ?wv20) rfl rfl (Or.inl ⟨by rfl, ?wy20⟩) ?wr20
        case wy20 => (intro w' hw'; obtain ⟨c0, c1, c2, c3⟩ := kc.out w' hw'; go_simp; try with_reducible rfl)
        try simp only [Act.put, List.setIfInBounds_toArray, List.set_cons_zero, List.set_cons_succ]
        refine Walk.take (v := ?wv21) rfl rfl (Or.inl ⟨by rfl, ?wy21⟩) ?wr21
        case wy21 => (intro w' hw'; obtain ⟨c0, c1, c2, c3⟩ := kc.out w' hw'; go_simp; try with_reducible rfl)
        try simp only [Act.put, List.setIfInBounds_toArray, List.set_cons_zero, List.set_cons_succ]
        refine Walk.take (v := ?wv22) rfl rfl (Or.inl ⟨by rfl, ?wy22⟩) ?wr22
        case wy22 => (intro w' hw'; obtain ⟨c0, c1, c2, c3⟩ := kc.out w' hw'; go_simp; try with_reducible rfl)
        try simp only [Act.put, List.setIfInBounds_toArray, List.set_cons_zero, List.set_cons_succ]
        refine Walk.take (v := ?wv23) rfl rfl (Or.inl ⟨by rfl, ?wy23⟩) ?wr23
        case wy23 => (intro w' hw'; obtain ⟨c0, c1, c2, c3⟩ := kc.out w' hw'; go_simp; try with_reducible rfl)
        try simp only [Act.put, List.setIfInBounds_toArray, List.set_cons_zero, List.set_cons_succ]
        refine Walk.take (v := ?wv24) rfl rfl (Or.inl ⟨by rfl, ?wy24⟩) ?wr24
        case wy24 => (intro w' hw'; obtain ⟨c0, c1, c2, c3⟩ := kc.out w' hw'; go_simp; try with_reducible rfl)
        try simp only [Act.put, List.setIfInBounds_toArray, List.set_cons_zero, List.set_cons_succ]
        refine Walk.do rfl rfl (by rfl) (fun W1 G1 F1 => ?ws25) (fun v hv => ?wr25)
        case ws25 =>
          obtain ⟨c0, c1, c2, c3⟩ := kc.out W1 G1
          refine doesAt_enter (f := 69) (args := #[.agg #[.bool t.coef.neg, .slice t.coef.num.A t.coef.num.n t.coef.num.c, .slice t.coef.den.A t.coef.den.n t.coef.den.c]]) (by go_simp; try (first | with_reducible rfl | rfl)) ?_
          refine (rvalid_any W1 t.coef q.2 (HT.out.coef.gr (GT.out.trans G1.of_drew)) HE.out.2.2.2 (Nat.le_trans HL2.out.num (by decide)) (Nat.lt_of_le_of_lt HL2.out.den (by decide))).mono ?_
          rintro e w' ⟨rfl, G⟩
          exact ⟨_, rfl, G, rfl⟩
        obtain ⟨_, -, -, rfl⟩ := hv
        try simp only [Act.put, List.setIfInBounds_toArray, List.set_cons_zero, List.set_cons_succ]
        refine Walk.take (v := ?wv26) rfl rfl (Or.inl ⟨by rfl, ?wy26⟩) ?wr26
        case wy26 => (intro w' hw'; obtain ⟨c0, c1, c2, c3⟩ := kc.out w' hw'; go_simp; try with_reducible rfl)
        try simp only [Act.put, List.setIfInBounds_toArray, List.set_cons_zero, List.set_cons_succ]
        refine Walk.take (v := ?wv27) rfl rfl (Or.inl ⟨by rfl, ?wy27⟩) ?wr27
        case wy27 => (intro w' hw'; obtain ⟨c0, c1, c2, c3⟩ := kc.out w' hw'; go_simp; try with_reducible rfl)
        try simp only [Act.put, List.setIfInBounds_toArray, List.set_cons_zero, List.set_cons_succ]
        refine Walk.done (fun W1 G1 F1 => ?_)
        clear F1
        have kc1 := kc.out W1 G1
        clear kc c0 c1 c2 c3
        obtain ⟨c0, c1, c2, c3⟩ := kc1
        refine wpAny_end (by kernel_rfl) ?_
        have HG4 := Lib.hid (HG2.out.trans (GT.out.trans G1.of_drew))
        have DP4 := Lib.hid ((GT.out.trans G1.of_drew).bk DP.out)
        clear G1 c0 c1 c2 c3 a0
        go_wp2
        go_roundw
        · exact ⟨k + 1, by go_num, by omega, HG4, DP4⟩
        · simp [intOf]; omega
      · obtain ⟨j, hj⟩ : ∃ j, k = j + 1 := ⟨k - 1, by omega⟩
        have n3 : decide ((0 : Int) < (k : Int)) = true := by simp; omega
        have n6 : decide (0 < k) = true := by simp; omega
        clear hk0
        obtain ⟨p, hp⟩ : ∃ p, x.terms[j]? = some p := ⟨_, List.getElem?_eq_getElem (by rw [HV.out]; omega)⟩
        obtain ⟨s, bd, hs, hB, e0, _, _, _⟩ := (HF.out.terms.gr HG2.out).at hp
        obtain rfl : ad = bd := by simpa using hB
        have n4 : decide (t.var ≤ s.var) = false := by rw [HT.out.var, hs.var]; have := HX.out.asc j p q hp (hj ▸ HQ.out); simp; omega
        have n5 : IntKind.i64.wrap ((k : Int) - 1) = (j : Int) := by rw [IntWalk.i64_in _ (by omega)]; omega
        have hjn : (j : Int) < (xn : Int) := by omega
        have HJ := Lib.hid hj
        clear hj
        clear hp hs hB
        go_wp2_with fail
        obtain ⟨B1, GB⟩ := made1 wr 104 #[.int .i64 t.var, .bool t.coef.neg, .slice t.coef.num.A t.coef.num.n t.coef.num.c, .slice t.coef.den.A t.coef.den.n t.coef.den.c]
        have GT := Lib.hid GB
        obtain ⟨c0, c1, c2, c3⟩ := B1.c4
        replace a0 := GB.keep a0
        replace e0 := GB.keep e0
        clear B1 GB d0 d1 d2 d3 a1 a2 a3
        generalize wr.alloc (.cells #[.int .i64 t.var, .bool t.coef.neg, .slice t.coef.num.A t.coef.num.n t.coef.num.c, .slice t.coef.den.A t.coef.den.n t.coef.den.c] 104) = W3 at *
        generalize wr.heap.size = tb at *
        refine wp_region_any (by kernel_rfl) ?_
        have kc := Lib.hid (fun (W' : World) (G : Gr W3.drew W') => And.intro (G.keep c0) (And.intro (G.keep c1) (And.intro (G.keep c2) (And.intro (G.keep c3) (And.intro (G.keep e0) (G.keep a0))))))
        have hst : ∀ p ∈ ([(28, fun v _ => v = .int .i64 sg), (34, fun v _ => v = .bool true)] : List (Nat × (Value → World → Prop))), ∀ (u : Value) (wA0 wB0 : World), Gr W3.drew wA0 → Gr wA0 wB0 → p.2 u wA0 → p.2 u wB0 := by
          intro p hp u wA0 wB0 h0 G h
          simp only [List.mem_cons, List.not_mem_nil, or_false] at hp
          rcases hp with rfl | rfl
          · exact h
          · exact h
        refine wpAny_walk (m := 0) (last := #[true, true, true, true, true, true, true, true, true, true, true, true, true, true, true, true, true, true, true, true, true, true, true, true, true, true, true, true, true, true, true, true, true, true, true, true, true]) [0, 1, 2, 3, 4, 5, 6, 7, 8, 9, 10, 11, 12, 13, 14, 15, 16, 17, 18, 19, 20, 21, 22, 23, 24, 25, 26, 27, 28, 29, 30, 31, 32, 33, 34, 35, 36] [(28, fun v _ => v = .int .i64 sg), (34, fun v _ => v = .bool true)] (by kernel_rfl) (by decide) (by kernel_rfl) hst ?_
        clear hst
        refine Walk.take (v := ?wv28) rfl rfl (Or.inl ⟨by rfl, ?wy28⟩) ?wr28
        case wy28 => (intro w' hw'; obtain ⟨c0, c1, c2, c3, e0, a0⟩ := kc.out w' hw'; go_simp; try with_reducible rfl)
        try simp only [Act.put, List.setIfInBounds_toArray, List.set_cons_zero, List.set_cons_succ]
        refine Walk.take (v := ?wv29) rfl rfl (Or.inl ⟨by rfl, ?wy29⟩) ?wr29
        case wy29 => (intro w' hw'; obtain ⟨c0, c1, c2, c3, e0, a0⟩ := kc.out w' hw'; go_simp; try with_reducible rfl)
        try simp only [Act.put, List.setIfInBounds_toArray, List.set_cons_zero, List.set_cons_succ]
        refine Walk.take (v := ?wv30) rfl rfl (Or.inl ⟨by rfl, ?wy30⟩) ?wr30
        case wy30 => (intro w' hw'; obtain ⟨c0, c1, c2, c3, e0, a0⟩ := kc.out w' hw'; go_simp; try with_reducible rfl)
        try simp only [Act.put, List.setIfInBounds_toArray, List.set_cons_zero, List.set_cons_succ]
        refine Walk.take (v := ?wv31) rfl rfl (Or.inl ⟨by rfl, ?wy31⟩) ?wr31
        case wy31 => (intro w' hw'; obtain ⟨c0, c1, c2, c3, e0, a0⟩ := kc.out w' hw'; go_simp; try with_reducible rfl)
        try simp only [Act.put, List.setIfInBounds_toArray, List.set_cons_zero, List.set_cons_succ]
        refine Walk.take (v := ?wv32) rfl rfl (Or.inl ⟨by rfl, ?wy32⟩) ?wr32
        case wy32 => (intro w' hw'; obtain ⟨c0, c1, c2, c3, e0, a0⟩ := kc.out w' hw'; go_simp; try with_reducible rfl)
        try simp only [Act.put, List.setIfInBounds_toArray, List.set_cons_zero, List.set_cons_succ]
        refine Walk.take (v := ?wv33) rfl rfl (Or.inl ⟨by rfl, ?wy33⟩) ?wr33
        case wy33 => (intro w' hw'; obtain ⟨c0, c1, c2, c3, e0, a0⟩ := kc.out w' hw'; go_simp; try with_reducible rfl)
        try simp only [Act.put, List.setIfInBounds_toArray, List.set_cons_zero, List.set_cons_succ]
        refine Walk.take (v := ?wv34) rfl rfl (Or.inl ⟨by rfl, ?wy34⟩) ?wr34
        case wy34 => (intro w' hw'; obtain ⟨c0, c1, c2, c3, e0, a0⟩ := kc.out w' hw'; go_simp; try with_reducible rfl)
        try simp only [Act.put, List.setIfInBounds_toArray, List.set_cons_zero, List.set_cons_succ]
        refine Walk.take (v := ?wv35) rfl rfl (Or.inl ⟨by rfl, ?wy35⟩) ?wr35
        case wy35 => (intro w' hw'; obtain ⟨c0, c1, c2, c3, e0, a0⟩ := kc.out w' hw'; go_simp; try with_reducible rfl)
        try simp only [Act.put, List.setIfInBounds_toArray, List.set_cons_zero, List.set_cons_succ]
        refine Walk.take (v := ?wv36) rfl rfl (Or.inl ⟨by rfl, ?wy36⟩) ?wr36
        case wy36 => (intro w' hw'; obtain ⟨c0, c1, c2, c3, e0, a0⟩ := kc.out w' hw'; go_simp; try with_reducible rfl)
        try simp only [Act.put, List.setIfInBounds_toArray, List.set_cons_zero, List.set_cons_succ]
        refine Walk.take (v := ?wv37) rfl rfl (Or.inl ⟨by rfl, ?wy37⟩) ?wr37
        case wy37 => (intro w' hw'; obtain ⟨c0, c1, c2, c3, e0, a0⟩ := kc.out w' hw'; go_simp; try with_reducible rfl)
        try simp only [Act.put, List.setIfInBounds_toArray, List.set_cons_zero, List.set_cons_succ]
        refine Walk.take (v := ?wv38) rfl rfl (Or.inl ⟨by rfl, ?wy38⟩) ?wr38
        case wy38 => (intro w' hw'; obtain ⟨c0, c1, c2, c3, e0, a0⟩ := kc.out w' hw'; go_simp; try with_reducible rfl)
        try simp only [Act.put, List.setIfInBounds_toArray, List.set_cons_zero, List.set_cons_succ]
        refine Walk.take (v := ?wv39) rfl rfl (Or.inl ⟨by rfl, ?wy39⟩) ?wr39
        case wy39 => (intro w' hw'; obtain ⟨c0, c1, c2, c3, e0, a0⟩ := kc.out w' hw'; go_simp; try with_reducible rfl)
        try simp only [Act.put, List.setIfInBounds_toArray, List.set_cons_zero, List.set_cons_succ]
        refine Walk.take (v := ?wv40) rfl rfl (Or.inl ⟨by rfl, ?wy40⟩) ?wr40
        case wy40 => (intro w' hw'; obtain ⟨c0, c1, c2, c3, e0, a0⟩ := kc.out w' hw'; go_simp; try with_reducible rfl)
        try simp only [Act.put, List.setIfInBounds_toArray, List.set_cons_zero, List.set_cons_succ]
        refine Walk.take (v := ?wv41) rfl rfl (Or.inl ⟨by rfl, ?wy41⟩) ?wr41
        case wy41 => (intro w' hw'; obtain ⟨c0, c1, c2, c3, e0, a0⟩ := kc.out w' hw'; go_simp; try with_reducible rfl)
        try simp only [Act.put, List.setIfInBounds_toArray, List.set_cons_zero, List.set_cons_succ]
        refine Walk.take (v := ?wv42) rfl rfl (Or.inl ⟨by rfl, ?wy42⟩) ?wr42
        case wy42 => (intro w' hw'; obtain ⟨c0, c1, c2, c3, e0, a0⟩ := kc.out w' hw'; go_simp; try with_reducible rfl)
        try simp only [Act.put, List.setIfInBounds_toArray, List.set_cons_zero, List.set_cons_succ]
        refine Walk.take (v := ?wv43) rfl rfl (Or.inl ⟨by rfl, ?wy43⟩) ?wr43
        case wy43 => (intro w' hw'; obtain ⟨c0, c1, c2, c3, e0, a0⟩ := kc.out w' hw'; go_simp; try with_reducible rfl)
        try simp only [Act.put, List.setIfInBounds_toArray, List.set_cons_zero, List.set_cons_succ]
        refine Walk.take (v := ?wv44) rfl rfl (Or.inl ⟨by rfl, ?wy44⟩) ?wr44
        case wy44 => (intro w' hw'; obtain ⟨c0, c1, c2, c3, e0, a0⟩ := kc.out w' hw'; go_simp; try with_reducible rfl)
        try simp only [Act.put, List.setIfInBounds_toArray, List.set_cons_zero, List.set_cons_succ]
        refine Walk.take (v := ?wv45) rfl rfl (Or.inl ⟨by rfl, ?wy45⟩) ?wr45
        case wy45 => (intro w' hw'; obtain ⟨c0, c1, c2, c3, e0, a0⟩ := kc.out w' hw'; go_simp; try with_reducible rfl)
        try simp only [Act.put, List.setIfInBounds_toArray, List.set_cons_zero, List.set_cons_succ]
        refine Walk.take (v := ?wv46) rfl rfl (Or.inl ⟨by rfl, ?wy46⟩) ?wr46
        case wy46 => (intro w' hw'; obtain ⟨c0, c1, c2, c3, e0, a0⟩ := kc.out w' hw'; go_simp; try with_reducible rfl)
        try simp only [Act.put, List.setIfInBounds_toArray, List.set_cons_zero, List.set_cons_succ]
        refine Walk.take (v := ?wv47) rfl rfl (Or.inl ⟨by rfl, ?wy47⟩) ?wr47
        case wy47 => (intro w' hw'; obtain ⟨c0, c1, c2, c3, e0, a0⟩ := kc.out w' hw'; go_simp; try with_reducible rfl)
        try simp only [Act.put, List.setIfInBounds_toArray, List.set_cons_zero, List.set_cons_succ]
        refine Walk.take (v := ?wv48) rfl rfl (Or.inl ⟨by rfl, ?wy48⟩) ?wr48
        case wy48 => (intro w' hw'; obtain ⟨c0, c1, c2, c3, e0, a0⟩ := kc.out w' hw'; go_simp; try with_reducible rfl)
        try simp only [Act.put, List.setIfInBounds_toArray, List.set_cons_zero, List.set_cons_succ]
        refine Walk.take (v := ?wv49) rfl rfl (Or.inl ⟨by rfl, ?wy49⟩) ?wr49
        case wy49 => (intro w' hw'; obtain ⟨c0, c1, c2, c3, e0, a0⟩ := kc.out w' hw'; go_simp; try with_reducible rfl)
        try simp only [Act.put, List.setIfInBounds_toArray, List.set_cons_zero, List.set_cons_succ]
        refine Walk.take (v := ?wv50) rfl rfl (Or.inl ⟨by rfl, ?wy50⟩) ?wr50
        case wy50 => (intro w' hw'; obtain ⟨c0, c1, c2, c3, e0, a0⟩ := kc.out w' hw'; go_simp; try with_reducible rfl)
        try simp only [Act.put, List.setIfInBounds_toArray, List.set_cons_zero, List.set_cons_succ]
        refine Walk.take (v := ?wv51) rfl rfl (Or.inl ⟨by rfl, ?wy51⟩) ?wr51
        case wy51 => (intro w' hw'; obtain ⟨c0, c1, c2, c3, e0, a0⟩ := kc.out w' hw'; go_simp; try with_reducible rfl)
        try simp only [Act.put, List.setIfInBounds_toArray, List.set_cons_zero, List.set_cons_succ]
        refine Walk.take (v := ?wv52) rfl rfl (Or.inl ⟨by rfl, ?wy52⟩) ?wr52
        case wy52 => (intro w' hw'; obtain ⟨c0, c1, c2, c3, e0, a0⟩ := kc.out w' hw'; go_simp; try with_reducible rfl)
        try simp only [Act.put, List.setIfInBounds_toArray, List.set_cons_zero, List.set_cons_succ]
        refine Walk.take (v := ?wv53) rfl rfl (Or.inl ⟨by rfl, ?wy53⟩) ?wr53
        case wy53 => (intro w' hw'; obtain ⟨c0, c1, c2, c3, e0, a0⟩ := kc.out w' hw'; go_simp; try with_reducible rfl)
        try simp only [Act.put, List.setIfInBounds_toArray, List.set_cons_zero, List.set_cons_succ]
        refine Walk.take (v := ?wv54) rfl rfl (Or.inl ⟨by rfl, ?wy54⟩) ?wr54
        case wy54 => (intro w' hw'; obtain ⟨c0, c1, c2, c3, e0, a0⟩ := kc.out w' hw'; go_simp; try with_reducible rfl)
        try simp only [Act.put, List.setIfInBounds_toArray, List.set_cons_zero, List.set_cons_succ]
        refine Walk.take (v := ?wv55) rfl rfl (Or.inl ⟨by rfl, ?wy55⟩) ?wr55
        case wy55 => (intro w' hw'; obtain ⟨c0, c1, c2, c3, e0, a0⟩ := kc.out w' hw'; go_simp; try with_reducible rfl)
        try simp only [Act.put, List.setIfInBounds_toArray, List.set_cons_zero, List.set_cons_succ]
        refine Walk.do rfl rfl (by rfl) (fun W1 G1 F1 => ?ws56) (fun v hv => ?wr56)
        case ws56 =>
          obtain ⟨c0, c1, c2, c3, e0, a0⟩ := kc.out W1 G1
          refine doesAt_enter (f := 68) (args := #[.agg #[.bool t.coef.neg, .slice t.coef.num.A t.coef.num.n t.coef.num.c, .slice t.coef.den.A t.coef.den.n t.coef.den.c]]) (by go_simp; try (first | with_reducible rfl | rfl)) ?_
          refine ((show Calls _ _ _ _ (fun e w' => e = .returned (.int .i64 sg) ∧ Gr W1 w') from by rw [← HSG.out]; exact sign_any W1 t.coef q.2 (HT.out.coef.gr (GT.out.trans G1.of_drew)) (Nat.le_trans HL2.out.num (by decide)))).mono ?_
          rintro e w' ⟨rfl, G⟩
          exact ⟨_, rfl, G, rfl⟩
        obtain ⟨_, -, -, rfl⟩ := hv
        try simp only [Act.put, List.setIfInBounds_toArray, List.set_cons_zero, List.set_cons_succ]
        refine Walk.take (v := ?wv57) rfl rfl (Or.inl ⟨by rfl, ?wy57⟩) ?wr57
        case wy57 => (intro w' hw'; obtain ⟨c0, c1, c2, c3, e0, a0⟩ := kc.out w' hw'; go_simp; try with_reducible rfl)
        try simp only [Act.put, List.setIfInBounds_toArray, List.set_cons_zero, List.set_cons_succ]
        refine Walk.take (v := ?wv58) rfl rfl (Or.inl ⟨by rfl, ?wy58⟩) ?wr58
        case wy58 => (intro w' hw'; obtain ⟨c0, c1, c2, c3, e0, a0⟩ := kc.out w' hw'; go_simp; try with_reducible rfl)
        try simp only [Act.put, List.setIfInBounds_toArray, List.set_cons_zero, List.set_cons_succ]
        refine Walk.take (v := ?wv59) rfl rfl (Or.inl ⟨by rfl, ?wy59⟩) ?wr59
        case wy59 => (intro w' hw'; obtain ⟨c0, c1, c2, c3, e0, a0⟩ := kc.out w' hw'; go_simp; try with_reducible rfl)
        try simp only [Act.put, List.setIfInBounds_toArray, List.set_cons_zero, List.set_cons_succ]
        refine Walk.take (v := ?wv60) rfl rfl (Or.inl ⟨by rfl, ?wy60⟩) ?wr60
        case wy60 => (intro w' hw'; obtain ⟨c0, c1, c2, c3, e0, a0⟩ := kc.out w' hw'; go_simp; try with_reducible rfl)
        try simp only [Act.put, List.setIfInBounds_toArray, List.set_cons_zero, List.set_cons_succ]
        refine Walk.take (v := ?wv61) rfl rfl (Or.inl ⟨by rfl, ?wy61⟩) ?wr61
        case wy61 => (intro w' hw'; obtain ⟨c0, c1, c2, c3, e0, a0⟩ := kc.out w' hw'; go_simp; try with_reducible rfl)
        try simp only [Act.put, List.setIfInBounds_toArray, List.set_cons_zero, List.set_cons_succ]
        refine Walk.do rfl rfl (by rfl) (fun W1 G1 F1 => ?ws62) (fun v hv => ?wr62)
        case ws62 =>
          obtain ⟨c0, c1, c2, c3, e0, a0⟩ := kc.out W1 G1
          refine doesAt_enter (f := 69) (args := #[.agg #[.bool t.coef.neg, .slice t.coef.num.A t.coef.num.n t.coef.num.c, .slice t.coef.den.A t.coef.den.n t.coef.den.c]]) (by go_simp; try (first | with_reducible rfl | rfl)) ?_
          refine (rvalid_any W1 t.coef q.2 (HT.out.coef.gr (GT.out.trans G1.of_drew)) HE.out.2.2.2 (Nat.le_trans HL2.out.num (by decide)) (Nat.lt_of_le_of_lt HL2.out.den (by decide))).mono ?_
          rintro e w' ⟨rfl, G⟩
          exact ⟨_, rfl, G, rfl⟩
        obtain ⟨_, -, -, rfl⟩ := hv
        try simp only [Act.put, List.setIfInBounds_toArray, List.set_cons_zero, List.set_cons_succ]
        refine Walk.take (v := ?wv63) rfl rfl (Or.inl ⟨by rfl, ?wy63⟩) ?wr63
        case wy63 => (intro w' hw'; obtain ⟨c0, c1, c2, c3, e0, a0⟩ := kc.out w' hw'; go_simp; try with_reducible rfl)
        try simp only [Act.put, List.setIfInBounds_toArray, List.set_cons_zero, List.set_cons_succ]
        refine Walk.take (v := ?wv64) rfl rfl (Or.inl ⟨by rfl, ?wy64⟩) ?wr64
        case wy64 => (intro w' hw'; obtain ⟨c0, c1, c2, c3, e0, a0⟩ := kc.out w' hw'; go_simp; try with_reducible rfl)
        try simp only [Act.put, List.setIfInBounds_toArray, List.set_cons_zero, List.set_cons_succ]
        refine Walk.done (fun W1 G1 F1 => ?_)
        clear F1
        have kc1 := kc.out W1 G1
        clear kc c0 c1 c2 c3 e0 a0
        obtain ⟨c0, c1, c2, c3, e0, a0⟩ := kc1
        refine wpAny_end (by kernel_rfl) ?_
        have HG4 := Lib.hid (HG2.out.trans (GT.out.trans G1.of_drew))
        have DP4 := Lib.hid ((GT.out.trans G1.of_drew).bk DP.out)
        clear G1 c0 c1 c2 c3 e0 a0
        go_wp2
        go_roundw
        · exact ⟨k + 1, by go_num, by omega, HG4, DP4⟩
        · simp [intOf]; omega
    · obtain rfl : k = xn := by omega
      have HC := Lib.hid (rvalid_any wr fc x.const (HF.out.const.gr HG2.out) HX.out.const (Nat.le_trans HK.out.num (by decide)) (Nat.lt_of_le_of_lt HK.out.den (by decide)))
      go_wp2_with fail
      refine HC.out.mono ?_
      rintro e w1 ⟨rfl, G⟩
      have HG3 := Lib.hid (HG2.out.trans G)
      clear G
      go_wp2
      go_ret
      exact ⟨rfl, HG3.out⟩
set_option maxRecDepth 100000 in
set_option maxHeartbeats 4000000 in
theorem r7valid_any (w : World) (f : Fv) (x : Fm) (vars : Nat) (hf : f.Is w x) (hx : x.Ok vars) (hl : ∀ t ∈ x.terms, t.2.Sm) (hk : x.const.Sm) :
    Calls Tryz.prog 41 #[f.v, .int .i64 vars] w fun e w' => e = .returned (.bool true) ∧ Gr w w' := by
  obtain ⟨⟨xA, xn, xc⟩, fc⟩ := f
  have hvn : x.terms.length = xn := hf.terms.len
  have hmx : xn ≤ 9223372036854775807 := (by obtain ⟨_, h1, _⟩ := hf.terms; exact Nat.le_trans h1.cap h1.max)
  obtain ⟨B1, G⟩ := made1 w 43 (#[.slice xA xn xc, .bool fc.neg, .slice fc.num.A fc.num.n fc.num.c, .slice fc.den.A fc.den.n fc.den.c])
  have HG := Lib.hid G
  have D_p := Lib.hid B1
  clear G B1
  have HF := Lib.hid hf
  have HX := Lib.hid hx
  have HV := Lib.hid hvn
  have HM := Lib.hid hmx
  have HL := Lib.hid hl
  have HK := Lib.hid hk
  clear hf hx hvn hmx hl hk
  obtain ⟨a0, a1, a2, a3⟩ := D_p.out.c4
  simp only [Rv.v, Fv.v] at *
  go_enter Tryz.func41, Tryz.ntmps41
  go_wp2_with fail
  generalize hW : w.alloc (.cells #[.slice xA xn xc, .bool fc.neg, .slice fc.num.A fc.num.n fc.num.c, .slice fc.den.A fc.den.n fc.den.c] 43) = W at *
  clear hW
  have N_p : Hid (w.heap.size ≤ w.heap.size) := (by show w.heap.size ≤ w.heap.size; omega)
  go_loopw [5] (fun i wr => ∃ k : Nat, i = .int .i64 k ∧ k ≤ xn ∧ Hid (Gr w wr) ∧ Hid (Bk wr w.heap.size 43 #[.slice xA xn xc, .bool fc.neg, .slice fc.num.A fc.num.n fc.num.c, .slice fc.den.A fc.den.n fc.den.c])) (fun i _ => xn - (intOf i).toNat)
  case atStart => exact ⟨0, rfl, Nat.zero_le _, HG, D_p⟩
  case round =>
    obtain ⟨k, rfl, hk, HG2, DP⟩ := hrel
    clear HG D_p a0 a1 a2 a3
    obtain ⟨a0, a1, a2, a3⟩ := DP.out.c4
    by_cases hkn : k < xn
    · have hkl : k < x.terms.length := by rw [HV.out]; exact hkn
      obtain ⟨q, hq⟩ : ∃ q, x.terms[k]? = some q := ⟨_, List.getElem?_eq_getElem hkl⟩
      obtain ⟨t, ad, ht, hA, d0, d1, d2, d3⟩ := (HF.out.terms.gr HG2.out).at hq
      simp only at hA
      subst hA
      have HT := Lib.hid ht
      have HE := Lib.hid (HX.out.each q (List.mem_of_getElem? hq))
      have HL2 := Lib.hid (HL.out q (List.mem_of_getElem? hq))
      have HQ := Lib.hid hq
      have n0 : decide (t.var < 0) = false := by rw [HT.out.var]; have := HE.out.1; simp; omega
      have n1 : decide ((vars : Int) ≤ t.var) = false := by rw [HT.out.var]; have := HE.out.2.1; simp; omega
      have n2 : (isg q.2.neg q.2.num == 0) = false := by have := HE.out.2.2.1; unfold isg; rw [if_neg this]; cases q.2.neg <;> rfl
      have hm9 : k < 9223372036854775807 := Nat.lt_of_lt_of_le hkn HM.out
      generalize hsg : isg q.2.neg q.2.num = sg at *
      have HSG := Lib.hid hsg
      clear hq ht hsg hkl
      by_cases hk0 : k = 0
      · have n3 : decide ((0 : Int) < (k : Int)) = false := by simp [hk0]
        have n6 : decide (0 < k) = false := by simp [hk0]
        clear hk0
        go_wp2_with fail
        obtain ⟨B1, GB⟩ := made1 wr 104 #[.int .i64 t.var, .bool t.coef.neg, .slice t.coef.num.A t.coef.num.n t.coef.num.c, .slice t.coef.den.A t.coef.den.n t.coef.den.c]
        have GT := Lib.hid GB
        obtain ⟨c0, c1, c2, c3⟩ := B1.c4
        replace a0 := GB.keep a0
        clear B1 GB d0 d1 d2 d3 a1 a2 a3
        generalize wr.alloc (.cells #[.int .i64 t.var, .bool t.coef.neg, .slice t.coef.num.A t.coef.num.n t.coef.num.c, .slice t.coef.den.A t.coef.den.n t.coef.den.c] 104) = W3 at *
        generalize wr.heap.size = tb at *
        refine wp_region_any (by kernel_rfl) ?_
        have kc := Lib.hid (fun (W' : World) (G : Gr W3.drew W') => And.intro (G.keep c0) (And.intro (G.keep c1) (And.intro (G.keep c2) (G.keep c3))))
        have hst : ∀ p ∈ ([(28, fun v _ => v = .int .i64 sg), (34, fun v _ => v = .bool true)] : List (Nat × (Value → World → Prop))), ∀ (u : Value) (wA0 wB0 : World), Gr W3.drew wA0 → Gr wA0 wB0 → p.2 u wA0 → p.2 u wB0 := by
          intro p hp u wA0 wB0 h0 G h
          simp only [List.mem_cons, List.not_mem_nil, or_false] at hp
          rcases hp with rfl | rfl
          · exact h
          · exact h
        refine wpAny_walk (m := 0) (last := #[true, true, true, true, true, true, true, true, true, true, true, true, true, true, true, true, true, true, true, true, true, true, true, true, true, true, true, true, true, true, true, true, true, true, true, true, true]) [0, 1, 2, 3, 4, 5, 6, 7, 8, 9, 10, 11, 12, 13, 14, 15, 16, 17, 18, 19, 20, 21, 22, 23, 24, 25, 26, 27, 28, 29, 30, 31, 32, 33, 34, 35, 36] [(28, fun v _ => v = .int .i64 sg), (34, fun v _ => v = .bool true)] (by kernel_rfl) (by decide) (by kernel_rfl) hst ?_
        clear hst
        refine Walk.take (v := ?wv65) rfl rfl (Or.inl ⟨by rfl, ?wy65⟩) ?wr65
        case wy65 => (intro w' hw'; obtain ⟨c0, c1, c2, c3⟩ := kc.out w' hw'; go_simp; try with_reducible rfl)
        try simp only [Act.put, List.setIfInBounds_toArray, List.set_cons_zero, List.set_cons_succ]
        refine Walk.take (v := ?wv66) rfl rfl (Or.inl ⟨by rfl, ?wy66⟩) ?wr66
        case wy66 => (intro w' hw'; obtain ⟨c0, c1, c2, c3⟩ := kc.out w' hw'; go_simp; try with_reducible rfl)
        try simp only [Act.put, List.setIfInBounds_toArray, List.set_cons_zero, List.set_cons_succ]
        refine Walk.take (v := ?wv67) rfl rfl (Or.inl ⟨by rfl, ?wy67⟩) ?wr67
        case wy67 => (intro w' hw'; obtain ⟨c0, c1, c2, c3⟩ := kc.out w' hw'; go_simp; try with_reducible rfl)
        try simp only [Act.put, List.setIfInBounds_toArray, List.set_cons_zero, List.set_cons_succ]
        refine Walk.take (v := ?wv68) rfl rfl (Or.inl ⟨by rfl, ?wy68⟩) ?wr68
        case wy68 => (intro w' hw'; obtain ⟨c0, c1, c2, c3⟩ := kc.out w' hw'; go_simp; try with_reducible rfl)
        try simp only [Act.put, List.setIfInBounds_toArray, List.set_cons_zero, List.set_cons_succ]
        refine Walk.take (v := ?wv69) rfl rfl (Or.inl ⟨by rfl, ?wy69⟩) ?wr69
        case wy69 => (intro w' hw'; obtain ⟨c0, c1, c2, c3⟩ := kc.out w' hw'; go_simp; try with_reducible rfl)
        try simp only [Act.put, List.setIfInBounds_toArray, List.set_cons_zero, List.set_cons_succ]
        refine Walk.take (v := ?wv70) rfl rfl (Or.inl ⟨by rfl, ?wy70⟩) ?wr70
        case wy70 => (intro w' hw'; obtain ⟨c0, c1, c2, c3⟩ := kc.out w' hw'; go_simp; try with_reducible rfl)
        try simp only [Act.put, List.setIfInBounds_toArray, List.set_cons_zero, List.set_cons_succ]
        refine Walk.take (v := ?wv71) rfl rfl (Or.inl ⟨by rfl, ?wy71⟩) ?wr71
        case wy71 => (intro w' hw'; obtain ⟨c0, c1, c2, c3⟩ := kc.out w' hw'; go_simp; try with_reducible rfl)
        try simp only [Act.put, List.setIfInBounds_toArray, List.set_cons_zero, List.set_cons_succ]
        refine Walk.take (v := ?wv72) rfl rfl (Or.inl ⟨by rfl, ?wy72⟩) ?wr72
        case wy72 => (intro w' hw'; obtain ⟨c0, c1, c2, c3⟩ := kc.out w' hw'; go_simp; try with_reducible rfl)
        try simp only [Act.put, List.setIfInBounds_toArray, List.set_cons_zero, List.set_cons_succ]
        refine Walk.take (v := ?wv73) rfl rfl (Or.inl ⟨by rfl, ?wy73⟩) ?wr73
        case wy73 => (intro w' hw'; obtain ⟨c0, c1, c2, c3⟩ := kc.out w' hw'; go_simp; try with_reducible rfl)
        try simp only [Act.put, List.setIfInBounds_toArray, List.set_cons_zero, List.set_cons_succ]
        refine Walk.take (v := ?wv74) rfl rfl (Or.inl ⟨by rfl, ?wy74⟩) ?wr74
        case wy74 => (intro w' hw'; obtain ⟨c0, c1, c2, c3⟩ := kc.out w' hw'; go_simp; try with_reducible rfl)
        try simp only [Act.put, List.setIfInBounds_toArray, List.set_cons_zero, List.set_cons_succ]
        refine Walk.take (v := ?wv75) rfl rfl (Or.inl ⟨by rfl, ?wy75⟩) ?wr75
        case wy75 => (intro w' hw'; obtain ⟨c0, c1, c2, c3⟩ := kc.out w' hw'; go_simp; try with_reducible rfl)
        try simp only [Act.put, List.setIfInBounds_toArray, List.set_cons_zero, List.set_cons_succ]
        refine Walk.take (v := ?wv76) rfl rfl (Or.inl ⟨by rfl, ?wy76⟩) ?wr76
        case wy76 => (intro w' hw'; obtain ⟨c0, c1, c2, c3⟩ := kc.out w' hw'; go_simp; try with_reducible rfl)
        try simp only [Act.put, List.setIfInBounds_toArray, List.set_cons_zero, List.set_cons_succ]
        refine Walk.take (v := ?wv77) rfl rfl (Or.inl ⟨by rfl, ?wy77⟩) ?wr77
        case wy77 => (intro w' hw'; obtain ⟨c0, c1, c2, c3⟩ := kc.out w' hw'; go_simp; try with_reducible rfl)
        try simp only [Act.put, List.setIfInBounds_toArray, List.set_cons_zero, List.set_cons_succ]
        refine Walk.take (v := undef) rfl rfl (Or.inr ⟨by rfl, rfl⟩) ?_
        try simp only [Act.put, List.setIfInBounds_toArray, List.set_cons_zero, List.set_cons_succ]
        refine Walk.take (v := undef) rfl rfl (Or.inr ⟨by rfl, rfl⟩) ?_
        try simp only [Act.put, List.setIfInBounds_toArray, List.set_cons_zero, List.set_cons_succ]
        refine Walk.take (v := undef) rfl rfl (Or.inr ⟨by rfl, rfl⟩) ?_
        try simp only [Act.put, List.setIfInBounds_toArray, List.set_cons_zero, List.set_cons_succ]
        refine Walk.take (v := undef) rfl rfl (Or.inr ⟨by rfl, rfl⟩) ?_
        try simp only [Act.put, List.setIfInBounds_toArray, List.set_cons_zero, List.set_cons_succ]
        refine Walk.take (v := undef) rfl rfl (Or.inr ⟨by rfl, rfl⟩) ?_
        try simp only [Act.put, List.setIfInBounds_toArray, List.set_cons_zero, List.set_cons_succ]
        refine Walk.take (v := undef) rfl rfl (Or.inr ⟨by rfl, rfl⟩) ?_
        try simp only [Act.put, List.setIfInBounds_toArray, List.set_cons_zero, List.set_cons_succ]
        refine Walk.take (v := undef) rfl rfl (Or.inr ⟨by rfl, rfl⟩) ?_
        try simp only [Act.put, List.setIfInBounds_toArray, List.set_cons_zero, List.set_cons_succ]
        refine Walk.take (v := undef) rfl rfl (Or.inr ⟨by rfl, rfl⟩) ?_
        try simp only [Act.put, List.setIfInBounds_toArray, List.set_cons_zero, List.set_cons_succ]
        refine Walk.take (v := undef) rfl rfl (Or.inr ⟨by rfl, rfl⟩) ?_
        try simp only [Act.put, List.setIfInBounds_toArray, List.set_cons_zero, List.set_cons_succ]
        refine Walk.take (v := undef) rfl rfl (Or.inr ⟨by rfl, rfl⟩) ?_
        try simp only [Act.put, List.setIfInBounds_toArray, List.set_cons_zero, List.set_cons_succ]
        refine Walk.take (v := ?wv78) rfl rfl (Or.inl ⟨by rfl, ?wy78⟩) ?wr78
        case wy78 => (intro w' hw'; obtain ⟨c0, c1, c2, c3⟩ := kc.out w' hw'; go_simp; try with_reducible rfl)
        try simp only [Act.put, List.setIfInBounds_toArray, List.set_cons_zero, List.set_cons_succ]
        refine Walk.take (v := ?wv79) rfl rfl (Or.inl ⟨by rfl, ?wy79⟩) ?wr79
        case wy79 => (intro w' hw'; obtain ⟨c0, c1, c2, c3⟩ := kc.out w' hw'; go_simp; try with_reducible rfl)
        try simp only [Act.put, List.setIfInBounds_toArray, List.set_cons_zero, List.set_cons_succ]
        refine Walk.take (v := ?wv80) rfl rfl (Or.inl ⟨by rfl, ?wy80⟩) ?wr80
        case wy80 => (intro w' hw'; obtain ⟨c0, c1, c2, c3⟩ := kc.out w' hw'; go_simp; try with_reducible rfl)
        try simp only [Act.put, List.setIfInBounds_toArray, List.set_cons_zero, List.set_cons_succ]
        refine Walk.take (v := ?wv81) rfl rfl (Or.inl ⟨by rfl, ?wy81⟩) ?wr81
        case wy81 => (intro w' hw'; obtain ⟨c0, c1, c2, c3⟩ := kc.out w' hw'; go_simp; try with_reducible rfl)
        try simp only [Act.put, List.setIfInBounds_toArray, List.set_cons_zero, List.set_cons_succ]
        refine Walk.take (v := ?wv82) rfl rfl (Or.inl ⟨by rfl, ?wy82⟩) ?wr82
        case wy82 => (intro w' hw'; obtain ⟨c0, c1, c2, c3⟩ := kc.out w' hw'; go_simp; try with_reducible rfl)
        try simp only [Act.put, List.setIfInBounds_toArray, List.set_cons_zero, List.set_cons_succ]
        refine Walk.do rfl rfl (by rfl) (fun W1 G1 F1 => ?ws83) (fun v hv => ?wr83)
        case ws83 =>
          obtain ⟨c0, c1, c2, c3⟩ := kc.out W1 G1
          refine doesAt_enter (f := 73) (args := #[.agg #[.bool t.coef.neg, .slice t.coef.num.A t.coef.num.n t.coef.num.c, .slice t.coef.den.A t.coef.den.n t.coef.den.c]]) (by go_simp; try (first | with_reducible rfl | rfl)) ?_
          refine ((show Calls _ _ _ _ (fun e w' => e = .returned (.int .i64 sg) ∧ Gr W1 w') from by rw [← HSG.out]; exact rsign_any W1 t.coef q.2 (HT.out.coef.gr (GT.out.trans G1.of_drew)) (Nat.le_trans HL2.out.lo.num (by decide)))).mono ?_
          rintro e w' ⟨rfl, G⟩
          exact ⟨_, rfl, G, rfl⟩
        obtain ⟨_, -, -, rfl⟩ := hv
        try simp only [Act.put, List.setIfInBounds_toArray, List.set_cons_zero, List.set_cons_succ]
        refine Walk.take (v := ?wv84) rfl rfl (Or.inl ⟨by rfl, ?wy84⟩) ?wr84
        case wy84 => (intro w' hw'; obtain ⟨c0, c1, c2, c3⟩ := kc.out w' hw'; go_simp; try with_reducible rfl)
        try simp only [Act.put, List.setIfInBounds_toArray, List.set_cons_zero, List.set_cons_succ]
        refine Walk.take (v := ?wv85) rfl rfl (Or.inl ⟨by rfl, ?wy85⟩) ?wr85
        case wy85 => (intro w' hw'; obtain ⟨c0, c1, c2, c3⟩ := kc.out w' hw'; go_simp; try with_reducible rfl)
        try simp only [Act.put, List.setIfInBounds_toArray, List.set_cons_zero, List.set_cons_succ]
        refine Walk.take (v := ?wv86) rfl rfl (Or.inl ⟨by rfl, ?wy86⟩) ?wr86
        case wy86 => (intro w' hw'; obtain ⟨c0, c1, c2, c3⟩ := kc.out w' hw'; go_simp; try with_reducible rfl)
        try simp only [Act.put, List.setIfInBounds_toArray, List.set_cons_zero, List.set_cons_succ]
        refine Walk.take (v := ?wv87) rfl rfl (Or.inl ⟨by rfl, ?wy87⟩) ?wr87
        case wy87 => (intro w' hw'; obtain ⟨c0, c1, c2, c3⟩ := kc.out w' hw'; go_simp; try with_reducible rfl)
        try simp only [Act.put, List.setIfInBounds_toArray, List.set_cons_zero, List.set_cons_succ]
        refine Walk.take (v := ?wv88) rfl rfl (Or.inl ⟨by rfl, ?wy88⟩) ?wr88
        case wy88 => (intro w' hw'; obtain ⟨c0, c1, c2, c3⟩ := kc.out w' hw'; go_simp; try with_reducible rfl)
        try simp only [Act.put, List.setIfInBounds_toArray, List.set_cons_zero, List.set_cons_succ]
        refine Walk.do rfl rfl (by rfl) (fun W1 G1 F1 => ?ws89) (fun v hv => ?wr89)
        case ws89 =>
          obtain ⟨c0, c1, c2, c3⟩ := kc.out W1 G1
          refine doesAt_enter (f := 74) (args := #[.agg #[.bool t.coef.neg, .slice t.coef.num.A t.coef.num.n t.coef.num.c, .slice t.coef.den.A t.coef.den.n t.coef.den.c]]) (by go_simp; try (first | with_reducible rfl | rfl)) ?_
          refine (r3valid_any W1 t.coef q.2 (HT.out.coef.gr (GT.out.trans G1.of_drew)) HE.out.2.2.2 (Nat.lt_trans HL2.out.num (by decide)) (Nat.lt_trans HL2.out.den (by decide))).mono ?_
          rintro e w' ⟨rfl, G⟩
          exact ⟨_, rfl, G, rfl⟩
        obtain ⟨_, -, -, rfl⟩ := hv
        try simp only [Act.put, List.setIfInBounds_toArray, List.set_cons_zero, List.set_cons_succ]
        refine Walk.take (v := ?wv90) rfl rfl (Or.inl ⟨by rfl, ?wy90⟩) ?wr90
        case wy90 => (intro w' hw'; obtain ⟨c0, c1, c2, c3⟩ := kc.out w' hw'; go_simp; try with_reducible rfl)
        try simp only [Act.put, List.setIfInBounds_toArray, List.set_cons_zero, List.set_cons_succ]
        refine Walk.take (v := ?wv91) rfl rfl (Or.inl ⟨by rfl, ?wy91⟩) ?wr91
        case wy91 => (intro w' hw'; obtain ⟨c0, c1, c2, c3⟩ := kc.out w' hw'; go_simp; try with_reducible rfl)
        try simp only [Act.put, List.setIfInBounds_toArray, List.set_cons_zero, List.set_cons_succ]
        refine Walk.done (fun W1 G1 F1 => ?_)
        clear F1
        have kc1 := kc.out W1 G1
        clear kc c0 c1 c2 c3
        obtain ⟨c0, c1, c2, c3⟩ := kc1
        refine wpAny_end (by kernel_rfl) ?_
        have HG4 := Lib.hid (HG2.out.trans (GT.out.trans G1.of_drew))
        have DP4 := Lib.hid ((GT.out.trans G1.of_drew).bk DP.out)
        clear G1 c0 c1 c2 c3 a0
        go_wp2
        go_roundw
        · exact ⟨k + 1, by go_num, by omega, HG4, DP4⟩
        · simp [intOf]; omega
      · obtain ⟨j, hj⟩ : ∃ j, k = j + 1 := ⟨k - 1, by omega⟩
        have n3 : decide ((0 : Int) < (k : Int)) = true := by simp; omega
        have n6 : decide (0 < k) = true := by simp; omega
        clear hk0
        obtain ⟨p, hp⟩ : ∃ p, x.terms[j]? = some p := ⟨_, List.getElem?_eq_getElem (by rw [HV.out]; omega)⟩
        obtain ⟨s, bd, hs, hB, e0, _, _, _⟩ := (HF.out.terms.gr HG2.out).at hp
        obtain rfl : ad = bd := by simpa using hB
        have n4 : decide (t.var ≤ s.var) = false := by rw [HT.out.var, hs.var]; have := HX.out.asc j p q hp (hj ▸ HQ.out); simp; omega
        have n5 : IntKind.i64.wrap ((k : Int) - 1) = (j : Int) := by rw [IntWalk.i64_in _ (by omega)]; omega
        have hjn : (j : Int) < (xn : Int) := by omega
        have HJ := Lib.hid hj
        clear hj
        clear hp hs hB
        go_wp2_with fail
        obtain ⟨B1, GB⟩ := made1 wr 104 #[.int .i64 t.var, .bool t.coef.neg, .slice t.coef.num.A t.coef.num.n t.coef.num.c, .slice t.coef.den.A t.coef.den.n t.coef.den.c]
        have GT := Lib.hid GB
        obtain ⟨c0, c1, c2, c3⟩ := B1.c4
        replace a0 := GB.keep a0
        replace e0 := GB.keep e0
        clear B1 GB d0 d1 d2 d3 a1 a2 a3
        generalize wr.alloc (.cells #[.int .i64 t.var, .bool t.coef.neg, .slice t.coef.num.A t.coef.num.n t.coef.num.c, .slice t.coef.den.A t.coef.den.n t.coef.den.c] 104) = W3 at *
        generalize wr.heap.size = tb at *
        refine wp_region_any (by kernel_rfl) ?_
        have kc := Lib.hid (fun (W' : World) (G : Gr W3.drew W') => And.intro (G.keep c0) (And.intro (G.keep c1) (And.intro (G.keep c2) (And.intro (G.keep c3) (And.intro (G.keep e0) (G.keep a0))))))
        have hst : ∀ p ∈ ([(28, fun v _ => v = .int .i64 sg), (34, fun v _ => v = .bool true)] : List (Nat × (Value → World → Prop))), ∀ (u : Value) (wA0 wB0 : World), Gr W3.drew wA0 → Gr wA0 wB0 → p.2 u wA0 → p.2 u wB0 := by
          intro p hp u wA0 wB0 h0 G h
          simp only [List.mem_cons, List.not_mem_nil, or_false] at hp
          rcases hp with rfl | rfl
          · exact h
          · exact h
        refine wpAny_walk (m := 0) (last := #[true, true, true, true, true, true, true, true, true, true, true, true, true, true, true, true, true, true, true, true, true, true, true, true, true, true, true, true, true, true, true, true, true, true, true, true, true]) [0, 1, 2, 3, 4, 5, 6, 7, 8, 9, 10, 11, 12, 13, 14, 15, 16, 17, 18, 19, 20, 21, 22, 23, 24, 25, 26, 27, 28, 29, 30, 31, 32, 33, 34, 35, 36] [(28, fun v _ => v = .int .i64 sg), (34, fun v _ => v = .bool true)] (by kernel_rfl) (by decide) (by kernel_rfl) hst ?_
        clear hst
        refine Walk.take (v := ?wv92) rfl rfl (Or.inl ⟨by rfl, ?wy92⟩) ?wr92
        case wy92 => (intro w' hw'; obtain ⟨c0, c1, c2, c3, e0, a0⟩ := kc.out w' hw'; go_simp; try with_reducible rfl)
        try simp only [Act.put, List.setIfInBounds_toArray, List.set_cons_zero, List.set_cons_succ]
        refine Walk.take (v := ?wv93) rfl rfl (Or.inl ⟨by rfl, ?wy93⟩) ?wr93
        case wy93 => (intro w' hw'; obtain ⟨c0, c1, c2, c3, e0, a0⟩ := kc.out w' hw'; go_simp; try with_reducible rfl)
        try simp only [Act.put, List.setIfInBounds_toArray, List.set_cons_zero, List.set_cons_succ]
        refine Walk.take (v := ?wv94) rfl rfl (Or.inl ⟨by rfl, ?wy94⟩) ?wr94
        case wy94 => (intro w' hw'; obtain ⟨c0, c1, c2, c3, e0, a0⟩ := kc.out w' hw'; go_simp; try with_reducible rfl)
        try simp only [Act.put, List.setIfInBounds_toArray, List.set_cons_zero, List.set_cons_succ]
        refine Walk.take (v := ?wv95) rfl rfl (Or.inl ⟨by rfl, ?wy95⟩) ?wr95
        case wy95 => (intro w' hw'; obtain ⟨c0, c1, c2, c3, e0, a0⟩ := kc.out w' hw'; go_simp; try with_reducible rfl)
        try simp only [Act.put, List.setIfInBounds_toArray, List.set_cons_zero, List.set_cons_succ]
        refine Walk.take (v := ?wv96) rfl rfl (Or.inl ⟨by rfl, ?wy96⟩) ?wr96
        case wy96 => (intro w' hw'; obtain ⟨c0, c1, c2, c3, e0, a0⟩ := kc.out w' hw'; go_simp; try with_reducible rfl)
        try simp only [Act.put, List.setIfInBounds_toArray, List.set_cons_zero, List.set_cons_succ]
        refine Walk.take (v := ?wv97) rfl rfl (Or.inl ⟨by rfl, ?wy97⟩) ?wr97
        case wy97 => (intro w' hw'; obtain ⟨c0, c1, c2, c3, e0, a0⟩ := kc.out w' hw'; go_simp; try with_reducible rfl)
        try simp only [Act.put, List.setIfInBounds_toArray, List.set_cons_zero, List.set_cons_succ]
        refine Walk.take (v := ?wv98) rfl rfl (Or.inl ⟨by rfl, ?wy98⟩) ?wr98
        case wy98 => (intro w' hw'; obtain ⟨c0, c1, c2, c3, e0, a0⟩ := kc.out w' hw'; go_simp; try with_reducible rfl)
        try simp only [Act.put, List.setIfInBounds_toArray, List.set_cons_zero, List.set_cons_succ]
        refine Walk.take (v := ?wv99) rfl rfl (Or.inl ⟨by rfl, ?wy99⟩) ?wr99
        case wy99 => (intro w' hw'; obtain ⟨c0, c1, c2, c3, e0, a0⟩ := kc.out w' hw'; go_simp; try with_reducible rfl)
        try simp only [Act.put, List.setIfInBounds_toArray, List.set_cons_zero, List.set_cons_succ]
        refine Walk.take (v := ?wv100) rfl rfl (Or.inl ⟨by rfl, ?wy100⟩) ?wr100
        case wy100 => (intro w' hw'; obtain ⟨c0, c1, c2, c3, e0, a0⟩ := kc.out w' hw'; go_simp; try with_reducible rfl)
        try simp only [Act.put, List.setIfInBounds_toArray, List.set_cons_zero, List.set_cons_succ]
        refine Walk.take (v := ?wv101) rfl rfl (Or.inl ⟨by rfl, ?wy101⟩) ?wr101
        case wy101 => (intro w' hw'; obtain ⟨c0, c1, c2, c3, e0, a0⟩ := kc.out w' hw'; go_simp; try with_reducible rfl)
        try simp only [Act.put, List.setIfInBounds_toArray, List.set_cons_zero, List.set_cons_succ]
        refine Walk.take (v := ?wv102) rfl rfl (Or.inl ⟨by rfl, ?wy102⟩) ?wr102
        case wy102 => (intro w' hw'; obtain ⟨c0, c1, c2, c3, e0, a0⟩ := kc.out w' hw'; go_simp; try with_reducible rfl)
        try simp only [Act.put, List.setIfInBounds_toArray, List.set_cons_zero, List.set_cons_succ]
        refine Walk.take (v := ?wv103) rfl rfl (Or.inl ⟨by rfl, ?wy103⟩) ?wr103
        case wy103 => (intro w' hw'; obtain ⟨c0, c1, c2, c3, e0, a0⟩ := kc.out w' hw'; go_simp; try with_reducible rfl)
        try simp only [Act.put, List.setIfInBounds_toArray, List.set_cons_zero, List.set_cons_succ]
        refine Walk.take (v := ?wv104) rfl rfl (Or.inl ⟨by rfl, ?wy104⟩) ?wr104
        case wy104 => (intro w' hw'; obtain ⟨c0, c1, c2, c3, e0, a0⟩ := kc.out w' hw'; go_simp; try with_reducible rfl)
        try simp only [Act.put, List.setIfInBounds_toArray, List.set_cons_zero, List.set_cons_succ]
        refine Walk.take (v := ?wv105) rfl rfl (Or.inl ⟨by rfl, ?wy105⟩) ?wr105
        case wy105 => (intro w' hw'; obtain ⟨c0, c1, c2, c3, e0, a0⟩ := kc.out w' hw'; go_simp; try with_reducible rfl)
        try simp only [Act.put, List.setIfInBounds_toArray, List.set_cons_zero, List.set_cons_succ]
        refine Walk.take (v := ?wv106) rfl rfl (Or.inl ⟨by rfl, ?wy106⟩) ?wr106
        case wy106 => (intro w' hw'; obtain ⟨c0, c1, c2, c3, e0, a0⟩ := kc.out w' hw'; go_simp; try with_reducible rfl)
        try simp only [Act.put, List.setIfInBounds_toArray, List.set_cons_zero, List.set_cons_succ]
        refine Walk.take (v := ?wv107) rfl rfl (Or.inl ⟨by rfl, ?wy107⟩) ?wr107
        case wy107 => (intro w' hw'; obtain ⟨c0, c1, c2, c3, e0, a0⟩ := kc.out w' hw'; go_simp; try with_reducible rfl)
        try simp only [Act.put, List.setIfInBounds_toArray, List.set_cons_zero, List.set_cons_succ]
        refine Walk.take (v := ?wv108) rfl rfl (Or.inl ⟨by rfl, ?wy108⟩) ?wr108
        case wy108 => (intro w' hw'; obtain ⟨c0, c1, c2, c3, e0, a0⟩ := kc.out w' hw'; go_simp; try with_reducible rfl)
        try simp only [Act.put, List.setIfInBounds_toArray, List.set_cons_zero, List.set_cons_succ]
        refine Walk.take (v := ?wv109) rfl rfl (Or.inl ⟨by rfl, ?wy109⟩) ?wr109
        case wy109 => (intro w' hw'; obtain ⟨c0, c1, c2, c3, e0, a0⟩ := kc.out w' hw'; go_simp; try with_reducible rfl)
        try simp only [Act.put, List.setIfInBounds_toArray, List.set_cons_zero, List.set_cons_succ]
        refine Walk.take (v := ?wv110) rfl rfl (Or.inl ⟨by rfl, ?wy110⟩) ?wr110
        case wy110 => (intro w' hw'; obtain ⟨c0, c1, c2, c3, e0, a0⟩ := kc.out w' hw'; go_simp; try with_reducible rfl)
        try simp only [Act.put, List.setIfInBounds_toArray, List.set_cons_zero, List.set_cons_succ]
        refine Walk.take (v := ?wv111) rfl rfl (Or.inl ⟨by rfl, ?wy111⟩) ?wr111
        case wy111 => (intro w' hw'; obtain ⟨c0, c1, c2, c3, e0, a0⟩ := kc.out w' hw'; go_simp; try with_reducible rfl)
        try simp only [Act.put, List.setIfInBounds_toArray, List.set_cons_zero, List.set_cons_succ]
        refine Walk.take (v := ?wv112) rfl rfl (Or.inl ⟨by rfl, ?wy112⟩) ?wr112
        case wy112 => (intro w' hw'; obtain ⟨c0, c1, c2, c3, e0, a0⟩ := kc.out w' hw'; go_simp; try with_reducible rfl)
        try simp only [Act.put, List.setIfInBounds_toArray, List.set_cons_zero, List.set_cons_succ]
        refine Walk.take (v := ?wv113) rfl rfl (Or.inl ⟨by rfl, ?wy113⟩) ?wr113
        case wy113 => (intro w' hw'; obtain ⟨c0, c1, c2, c3, e0, a0⟩ := kc.out w' hw'; go_simp; try with_reducible rfl)
        try simp only [Act.put, List.setIfInBounds_toArray, List.set_cons_zero, List.set_cons_succ]
        refine Walk.take (v := ?wv114) rfl rfl (Or.inl ⟨by rfl, ?wy114⟩) ?wr114
        case wy114 => (intro w' hw'; obtain ⟨c0, c1, c2, c3, e0, a0⟩ := kc.out w' hw'; go_simp; try with_reducible rfl)
        try simp only [Act.put, List.setIfInBounds_toArray, List.set_cons_zero, List.set_cons_succ]
        refine Walk.take (v := ?wv115) rfl rfl (Or.inl ⟨by rfl, ?wy115⟩) ?wr115
        case wy115 => (intro w' hw'; obtain ⟨c0, c1, c2, c3, e0, a0⟩ := kc.out w' hw'; go_simp; try with_reducible rfl)
        try simp only [Act.put, List.setIfInBounds_toArray, List.set_cons_zero, List.set_cons_succ]
        refine Walk.take (v := ?wv116) rfl rfl (Or.inl ⟨by rfl, ?wy116⟩) ?wr116
        case wy116 => (intro w' hw'; obtain ⟨c0, c1, c2, c3, e0, a0⟩ := kc.out w' hw'; go_simp; try with_reducible rfl)
        try simp only [Act.put, List.setIfInBounds_toArray, List.set_cons_zero, List.set_cons_succ]
        refine Walk.take (v := ?wv117) rfl rfl (Or.inl ⟨by rfl, ?wy117⟩) ?wr117
        case wy117 => (intro w' hw'; obtain ⟨c0, c1, c2, c3, e0, a0⟩ := kc.out w' hw'; go_simp; try with_reducible rfl)
        try simp only [Act.put, List.setIfInBounds_toArray, List.set_cons_zero, List.set_cons_succ]
        refine Walk.take (v := ?wv118) rfl rfl (Or.inl ⟨by rfl, ?wy118⟩) ?wr118
        case wy118 => (intro w' hw'; obtain ⟨c0, c1, c2, c3, e0, a0⟩ := kc.out w' hw'; go_simp; try with_reducible rfl)
        try simp only [Act.put, List.setIfInBounds_toArray, List.set_cons_zero, List.set_cons_succ]
        refine Walk.take (v := ?wv119) rfl rfl (Or.inl ⟨by rfl, ?wy119⟩) ?wr119
        case wy119 => (intro w' hw'; obtain ⟨c0, c1, c2, c3, e0, a0⟩ := kc.out w' hw'; go_simp; try with_reducible rfl)
        try simp only [Act.put, List.setIfInBounds_toArray, List.set_cons_zero, List.set_cons_succ]
        refine Walk.do rfl rfl (by rfl) (fun W1 G1 F1 => ?ws120) (fun v hv => ?wr120)
        case ws120 =>
          obtain ⟨c0, c1, c2, c3, e0, a0⟩ := kc.out W1 G1
          refine doesAt_enter (f := 73) (args := #[.agg #[.bool t.coef.neg, .slice t.coef.num.A t.coef.num.n t.coef.num.c, .slice t.coef.den.A t.coef.den.n t.coef.den.c]]) (by go_simp; try (first | with_reducible rfl | rfl)) ?_
          refine ((show Calls _ _ _ _ (fun e w' => e = .returned (.int .i64 sg) ∧ Gr W1 w') from by rw [← HSG.out]; exact rsign_any W1 t.coef q.2 (HT.out.coef.gr (GT.out.trans G1.of_drew)) (Nat.le_trans HL2.out.lo.num (by decide)))).mono ?_
          rintro e w' ⟨rfl, G⟩
          exact ⟨_, rfl, G, rfl⟩
        obtain ⟨_, -, -, rfl⟩ := hv
        try simp only [Act.put, List.setIfInBounds_toArray, List.set_cons_zero, List.set_cons_succ]
        refine Walk.take (v := ?wv121) rfl rfl (Or.inl ⟨by rfl, ?wy121⟩) ?wr121
        case wy121 => (intro w' hw'; obtain ⟨c0, c1, c2, c3, e0, a0⟩ := kc.out w' hw'; go_simp; try with_reducible rfl)
        try simp only [Act.put, List.setIfInBounds_toArray, List.set_cons_zero, List.set_cons_succ]
        refine Walk.take (v := ?wv122) rfl rfl (Or.inl ⟨by rfl, ?wy122⟩) ?wr122
        case wy122 => (intro w' hw'; obtain ⟨c0, c1, c2, c3, e0, a0⟩ := kc.out w' hw'; go_simp; try with_reducible rfl)
        try simp only [Act.put, List.setIfInBounds_toArray, List.set_cons_zero, List.set_cons_succ]
        refine Walk.take (v := ?wv123) rfl rfl (Or.inl ⟨by rfl, ?wy123⟩) ?wr123
        case wy123 => (intro w' hw'; obtain ⟨c0, c1, c2, c3, e0, a0⟩ := kc.out w' hw'; go_simp; try with_reducible rfl)
        try simp only [Act.put, List.setIfInBounds_toArray, List.set_cons_zero, List.set_cons_succ]
        refine Walk.take (v := ?wv124) rfl rfl (Or.inl ⟨by rfl, ?wy124⟩) ?wr124
        case wy124 => (intro w' hw'; obtain ⟨c0, c1, c2, c3, e0, a0⟩ := kc.out w' hw'; go_simp; try with_reducible rfl)
        try simp only [Act.put, List.setIfInBounds_toArray, List.set_cons_zero, List.set_cons_succ]
        refine Walk.take (v := ?wv125) rfl rfl (Or.inl ⟨by rfl, ?wy125⟩) ?wr125
        case wy125 => (intro w' hw'; obtain ⟨c0, c1, c2, c3, e0, a0⟩ := kc.out w' hw'; go_simp; try with_reducible rfl)
        try simp only [Act.put, List.setIfInBounds_toArray, List.set_cons_zero, List.set_cons_succ]
        refine Walk.do rfl rfl (by rfl) (fun W1 G1 F1 => ?ws126) (fun v hv => ?wr126)
        case ws126 =>
          obtain ⟨c0, c1, c2, c3, e0, a0⟩ := kc.out W1 G1
          refine doesAt_enter (f := 74) (args := #[.agg #[.bool t.coef.neg, .slice t.coef.num.A t.coef.num.n t.coef.num.c, .slice t.coef.den.A t.coef.den.n t.coef.den.c]]) (by go_simp; try (first | with_reducible rfl | rfl)) ?_
          refine (r3valid_any W1 t.coef q.2 (HT.out.coef.gr (GT.out.trans G1.of_drew)) HE.out.2.2.2 (Nat.lt_trans HL2.out.num (by decide)) (Nat.lt_trans HL2.out.den (by decide))).mono ?_
          rintro e w' ⟨rfl, G⟩
          exact ⟨_, rfl, G, rfl⟩
        obtain ⟨_, -, -, rfl⟩ := hv
        try simp only [Act.put, List.setIfInBounds_toArray, List.set_cons_zero, List.set_cons_succ]
        refine Walk.take (v := ?wv127) rfl rfl (Or.inl ⟨by rfl, ?wy127⟩) ?wr127
        case wy127 => (intro w' hw'; obtain ⟨c0, c1, c2, c3, e0, a0⟩ := kc.out w' hw'; go_simp; try with_reducible rfl)
        try simp only [Act.put, List.setIfInBounds_toArray, List.set_cons_zero, List.set_cons_succ]
        refine Walk.take (v := ?wv128) rfl rfl (Or.inl ⟨by rfl, ?wy128⟩) ?wr128
        case wy128 => (intro w' hw'; obtain ⟨c0, c1, c2, c3, e0, a0⟩ := kc.out w' hw'; go_simp; try with_reducible rfl)
        try simp only [Act.put, List.setIfInBounds_toArray, List.set_cons_zero, List.set_cons_succ]
        refine Walk.done (fun W1 G1 F1 => ?_)
        clear F1
        have kc1 := kc.out W1 G1
        clear kc c0 c1 c2 c3 e0 a0
        obtain ⟨c0, c1, c2, c3, e0, a0⟩ := kc1
        refine wpAny_end (by kernel_rfl) ?_
        have HG4 := Lib.hid (HG2.out.trans (GT.out.trans G1.of_drew))
        have DP4 := Lib.hid ((GT.out.trans G1.of_drew).bk DP.out)
        clear G1 c0 c1 c2 c3 e0 a0
        go_wp2
        go_roundw
        · exact ⟨k + 1, by go_num, by omega, HG4, DP4⟩
        · simp [intOf]; omega
    · obtain rfl : k = xn := by omega
      have HC := Lib.hid (r3valid_any wr fc x.const (HF.out.const.gr HG2.out) HX.out.const (Nat.lt_trans HK.out.num (by decide)) (Nat.lt_trans HK.out.den (by decide)))
      go_wp2_with fail
      refine HC.out.mono ?_
      rintro e w1 ⟨rfl, G⟩
      have HG3 := Lib.hid (HG2.out.trans G)
      clear G
      go_wp2
      go_ret
      exact ⟨rfl, HG3.out⟩
end Go.Proofs.YtcmfepaffhnemaaGreatDoor

set_option linter.unusedVariables false
namespace Go.Proofs.YtcmfepaffhnemaaGreatDoor
open Go.RowKit

attribute [local go_sem] Oper.semAt_some
set_option maxRecDepth 100000 in
set_option maxHeartbeats 4000000 in
theorem lequal_any (w : World) (f g : Fv) (x y : Fm) (hf : f.Is w x) (hg : g.Is w y) :
    Calls Tryz.prog 40 #[f.v, g.v] w fun e w' => e = .returned (.bool (decide (x = y))) ∧ Gr w w' := by
  obtain ⟨⟨xA, xn, xc⟩, fc⟩ := f
  obtain ⟨⟨yA, yn, yc⟩, gc⟩ := g
  have hvn : x.terms.length = xn := hf.terms.len
  have hwn : y.terms.length = yn := hg.terms.len
  have hmx : xn ≤ 9223372036854775807 := (by obtain ⟨_, h1, _⟩ := hf.terms; exact Nat.le_trans h1.cap h1.max)
  by_cases hn : xn = yn
  · subst hn
    have hnn : ((xn : Int) != xn) = false := by simp
    obtain ⟨B1, B2, G⟩ := made2 w 43 43 (#[.slice xA xn xc, .bool fc.neg, .slice fc.num.A fc.num.n fc.num.c, .slice fc.den.A fc.den.n fc.den.c]) (#[.slice yA xn yc, .bool gc.neg, .slice gc.num.A gc.num.n gc.num.c, .slice gc.den.A gc.den.n gc.den.c])
    have HG := Lib.hid G
    have D_p := Lib.hid B1
    have D_q0 := Lib.hid B2
    clear G B1 B2
    have HF := Lib.hid hf
    have HG0 := Lib.hid hg
    have HV := Lib.hid hvn
    have HW := Lib.hid hwn
    have HM := Lib.hid hmx
    clear hf hg hvn hwn hmx
    obtain ⟨a0, a1, a2, a3⟩ := D_p.out.c4
    obtain ⟨b0, b1, b2, b3⟩ := D_q0.out.c4
    simp only [Rv.v, Fv.v] at *
    go_enter Tryz.func40, Tryz.ntmps40
    go_wp2_with fail
    generalize hW : (w.alloc (.cells #[.slice xA xn xc, .bool fc.neg, .slice fc.num.A fc.num.n fc.num.c, .slice fc.den.A fc.den.n fc.den.c] 43)).alloc (.cells #[.slice yA xn yc, .bool gc.neg, .slice gc.num.A gc.num.n gc.num.c, .slice gc.den.A gc.den.n gc.den.c] 43) = W at *
    clear hW
    have N_p : Hid (w.heap.size ≤ w.heap.size) := (by show w.heap.size ≤ w.heap.size; omega)
    have N_q0 : Hid (w.heap.size ≤ w.heap.size + 1) := (by show w.heap.size ≤ w.heap.size + 1; omega)
    generalize w.heap.size + 1 = q0 at *
    have H1 := Lib.hid (same_any W fc gc x.const y.const (HF.out.const.gr HG.out) (HG0.out.const.gr HG.out))
    generalize hcm : decide (x.const = y.const) = cm at *
    have HCM := Lib.hid hcm
    clear hcm
    go_at_call 72
    refine H1.out.mono ?_
    rintro e w1 ⟨rfl, G1⟩
    replace HG := Lib.hid (HG.out.trans G1)
    replace D_p := Lib.hid (G1.bk D_p.out)
    replace D_q0 := Lib.hid (G1.bk D_q0.out)
    clear G1 H1 a0 a1 a2 a3 b0 b1 b2 b3
    obtain ⟨a0, a1, a2, a3⟩ := D_p.out.c4
    obtain ⟨b0, b1, b2, b3⟩ := D_q0.out.c4
    cases cm
    · go_wp2
      go_ret
      exact ⟨by rw [decide_eq_false (fun h : x = y => of_decide_eq_false HCM.out (congrArg Fm.const h))]; rfl, HG.out⟩
    · go_wp2_with fail
      go_loopw [25] (fun i wr => ∃ k : Nat, i = .int .i64 k ∧ k ≤ xn ∧ Hid (x.terms.take k = y.terms.take k) ∧ Hid (Gr w wr) ∧ Hid (Bk wr w.heap.size 43 #[.slice xA xn xc, .bool fc.neg, .slice fc.num.A fc.num.n fc.num.c, .slice fc.den.A fc.den.n fc.den.c]) ∧ Hid (Bk wr q0 43 #[.slice yA xn yc, .bool gc.neg, .slice gc.num.A gc.num.n gc.num.c, .slice gc.den.A gc.den.n gc.den.c])) (fun i _ => xn - (intOf i).toNat)
      case atStart => exact ⟨0, rfl, Nat.zero_le _, rfl, HG, D_p, D_q0⟩
      case round =>
        obtain ⟨k, rfl, hk, HTK, HG2, DP, DQ⟩ := hrel
        clear HG D_p D_q0 a0 a1 a2 a3 b0 b1 b2 b3
        obtain ⟨a0, a1, a2, a3⟩ := DP.out.c4
        obtain ⟨b0, b1, b2, b3⟩ := DQ.out.c4
        by_cases hkn : k < xn
        · obtain ⟨q, hq⟩ : ∃ q, x.terms[k]? = some q := ⟨_, List.getElem?_eq_getElem (by rw [HV.out]; exact hkn)⟩
          obtain ⟨p, hp⟩ : ∃ p, y.terms[k]? = some p := ⟨_, List.getElem?_eq_getElem (by rw [HW.out]; exact hkn)⟩
          obtain ⟨t, ad, ht, hA, d0, d1, d2, d3⟩ := (HF.out.terms.gr HG2.out).at hq
          obtain ⟨s, bd, hs, hB, u0, u1, u2, u3⟩ := (HG0.out.terms.gr HG2.out).at hp
          simp only at hA hB
          subst hA hB
          have HT := Lib.hid ht
          have HS := Lib.hid hs
          have HQ := Lib.hid hq
          have HP := Lib.hid hp
          have hm9 : k < 9223372036854775807 := Nat.lt_of_lt_of_le hkn HM.out
          clear hq hp ht hs
          by_cases hv : t.var = s.var
          · have hv1 : (t.var != s.var) = false := by simp [hv]
            have HV1 := Lib.hid hv
            clear hv
            generalize hsm : decide (q.2 = p.2) = sm at *
            have HSM := Lib.hid hsm
            clear hsm
            go_wp2_with fail
            obtain ⟨B1, GB⟩ := made1 wr 104 #[.int .i64 t.var, .bool t.coef.neg, .slice t.coef.num.A t.coef.num.n t.coef.num.c, .slice t.coef.den.A t.coef.den.n t.coef.den.c]
            have GT := Lib.hid GB
            obtain ⟨c0, c1, c2, c3⟩ := B1.c4
            replace b0 := GB.keep b0
            replace u0 := GB.keep u0
            replace u1 := GB.keep u1
            replace u2 := GB.keep u2
            replace u3 := GB.keep u3
            clear B1 GB d0 d1 d2 d3 a0 a1 a2 a3 b1 b2 b3
            generalize wr.alloc (.cells #[.int .i64 t.var, .bool t.coef.neg, .slice t.coef.num.A t.coef.num.n t.coef.num.c, .slice t.coef.den.A t.coef.den.n t.coef.den.c] 104) = W3 at *
            generalize wr.heap.size = tb at *
            refine wp_region_any (by kernel_rfl) ?_
            have kc := Lib.hid (fun (W' : World) (G : Gr W3.drew W') => And.intro (G.keep c0) (And.intro (G.keep c1) (And.intro (G.keep c2) (And.intro (G.keep c3) (And.intro (G.keep u0) (And.intro (G.keep u1) (And.intro (G.keep u2) (And.intro (G.keep u3) (G.keep b0)))))))))
            have hst : ∀ p ∈ ([(18, fun v _ => v = .bool sm)] : List (Nat × (Value → World → Prop))), ∀ (u : Value) (wA0 wB0 : World), Gr W3.drew wA0 → Gr wA0 wB0 → p.2 u wA0 → p.2 u wB0 := by
              intro p hp u wA0 wB0 h0 G h
              simp only [List.mem_cons, List.not_mem_nil, or_false] at hp
              subst hp
              · exact h
            refine wpAny_walk (m := 0) (last := #[true, true, true, true, true, true, true, true, true, true, true, true, true, true, true, true, true, true, true, true, true]) [0, 1, 2, 3, 4, 5, 6, 7, 8, 9, 10, 11, 12, 13, 14, 15, 16, 17, 18, 19, 20] [(18, fun v _ => v = .bool sm)] (by kernel_rfl) (by decide) (by kernel_rfl) hst ?_
            clear hst
            refine Walk.take (v := ?wv1) rfl rfl (Or.inl ⟨by rfl, ?wy1⟩) ?wr1
            case wy1 => (intro w' hw'; obtain ⟨c0, c1, c2, c3, u0, u1, u2, u3, b0⟩ := kc.out w' hw'; go_simp; try with_reducible rfl)
            try simp only [Act.put, List.setIfInBounds_toArray, List.set_cons_zero, List.set_cons_succ]
            refine Walk.take (v := ?wv2) rfl rfl (Or.inl ⟨by rfl, ?wy2⟩) ?wr2
            case wy2 => (intro w' hw'; obtain ⟨c0, c1, c2, c3, u0, u1, u2, u3, b0⟩ := kc.out w' hw'; go_simp; try with_reducible rfl)
            try simp only [Act.put, List.setIfInBounds_toArray, List.set_cons_zero, List.set_cons_succ]
            refine Walk.take (v := ?wv3) rfl rfl (Or.inl ⟨by rfl, ?wy3⟩) ?wr3
            case wy3 => (intro w' hw'; obtain ⟨c0, c1, c2, c3, u0, u1, u2, u3, b0⟩ := kc.out w' hw'; go_simp; try with_reducible rfl)
            try simp only [Act.put, List.setIfInBounds_toArray, List.set_cons_zero, List.set_cons_succ]
            refine Walk.take (v := ?wv4) rfl rfl (Or.inl ⟨by rfl, ?wy4⟩) ?wr4
            case wy4 => (intro w' hw'; obtain ⟨c0, c1, c2, c3, u0, u1, u2, u3, b0⟩ := kc.out w' hw'; go_simp; try with_reducible rfl)
            try simp only [Act.put, List.setIfInBounds_toArray, List.set_cons_zero, List.set_cons_succ]
            refine Walk.take (v := ?wv5) rfl rfl (Or.inl ⟨by rfl, ?wy5⟩) ?wr5
            case wy5 => (intro w' hw'; obtain ⟨c0, c1, c2, c3, u0, u1, u2, u3, b0⟩ := kc.out w' hw'; go_simp; try with_reducible rfl)
            try simp only [Act.put, List.setIfInBounds_toArray, List.set_cons_zero, List.set_cons_succ]
            refine Walk.take (v := ?wv6) rfl rfl (Or.inl ⟨by rfl, ?wy6⟩) ?wr6
            case wy6 => (intro w' hw'; obtain ⟨c0, c1, c2, c3, u0, u1, u2, u3, b0⟩ := kc.out w' hw'; go_simp; try with_reducible rfl)
            try simp only [Act.put, List.setIfInBounds_toArray, List.set_cons_zero, List.set_cons_succ]
            refine Walk.take (v := ?wv7) rfl rfl (Or.inl ⟨by rfl, ?wy7⟩) ?wr7
            case wy7 => (intro w' hw'; obtain ⟨c0, c1, c2, c3, u0, u1, u2, u3, b0⟩ := kc.out w' hw'; go_simp; try with_reducible rfl)
            try simp only [Act.put, List.setIfInBounds_toArray, List.set_cons_zero, List.set_cons_succ]
            refine Walk.take (v := ?wv8) rfl rfl (Or.inl ⟨by rfl, ?wy8⟩) ?wr8
            case wy8 => (intro w' hw'; obtain ⟨c0, c1, c2, c3, u0, u1, u2, u3, b0⟩ := kc.out w' hw'; go_simp; try with_reducible rfl)
            try simp only [Act.put, List.setIfInBounds_toArray, List.set_cons_zero, List.set_cons_succ]
            refine Walk.take (v := ?wv9) rfl rfl (Or.inl ⟨by rfl, ?wy9⟩) ?wr9
            case wy9 => (intro w' hw'; obtain ⟨c0, c1, c2, c3, u0, u1, u2, u3, b0⟩ := kc.out w' hw'; go_simp; try with_reducible rfl)
            try simp only [Act.put, List.setIfInBounds_toArray, List.set_cons_zero, List.set_cons_succ]
            refine Walk.take (v := ?wv10) rfl rfl (Or.inl ⟨by rfl, ?wy10⟩) ?wr10
            case wy10 => (intro w' hw'; obtain ⟨c0, c1, c2, c3, u0, u1, u2, u3, b0⟩ := kc.out w' hw'; go_simp; try with_reducible rfl)
            try simp only [Act.put, List.setIfInBounds_toArray, List.set_cons_zero, List.set_cons_succ]
            refine Walk.take (v := ?wv11) rfl rfl (Or.inl ⟨by rfl, ?wy11⟩) ?wr11
            case wy11 => (intro w' hw'; obtain ⟨c0, c1, c2, c3, u0, u1, u2, u3, b0⟩ := kc.out w' hw'; go_simp; try with_reducible rfl)
            try simp only [Act.put, List.setIfInBounds_toArray, List.set_cons_zero, List.set_cons_succ]
            refine Walk.take (v := ?wv12) rfl rfl (Or.inl ⟨by rfl, ?wy12⟩) ?wr12
            case wy12 => (intro w' hw'; obtain ⟨c0, c1, c2, c3, u0, u1, u2, u3, b0⟩ := kc.out w' hw'; go_simp; try with_reducible rfl)
            try simp only [Act.put, List.setIfInBounds_toArray, List.set_cons_zero, List.set_cons_succ]
            refine Walk.take (v := ?wv13) rfl rfl (Or.inl ⟨by rfl, ?wy13⟩) ?wr13
            case wy13 => (intro w' hw'; obtain ⟨c0, c1, c2, c3, u0, u1, u2, u3, b0⟩ := kc.out w' hw'; go_simp; try with_reducible rfl)
            try simp only [Act.put, List.setIfInBounds_toArray, List.set_cons_zero, List.set_cons_succ]
            refine Walk.take (v := ?wv14) rfl rfl (Or.inl ⟨by rfl, ?wy14⟩) ?wr14
            case wy14 => (intro w' hw'; obtain ⟨c0, c1, c2, c3, u0, u1, u2, u3, b0⟩ := kc.out w' hw'; go_simp; try with_reducible rfl)
            try simp only [Act.put, List.setIfInBounds_toArray, List.set_cons_zero, List.set_cons_succ]
            refine Walk.take (v := ?wv15) rfl rfl (Or.inl ⟨by rfl, ?wy15⟩) ?wr15
            case wy15 => (intro w' hw'; obtain ⟨c0, c1, c2, c3, u0, u1, u2, u3, b0⟩ := kc.out w' hw'; go_simp; try with_reducible rfl)
            try simp only [Act.put, List.setIfInBounds_toArray, List.set_cons_zero, List.set_cons_succ]
            refine Walk.take (v := ?wv16) rfl rfl (Or.inl ⟨by rfl, ?wy16⟩) ?wr16
            case wy16 => (intro w' hw'; obtain ⟨c0, c1, c2, c3, u0, u1, u2, u3, b0⟩ := kc.out w' hw'; go_simp; try with_reducible rfl)
            try simp only [Act.put, List.setIfInBounds_toArray, List.set_cons_zero, List.set_cons_succ]
            refine Walk.take (v := ?wv17) rfl rfl (Or.inl ⟨by rfl, ?wy17⟩) ?wr17
            case wy17 => (intro w' hw'; obtain ⟨c0, c1, c2, c3, u0, u1, u2, u3, b0⟩ := kc.out w' hw'; go_simp; try with_reducible rfl)
            try simp only [Act.put, List.setIfInBounds_toArray, List.set_cons_zero, List.set_cons_succ]
            refine Walk.take (v := ?wv18) rfl rfl (Or.inl ⟨by rfl, ?wy18⟩) ?wr18
            case wy18 => (intro w' hw'; obtain ⟨c0, c1, c2, c3, u0, u1, u2, u3, b0⟩ := kc.out w' hw'; go_simp; try with_reducible rfl)
            try simp only [Act.put, List.setIfInBounds_toArray, List.set_cons_zero, List.set_cons_succ]
            refine Walk.do rfl rfl (by rfl) (fun W1 G1 F1 => ?ws19) (fun v hv => ?wr19)
            case ws19 =>
              obtain ⟨c0, c1, c2, c3, u0, u1, u2, u3, b0⟩ := kc.out W1 G1
              refine doesAt_enter (f := 72) (args := #[.agg #[.bool t.coef.neg, .slice t.coef.num.A t.coef.num.n t.coef.num.c, .slice t.coef.den.A t.coef.den.n t.coef.den.c], .agg #[.bool s.coef.neg, .slice s.coef.num.A s.coef.num.n s.coef.num.c, .slice s.coef.den.A s.coef.den.n s.coef.den.c]]) (by go_simp; try (first | with_reducible rfl | rfl)) ?_
              refine ((show Calls _ _ _ _ (fun e w' => e = .returned (.bool sm) ∧ Gr W1 w') from by rw [← HSM.out]; exact same_any W1 t.coef s.coef q.2 p.2 (HT.out.coef.gr (GT.out.trans G1.of_drew)) (HS.out.coef.gr (GT.out.trans G1.of_drew)))).mono ?_
              rintro e w' ⟨rfl, G⟩
              exact ⟨_, rfl, G, rfl⟩
            obtain ⟨_, -, -, rfl⟩ := hv
            try simp only [Act.put, List.setIfInBounds_toArray, List.set_cons_zero, List.set_cons_succ]
            refine Walk.take (v := ?wv20) rfl rfl (Or.inl ⟨by rfl, ?wy20⟩) ?wr20
            case wy20 => (intro w' hw'; obtain ⟨c0, c1, c2, c3, u0, u1, u2, u3, b0⟩ := kc.out w' hw'; go_simp; try with_reducible rfl)
            try simp only [Act.put, List.setIfInBounds_toArray, List.set_cons_zero, List.set_cons_succ]
            refine Walk.take (v := ?wv21) rfl rfl (Or.inl ⟨by rfl, ?wy21⟩) ?wr21
            case wy21 => (intro w' hw'; obtain ⟨c0, c1, c2, c3, u0, u1, u2, u3, b0⟩ := kc.out w' hw'; go_simp; try with_reducible rfl)
            try simp only [Act.put, List.setIfInBounds_toArray, List.set_cons_zero, List.set_cons_succ]
            refine Walk.done (fun W1 G1 F1 => ?_)
            clear F1
            have kc1 := kc.out W1 G1
            clear kc c0 c1 c2 c3 u0 u1 u2 u3 b0
            obtain ⟨c0, c1, c2, c3, u0, u1, u2, u3, b0⟩ := kc1
            refine wpAny_end (by kernel_rfl) ?_
            have HG4 := Lib.hid (HG2.out.trans (GT.out.trans G1.of_drew))
            have DP4 := Lib.hid ((GT.out.trans G1.of_drew).bk DP.out)
            have DQ4 := Lib.hid ((GT.out.trans G1.of_drew).bk DQ.out)
            clear G1 c0 c1 c2 c3 u0 u1 u2 u3 b0
            cases sm
            · go_wp2
              go_ret
              exact ⟨by rw [decide_eq_false (fun h : x = y => of_decide_eq_false HSM.out (by have h1 := HQ.out; have h2 := HP.out; rw [h] at h1; rw [h1] at h2; injection h2 with h2; rw [h2]))]; rfl, HG4.out⟩
            · have HTT : Hid (x.terms.take (k + 1) = y.terms.take (k + 1)) := by
                rw [List.take_add_one, List.take_add_one, HTK.out, HQ.out, HP.out]
                have : q = p := Prod.ext (by rw [← HT.out.var, ← HS.out.var]; exact HV1.out) (of_decide_eq_true HSM.out)
                rw [this]
                exact rfl
              go_wp2
              go_roundw
              · exact ⟨k + 1, by go_num, by omega, HTT, HG4, DP4, DQ4⟩
              · simp [intOf]; omega
          · have hv1 : (t.var != s.var) = true := by simp [hv]
            have HV1 := Lib.hid hv
            clear hv
            go_wp2_with fail
            obtain ⟨B1, GB⟩ := made1 wr 104 #[.int .i64 t.var, .bool t.coef.neg, .slice t.coef.num.A t.coef.num.n t.coef.num.c, .slice t.coef.den.A t.coef.den.n t.coef.den.c]
            have GT := Lib.hid GB
            obtain ⟨c0, c1, c2, c3⟩ := B1.c4
            replace b0 := GB.keep b0
            replace u0 := GB.keep u0
            replace u1 := GB.keep u1
            replace u2 := GB.keep u2
            replace u3 := GB.keep u3
            clear B1 GB d0 d1 d2 d3 a0 a1 a2 a3 b1 b2 b3
            generalize wr.alloc (.cells #[.int .i64 t.var, .bool t.coef.neg, .slice t.coef.num.A t.coef.num.n t.coef.num.c, .slice t.coef.den.A t.coef.den.n t.coef.den.c] 104) = W3 at *
            generalize wr.heap.size = tb at *
            refine wp_region_any (by kernel_rfl) ?_
            have kc := Lib.hid (fun (W' : World) (G : Gr W3.drew W') => And.intro (G.keep c0) (And.intro (G.keep c1) (And.intro (G.keep c2) (And.intro (G.keep c3) (And.intro (G.keep u0) (And.intro (G.keep u1) (And.intro (G.keep u2) (And.intro (G.keep u3) (G.keep b0)))))))))
            have hst : ∀ p ∈ ([] : List (Nat × (Value → World → Prop))), ∀ (u : Value) (wA0 wB0 : World), Gr W3.drew wA0 → Gr wA0 wB0 → p.2 u wA0 → p.2 u wB0 := by
              intro p hp; cases hp
            refine wpAny_walk (m := 0) (last := #[true, true, true, true, true, true, true, true, true, true, true, true, true, true, true, true, true, true, true, true, true]) [0, 1, 2, 3, 4, 5, 6, 7, 8, 9, 10, 11, 12, 13, 14, 15, 16, 17, 18, 19, 20] [] (by kernel_rfl) (by decide) (by kernel_rfl) hst ?_
            clear hst
            refine Walk.take (v := ?wv22) rfl rfl (Or.inl ⟨by rfl, ?wy22⟩) ?wr22
            case wy22 => (intro w' hw'; obtain ⟨c0, c1, c2, c3, u0, u1, u2, u3, b0⟩ := kc.out w' hw'; go_simp; try with_reducible rfl)
            try simp only [Act.put, List.setIfInBounds_toArray, List.set_cons_zero, List.set_cons_succ]
            refine Walk.take (v := ?wv23) rfl rfl (Or.inl ⟨by rfl, ?wy23⟩) ?wr23
            case wy23 => (intro w' hw'; obtain ⟨c0, c1, c2, c3, u0, u1, u2, u3, b0⟩ := kc.out w' hw'; go_simp; try with_reducible rfl)
            try simp only [Act.put, List.setIfInBounds_toArray, List.set_cons_zero, List.set_cons_succ]
            refine Walk.take (v := ?wv24) rfl rfl (Or.inl ⟨by rfl, ?wy24⟩) ?wr24
            case wy24 => (intro w' hw'; obtain ⟨c0, c1, c2, c3, u0, u1, u2, u3, b0⟩ := kc.out w' hw'; go_simp; try with_reducible rfl)
            try simp only [Act.put, List.setIfInBounds_toArray, List.set_cons_zero, List.set_cons_succ]
            refine Walk.take (v := ?wv25) rfl rfl (Or.inl ⟨by rfl, ?wy25⟩) ?wr25
            case wy25 => (intro w' hw'; obtain ⟨c0, c1, c2, c3, u0, u1, u2, u3, b0⟩ := kc.out w' hw'; go_simp; try with_reducible rfl)
            try simp only [Act.put, List.setIfInBounds_toArray, List.set_cons_zero, List.set_cons_succ]
            refine Walk.take (v := ?wv26) rfl rfl (Or.inl ⟨by rfl, ?wy26⟩) ?wr26
            case wy26 => (intro w' hw'; obtain ⟨c0, c1, c2, c3, u0, u1, u2, u3, b0⟩ := kc.out w' hw'; go_simp; try with_reducible rfl)
            try simp only [Act.put, List.setIfInBounds_toArray, List.set_cons_zero, List.set_cons_succ]
            refine Walk.take (v := ?wv27) rfl rfl (Or.inl ⟨by rfl, ?wy27⟩) ?wr27
            case wy27 => (intro w' hw'; obtain ⟨c0, c1, c2, c3, u0, u1, u2, u3, b0⟩ := kc.out w' hw'; go_simp; try with_reducible rfl)
            try simp only [Act.put, List.setIfInBounds_toArray, List.set_cons_zero, List.set_cons_succ]
            refine Walk.take (v := ?wv28) rfl rfl (Or.inl ⟨by rfl, ?wy28⟩) ?wr28
            case wy28 => (intro w' hw'; obtain ⟨c0, c1, c2, c3, u0, u1, u2, u3, b0⟩ := kc.out w' hw'; go_simp; try with_reducible rfl)
            try simp only [Act.put, List.setIfInBounds_toArray, List.set_cons_zero, List.set_cons_succ]
            refine Walk.take (v := ?wv29) rfl rfl (Or.inl ⟨by rfl, ?wy29⟩) ?wr29
            case wy29 => (intro w' hw'; obtain ⟨c0, c1, c2, c3, u0, u1, u2, u3, b0⟩ := kc.out w' hw'; go_simp; try with_reducible rfl)
            try simp only [Act.put, List.setIfInBounds_toArray, List.set_cons_zero, List.set_cons_succ]
            refine Walk.take (v := ?wv30) rfl rfl (Or.inl ⟨by rfl, ?wy30⟩) ?wr30
            case wy30 => (intro w' hw'; obtain ⟨c0, c1, c2, c3, u0, u1, u2, u3, b0⟩ := kc.out w' hw'; go_simp; try with_reducible rfl)
            try simp only [Act.put, List.setIfInBounds_toArray, List.set_cons_zero, List.set_cons_succ]
            refine Walk.take (v := ?wv31) rfl rfl (Or.inl ⟨by rfl, ?wy31⟩) ?wr31
            case wy31 => (intro w' hw'; obtain ⟨c0, c1, c2, c3, u0, u1, u2, u3, b0⟩ := kc.out w' hw'; go_simp; try with_reducible rfl)
            try simp only [Act.put, List.setIfInBounds_toArray, List.set_cons_zero, List.set_cons_succ]
            refine Walk.take (v := undef) rfl rfl (Or.inr ⟨by rfl, rfl⟩) ?_
            try simp only [Act.put, List.setIfInBounds_toArray, List.set_cons_zero, List.set_cons_succ]
            refine Walk.take (v := undef) rfl rfl (Or.inr ⟨by rfl, rfl⟩) ?_
            try simp only [Act.put, List.setIfInBounds_toArray, List.set_cons_zero, List.set_cons_succ]
            refine Walk.take (v := undef) rfl rfl (Or.inr ⟨by rfl, rfl⟩) ?_
            try simp only [Act.put, List.setIfInBounds_toArray, List.set_cons_zero, List.set_cons_succ]
            refine Walk.take (v := undef) rfl rfl (Or.inr ⟨by rfl, rfl⟩) ?_
            try simp only [Act.put, List.setIfInBounds_toArray, List.set_cons_zero, List.set_cons_succ]
            refine Walk.take (v := undef) rfl rfl (Or.inr ⟨by rfl, rfl⟩) ?_
            try simp only [Act.put, List.setIfInBounds_toArray, List.set_cons_zero, List.set_cons_succ]
            refine Walk.take (v := undef) rfl rfl (Or.inr ⟨by rfl, rfl⟩) ?_
            try simp only [Act.put, List.setIfInBounds_toArray, List.set_cons_zero, List.set_cons_succ]
            refine Walk.take (v := undef) rfl rfl (Or.inr ⟨by rfl, rfl⟩) ?_
            try simp only [Act.put, List.setIfInBounds_toArray, List.set_cons_zero, List.set_cons_succ]
            refine Walk.take (v := undef) rfl rfl (Or.inr ⟨by rfl, rfl⟩) ?_
            try simp only [Act.put, List.setIfInBounds_toArray, List.set_cons_zero, List.set_cons_succ]
            refine Walk.take (v := undef) rfl rfl (Or.inr ⟨by rfl, rfl⟩) ?_
            try simp only [Act.put, List.setIfInBounds_toArray, List.set_cons_zero, List.set_cons_succ]
            refine Walk.take (v := undef) rfl rfl (Or.inr ⟨by rfl, rfl⟩) ?_
            try simp only [Act.put, List.setIfInBounds_toArray, List.set_cons_zero, List.set_cons_succ]
            refine Walk.take (v := ?wv32) rfl rfl (Or.inl ⟨by rfl, ?wy32⟩) ?wr32
            case wy32 => (intro w' hw'; obtain ⟨c0, c1, c2, c3, u0, u1, u2, u3, b0⟩ := kc.out w' hw'; go_simp; try with_reducible rfl)
            try simp only [Act.put, List.setIfInBounds_toArray, List.set_cons_zero, List.set_cons_succ]
            refine Walk.done (fun W1 G1 F1 => ?_)
            clear F1
            have kc1 := kc.out W1 G1
            clear kc c0 c1 c2 c3 u0 u1 u2 u3 b0
            obtain ⟨c0, c1, c2, c3, u0, u1, u2, u3, b0⟩ := kc1
            refine wpAny_end (by kernel_rfl) ?_
            have HG4 := Lib.hid (HG2.out.trans (GT.out.trans G1.of_drew))
            have DP4 := Lib.hid ((GT.out.trans G1.of_drew).bk DP.out)
            have DQ4 := Lib.hid ((GT.out.trans G1.of_drew).bk DQ.out)
            clear G1 c0 c1 c2 c3 u0 u1 u2 u3 b0
            go_wp2
            go_ret
            exact ⟨by rw [decide_eq_false (fun h : x = y => HV1.out (by have h1 := HQ.out; have h2 := HP.out; rw [h] at h1; rw [h1] at h2; injection h2 with h2; rw [HT.out.var, HS.out.var, h2]))]; rfl, HG4.out⟩
        · obtain rfl : k = xn := by omega
          go_wp2
          go_ret
          refine ⟨?_, HG2.out⟩
          have h1 := HTK.out
          rw [List.take_of_length_le (by rw [HV.out]; exact Nat.le_refl _), List.take_of_length_le (by rw [HW.out]; exact Nat.le_refl _)] at h1
          have : x = y := by
            obtain ⟨xt, xk⟩ := x
            obtain ⟨yt, yk⟩ := y
            obtain rfl : xt = yt := h1
            obtain rfl : xk = yk := of_decide_eq_true HCM.out
            rfl
          rw [decide_eq_true this]
          exact rfl
  · have hnn : ((xn : Int) != yn) = true := by simp; omega
    have HE : Hid (decide (x = y) = false) := Lib.hid (decide_eq_false fun h => hn (by rw [← hvn, ← hwn, h]))
    obtain ⟨B1, B2, G⟩ := made2 w 43 43 (#[.slice xA xn xc, .bool fc.neg, .slice fc.num.A fc.num.n fc.num.c, .slice fc.den.A fc.den.n fc.den.c]) (#[.slice yA yn yc, .bool gc.neg, .slice gc.num.A gc.num.n gc.num.c, .slice gc.den.A gc.den.n gc.den.c])
    have HG := Lib.hid G
    have D_p := Lib.hid B1
    have D_q0 := Lib.hid B2
    clear G B1 B2
    have HF := Lib.hid hf
    have HG0 := Lib.hid hg
    clear hf hg hvn hwn hmx
    obtain ⟨a0, a1, a2, a3⟩ := D_p.out.c4
    obtain ⟨b0, b1, b2, b3⟩ := D_q0.out.c4
    simp only [Rv.v, Fv.v] at *
    go_enter Tryz.func40, Tryz.ntmps40
    go_wp2_with fail
    generalize hW : (w.alloc (.cells #[.slice xA xn xc, .bool fc.neg, .slice fc.num.A fc.num.n fc.num.c, .slice fc.den.A fc.den.n fc.den.c] 43)).alloc (.cells #[.slice yA yn yc, .bool gc.neg, .slice gc.num.A gc.num.n gc.num.c, .slice gc.den.A gc.den.n gc.den.c] 43) = W at *
    clear hW
    have N_p : Hid (w.heap.size ≤ w.heap.size) := (by show w.heap.size ≤ w.heap.size; omega)
    have N_q0 : Hid (w.heap.size ≤ w.heap.size + 1) := (by show w.heap.size ≤ w.heap.size + 1; omega)
    generalize w.heap.size + 1 = q0 at *
    go_wp2
    go_ret
    exact ⟨by rw [HE.out]; rfl, HG.out⟩

set_option maxRecDepth 100000 in
set_option maxHeartbeats 4000000 in
theorem r7equal_any (w : World) (f g : Fv) (x y : Fm) (hf : f.Is w x) (hg : g.Is w y) :
    Calls Tryz.prog 43 #[f.v, g.v] w fun e w' => e = .returned (.bool (decide (x = y))) ∧ Gr w w' := by
  obtain ⟨⟨xA, xn, xc⟩, fc⟩ := f
  obtain ⟨⟨yA, yn, yc⟩, gc⟩ := g
  have hvn : x.terms.length = xn := hf.terms.len
  have hwn : y.terms.length = yn := hg.terms.len
  have hmx : xn ≤ 9223372036854775807 := (by obtain ⟨_, h1, _⟩ := hf.terms; exact Nat.le_trans h1.cap h1.max)
  by_cases hn : xn = yn
  · subst hn
    have hnn : ((xn : Int) != xn) = false := by simp
    obtain ⟨B1, B2, G⟩ := made2 w 43 43 (#[.slice xA xn xc, .bool fc.neg, .slice fc.num.A fc.num.n fc.num.c, .slice fc.den.A fc.den.n fc.den.c]) (#[.slice yA xn yc, .bool gc.neg, .slice gc.num.A gc.num.n gc.num.c, .slice gc.den.A gc.den.n gc.den.c])
    have HG := Lib.hid G
    have D_p := Lib.hid B1
    have D_q0 := Lib.hid B2
    clear G B1 B2
    have HF := Lib.hid hf
    have HG0 := Lib.hid hg
    have HV := Lib.hid hvn
    have HW := Lib.hid hwn
    have HM := Lib.hid hmx
    clear hf hg hvn hwn hmx
    obtain ⟨a0, a1, a2, a3⟩ := D_p.out.c4
    obtain ⟨b0, b1, b2, b3⟩ := D_q0.out.c4
    simp only [Rv.v, Fv.v] at *
    go_enter Tryz.func43, Tryz.ntmps43
    go_wp2_with fail
    generalize hW : (w.alloc (.cells #[.slice xA xn xc, .bool fc.neg, .slice fc.num.A fc.num.n fc.num.c, .slice fc.den.A fc.den.n fc.den.c] 43)).alloc (.cells #[.slice yA xn yc, .bool gc.neg, .slice gc.num.A gc.num.n gc.num.c, .slice gc.den.A gc.den.n gc.den.c] 43) = W at *
    clear hW
    have N_p : Hid (w.heap.size ≤ w.heap.size) := (by show w.heap.size ≤ w.heap.size; omega)
    have N_q0 : Hid (w.heap.size ≤ w.heap.size + 1) := (by show w.heap.size ≤ w.heap.size + 1; omega)
    generalize w.heap.size + 1 = q0 at *
    have H1 := Lib.hid (rsame_any W fc gc x.const y.const (HF.out.const.gr HG.out) (HG0.out.const.gr HG.out))
    generalize hcm : decide (x.const = y.const) = cm at *
    have HCM := Lib.hid hcm
    clear hcm
    go_at_call 75
    refine H1.out.mono ?_
    rintro e w1 ⟨rfl, G1⟩
    replace HG := Lib.hid (HG.out.trans G1)
    replace D_p := Lib.hid (G1.bk D_p.out)
    replace D_q0 := Lib.hid (G1.bk D_q0.out)
    clear G1 H1 a0 a1 a2 a3 b0 b1 b2 b3
    obtain ⟨a0, a1, a2, a3⟩ := D_p.out.c4
    obtain ⟨b0, b1, b2, b3⟩ := D_q0.out.c4
    cases cm
    · go_wp2
      go_ret
      exact ⟨by rw [decide_eq_false (fun h : x = y => of_decide_eq_false HCM.out (congrArg Fm.const h))]; rfl, HG.out⟩
    · go_wp2_with fail
      go_loopw [5] (fun i wr => ∃ k : Nat, i = .int .i64 k ∧ k ≤ xn ∧ Hid (x.terms.take k = y.terms.take k) ∧ Hid (Gr w wr) ∧ Hid (Bk wr w.heap.size 43 #[.slice xA xn xc, .bool fc.neg, .slice fc.num.A fc.num.n fc.num.c, .slice fc.den.A fc.den.n fc.den.c]) ∧ Hid (Bk wr q0 43 #[.slice yA xn yc, .bool gc.neg, .slice gc.num.A gc.num.n gc.num.c, .slice gc.den.A gc.den.n gc.den.c])) (fun i _ => xn - (intOf i).toNat)
      case atStart => exact ⟨0, rfl, Nat.zero_le _, rfl, HG, D_p, D_q0⟩
      case round =>
        obtain ⟨k, rfl, hk, HTK, HG2, DP, DQ⟩ := hrel
        clear HG D_p D_q0 a0 a1 a2 a3 b0 b1 b2 b3
        obtain ⟨a0, a1, a2, a3⟩ := DP.out.c4
        obtain ⟨b0, b1, b2, b3⟩ := DQ.out.c4
        by_cases hkn : k < xn
        · obtain ⟨q, hq⟩ : ∃ q, x.terms[k]? = some q := ⟨_, List.getElem?_eq_getElem (by rw [HV.out]; exact hkn)⟩
          obtain ⟨p, hp⟩ : ∃ p, y.terms[k]? = some p := ⟨_, List.getElem?_eq_getElem (by rw [HW.out]; exact hkn)⟩
          obtain ⟨t, ad, ht, hA, d0, d1, d2, d3⟩ := (HF.out.terms.gr HG2.out).at hq
          obtain ⟨s, bd, hs, hB, u0, u1, u2, u3⟩ := (HG0.out.terms.gr HG2.out).at hp
          simp only at hA hB
          subst hA hB
          have HT := Lib.hid ht
          have HS := Lib.hid hs
          have HQ := Lib.hid hq
          have HP := Lib.hid hp
          have hm9 : k < 9223372036854775807 := Nat.lt_of_lt_of_le hkn HM.out
          clear hq hp ht hs
          by_cases hv : t.var = s.var
          · have hv1 : (t.var != s.var) = false := by simp [hv]
            have HV1 := Lib.hid hv
            clear hv
            generalize hsm : decide (q.2 = p.2) = sm at *
            have HSM := Lib.hid hsm
            clear hsm
            go_wp2_with fail
            have GT := Lib.hid (Gr.refl wr)
            clear a1 a2 a3 b1 b2 b3
            refine wp_region_any (by kernel_rfl) ?_
            have kc := Lib.hid (fun (W' : World) (G : Gr wr.drew W') => And.intro (G.keep d0) (And.intro (G.keep d1) (And.intro (G.keep d2) (And.intro (G.keep d3) (And.intro (G.keep u0) (And.intro (G.keep u1) (And.intro (G.keep u2) (And.intro (G.keep u3) (And.intro (G.keep a0) (G.keep b0))))))))))
            have hst : ∀ p ∈ ([(26, fun v _ => v = .bool sm)] : List (Nat × (Value → World → Prop))), ∀ (u : Value) (wA0 wB0 : World), Gr wr.drew wA0 → Gr wA0 wB0 → p.2 u wA0 → p.2 u wB0 := by
              intro p hp u wA0 wB0 h0 G h
              simp only [List.mem_cons, List.not_mem_nil, or_false] at hp
              subst hp
              · exact h
            refine wpAny_walk (m := 0) (last := #[true, true, true, true, true, true, true, true, true, true, true, true, true, true, true, true, true, true, true, true, true, true, true, true, true, true, true, true, true]) [0, 1, 2, 3, 4, 5, 6, 7, 8, 9, 10, 11, 12, 13, 14, 15, 16, 17, 18, 19, 20, 21, 22, 23, 24, 25, 26, 27, 28] [(26, fun v _ => v = .bool sm)] (by kernel_rfl) (by decide) (by kernel_rfl) hst ?_
            clear hst
            refine Walk.take (v := ?wv33) rfl rfl (Or.inl ⟨by rfl, ?wy33⟩) ?wr33
            case wy33 => (intro w' hw'; obtain ⟨d0, d1, d2, d3, u0, u1, u2, u3, a0, b0⟩ := kc.out w' hw'; go_simp; try with_reducible rfl)
            try simp only [Act.put, List.setIfInBounds_toArray, List.set_cons_zero, List.set_cons_succ]
            refine Walk.take (v := ?wv34) rfl rfl (Or.inl ⟨by rfl, ?wy34⟩) ?wr34
            case wy34 => (intro w' hw'; obtain ⟨d0, d1, d2, d3, u0, u1, u2, u3, a0, b0⟩ := kc.out w' hw'; go_simp; try with_reducible rfl)
            try simp only [Act.put, List.setIfInBounds_toArray, List.set_cons_zero, List.set_cons_succ]
            refine Walk.take (v := ?wv35) rfl rfl (Or.inl ⟨by rfl, ?wy35⟩) ?wr35
            case wy35 => (intro w' hw'; obtain ⟨d0, d1, d2, d3, u0, u1, u2, u3, a0, b0⟩ := kc.out w' hw'; go_simp; try with_reducible rfl)
            try simp only [Act.put, List.setIfInBounds_toArray, List.set_cons_zero, List.set_cons_succ]
            refine Walk.take (v := ?wv36) rfl rfl (Or.inl ⟨by rfl, ?wy36⟩) ?wr36
            case wy36 => (intro w' hw'; obtain ⟨d0, d1, d2, d3, u0, u1, u2, u3, a0, b0⟩ := kc.out w' hw'; go_simp; try with_reducible rfl)
            try simp only [Act.put, List.setIfInBounds_toArray, List.set_cons_zero, List.set_cons_succ]
            refine Walk.take (v := ?wv37) rfl rfl (Or.inl ⟨by rfl, ?wy37⟩) ?wr37
            case wy37 => (intro w' hw'; obtain ⟨d0, d1, d2, d3, u0, u1, u2, u3, a0, b0⟩ := kc.out w' hw'; go_simp; try with_reducible rfl)
            try simp only [Act.put, List.setIfInBounds_toArray, List.set_cons_zero, List.set_cons_succ]
            refine Walk.take (v := ?wv38) rfl rfl (Or.inl ⟨by rfl, ?wy38⟩) ?wr38
            case wy38 => (intro w' hw'; obtain ⟨d0, d1, d2, d3, u0, u1, u2, u3, a0, b0⟩ := kc.out w' hw'; go_simp; try with_reducible rfl)
            try simp only [Act.put, List.setIfInBounds_toArray, List.set_cons_zero, List.set_cons_succ]
            refine Walk.take (v := ?wv39) rfl rfl (Or.inl ⟨by rfl, ?wy39⟩) ?wr39
            case wy39 => (intro w' hw'; obtain ⟨d0, d1, d2, d3, u0, u1, u2, u3, a0, b0⟩ := kc.out w' hw'; go_simp; try with_reducible rfl)
            try simp only [Act.put, List.setIfInBounds_toArray, List.set_cons_zero, List.set_cons_succ]
            refine Walk.take (v := ?wv40) rfl rfl (Or.inl ⟨by rfl, ?wy40⟩) ?wr40
            case wy40 => (intro w' hw'; obtain ⟨d0, d1, d2, d3, u0, u1, u2, u3, a0, b0⟩ := kc.out w' hw'; go_simp; try with_reducible rfl)
            try simp only [Act.put, List.setIfInBounds_toArray, List.set_cons_zero, List.set_cons_succ]
            refine Walk.take (v := ?wv41) rfl rfl (Or.inl ⟨by rfl, ?wy41⟩) ?wr41
            case wy41 => (intro w' hw'; obtain ⟨d0, d1, d2, d3, u0, u1, u2, u3, a0, b0⟩ := kc.out w' hw'; go_simp; try with_reducible rfl)
            try simp only [Act.put, List.setIfInBounds_toArray, List.set_cons_zero, List.set_cons_succ]
            refine Walk.take (v := ?wv42) rfl rfl (Or.inl ⟨by rfl, ?wy42⟩) ?wr42
            case wy42 => (intro w' hw'; obtain ⟨d0, d1, d2, d3, u0, u1, u2, u3, a0, b0⟩ := kc.out w' hw'; go_simp; try with_reducible rfl)
            try simp only [Act.put, List.setIfInBounds_toArray, List.set_cons_zero, List.set_cons_succ]
            refine Walk.take (v := ?wv43) rfl rfl (Or.inl ⟨by rfl, ?wy43⟩) ?wr43
            case wy43 => (intro w' hw'; obtain ⟨d0, d1, d2, d3, u0, u1, u2, u3, a0, b0⟩ := kc.out w' hw'; go_simp; try with_reducible rfl)
            try simp only [Act.put, List.setIfInBounds_toArray, List.set_cons_zero, List.set_cons_succ]
            refine Walk.take (v := ?wv44) rfl rfl (Or.inl ⟨by rfl, ?wy44⟩) ?wr44
            case wy44 => (intro w' hw'; obtain ⟨d0, d1, d2, d3, u0, u1, u2, u3, a0, b0⟩ := kc.out w' hw'; go_simp; try with_reducible rfl)
            try simp only [Act.put, List.setIfInBounds_toArray, List.set_cons_zero, List.set_cons_succ]
            refine Walk.take (v := ?wv45) rfl rfl (Or.inl ⟨by rfl, ?wy45⟩) ?wr45
            case wy45 => (intro w' hw'; obtain ⟨d0, d1, d2, d3, u0, u1, u2, u3, a0, b0⟩ := kc.out w' hw'; go_simp; try with_reducible rfl)
            try simp only [Act.put, List.setIfInBounds_toArray, List.set_cons_zero, List.set_cons_succ]
            refine Walk.take (v := ?wv46) rfl rfl (Or.inl ⟨by rfl, ?wy46⟩) ?wr46
            case wy46 => (intro w' hw'; obtain ⟨d0, d1, d2, d3, u0, u1, u2, u3, a0, b0⟩ := kc.out w' hw'; go_simp; try with_reducible rfl)
            try simp only [Act.put, List.setIfInBounds_toArray, List.set_cons_zero, List.set_cons_succ]
            refine Walk.take (v := ?wv47) rfl rfl (Or.inl ⟨by rfl, ?wy47⟩) ?wr47
            case wy47 => (intro w' hw'; obtain ⟨d0, d1, d2, d3, u0, u1, u2, u3, a0, b0⟩ := kc.out w' hw'; go_simp; try with_reducible rfl)
            try simp only [Act.put, List.setIfInBounds_toArray, List.set_cons_zero, List.set_cons_succ]
            refine Walk.take (v := ?wv48) rfl rfl (Or.inl ⟨by rfl, ?wy48⟩) ?wr48
            case wy48 => (intro w' hw'; obtain ⟨d0, d1, d2, d3, u0, u1, u2, u3, a0, b0⟩ := kc.out w' hw'; go_simp; try with_reducible rfl)
            try simp only [Act.put, List.setIfInBounds_toArray, List.set_cons_zero, List.set_cons_succ]
            refine Walk.take (v := ?wv49) rfl rfl (Or.inl ⟨by rfl, ?wy49⟩) ?wr49
            case wy49 => (intro w' hw'; obtain ⟨d0, d1, d2, d3, u0, u1, u2, u3, a0, b0⟩ := kc.out w' hw'; go_simp; try with_reducible rfl)
            try simp only [Act.put, List.setIfInBounds_toArray, List.set_cons_zero, List.set_cons_succ]
            refine Walk.take (v := ?wv50) rfl rfl (Or.inl ⟨by rfl, ?wy50⟩) ?wr50
            case wy50 => (intro w' hw'; obtain ⟨d0, d1, d2, d3, u0, u1, u2, u3, a0, b0⟩ := kc.out w' hw'; go_simp; try with_reducible rfl)
            try simp only [Act.put, List.setIfInBounds_toArray, List.set_cons_zero, List.set_cons_succ]
            refine Walk.take (v := ?wv51) rfl rfl (Or.inl ⟨by rfl, ?wy51⟩) ?wr51
            case wy51 => (intro w' hw'; obtain ⟨d0, d1, d2, d3, u0, u1, u2, u3, a0, b0⟩ := kc.out w' hw'; go_simp; try with_reducible rfl)
            try simp only [Act.put, List.setIfInBounds_toArray, List.set_cons_zero, List.set_cons_succ]
            refine Walk.take (v := ?wv52) rfl rfl (Or.inl ⟨by rfl, ?wy52⟩) ?wr52
            case wy52 => (intro w' hw'; obtain ⟨d0, d1, d2, d3, u0, u1, u2, u3, a0, b0⟩ := kc.out w' hw'; go_simp; try with_reducible rfl)
            try simp only [Act.put, List.setIfInBounds_toArray, List.set_cons_zero, List.set_cons_succ]
            refine Walk.take (v := ?wv53) rfl rfl (Or.inl ⟨by rfl, ?wy53⟩) ?wr53
            case wy53 => (intro w' hw'; obtain ⟨d0, d1, d2, d3, u0, u1, u2, u3, a0, b0⟩ := kc.out w' hw'; go_simp; try with_reducible rfl)
            try simp only [Act.put, List.setIfInBounds_toArray, List.set_cons_zero, List.set_cons_succ]
            refine Walk.take (v := ?wv54) rfl rfl (Or.inl ⟨by rfl, ?wy54⟩) ?wr54
            case wy54 => (intro w' hw'; obtain ⟨d0, d1, d2, d3, u0, u1, u2, u3, a0, b0⟩ := kc.out w' hw'; go_simp; try with_reducible rfl)
            try simp only [Act.put, List.setIfInBounds_toArray, List.set_cons_zero, List.set_cons_succ]
            refine Walk.take (v := ?wv55) rfl rfl (Or.inl ⟨by rfl, ?wy55⟩) ?wr55
            case wy55 => (intro w' hw'; obtain ⟨d0, d1, d2, d3, u0, u1, u2, u3, a0, b0⟩ := kc.out w' hw'; go_simp; try with_reducible rfl)
            try simp only [Act.put, List.setIfInBounds_toArray, List.set_cons_zero, List.set_cons_succ]
            refine Walk.take (v := ?wv56) rfl rfl (Or.inl ⟨by rfl, ?wy56⟩) ?wr56
            case wy56 => (intro w' hw'; obtain ⟨d0, d1, d2, d3, u0, u1, u2, u3, a0, b0⟩ := kc.out w' hw'; go_simp; try with_reducible rfl)
            try simp only [Act.put, List.setIfInBounds_toArray, List.set_cons_zero, List.set_cons_succ]
            refine Walk.take (v := ?wv57) rfl rfl (Or.inl ⟨by rfl, ?wy57⟩) ?wr57
            case wy57 => (intro w' hw'; obtain ⟨d0, d1, d2, d3, u0, u1, u2, u3, a0, b0⟩ := kc.out w' hw'; go_simp; try with_reducible rfl)
            try simp only [Act.put, List.setIfInBounds_toArray, List.set_cons_zero, List.set_cons_succ]
            refine Walk.take (v := ?wv58) rfl rfl (Or.inl ⟨by rfl, ?wy58⟩) ?wr58
            case wy58 => (intro w' hw'; obtain ⟨d0, d1, d2, d3, u0, u1, u2, u3, a0, b0⟩ := kc.out w' hw'; go_simp; try with_reducible rfl)
            try simp only [Act.put, List.setIfInBounds_toArray, List.set_cons_zero, List.set_cons_succ]
            refine Walk.do rfl rfl (by rfl) (fun W1 G1 F1 => ?ws59) (fun v hv => ?wr59)
            case ws59 =>
              obtain ⟨d0, d1, d2, d3, u0, u1, u2, u3, a0, b0⟩ := kc.out W1 G1
              refine doesAt_enter (f := 75) (args := #[.agg #[.bool t.coef.neg, .slice t.coef.num.A t.coef.num.n t.coef.num.c, .slice t.coef.den.A t.coef.den.n t.coef.den.c], .agg #[.bool s.coef.neg, .slice s.coef.num.A s.coef.num.n s.coef.num.c, .slice s.coef.den.A s.coef.den.n s.coef.den.c]]) (by go_simp; try (first | with_reducible rfl | rfl)) ?_
              refine ((show Calls _ _ _ _ (fun e w' => e = .returned (.bool sm) ∧ Gr W1 w') from by rw [← HSM.out]; exact rsame_any W1 t.coef s.coef q.2 p.2 (HT.out.coef.gr (GT.out.trans G1.of_drew)) (HS.out.coef.gr (GT.out.trans G1.of_drew)))).mono ?_
              rintro e w' ⟨rfl, G⟩
              exact ⟨_, rfl, G, rfl⟩
            obtain ⟨_, -, -, rfl⟩ := hv
            try simp only [Act.put, List.setIfInBounds_toArray, List.set_cons_zero, List.set_cons_succ]
            refine Walk.take (v := ?wv60) rfl rfl (Or.inl ⟨by rfl, ?wy60⟩) ?wr60
            case wy60 => (intro w' hw'; obtain ⟨d0, d1, d2, d3, u0, u1, u2, u3, a0, b0⟩ := kc.out w' hw'; go_simp; try with_reducible rfl)
            try simp only [Act.put, List.setIfInBounds_toArray, List.set_cons_zero, List.set_cons_succ]
            refine Walk.take (v := ?wv61) rfl rfl (Or.inl ⟨by rfl, ?wy61⟩) ?wr61
            case wy61 => (intro w' hw'; obtain ⟨d0, d1, d2, d3, u0, u1, u2, u3, a0, b0⟩ := kc.out w' hw'; go_simp; try with_reducible rfl)
            try simp only [Act.put, List.setIfInBounds_toArray, List.set_cons_zero, List.set_cons_succ]
            refine Walk.done (fun W1 G1 F1 => ?_)
            clear F1
            have kc1 := kc.out W1 G1
            clear kc d0 d1 d2 d3 u0 u1 u2 u3 a0 b0
            obtain ⟨d0, d1, d2, d3, u0, u1, u2, u3, a0, b0⟩ := kc1
            refine wpAny_end (by kernel_rfl) ?_
            have HG4 := Lib.hid (HG2.out.trans (GT.out.trans G1.of_drew))
            have DP4 := Lib.hid ((GT.out.trans G1.of_drew).bk DP.out)
            have DQ4 := Lib.hid ((GT.out.trans G1.of_drew).bk DQ.out)
            clear G1 d0 d1 d2 d3 u0 u1 u2 u3 a0 b0
            cases sm
            · go_wp2
              go_ret
              exact ⟨by rw [decide_eq_false (fun h : x = y => of_decide_eq_false HSM.out (by have h1 := HQ.out; have h2 := HP.out; rw [h] at h1; rw [h1] at h2; injection h2 with h2; rw [h2]))]; rfl, HG4.out⟩
            · have HTT : Hid (x.terms.take (k + 1) = y.terms.take (k + 1)) := by
                rw [List.take_add_one, List.take_add_one, HTK.out, HQ.out, HP.out]
                have : q = p := Prod.ext (by rw [← HT.out.var, ← HS.out.var]; exact HV1.out) (of_decide_eq_true HSM.out)
                rw [this]
                exact rfl
              go_wp2
              go_roundw
              · exact ⟨k + 1, by go_num, by omega, HTT, HG4, DP4, DQ4⟩
              · simp [intOf]; omega
          · have hv1 : (t.var != s.var) = true := by simp [hv]
            have HV1 := Lib.hid hv
            clear hv
            go_wp2_with fail
            have GT := Lib.hid (Gr.refl wr)
            clear a1 a2 a3 b1 b2 b3
            refine wp_region_any (by kernel_rfl) ?_
            have kc := Lib.hid (fun (W' : World) (G : Gr wr.drew W') => And.intro (G.keep d0) (And.intro (G.keep d1) (And.intro (G.keep d2) (And.intro (G.keep d3) (And.intro (G.keep u0) (And.intro (G.keep u1) (And.intro (G.keep u2) (And.intro (G.keep u3) (And.intro (G.keep a0) (G.keep b0))))))))))
            have hst : ∀ p ∈ ([] : List (Nat × (Value → World → Prop))), ∀ (u : Value) (wA0 wB0 : World), Gr wr.drew wA0 → Gr wA0 wB0 → p.2 u wA0 → p.2 u wB0 := by
              intro p hp; cases hp
            refine wpAny_walk (m := 0) (last := #[true, true, true, true, true, true, true, true, true, true, true, true, true, true, true, true, true, true, true, true, true, true, true, true, true, true, true, true, true]) [0, 1, 2, 3, 4, 5, 6, 7, 8, 9, 10, 11, 12, 13, 14, 15, 16, 17, 18, 19, 20, 21, 22, 23, 24, 25, 26, 27, 28] [] (by kernel_rfl) (by decide) (by kernel_rfl) hst ?_
            clear hst
            refine Walk.take (v := ?wv62) rfl rfl (Or.inl ⟨by rfl, ?wy62⟩) ?wr62
            case wy62 => (intro w' hw'; obtain ⟨d0, d1, d2, d3, u0, u1, u2, u3, a0, b0⟩ := kc.out w' hw'; go_simp; try with_reducible rfl)
            try simp only [Act.put, List.setIfInBounds_toArray, List.set_cons_zero, List.set_cons_succ]
            refine Walk.take (v := ?wv63) rfl rfl (Or.inl ⟨by rfl, ?wy63⟩) ?wr63
            case wy63 => (intro w' hw'; obtain ⟨d0, d1, d2, d3, u0, u1, u2, u3, a0, b0⟩ := kc.out w' hw'; go_simp; try with_reducible rfl)
            try simp only [Act.put, List.setIfInBounds_toArray, List.set_cons_zero, List.set_cons_succ]
            refine Walk.take (v := ?wv64) rfl rfl (Or.inl ⟨by rfl, ?wy64⟩) ?wr64
            case wy64 => (intro w' hw'; obtain ⟨d0, d1, d2, d3, u0, u1, u2, u3, a0, b0⟩ := kc.out w' hw'; go_simp; try with_reducible rfl)
            try simp only [Act.put, List.setIfInBounds_toArray, List.set_cons_zero, List.set_cons_succ]
            refine Walk.take (v := ?wv65) rfl rfl (Or.inl ⟨by rfl, ?wy65⟩) ?wr65
            case wy65 => (intro w' hw'; obtain ⟨d0, d1, d2, d3, u0, u1, u2, u3, a0, b0⟩ := kc.out w' hw'; go_simp; try with_reducible rfl)
            try simp only [Act.put, List.setIfInBounds_toArray, List.set_cons_zero, List.set_cons_succ]
            refine Walk.take (v := ?wv66) rfl rfl (Or.inl ⟨by rfl, ?wy66⟩) ?wr66
            case wy66 => (intro w' hw'; obtain ⟨d0, d1, d2, d3, u0, u1, u2, u3, a0, b0⟩ := kc.out w' hw'; go_simp; try with_reducible rfl)
            try simp only [Act.put, List.setIfInBounds_toArray, List.set_cons_zero, List.set_cons_succ]
            refine Walk.take (v := ?wv67) rfl rfl (Or.inl ⟨by rfl, ?wy67⟩) ?wr67
            case wy67 => (intro w' hw'; obtain ⟨d0, d1, d2, d3, u0, u1, u2, u3, a0, b0⟩ := kc.out w' hw'; go_simp; try with_reducible rfl)
            try simp only [Act.put, List.setIfInBounds_toArray, List.set_cons_zero, List.set_cons_succ]
            refine Walk.take (v := ?wv68) rfl rfl (Or.inl ⟨by rfl, ?wy68⟩) ?wr68
            case wy68 => (intro w' hw'; obtain ⟨d0, d1, d2, d3, u0, u1, u2, u3, a0, b0⟩ := kc.out w' hw'; go_simp; try with_reducible rfl)
            try simp only [Act.put, List.setIfInBounds_toArray, List.set_cons_zero, List.set_cons_succ]
            refine Walk.take (v := ?wv69) rfl rfl (Or.inl ⟨by rfl, ?wy69⟩) ?wr69
            case wy69 => (intro w' hw'; obtain ⟨d0, d1, d2, d3, u0, u1, u2, u3, a0, b0⟩ := kc.out w' hw'; go_simp; try with_reducible rfl)
            try simp only [Act.put, List.setIfInBounds_toArray, List.set_cons_zero, List.set_cons_succ]
            refine Walk.take (v := ?wv70) rfl rfl (Or.inl ⟨by rfl, ?wy70⟩) ?wr70
            case wy70 => (intro w' hw'; obtain ⟨d0, d1, d2, d3, u0, u1, u2, u3, a0, b0⟩ := kc.out w' hw'; go_simp; try with_reducible rfl)
            try simp only [Act.put, List.setIfInBounds_toArray, List.set_cons_zero, List.set_cons_succ]
            refine Walk.take (v := ?wv71) rfl rfl (Or.inl ⟨by rfl, ?wy71⟩) ?wr71
            case wy71 => (intro w' hw'; obtain ⟨d0, d1, d2, d3, u0, u1, u2, u3, a0, b0⟩ := kc.out w' hw'; go_simp; try with_reducible rfl)
            try simp only [Act.put, List.setIfInBounds_toArray, List.set_cons_zero, List.set_cons_succ]
            refine Walk.take (v := ?wv72) rfl rfl (Or.inl ⟨by rfl, ?wy72⟩) ?wr72
            case wy72 => (intro w' hw'; obtain ⟨d0, d1, d2, d3, u0, u1, u2, u3, a0, b0⟩ := kc.out w' hw'; go_simp; try with_reducible rfl)
            try simp only [Act.put, List.setIfInBounds_toArray, List.set_cons_zero, List.set_cons_succ]
            refine Walk.take (v := ?wv73) rfl rfl (Or.inl ⟨by rfl, ?wy73⟩) ?wr73
            case wy73 => (intro w' hw'; obtain ⟨d0, d1, d2, d3, u0, u1, u2, u3, a0, b0⟩ := kc.out w' hw'; go_simp; try with_reducible rfl)
            try simp only [Act.put, List.setIfInBounds_toArray, List.set_cons_zero, List.set_cons_succ]
            refine Walk.take (v := ?wv74) rfl rfl (Or.inl ⟨by rfl, ?wy74⟩) ?wr74
            case wy74 => (intro w' hw'; obtain ⟨d0, d1, d2, d3, u0, u1, u2, u3, a0, b0⟩ := kc.out w' hw'; go_simp; try with_reducible rfl)
            try simp only [Act.put, List.setIfInBounds_toArray, List.set_cons_zero, List.set_cons_succ]
            refine Walk.take (v := ?wv75) rfl rfl (Or.inl ⟨by rfl, ?wy75⟩) ?wr75
            case wy75 => (intro w' hw'; obtain ⟨d0, d1, d2, d3, u0, u1, u2, u3, a0, b0⟩ := kc.out w' hw'; go_simp; try with_reducible rfl)
            try simp only [Act.put, List.setIfInBounds_toArray, List.set_cons_zero, List.set_cons_succ]
            refine Walk.take (v := undef) rfl rfl (Or.inr ⟨by rfl, rfl⟩) ?_
            try simp only [Act.put, List.setIfInBounds_toArray, List.set_cons_zero, List.set_cons_succ]
            refine Walk.take (v := undef) rfl rfl (Or.inr ⟨by rfl, rfl⟩) ?_
            try simp only [Act.put, List.setIfInBounds_toArray, List.set_cons_zero, List.set_cons_succ]
            refine Walk.take (v := undef) rfl rfl (Or.inr ⟨by rfl, rfl⟩) ?_
            try simp only [Act.put, List.setIfInBounds_toArray, List.set_cons_zero, List.set_cons_succ]
            refine Walk.take (v := undef) rfl rfl (Or.inr ⟨by rfl, rfl⟩) ?_
            try simp only [Act.put, List.setIfInBounds_toArray, List.set_cons_zero, List.set_cons_succ]
            refine Walk.take (v := undef) rfl rfl (Or.inr ⟨by rfl, rfl⟩) ?_
            try simp only [Act.put, List.setIfInBounds_toArray, List.set_cons_zero, List.set_cons_succ]
            refine Walk.take (v := undef) rfl rfl (Or.inr ⟨by rfl, rfl⟩) ?_
            try simp only [Act.put, List.setIfInBounds_toArray, List.set_cons_zero, List.set_cons_succ]
            refine Walk.take (v := undef) rfl rfl (Or.inr ⟨by rfl, rfl⟩) ?_
            try simp only [Act.put, List.setIfInBounds_toArray, List.set_cons_zero, List.set_cons_succ]
            refine Walk.take (v := undef) rfl rfl (Or.inr ⟨by rfl, rfl⟩) ?_
            try simp only [Act.put, List.setIfInBounds_toArray, List.set_cons_zero, List.set_cons_succ]
            refine Walk.take (v := undef) rfl rfl (Or.inr ⟨by rfl, rfl⟩) ?_
            try simp only [Act.put, List.setIfInBounds_toArray, List.set_cons_zero, List.set_cons_succ]
            refine Walk.take (v := undef) rfl rfl (Or.inr ⟨by rfl, rfl⟩) ?_
            try simp only [Act.put, List.setIfInBounds_toArray, List.set_cons_zero, List.set_cons_succ]
            refine Walk.take (v := undef) rfl rfl (Or.inr ⟨by rfl, rfl⟩) ?_
            try simp only [Act.put, List.setIfInBounds_toArray, List.set_cons_zero, List.set_cons_succ]
            refine Walk.take (v := undef) rfl rfl (Or.inr ⟨by rfl, rfl⟩) ?_
            try simp only [Act.put, List.setIfInBounds_toArray, List.set_cons_zero, List.set_cons_succ]
            refine Walk.take (v := undef) rfl rfl (Or.inr ⟨by rfl, rfl⟩) ?_
            try simp only [Act.put, List.setIfInBounds_toArray, List.set_cons_zero, List.set_cons_succ]
            refine Walk.take (v := undef) rfl rfl (Or.inr ⟨by rfl, rfl⟩) ?_
            try simp only [Act.put, List.setIfInBounds_toArray, List.set_cons_zero, List.set_cons_succ]
            refine Walk.take (v := ?wv76) rfl rfl (Or.inl ⟨by rfl, ?wy76⟩) ?wr76
            case wy76 => (intro w' hw'; obtain ⟨d0, d1, d2, d3, u0, u1, u2, u3, a0, b0⟩ := kc.out w' hw'; go_simp; try with_reducible rfl)
            try simp only [Act.put, List.setIfInBounds_toArray, List.set_cons_zero, List.set_cons_succ]
            refine Walk.done (fun W1 G1 F1 => ?_)
            clear F1
            have kc1 := kc.out W1 G1
            clear kc d0 d1 d2 d3 u0 u1 u2 u3 a0 b0
            obtain ⟨d0, d1, d2, d3, u0, u1, u2, u3, a0, b0⟩ := kc1
            refine wpAny_end (by kernel_rfl) ?_
            have HG4 := Lib.hid (HG2.out.trans (GT.out.trans G1.of_drew))
            have DP4 := Lib.hid ((GT.out.trans G1.of_drew).bk DP.out)
            have DQ4 := Lib.hid ((GT.out.trans G1.of_drew).bk DQ.out)
            clear G1 d0 d1 d2 d3 u0 u1 u2 u3 a0 b0
            go_wp2
            go_ret
            exact ⟨by rw [decide_eq_false (fun h : x = y => HV1.out (by have h1 := HQ.out; have h2 := HP.out; rw [h] at h1; rw [h1] at h2; injection h2 with h2; rw [HT.out.var, HS.out.var, h2]))]; rfl, HG4.out⟩
        · obtain rfl : k = xn := by omega
          go_wp2
          go_ret
          refine ⟨?_, HG2.out⟩
          have h1 := HTK.out
          rw [List.take_of_length_le (by rw [HV.out]; exact Nat.le_refl _), List.take_of_length_le (by rw [HW.out]; exact Nat.le_refl _)] at h1
          have : x = y := by
            obtain ⟨xt, xk⟩ := x
            obtain ⟨yt, yk⟩ := y
            obtain rfl : xt = yt := h1
            obtain rfl : xk = yk := of_decide_eq_true HCM.out
            rfl
          rw [decide_eq_true this]
          exact rfl
  · have hnn : ((xn : Int) != yn) = true := by simp; omega
    have HE : Hid (decide (x = y) = false) := Lib.hid (decide_eq_false fun h => hn (by rw [← hvn, ← hwn, h]))
    obtain ⟨B1, B2, G⟩ := made2 w 43 43 (#[.slice xA xn xc, .bool fc.neg, .slice fc.num.A fc.num.n fc.num.c, .slice fc.den.A fc.den.n fc.den.c]) (#[.slice yA yn yc, .bool gc.neg, .slice gc.num.A gc.num.n gc.num.c, .slice gc.den.A gc.den.n gc.den.c])
    have HG := Lib.hid G
    have D_p := Lib.hid B1
    have D_q0 := Lib.hid B2
    clear G B1 B2
    have HF := Lib.hid hf
    have HG0 := Lib.hid hg
    clear hf hg hvn hwn hmx
    obtain ⟨a0, a1, a2, a3⟩ := D_p.out.c4
    obtain ⟨b0, b1, b2, b3⟩ := D_q0.out.c4
    simp only [Rv.v, Fv.v] at *
    go_enter Tryz.func43, Tryz.ntmps43
    go_wp2_with fail
    generalize hW : (w.alloc (.cells #[.slice xA xn xc, .bool fc.neg, .slice fc.num.A fc.num.n fc.num.c, .slice fc.den.A fc.den.n fc.den.c] 43)).alloc (.cells #[.slice yA yn yc, .bool gc.neg, .slice gc.num.A gc.num.n gc.num.c, .slice gc.den.A gc.den.n gc.den.c] 43) = W at *
    clear hW
    have N_p : Hid (w.heap.size ≤ w.heap.size) := (by show w.heap.size ≤ w.heap.size; omega)
    have N_q0 : Hid (w.heap.size ≤ w.heap.size + 1) := (by show w.heap.size ≤ w.heap.size + 1; omega)
    generalize w.heap.size + 1 = q0 at *
    go_wp2
    go_ret
    exact ⟨by rw [HE.out]; rfl, HG.out⟩
end Go.Proofs.YtcmfepaffhnemaaGreatDoor
