/- The reference's Resolve. -/
import Derived.Test.YtgnlbmamolbcfaaDoorRMake
set_option linter.unusedVariables false
namespace Go.Proofs.YtgnlbmamolbcfaaDoor
open Go.RowKit Go.Shelf

attribute [local go_sem] Oper.semAt_some

theorem u22 : Tryd.prog.underlying 22 = some (.slice 38) := by kernel_rfl
theorem app_ty (ty : TypeId) (v : Value) (A : Option Addr) (m c : Nat) (w : World) : (Builtin.append_ #[22, 23] ty #[v, .slice A m c]).run Tryd.prog w = (Builtin.append_ #[23, 23] ty #[v, .slice A m c]).run Tryd.prog w := by
  cases v <;> simp [Builtin.append_, run_underlying u22, run_underlying u23]
theorem rest_take {l : List Lit} {t : Nat} {x : Lit} {u : Int} (h : l[t]? = some x) : (l.take (t + 1)).filter (fun x => !decide (x.1 = u)) = if x.1 = u then (l.take t).filter (fun x => !decide (x.1 = u)) else ((l.take t).filter fun x => !decide (x.1 = u)) ++ [x] := by
  rw [List.take_add_one, h, List.filter_append]
  by_cases e : x.1 = u <;> simp [e]
theorem flt_len_le (l : List Lit) (t : Nat) (u : Int) : ((l.take t).filter fun x => !decide (x.1 = u)).length ≤ t := Nat.le_trans (List.length_filter_le _ _) (by rw [List.length_take]; exact Nat.min_le_left _ _)

set_option maxRecDepth 100000 in
set_option maxHeartbeats 8000000 in
theorem rresolve_any (w : World) (A B : Option Addr) (n c m cb : Nat) (a b : List Lit) (u : Int) (hA : A = none → n = 0) (hB : B = none → m = 0) (hl : a.length = n) (hl2 : b.length = m) (hn1 : n ≤ maxLen) (hm1 : m ≤ maxLen) (hc : Cs w A a) (hc2 : Cs w B b) :
    Calls Tryd.prog 18 #[.slice A n c, .slice B m cb, .int .i64 u] w fun e w' => ∃ v' k, e = .returned (.tuple #[v', .int .i64 (resE a b u)]) ∧ w'.ownsRow w.heap.size 38 2 v' k ((resL a b u).flatMap lc) ∧ Gr w w' := by
  have HA := Lib.hid hA
  have HB := Lib.hid hB
  have HL := Lib.hid hl
  have HL2 := Lib.hid hl2
  have HC1 := Lib.hid hc
  have HC2 := Lib.hid hc2
  have HO : Hid (hasOpp a b u = ((a.contains (u, true) && b.contains (u, false)) || (a.contains (u, false) && b.contains (u, true)))) := rfl
  have HRE : Hid (resE a b u = if vldB a && (vldB b && hasOpp a b u) then (if vldB (mkR (rest a b u)) then 0 else 10) else 1) := rfl
  have HRL : Hid (resL a b u = if vldB a && (vldB b && hasOpp a b u) then mkV (rest a b u) else []) := rfl
  have k1 := Bk.made w 38 #[.int .i64 u, .bool true]
  have k2 := Bk.made (w.alloc (.cells #[.int .i64 u, .bool true] 38)) 38 #[.int .i64 u, .bool false]
  rw [World.size_alloc] at k2
  have HON := Lib.hid (k1.alloc (.cells #[.int .i64 u, .bool false] 38))
  have HOFF := Lib.hid k2
  have HW := Lib.hid (((Gr.refl w).alloc (.cells #[.int .i64 u, .bool true] 38)).alloc (.cells #[.int .i64 u, .bool false] 38))
  have hons : w.heap.size < _ := HON.out.lt
  have hoffs : w.heap.size + 1 < _ := HOFF.out.lt
  clear hA hB hl hl2 hc hc2 k1 k2
  go_enter Tryd.func18, Tryd.ntmps18
  go_wp2_with fail
  generalize (w.alloc (.cells #[.int .i64 u, .bool true] 38)).alloc (.cells #[.int .i64 u, .bool false] 38) = W at *
  generalize w.heap.size + 1 = poff at *
  obtain ⟨pon, hpon⟩ : ∃ pon, pon = w.heap.size := ⟨_, rfl⟩
  rw [← hpon] at HON hons ⊢
  have HPON := Lib.hid hpon
  clear hpon
  have HCa := Lib.hid (HC1.out.gr HW.out)
  have HCb := Lib.hid (HC2.out.gr HW.out)
  have H1 : Hid (∀ X, Gr W X → Calls Tryd.prog 15 #[.slice A n c] X fun e w' => e = .returned (.bool (vldB a)) ∧ Gr X w') := fun X hG => rvalid_any X A n c a HL.out hn1 (HCa.out.gr hG)
  have H2 : Hid (∀ X, Gr W X → Calls Tryd.prog 15 #[.slice B m cb] X fun e w' => e = .returned (.bool (vldB b)) ∧ Gr X w') := fun X hG => rvalid_any X B m cb b HL2.out hm1 (HCb.out.gr hG)
  have HCA : Hid (∀ (x : Lit) X, Gr W X → Calls Tryd.prog 33 #[.slice A n c, .agg #[.int .i64 x.1, .bool x.2]] X fun e w' => e = .returned (.bool (a.contains x)) ∧ Gr X w') := fun x X hG => has_any X A n c a x HL.out hn1 (HCa.out.gr hG)
  have HCB : Hid (∀ (x : Lit) X, Gr W X → Calls Tryd.prog 33 #[.slice B m cb, .agg #[.int .i64 x.1, .bool x.2]] X fun e w' => e = .returned (.bool (b.contains x)) ∧ Gr X w') := fun x X hG => has_any X B m cb b x HL2.out hm1 (HCb.out.gr hG)
  rw [HO.out] at HRE HRL
  clear HO
  have G0 : Hid (Gr W W) := Gr.refl W
  obtain ⟨b1, hb1⟩ : ∃ b1, b1 = a.contains (u, true) := ⟨_, rfl⟩
  obtain ⟨b2, hb2⟩ : ∃ b2, b2 = b.contains (u, false) := ⟨_, rfl⟩
  obtain ⟨b3, hb3⟩ : ∃ b3, b3 = a.contains (u, false) := ⟨_, rfl⟩
  obtain ⟨b4, hb4⟩ : ∃ b4, b4 = b.contains (u, true) := ⟨_, rfl⟩
  obtain ⟨va, hva⟩ : ∃ va, va = vldB a := ⟨_, rfl⟩
  obtain ⟨vb, hvb⟩ : ∃ vb, vb = vldB b := ⟨_, rfl⟩
  have E1 : Hid (∀ X, Gr W X → Calls Tryd.prog 33 #[.slice A n c, .agg #[.int .i64 u, .bool true]] X fun e w' => e = .returned (.bool b1) ∧ Gr X w') := by rw [hb1]; exact HCA.out (u, true)
  have E2 : Hid (∀ X, Gr W X → Calls Tryd.prog 33 #[.slice B m cb, .agg #[.int .i64 u, .bool false]] X fun e w' => e = .returned (.bool b2) ∧ Gr X w') := by rw [hb2]; exact HCB.out (u, false)
  have E3 : Hid (∀ X, Gr W X → Calls Tryd.prog 33 #[.slice A n c, .agg #[.int .i64 u, .bool false]] X fun e w' => e = .returned (.bool b3) ∧ Gr X w') := by rw [hb3]; exact HCA.out (u, false)
  have E4 : Hid (∀ X, Gr W X → Calls Tryd.prog 33 #[.slice B m cb, .agg #[.int .i64 u, .bool true]] X fun e w' => e = .returned (.bool b4) ∧ Gr X w') := by rw [hb4]; exact HCB.out (u, true)
  have HNM : Hid (va = true → vb = true → n + m ≤ 70000) := fun h1 h2 => by
    have e1 := vld_len (vldB_iff.1 (hva ▸ h1))
    have e2 := vld_len (vldB_iff.1 (hvb ▸ h2))
    rw [HL.out] at e1
    rw [HL2.out] at e2
    omega
  rw [← hva] at H1
  rw [← hvb] at H2
  rw [← hva, ← hvb, ← hb1, ← hb2, ← hb3, ← hb4] at HRE HRL
  clear hb1 hb2 hb3 hb4 hva hvb HCA HCB
  refine (H1.out _ G0.out).mono ?_
  rintro e yGa ⟨rfl, LGa⟩
  have Ga := Lib.hid (G0.out.trans LGa)
  clear LGa
  cases va
  · have HE : Hid (resE a b u = 1) := HRE.out
    have HN : Hid (resL a b u = []) := HRL.out
    go_wp2
    go_returns
    exact ⟨_, 0, by rw [HE.out]; rfl, by rw [HN.out]; exact ⟨rfl, .inl ⟨rfl, rfl⟩⟩, HW.out.trans Ga.out⟩
  go_wp2_with fail
  refine (H2.out _ Ga.out).mono ?_
  rintro e yGb ⟨rfl, LGb⟩
  have Gb := Lib.hid (Ga.out.trans LGb)
  clear LGb
  cases vb
  · have HE : Hid (resE a b u = 1) := HRE.out
    have HN : Hid (resL a b u = []) := HRL.out
    go_wp2
    go_returns
    exact ⟨_, 0, by rw [HE.out]; rfl, by rw [HN.out]; exact ⟨rfl, .inl ⟨rfl, rfl⟩⟩, HW.out.trans Gb.out⟩
  have c1 := ((Gb.out.fr.bk HON.out id).cell 0).trans (show _ = some (Value.int .i64 u) from rfl)
  have c2 := ((Gb.out.fr.bk HON.out id).cell 1).trans (show _ = some (Value.bool true) from rfl)
  have d1 := ((Gb.out.fr.bk HOFF.out id).cell 0).trans (show _ = some (Value.int .i64 u) from rfl)
  have d2 := ((Gb.out.fr.bk HOFF.out id).cell 1).trans (show _ = some (Value.bool false) from rfl)
  go_wp2_with fail
  clear c1 c2 d1 d2
  refine (E1.out _ Gb.out).mono ?_
  rintro e yGc ⟨rfl, LGc⟩
  have Gc := Lib.hid (Gb.out.trans LGc)
  clear LGc
  cases b1
  · skip
    have c1 := ((Gc.out.fr.bk HON.out id).cell 0).trans (show _ = some (Value.int .i64 u) from rfl)
    have c2 := ((Gc.out.fr.bk HON.out id).cell 1).trans (show _ = some (Value.bool true) from rfl)
    have d1 := ((Gc.out.fr.bk HOFF.out id).cell 0).trans (show _ = some (Value.int .i64 u) from rfl)
    have d2 := ((Gc.out.fr.bk HOFF.out id).cell 1).trans (show _ = some (Value.bool false) from rfl)
    go_wp2_with fail
    clear c1 c2 d1 d2
    refine (E3.out _ Gc.out).mono ?_
    rintro e yGd ⟨rfl, LGd⟩
    have Gd := Lib.hid (Gc.out.trans LGd)
    clear LGd
    cases b3
    · have HE : Hid (resE a b u = 1) := HRE.out
      have HN : Hid (resL a b u = []) := HRL.out
      go_wp2
      go_returns
      exact ⟨_, 0, by rw [HE.out]; rfl, by rw [HN.out]; exact ⟨rfl, .inl ⟨rfl, rfl⟩⟩, HW.out.trans Gd.out⟩
    · skip
      have c1 := ((Gd.out.fr.bk HON.out id).cell 0).trans (show _ = some (Value.int .i64 u) from rfl)
      have c2 := ((Gd.out.fr.bk HON.out id).cell 1).trans (show _ = some (Value.bool true) from rfl)
      have d1 := ((Gd.out.fr.bk HOFF.out id).cell 0).trans (show _ = some (Value.int .i64 u) from rfl)
      have d2 := ((Gd.out.fr.bk HOFF.out id).cell 1).trans (show _ = some (Value.bool false) from rfl)
      go_wp2_with fail
      clear c1 c2 d1 d2
      refine (E4.out _ Gd.out).mono ?_
      rintro e yGe ⟨rfl, LGe⟩
      have Ge := Lib.hid (Gd.out.trans LGe)
      clear LGe
      cases b4
      · have HE : Hid (resE a b u = 1) := HRE.out
        have HN : Hid (resL a b u = []) := HRL.out
        go_wp2
        go_returns
        exact ⟨_, 0, by rw [HE.out]; rfl, by rw [HN.out]; exact ⟨rfl, .inl ⟨rfl, rfl⟩⟩, HW.out.trans Ge.out⟩
      · skip
        have hnm : n + m ≤ 70000 := by simpa using HNM.out
        have HE : Hid (resE a b u = if vldB (mkR (rest a b u)) then 0 else 10) := HRE.out
        have HN : Hid (resL a b u = mkV (rest a b u)) := HRL.out
        have Gq := Lib.hid (Ge.out.alloc (.cells #[] 38))
        have HO0 : Hid ((yGe.alloc (.cells #[] 38)).ownsRow W.heap.size 38 2 (.slice (some ⟨yGe.heap.size, 0, none⟩) 0 0) 0 (([] : List Lit).flatMap lc)) := ⟨rfl, .inr ⟨yGe.heap.size, 0, #[], rfl, Ge.out.size, Bk.made _ _ _, Nat.le_refl _, Nat.zero_le _, rfl, rfl⟩⟩
        obtain ⟨v1, x1, hr1, r1, F1⟩ := app_any (yGe.alloc (.cells #[] 38)) W.heap.size 0 _ [] a HO0.out A n c HA.out HL.out (HCa.out.gr Gq.out) (by omega) Gq.out.size
        have HR1 := Lib.hid r1
        have G1 := Lib.hid (gr_own Gq.out HO0.out (Nat.le_refl _) F1)
        have hr1' : ∀ ty, (Builtin.append_ #[22, 23] ty #[.slice (some ⟨yGe.heap.size, 0, none⟩) 0 0, .slice A n c]).run Tryd.prog (yGe.alloc (.cells #[] 38)) = .ok v1 x1 := fun ty => (app_ty _ _ _ _ _ _).trans (hr1 ty)
        obtain ⟨v2, x2, hr2, r2, F2⟩ := app_any x1 W.heap.size (0 + n) v1 ([] ++ a) b HR1.out B m cb HB.out HL2.out (HCb.out.gr G1.out) (by omega) G1.out.size
        have HR2 : Hid (x2.ownsRow W.heap.size 38 2 v2 (0 + n + m) ((a ++ b).flatMap lc)) := r2
        have G2 := Lib.hid (gr_own G1.out HR1.out (Nat.le_refl _) F2)
        have hr2' : ∀ ty, (Builtin.append_ #[22, 23] ty #[v1, .slice B m cb]).run Tryd.prog x1 = .ok v2 x2 := fun ty => (app_ty _ _ _ _ _ _).trans (hr2 ty)
        have HRUN1 := Lib.hid hr1'
        have HRUN2 := Lib.hid hr2'
        have HLN := Lib.hid (row_len HR2.out)
        clear hr1 hr2 hr1' hr2' r1 r2 F1 F2
        go_wp2_with (first | (at_builtin; refine Lib.wpList_append_run (yGe.alloc (.cells #[] 38)) rfl (.tmp 48) (.tmp 49) 22 23 rfl (.slice (some ⟨yGe.heap.size, 0, none⟩) 0 0) (.slice A n c) rfl rfl v1 x1 (HRUN1.out _) ?_) | (at_builtin; refine Lib.wpList_append_run x1 rfl (.tmp 50) (.tmp 51) 22 23 rfl v1 (.slice B m cb) rfl rfl v2 x2 (HRUN2.out _) ?_))
        obtain ⟨A2, c2, hv2⟩ := rw_form HR2.out
        subst hv2
        have HC2' := Lib.hid (Cs.own HR2.out)
        obtain ⟨N, hN⟩ : ∃ N, N = 0 + n + m := ⟨_, rfl⟩
        have hN7 : N ≤ 70000 := by omega
        rw [← hN] at HR2 HLN ⊢
        clear HR1 HO0 HRUN1 HRUN2
        have R0 : Hid (x2.ownsRow x2.heap.size 38 2 (.slice none 0 0) 0 ((((a ++ b).take 0).filter fun x => !decide (x.1 = u)).flatMap lc)) := ⟨rfl, .inl ⟨rfl, rfl⟩⟩
        have HWX := Lib.hid (HW.out.trans G2.out)
        clear hN
        go_loopw [10, 12] (fun s10 i wr => ∃ (t k : Nat), i = .int .i64 t ∧ t ≤ N ∧ k ≤ t ∧ Hid (wr.ownsRow x2.heap.size 38 2 s10 k ((((a ++ b).take t).filter fun x => !decide (x.1 = u)).flatMap lc)) ∧ Hid (Gr x2 wr)) (fun _ i _ => N - (intOf i).toNat)
        case atStart => exact ⟨0, 0, rfl, Nat.zero_le _, Nat.le_refl _, R0, Gr.refl x2⟩
        case round =>
          obtain ⟨t, k, rfl, ht, hk, hR, hG⟩ := hrel
          by_cases htn : t < N
          · obtain ⟨y, hy⟩ : ∃ y, (a ++ b)[t]? = some y := ⟨_, List.getElem?_eq_getElem (by rw [HLN.out]; omega)⟩
            obtain ⟨ad, rfl, hb, d1, d2⟩ := HC2'.out.gr hG.out t y hy
            have HF := Lib.hid (rest_take (u := u) hy)
            obtain ⟨y1, y2⟩ := y
            clear hy hb
            simp only at d1 d2
            by_cases hyu : y1 = u
            · have HF2 := HF
              rw [if_pos hyu] at HF2
              have hne : (y1 != u) = false := by simpa using hyu
              have HR2 := hR
              rw [← HF2.out] at HR2
              go_wp2
              go_roundw
              case rel => exact ⟨t + 1, k, by go_num, by omega, by omega, HR2, hG⟩
              case measure => simp [intOf]; omega
            · have HF2 := HF
              rw [if_neg hyu] at HF2
              have hne : (y1 != u) = true := by simpa using hyu
              have hsz := hG.out.size
              go_wp2_with (at_builtin; refine wpList_appS1 (w := wr) elemL rfl (.tmp 66) (.tmp 71) rfl x2.heap.size u10 k ((((a ++ b).take t).filter fun x => !decide (x.1 = u)).flatMap lc) #[.int .i64 y1, .bool y2] rfl rfl rfl hR.out (lc_arr (y1, y2)) (by unfold maxLen; omega) (by omega) hsz ?_; intro r4 w4 hr4 hF4 _)
              have R4 := Lib.hid (push1 (y := (y1, y2)) hr4)
              have G4 := Lib.hid (gr_own hG.out hR.out (Nat.le_refl _) hF4)
              rw [← HF2.out] at R4
              clear hr4 hF4
              go_roundw
              case rel => exact ⟨t + 1, k + 1, by go_num, by omega, by omega, R4, G4⟩
              case measure => simp [intOf]; omega
          · have htt : Hid ((a ++ b).take t = a ++ b) := List.take_of_length_le (by rw [HLN.out]; omega)
            rw [htt.out] at hR
            have hR3 : Hid (wr.ownsRow x2.heap.size 38 2 u10 k ((rest a b u).flatMap lc)) := hR
            obtain ⟨A4, c4, hv4⟩ := rw_form hR3.out
            rw [hv4] at hR3
            have HX := Lib.hid (rmake_any wr A4 k c4 (rest a b u) (row_len hR3.out) (by omega) (Cs.own hR3.out))
            subst hv4
            have HG2 := Lib.hid (HWX.out.trans hG.out)
            clear hR
            go_wp2_with fail
            refine HX.out.mono ?_
            rintro e x5 ⟨v5, k5, rfl, r5, K5⟩
            have G5 := Lib.hid (HG2.out.trans K5)
            have HR5 := Lib.hid (rw_base r5 HG2.out.size)
            clear K5 r5 HX
            cases hv : vldB (mkR (rest a b u))
            · have HE2 : Hid (resE a b u = 10) := by rw [HE.out, hv]; exact rfl
              have HN2 : Hid (resL a b u = []) := by rw [HN.out]; unfold mkV; rw [hv]; exact rfl
              clear hv
              go_wp2
              go_returns
              exact ⟨_, 0, by rw [HE2.out]; rfl, by rw [HN2.out]; exact ⟨rfl, .inl ⟨rfl, rfl⟩⟩, G5.out⟩
            · have HE2 : Hid (resE a b u = 0) := by rw [HE.out, hv]; exact rfl
              clear hv
              go_wp2
              go_returns
              exact ⟨_, k5, by rw [HE2.out]; rfl, by rw [HN.out]; exact HR5.out, G5.out⟩

  · skip
    have c1 := ((Gc.out.fr.bk HON.out id).cell 0).trans (show _ = some (Value.int .i64 u) from rfl)
    have c2 := ((Gc.out.fr.bk HON.out id).cell 1).trans (show _ = some (Value.bool true) from rfl)
    have d1 := ((Gc.out.fr.bk HOFF.out id).cell 0).trans (show _ = some (Value.int .i64 u) from rfl)
    have d2 := ((Gc.out.fr.bk HOFF.out id).cell 1).trans (show _ = some (Value.bool false) from rfl)
    go_wp2_with fail
    clear c1 c2 d1 d2
    refine (E2.out _ Gc.out).mono ?_
    rintro e yGd ⟨rfl, LGd⟩
    have Gd := Lib.hid (Gc.out.trans LGd)
    clear LGd
    cases b2
    · skip
      have c1 := ((Gd.out.fr.bk HON.out id).cell 0).trans (show _ = some (Value.int .i64 u) from rfl)
      have c2 := ((Gd.out.fr.bk HON.out id).cell 1).trans (show _ = some (Value.bool true) from rfl)
      have d1 := ((Gd.out.fr.bk HOFF.out id).cell 0).trans (show _ = some (Value.int .i64 u) from rfl)
      have d2 := ((Gd.out.fr.bk HOFF.out id).cell 1).trans (show _ = some (Value.bool false) from rfl)
      go_wp2_with fail
      clear c1 c2 d1 d2
      refine (E3.out _ Gd.out).mono ?_
      rintro e yGe ⟨rfl, LGe⟩
      have Ge := Lib.hid (Gd.out.trans LGe)
      clear LGe
      cases b3
      · have HE : Hid (resE a b u = 1) := HRE.out
        have HN : Hid (resL a b u = []) := HRL.out
        go_wp2
        go_returns
        exact ⟨_, 0, by rw [HE.out]; rfl, by rw [HN.out]; exact ⟨rfl, .inl ⟨rfl, rfl⟩⟩, HW.out.trans Ge.out⟩
      · skip
        have c1 := ((Ge.out.fr.bk HON.out id).cell 0).trans (show _ = some (Value.int .i64 u) from rfl)
        have c2 := ((Ge.out.fr.bk HON.out id).cell 1).trans (show _ = some (Value.bool true) from rfl)
        have d1 := ((Ge.out.fr.bk HOFF.out id).cell 0).trans (show _ = some (Value.int .i64 u) from rfl)
        have d2 := ((Ge.out.fr.bk HOFF.out id).cell 1).trans (show _ = some (Value.bool false) from rfl)
        go_wp2_with fail
        clear c1 c2 d1 d2
        refine (E4.out _ Ge.out).mono ?_
        rintro e yGf ⟨rfl, LGf⟩
        have Gf := Lib.hid (Ge.out.trans LGf)
        clear LGf
        cases b4
        · have HE : Hid (resE a b u = 1) := HRE.out
          have HN : Hid (resL a b u = []) := HRL.out
          go_wp2
          go_returns
          exact ⟨_, 0, by rw [HE.out]; rfl, by rw [HN.out]; exact ⟨rfl, .inl ⟨rfl, rfl⟩⟩, HW.out.trans Gf.out⟩
        · skip
          have hnm : n + m ≤ 70000 := by simpa using HNM.out
          have HE : Hid (resE a b u = if vldB (mkR (rest a b u)) then 0 else 10) := HRE.out
          have HN : Hid (resL a b u = mkV (rest a b u)) := HRL.out
          have Gq := Lib.hid (Gf.out.alloc (.cells #[] 38))
          have HO0 : Hid ((yGf.alloc (.cells #[] 38)).ownsRow W.heap.size 38 2 (.slice (some ⟨yGf.heap.size, 0, none⟩) 0 0) 0 (([] : List Lit).flatMap lc)) := ⟨rfl, .inr ⟨yGf.heap.size, 0, #[], rfl, Gf.out.size, Bk.made _ _ _, Nat.le_refl _, Nat.zero_le _, rfl, rfl⟩⟩
          obtain ⟨v1, x1, hr1, r1, F1⟩ := app_any (yGf.alloc (.cells #[] 38)) W.heap.size 0 _ [] a HO0.out A n c HA.out HL.out (HCa.out.gr Gq.out) (by omega) Gq.out.size
          have HR1 := Lib.hid r1
          have G1 := Lib.hid (gr_own Gq.out HO0.out (Nat.le_refl _) F1)
          have hr1' : ∀ ty, (Builtin.append_ #[22, 23] ty #[.slice (some ⟨yGf.heap.size, 0, none⟩) 0 0, .slice A n c]).run Tryd.prog (yGf.alloc (.cells #[] 38)) = .ok v1 x1 := fun ty => (app_ty _ _ _ _ _ _).trans (hr1 ty)
          obtain ⟨v2, x2, hr2, r2, F2⟩ := app_any x1 W.heap.size (0 + n) v1 ([] ++ a) b HR1.out B m cb HB.out HL2.out (HCb.out.gr G1.out) (by omega) G1.out.size
          have HR2 : Hid (x2.ownsRow W.heap.size 38 2 v2 (0 + n + m) ((a ++ b).flatMap lc)) := r2
          have G2 := Lib.hid (gr_own G1.out HR1.out (Nat.le_refl _) F2)
          have hr2' : ∀ ty, (Builtin.append_ #[22, 23] ty #[v1, .slice B m cb]).run Tryd.prog x1 = .ok v2 x2 := fun ty => (app_ty _ _ _ _ _ _).trans (hr2 ty)
          have HRUN1 := Lib.hid hr1'
          have HRUN2 := Lib.hid hr2'
          have HLN := Lib.hid (row_len HR2.out)
          clear hr1 hr2 hr1' hr2' r1 r2 F1 F2
          go_wp2_with (first | (at_builtin; refine Lib.wpList_append_run (yGf.alloc (.cells #[] 38)) rfl (.tmp 48) (.tmp 49) 22 23 rfl (.slice (some ⟨yGf.heap.size, 0, none⟩) 0 0) (.slice A n c) rfl rfl v1 x1 (HRUN1.out _) ?_) | (at_builtin; refine Lib.wpList_append_run x1 rfl (.tmp 50) (.tmp 51) 22 23 rfl v1 (.slice B m cb) rfl rfl v2 x2 (HRUN2.out _) ?_))
          obtain ⟨A2, c2, hv2⟩ := rw_form HR2.out
          subst hv2
          have HC2' := Lib.hid (Cs.own HR2.out)
          obtain ⟨N, hN⟩ : ∃ N, N = 0 + n + m := ⟨_, rfl⟩
          have hN7 : N ≤ 70000 := by omega
          rw [← hN] at HR2 HLN ⊢
          clear HR1 HO0 HRUN1 HRUN2
          have R0 : Hid (x2.ownsRow x2.heap.size 38 2 (.slice none 0 0) 0 ((((a ++ b).take 0).filter fun x => !decide (x.1 = u)).flatMap lc)) := ⟨rfl, .inl ⟨rfl, rfl⟩⟩
          have HWX := Lib.hid (HW.out.trans G2.out)
          clear hN
          go_loopw [10, 12] (fun s10 i wr => ∃ (t k : Nat), i = .int .i64 t ∧ t ≤ N ∧ k ≤ t ∧ Hid (wr.ownsRow x2.heap.size 38 2 s10 k ((((a ++ b).take t).filter fun x => !decide (x.1 = u)).flatMap lc)) ∧ Hid (Gr x2 wr)) (fun _ i _ => N - (intOf i).toNat)
          case atStart => exact ⟨0, 0, rfl, Nat.zero_le _, Nat.le_refl _, R0, Gr.refl x2⟩
          case round =>
            obtain ⟨t, k, rfl, ht, hk, hR, hG⟩ := hrel
            by_cases htn : t < N
            · obtain ⟨y, hy⟩ : ∃ y, (a ++ b)[t]? = some y := ⟨_, List.getElem?_eq_getElem (by rw [HLN.out]; omega)⟩
              obtain ⟨ad, rfl, hb, d1, d2⟩ := HC2'.out.gr hG.out t y hy
              have HF := Lib.hid (rest_take (u := u) hy)
              obtain ⟨y1, y2⟩ := y
              clear hy hb
              simp only at d1 d2
              by_cases hyu : y1 = u
              · have HF2 := HF
                rw [if_pos hyu] at HF2
                have hne : (y1 != u) = false := by simpa using hyu
                have HR2 := hR
                rw [← HF2.out] at HR2
                go_wp2
                go_roundw
                case rel => exact ⟨t + 1, k, by go_num, by omega, by omega, HR2, hG⟩
                case measure => simp [intOf]; omega
              · have HF2 := HF
                rw [if_neg hyu] at HF2
                have hne : (y1 != u) = true := by simpa using hyu
                have hsz := hG.out.size
                go_wp2_with (at_builtin; refine wpList_appS1 (w := wr) elemL rfl (.tmp 66) (.tmp 71) rfl x2.heap.size u10 k ((((a ++ b).take t).filter fun x => !decide (x.1 = u)).flatMap lc) #[.int .i64 y1, .bool y2] rfl rfl rfl hR.out (lc_arr (y1, y2)) (by unfold maxLen; omega) (by omega) hsz ?_; intro r4 w4 hr4 hF4 _)
                have R4 := Lib.hid (push1 (y := (y1, y2)) hr4)
                have G4 := Lib.hid (gr_own hG.out hR.out (Nat.le_refl _) hF4)
                rw [← HF2.out] at R4
                clear hr4 hF4
                go_roundw
                case rel => exact ⟨t + 1, k + 1, by go_num, by omega, by omega, R4, G4⟩
                case measure => simp [intOf]; omega
            · have htt : Hid ((a ++ b).take t = a ++ b) := List.take_of_length_le (by rw [HLN.out]; omega)
              rw [htt.out] at hR
              have hR3 : Hid (wr.ownsRow x2.heap.size 38 2 u10 k ((rest a b u).flatMap lc)) := hR
              obtain ⟨A4, c4, hv4⟩ := rw_form hR3.out
              rw [hv4] at hR3
              have HX := Lib.hid (rmake_any wr A4 k c4 (rest a b u) (row_len hR3.out) (by omega) (Cs.own hR3.out))
              subst hv4
              have HG2 := Lib.hid (HWX.out.trans hG.out)
              clear hR
              go_wp2_with fail
              refine HX.out.mono ?_
              rintro e x5 ⟨v5, k5, rfl, r5, K5⟩
              have G5 := Lib.hid (HG2.out.trans K5)
              have HR5 := Lib.hid (rw_base r5 HG2.out.size)
              clear K5 r5 HX
              cases hv : vldB (mkR (rest a b u))
              · have HE2 : Hid (resE a b u = 10) := by rw [HE.out, hv]; exact rfl
                have HN2 : Hid (resL a b u = []) := by rw [HN.out]; unfold mkV; rw [hv]; exact rfl
                clear hv
                go_wp2
                go_returns
                exact ⟨_, 0, by rw [HE2.out]; rfl, by rw [HN2.out]; exact ⟨rfl, .inl ⟨rfl, rfl⟩⟩, G5.out⟩
              · have HE2 : Hid (resE a b u = 0) := by rw [HE.out, hv]; exact rfl
                clear hv
                go_wp2
                go_returns
                exact ⟨_, k5, by rw [HE2.out]; rfl, by rw [HN.out]; exact HR5.out, G5.out⟩

    · skip
      have hnm : n + m ≤ 70000 := by simpa using HNM.out
      have HE : Hid (resE a b u = if vldB (mkR (rest a b u)) then 0 else 10) := HRE.out
      have HN : Hid (resL a b u = mkV (rest a b u)) := HRL.out
      have Gq := Lib.hid (Gd.out.alloc (.cells #[] 38))
      have HO0 : Hid ((yGd.alloc (.cells #[] 38)).ownsRow W.heap.size 38 2 (.slice (some ⟨yGd.heap.size, 0, none⟩) 0 0) 0 (([] : List Lit).flatMap lc)) := ⟨rfl, .inr ⟨yGd.heap.size, 0, #[], rfl, Gd.out.size, Bk.made _ _ _, Nat.le_refl _, Nat.zero_le _, rfl, rfl⟩⟩
      obtain ⟨v1, x1, hr1, r1, F1⟩ := app_any (yGd.alloc (.cells #[] 38)) W.heap.size 0 _ [] a HO0.out A n c HA.out HL.out (HCa.out.gr Gq.out) (by omega) Gq.out.size
      have HR1 := Lib.hid r1
      have G1 := Lib.hid (gr_own Gq.out HO0.out (Nat.le_refl _) F1)
      have hr1' : ∀ ty, (Builtin.append_ #[22, 23] ty #[.slice (some ⟨yGd.heap.size, 0, none⟩) 0 0, .slice A n c]).run Tryd.prog (yGd.alloc (.cells #[] 38)) = .ok v1 x1 := fun ty => (app_ty _ _ _ _ _ _).trans (hr1 ty)
      obtain ⟨v2, x2, hr2, r2, F2⟩ := app_any x1 W.heap.size (0 + n) v1 ([] ++ a) b HR1.out B m cb HB.out HL2.out (HCb.out.gr G1.out) (by omega) G1.out.size
      have HR2 : Hid (x2.ownsRow W.heap.size 38 2 v2 (0 + n + m) ((a ++ b).flatMap lc)) := r2
      have G2 := Lib.hid (gr_own G1.out HR1.out (Nat.le_refl _) F2)
      have hr2' : ∀ ty, (Builtin.append_ #[22, 23] ty #[v1, .slice B m cb]).run Tryd.prog x1 = .ok v2 x2 := fun ty => (app_ty _ _ _ _ _ _).trans (hr2 ty)
      have HRUN1 := Lib.hid hr1'
      have HRUN2 := Lib.hid hr2'
      have HLN := Lib.hid (row_len HR2.out)
      clear hr1 hr2 hr1' hr2' r1 r2 F1 F2
      go_wp2_with (first | (at_builtin; refine Lib.wpList_append_run (yGd.alloc (.cells #[] 38)) rfl (.tmp 48) (.tmp 49) 22 23 rfl (.slice (some ⟨yGd.heap.size, 0, none⟩) 0 0) (.slice A n c) rfl rfl v1 x1 (HRUN1.out _) ?_) | (at_builtin; refine Lib.wpList_append_run x1 rfl (.tmp 50) (.tmp 51) 22 23 rfl v1 (.slice B m cb) rfl rfl v2 x2 (HRUN2.out _) ?_))
      obtain ⟨A2, c2, hv2⟩ := rw_form HR2.out
      subst hv2
      have HC2' := Lib.hid (Cs.own HR2.out)
      obtain ⟨N, hN⟩ : ∃ N, N = 0 + n + m := ⟨_, rfl⟩
      have hN7 : N ≤ 70000 := by omega
      rw [← hN] at HR2 HLN ⊢
      clear HR1 HO0 HRUN1 HRUN2
      have R0 : Hid (x2.ownsRow x2.heap.size 38 2 (.slice none 0 0) 0 ((((a ++ b).take 0).filter fun x => !decide (x.1 = u)).flatMap lc)) := ⟨rfl, .inl ⟨rfl, rfl⟩⟩
      have HWX := Lib.hid (HW.out.trans G2.out)
      clear hN
      go_loopw [10, 12] (fun s10 i wr => ∃ (t k : Nat), i = .int .i64 t ∧ t ≤ N ∧ k ≤ t ∧ Hid (wr.ownsRow x2.heap.size 38 2 s10 k ((((a ++ b).take t).filter fun x => !decide (x.1 = u)).flatMap lc)) ∧ Hid (Gr x2 wr)) (fun _ i _ => N - (intOf i).toNat)
      case atStart => exact ⟨0, 0, rfl, Nat.zero_le _, Nat.le_refl _, R0, Gr.refl x2⟩
      case round =>
        obtain ⟨t, k, rfl, ht, hk, hR, hG⟩ := hrel
        by_cases htn : t < N
        · obtain ⟨y, hy⟩ : ∃ y, (a ++ b)[t]? = some y := ⟨_, List.getElem?_eq_getElem (by rw [HLN.out]; omega)⟩
          obtain ⟨ad, rfl, hb, d1, d2⟩ := HC2'.out.gr hG.out t y hy
          have HF := Lib.hid (rest_take (u := u) hy)
          obtain ⟨y1, y2⟩ := y
          clear hy hb
          simp only at d1 d2
          by_cases hyu : y1 = u
          · have HF2 := HF
            rw [if_pos hyu] at HF2
            have hne : (y1 != u) = false := by simpa using hyu
            have HR2 := hR
            rw [← HF2.out] at HR2
            go_wp2
            go_roundw
            case rel => exact ⟨t + 1, k, by go_num, by omega, by omega, HR2, hG⟩
            case measure => simp [intOf]; omega
          · have HF2 := HF
            rw [if_neg hyu] at HF2
            have hne : (y1 != u) = true := by simpa using hyu
            have hsz := hG.out.size
            go_wp2_with (at_builtin; refine wpList_appS1 (w := wr) elemL rfl (.tmp 66) (.tmp 71) rfl x2.heap.size u10 k ((((a ++ b).take t).filter fun x => !decide (x.1 = u)).flatMap lc) #[.int .i64 y1, .bool y2] rfl rfl rfl hR.out (lc_arr (y1, y2)) (by unfold maxLen; omega) (by omega) hsz ?_; intro r4 w4 hr4 hF4 _)
            have R4 := Lib.hid (push1 (y := (y1, y2)) hr4)
            have G4 := Lib.hid (gr_own hG.out hR.out (Nat.le_refl _) hF4)
            rw [← HF2.out] at R4
            clear hr4 hF4
            go_roundw
            case rel => exact ⟨t + 1, k + 1, by go_num, by omega, by omega, R4, G4⟩
            case measure => simp [intOf]; omega
        · have htt : Hid ((a ++ b).take t = a ++ b) := List.take_of_length_le (by rw [HLN.out]; omega)
          rw [htt.out] at hR
          have hR3 : Hid (wr.ownsRow x2.heap.size 38 2 u10 k ((rest a b u).flatMap lc)) := hR
          obtain ⟨A4, c4, hv4⟩ := rw_form hR3.out
          rw [hv4] at hR3
          have HX := Lib.hid (rmake_any wr A4 k c4 (rest a b u) (row_len hR3.out) (by omega) (Cs.own hR3.out))
          subst hv4
          have HG2 := Lib.hid (HWX.out.trans hG.out)
          clear hR
          go_wp2_with fail
          refine HX.out.mono ?_
          rintro e x5 ⟨v5, k5, rfl, r5, K5⟩
          have G5 := Lib.hid (HG2.out.trans K5)
          have HR5 := Lib.hid (rw_base r5 HG2.out.size)
          clear K5 r5 HX
          cases hv : vldB (mkR (rest a b u))
          · have HE2 : Hid (resE a b u = 10) := by rw [HE.out, hv]; exact rfl
            have HN2 : Hid (resL a b u = []) := by rw [HN.out]; unfold mkV; rw [hv]; exact rfl
            clear hv
            go_wp2
            go_returns
            exact ⟨_, 0, by rw [HE2.out]; rfl, by rw [HN2.out]; exact ⟨rfl, .inl ⟨rfl, rfl⟩⟩, G5.out⟩
          · have HE2 : Hid (resE a b u = 0) := by rw [HE.out, hv]; exact rfl
            clear hv
            go_wp2
            go_returns
            exact ⟨_, k5, by rw [HE2.out]; rfl, by rw [HN.out]; exact HR5.out, G5.out⟩

end Go.Proofs.YtgnlbmamolbcfaaDoor
