/- Resolve. -/
import Derived.Test.YtgnlbmamolbcfaaDoorCat
set_option linter.unusedVariables false
namespace Go.Proofs.YtgnlbmamolbcfaaDoor
open Go.RowKit Go.Shelf

attribute [local go_sem] Oper.semAt_some

def hasOpp (a b : List Lit) (u : Int) : Bool := (a.contains (u, true) && b.contains (u, false)) || (a.contains (u, false) && b.contains (u, true))
/-- The literals of both that are not about the unit. -/
def rest (a b : List Lit) (u : Int) : List Lit := (a ++ b).filter fun x => !decide (x.1 = u)
/-- The error: 1 the arguments, 10 none, 0 ok. -/
def resE (a b : List Lit) (u : Int) : Int := if vldB a && (vldB b && hasOpp a b u) then (if vldB (mkR (rest a b u)) then 0 else 10) else 1
def resL (a b : List Lit) (u : Int) : List Lit := if vldB a && (vldB b && hasOpp a b u) then mkV (rest a b u) else []

set_option maxRecDepth 100000 in
set_option maxHeartbeats 1000000 in
theorem about_fc (w0 : World) (p : Nat) (u : Int) (hq : Bk w0 p 3 #[.int .i64 u]) : Fc (.func (.func 35) #[] #[.pointer (some ⟨p, 0, none⟩)]) (fun x => decide (x.1 = u)) w0 := by
  refine ⟨35, _, rfl, enters_of Tryd.func35 (by kernel_rfl) rfl, fun x W hG => ?_⟩
  have G1 := Lib.hid ((Gr.refl W).alloc (.cells #[.int .i64 x.1, .bool x.2] 38))
  have hb := hG.fr.bk hq id
  have k1 : W.cell? ⟨p, 0, none⟩ = some (.int .i64 u) := (hb.cell 0).trans rfl
  have hpl := hb.lt
  obtain ⟨x1, x2⟩ := x
  simp only at *
  clear hb hq hG
  change Calls Tryd.prog 35 #[.agg #[.int .i64 x1, .bool x2], .pointer (some ⟨p, 0, none⟩)] W _
  have hd : Hid ((x1 == u) = decide (x1 = u)) := by by_cases h : x1 = u <;> simp [h] <;> exact ⟨⟩
  go_enter Tryd.func35, Tryd.ntmps35
  go_wp2
  go_ret
  exact ⟨by rw [← hd.out]; rfl, G1.out⟩

theorem own_nil {w : World} {B n c : Nat} {A : Option Addr} {xs : List Value} (h : w.ownsRow B 38 2 (.slice A n c) n xs) (hA : A = none) : n = 0 ∧ c = 0 := by
  subst hA
  obtain ⟨_, ⟨h0, h1⟩ | ⟨g', cap, cur, hv, _⟩⟩ := h
  · injection h0 with _ e1 e2
    exact ⟨e1, e2⟩
  · injection hv with hv
    cases hv
theorem rw_base {w : World} {B B' n : Nat} {v : Value} {xs : List Value} (h : w.ownsRow B 38 2 v n xs) (hB : B' ≤ B) : w.ownsRow B' 38 2 v n xs := by
  refine ⟨h.1, ?_⟩
  rcases h.2 with hn | ⟨g, cap, cur, rfl, hb, hgg, rest⟩
  · exact .inl hn
  · exact .inr ⟨g, cap, cur, rfl, Nat.le_trans hB hb, hgg, rest⟩
theorem two_made (w : World) (c0 c1 c2 : Array Value) :
    Bk (((w.alloc (.cells c0 3)).alloc (.cells c1 38)).alloc (.cells c2 38)).drew w.heap.size 3 c0 ∧ Bk (((w.alloc (.cells c0 3)).alloc (.cells c1 38)).alloc (.cells c2 38)).drew (w.heap.size + 1) 38 c1 ∧ Bk (((w.alloc (.cells c0 3)).alloc (.cells c1 38)).alloc (.cells c2 38)).drew (w.heap.size + 1 + 1) 38 c2 ∧ Gr w (((w.alloc (.cells c0 3)).alloc (.cells c1 38)).alloc (.cells c2 38)).drew := by
  have h0 := Bk.made w 3 c0
  have h1 := Bk.made (w.alloc (.cells c0 3)) 38 c1
  have h2 := Bk.made ((w.alloc (.cells c0 3)).alloc (.cells c1 38)) 38 c2
  rw [World.size_alloc] at h1
  rw [World.size_alloc, World.size_alloc] at h2
  exact ⟨(h0.alloc _).alloc _, h1.alloc _, h2, ((((Gr.refl w).alloc _).alloc _).alloc _).no (Fr.drew _ _)⟩

theorem vld_len {l : List Lit} (h : Vld l) : l.length ≤ 1024 := by
  refine Classical.byContradiction fun hn => ?_
  have key : ∀ i (hi : i < l.length), (i : Int) ≤ l[i].1 := fun i => by
    induction i with
    | zero => intro hi; exact (h.range (List.getElem?_eq_getElem hi)).1
    | succ i ih =>
      intro hi
      have h1 := ih (by omega)
      have h2 := h.step (List.getElem?_eq_getElem (show i < l.length by omega)) (List.getElem?_eq_getElem hi)
      omega
  have h1 := key 1024 (by omega)
  have h2 := (h.range (List.getElem?_eq_getElem (show 1024 < l.length by omega))).2
  omega
set_option maxRecDepth 100000 in
set_option maxHeartbeats 8000000 in
theorem resolve_any (w : World) (A B : Option Addr) (n c m cb : Nat) (a b : List Lit) (u : Int) (hA : A = none → n = 0) (hB : B = none → m = 0) (hl : a.length = n) (hl2 : b.length = m) (hn1 : n ≤ maxLen) (hm1 : m ≤ maxLen) (hc : Cs w A a) (hc2 : Cs w B b) :
    Calls Tryd.prog 17 #[.slice A n c, .slice B m cb, .int .i64 u] w fun e w' => ∃ v' k, e = .returned (.tuple #[v', .int .i64 (resE a b u)]) ∧ w'.ownsRow w.heap.size 38 2 v' k ((resL a b u).flatMap lc) ∧ Gr w w' := by
  have HA := Lib.hid hA
  have HB := Lib.hid hB
  have HL := Lib.hid hl
  have HL2 := Lib.hid hl2
  have HC1 := Lib.hid hc
  have HC2 := Lib.hid hc2
  have HO : Hid (hasOpp a b u = ((a.contains (u, true) && b.contains (u, false)) || (a.contains (u, false) && b.contains (u, true)))) := rfl
  have HRE : Hid (resE a b u = if vldB a && (vldB b && hasOpp a b u) then (if vldB (mkR (rest a b u)) then 0 else 10) else 1) := rfl
  have HRL : Hid (resL a b u = if vldB a && (vldB b && hasOpp a b u) then mkV (rest a b u) else []) := rfl
  clear hA hB hl hl2 hc hc2
  go_enter Tryd.func17, Tryd.ntmps17
  go_wp2
  go_region
  · obtain ⟨k0, kon, koff, kg⟩ := two_made w #[.int .i64 u] #[.int .i64 u, .bool true] #[.int .i64 u, .bool false]
    have hons : w.heap.size + 1 < _ := kon.lt
    have hoffs : w.heap.size + 1 + 1 < _ := koff.lt
    have hps : w.heap.size < _ := k0.lt
    generalize (((w.alloc (.cells #[.int .i64 u] 3)).alloc (.cells #[.int .i64 u, .bool true] 38)).alloc (.cells #[.int .i64 u, .bool false] 38)).drew = W at *
    generalize w.heap.size + 1 + 1 = poff at *
    generalize w.heap.size + 1 = pon at *
    have HW := Lib.hid kg
    have HON := Lib.hid kon
    have HOFF := Lib.hid koff
    have HF := Lib.hid (about_fc W w.heap.size u k0)
    have HCa := Lib.hid (HC1.out.gr kg)
    have HCb := Lib.hid (HC2.out.gr kg)
    have H1 : Hid (∀ X, Gr W X → Calls Tryd.prog 26 #[.slice A n c] X fun e w' => e = .returned (.bool (vldB a)) ∧ Gr X w') := fun X hG => valid_any X A n c a HL.out hn1 (HCa.out.gr hG)
    have H2 : Hid (∀ X, Gr W X → Calls Tryd.prog 26 #[.slice B m cb] X fun e w' => e = .returned (.bool (vldB b)) ∧ Gr X w') := fun X hG => valid_any X B m cb b HL2.out hm1 (HCb.out.gr hG)
    have HCA : Hid (∀ (x : Lit) X, Gr W X → Calls Tryd.prog 34 #[.slice A n c, .agg #[.int .i64 x.1, .bool x.2]] X fun e w' => e = .returned (.bool (a.contains x)) ∧ Gr X w') := fun x X hG => contains_any X A n c a x HL.out hn1 (HCa.out.gr hG)
    have HCB : Hid (∀ (x : Lit) X, Gr W X → Calls Tryd.prog 34 #[.slice B m cb, .agg #[.int .i64 x.1, .bool x.2]] X fun e w' => e = .returned (.bool (b.contains x)) ∧ Gr X w') := fun x X hG => contains_any X B m cb b x HL2.out hm1 (HCb.out.gr hG)
    clear k0 kon koff kg
    rw [HO.out] at HRE HRL
    clear HO
    have G0 : Hid (Gr W W) := Gr.refl W
    obtain ⟨b1, hb1⟩ : ∃ b1, b1 = a.contains (u, true) := ⟨_, rfl⟩
    obtain ⟨b2, hb2⟩ : ∃ b2, b2 = b.contains (u, false) := ⟨_, rfl⟩
    obtain ⟨b3, hb3⟩ : ∃ b3, b3 = a.contains (u, false) := ⟨_, rfl⟩
    obtain ⟨b4, hb4⟩ : ∃ b4, b4 = b.contains (u, true) := ⟨_, rfl⟩
    obtain ⟨va, hva⟩ : ∃ va, va = vldB a := ⟨_, rfl⟩
    obtain ⟨vb, hvb⟩ : ∃ vb, vb = vldB b := ⟨_, rfl⟩
    have E1 : Hid (∀ X, Gr W X → Calls Tryd.prog 34 #[.slice A n c, .agg #[.int .i64 u, .bool true]] X fun e w' => e = .returned (.bool b1) ∧ Gr X w') := by rw [hb1]; exact HCA.out (u, true)
    have E2 : Hid (∀ X, Gr W X → Calls Tryd.prog 34 #[.slice B m cb, .agg #[.int .i64 u, .bool false]] X fun e w' => e = .returned (.bool b2) ∧ Gr X w') := by rw [hb2]; exact HCB.out (u, false)
    have E3 : Hid (∀ X, Gr W X → Calls Tryd.prog 34 #[.slice A n c, .agg #[.int .i64 u, .bool false]] X fun e w' => e = .returned (.bool b3) ∧ Gr X w') := by rw [hb3]; exact HCA.out (u, false)
    have E4 : Hid (∀ X, Gr W X → Calls Tryd.prog 34 #[.slice B m cb, .agg #[.int .i64 u, .bool true]] X fun e w' => e = .returned (.bool b4) ∧ Gr X w') := by rw [hb4]; exact HCB.out (u, true)
    have HNM : Hid (va = true → vb = true → n + m ≤ 100000) := fun h1 h2 => by
      have e1 := vld_len (vldB_iff.1 (hva ▸ h1))
      have e2 := vld_len (vldB_iff.1 (hvb ▸ h2))
      rw [HL.out] at e1
      rw [HL2.out] at e2
      omega
    rw [← hva] at H1
    rw [← hvb] at H2
    rw [← hva, ← hvb, ← hb1, ← hb2, ← hb3, ← hb4] at HRE HRL
    clear hb1 hb2 hb3 hb4 hva hvb HCA HCB
    have c1 := ((G0.out.fr.bk HON.out id).cell 0).trans (show _ = some (Value.int .i64 u) from rfl)
    have c2 := ((G0.out.fr.bk HON.out id).cell 1).trans (show _ = some (Value.bool true) from rfl)
    have d1 := ((G0.out.fr.bk HOFF.out id).cell 0).trans (show _ = some (Value.int .i64 u) from rfl)
    have d2 := ((G0.out.fr.bk HOFF.out id).cell 1).trans (show _ = some (Value.bool false) from rfl)
    go_wp2_with fail
    clear c1 c2 d1 d2
    refine (E1.out _ G0.out).mono ?_
    rintro e y1 ⟨rfl, L1⟩
    have G1 := Lib.hid (G0.out.trans L1)
    clear L1
    cases b1
    · skip
      have c1 := ((G1.out.fr.bk HON.out id).cell 0).trans (show _ = some (Value.int .i64 u) from rfl)
      have c2 := ((G1.out.fr.bk HON.out id).cell 1).trans (show _ = some (Value.bool true) from rfl)
      have d1 := ((G1.out.fr.bk HOFF.out id).cell 0).trans (show _ = some (Value.int .i64 u) from rfl)
      have d2 := ((G1.out.fr.bk HOFF.out id).cell 1).trans (show _ = some (Value.bool false) from rfl)
      go_wp2_with fail
      clear c1 c2 d1 d2
      refine (E3.out _ G1.out).mono ?_
      rintro e y2 ⟨rfl, L2⟩
      have G2 := Lib.hid (G1.out.trans L2)
      clear L2
      cases b3
      · go_wp2_with fail
        refine (H1.out _ G2.out).mono ?_
        rintro e x1 ⟨rfl, K1⟩
        have Gv := Lib.hid (G2.out.trans K1)
        clear K1
        cases va
        · have HE : Hid (resE a b u = 1) := HRE.out
          have HN : Hid (resL a b u = []) := HRL.out
          go_wp2
          go_returns
          exact ⟨_, 0, by rw [HE.out]; rfl, by rw [HN.out]; exact ⟨rfl, .inl ⟨rfl, rfl⟩⟩, (HW.out.trans Gv.out)⟩
        go_wp2_with fail
        refine (H2.out _ Gv.out).mono ?_
        rintro e x2 ⟨rfl, K2⟩
        have Gw := Lib.hid (Gv.out.trans K2)
        clear K2
        cases vb
        · have HE : Hid (resE a b u = 1) := HRE.out
          have HN : Hid (resL a b u = []) := HRL.out
          go_wp2
          go_returns
          exact ⟨_, 0, by rw [HE.out]; rfl, by rw [HN.out]; exact ⟨rfl, .inl ⟨rfl, rfl⟩⟩, (HW.out.trans Gw.out)⟩
        have HE : Hid (resE a b u = 1) := HRE.out
        have HN : Hid (resL a b u = []) := HRL.out
        go_wp2
        go_returns
        exact ⟨_, 0, by rw [HE.out]; rfl, by rw [HN.out]; exact ⟨rfl, .inl ⟨rfl, rfl⟩⟩, (HW.out.trans Gw.out)⟩

      · skip
        have c1 := ((G2.out.fr.bk HON.out id).cell 0).trans (show _ = some (Value.int .i64 u) from rfl)
        have c2 := ((G2.out.fr.bk HON.out id).cell 1).trans (show _ = some (Value.bool true) from rfl)
        have d1 := ((G2.out.fr.bk HOFF.out id).cell 0).trans (show _ = some (Value.int .i64 u) from rfl)
        have d2 := ((G2.out.fr.bk HOFF.out id).cell 1).trans (show _ = some (Value.bool false) from rfl)
        go_wp2_with fail
        clear c1 c2 d1 d2
        refine (E4.out _ G2.out).mono ?_
        rintro e y3 ⟨rfl, L3⟩
        have G3 := Lib.hid (G2.out.trans L3)
        clear L3
        cases b4
        · go_wp2_with fail
          refine (H1.out _ G3.out).mono ?_
          rintro e x1 ⟨rfl, K1⟩
          have Gv := Lib.hid (G3.out.trans K1)
          clear K1
          cases va
          · have HE : Hid (resE a b u = 1) := HRE.out
            have HN : Hid (resL a b u = []) := HRL.out
            go_wp2
            go_returns
            exact ⟨_, 0, by rw [HE.out]; rfl, by rw [HN.out]; exact ⟨rfl, .inl ⟨rfl, rfl⟩⟩, (HW.out.trans Gv.out)⟩
          go_wp2_with fail
          refine (H2.out _ Gv.out).mono ?_
          rintro e x2 ⟨rfl, K2⟩
          have Gw := Lib.hid (Gv.out.trans K2)
          clear K2
          cases vb
          · have HE : Hid (resE a b u = 1) := HRE.out
            have HN : Hid (resL a b u = []) := HRL.out
            go_wp2
            go_returns
            exact ⟨_, 0, by rw [HE.out]; rfl, by rw [HN.out]; exact ⟨rfl, .inl ⟨rfl, rfl⟩⟩, (HW.out.trans Gw.out)⟩
          have HE : Hid (resE a b u = 1) := HRE.out
          have HN : Hid (resL a b u = []) := HRL.out
          go_wp2
          go_returns
          exact ⟨_, 0, by rw [HE.out]; rfl, by rw [HN.out]; exact ⟨rfl, .inl ⟨rfl, rfl⟩⟩, (HW.out.trans Gw.out)⟩

        · go_wp2_with fail
          refine (H1.out _ G3.out).mono ?_
          rintro e x1 ⟨rfl, K1⟩
          have Gv := Lib.hid (G3.out.trans K1)
          clear K1
          cases va
          · have HE : Hid (resE a b u = 1) := HRE.out
            have HN : Hid (resL a b u = []) := HRL.out
            go_wp2
            go_returns
            exact ⟨_, 0, by rw [HE.out]; rfl, by rw [HN.out]; exact ⟨rfl, .inl ⟨rfl, rfl⟩⟩, (HW.out.trans Gv.out)⟩
          go_wp2_with fail
          refine (H2.out _ Gv.out).mono ?_
          rintro e x2 ⟨rfl, K2⟩
          have Gw := Lib.hid (Gv.out.trans K2)
          clear K2
          cases vb
          · have HE : Hid (resE a b u = 1) := HRE.out
            have HN : Hid (resL a b u = []) := HRL.out
            go_wp2
            go_returns
            exact ⟨_, 0, by rw [HE.out]; rfl, by rw [HN.out]; exact ⟨rfl, .inl ⟨rfl, rfl⟩⟩, (HW.out.trans Gw.out)⟩
          have hnm : n + m ≤ 100000 := by simpa using HNM.out
          have HE : Hid (resE a b u = if vldB (mkR (rest a b u)) then 0 else 10) := HRE.out
          have HN : Hid (resL a b u = mkV (rest a b u)) := HRL.out
          have HQ := Lib.hid (Bk.made x2 23 #[.slice A n c, .slice B m cb])
          have Gq := Lib.hid (Gw.out.alloc (.cells #[.slice A n c, .slice B m cb] 23))
          have HX := Lib.hid (concat_any (x2.alloc (.cells #[.slice A n c, .slice B m cb] 23)) x2.heap.size A B n c m cb a b HA.out HB.out HL.out HL2.out hnm (HCa.out.gr Gq.out) (HCb.out.gr Gq.out) HQ.out)
          go_wp2_with fail
          refine HX.out.mono ?_
          rintro e x3 ⟨v3, k3, rfl, r3, K3⟩
          have G3 := Lib.hid (Gq.out.trans K3)
          have hk3 : k3 ≤ 100000 := by have := row_len r3; rw [List.length_append, HL.out, HL2.out] at this; omega
          have HY := Lib.hid (delete_any x3 W _ k3 v3 (a ++ b) _ _ r3 hk3 HF.out G3.out Gq.out.size)
          clear K3 r3 HX HQ
          go_wp2_with fail
          refine HY.out.mono ?_
          rintro e x4 ⟨v4, k4, rfl, r4, K4⟩
          have G4 := Lib.hid K4
          have hk4 : k4 ≤ 100000 := by
            have h1 := row_len r4
            have h2 := List.length_filter_le (fun x : Lit => !decide (x.1 = u)) (a ++ b)
            rw [List.length_append, HL.out, HL2.out] at h2
            omega
          obtain ⟨A4, c4, rfl⟩ := rw_form r4
          have HZ := Lib.hid (make_any x4 A4 k4 c4 (rest a b u) (own_nil r4) (row_len r4) hk4 (Cs.own r4))
          have HS4 := G4.out.size
          clear K4 r4 HY
          go_wp2_with fail
          refine HZ.out.mono ?_
          rintro e x5 ⟨v5, k5, rfl, r5, K5⟩
          have G5 := Lib.hid (G4.out.trans K5)
          have HR5 := Lib.hid (rw_base r5 (Nat.le_trans HW.out.size HS4))
          clear K5 r5 HZ
          cases hv : vldB (mkR (rest a b u))
          · have HV := Lib.hid hv
            have HE2 : Hid (resE a b u = 10) := by rw [HE.out, hv]; exact rfl
            have HN2 : Hid (resL a b u = []) := by rw [HN.out]; unfold mkV; rw [hv]; exact rfl
            clear hv
            go_wp2
            go_returns
            exact ⟨_, 0, by rw [HE2.out]; rfl, by rw [HN2.out]; exact ⟨rfl, .inl ⟨rfl, rfl⟩⟩, (HW.out.trans G5.out)⟩
          · have HV := Lib.hid hv
            have HE2 : Hid (resE a b u = 0) := by rw [HE.out, hv]; exact rfl
            clear hv
            go_wp2
            go_returns
            exact ⟨_, k5, by rw [HE2.out]; rfl, by rw [HN.out]; exact HR5.out, (HW.out.trans G5.out)⟩

    · skip
      have c1 := ((G1.out.fr.bk HON.out id).cell 0).trans (show _ = some (Value.int .i64 u) from rfl)
      have c2 := ((G1.out.fr.bk HON.out id).cell 1).trans (show _ = some (Value.bool true) from rfl)
      have d1 := ((G1.out.fr.bk HOFF.out id).cell 0).trans (show _ = some (Value.int .i64 u) from rfl)
      have d2 := ((G1.out.fr.bk HOFF.out id).cell 1).trans (show _ = some (Value.bool false) from rfl)
      go_wp2_with fail
      clear c1 c2 d1 d2
      refine (E2.out _ G1.out).mono ?_
      rintro e y2 ⟨rfl, L2⟩
      have G2 := Lib.hid (G1.out.trans L2)
      clear L2
      cases b2
      · skip
        have c1 := ((G2.out.fr.bk HON.out id).cell 0).trans (show _ = some (Value.int .i64 u) from rfl)
        have c2 := ((G2.out.fr.bk HON.out id).cell 1).trans (show _ = some (Value.bool true) from rfl)
        have d1 := ((G2.out.fr.bk HOFF.out id).cell 0).trans (show _ = some (Value.int .i64 u) from rfl)
        have d2 := ((G2.out.fr.bk HOFF.out id).cell 1).trans (show _ = some (Value.bool false) from rfl)
        go_wp2_with fail
        clear c1 c2 d1 d2
        refine (E3.out _ G2.out).mono ?_
        rintro e y3 ⟨rfl, L3⟩
        have G3 := Lib.hid (G2.out.trans L3)
        clear L3
        cases b3
        · go_wp2_with fail
          refine (H1.out _ G3.out).mono ?_
          rintro e x1 ⟨rfl, K1⟩
          have Gv := Lib.hid (G3.out.trans K1)
          clear K1
          cases va
          · have HE : Hid (resE a b u = 1) := HRE.out
            have HN : Hid (resL a b u = []) := HRL.out
            go_wp2
            go_returns
            exact ⟨_, 0, by rw [HE.out]; rfl, by rw [HN.out]; exact ⟨rfl, .inl ⟨rfl, rfl⟩⟩, (HW.out.trans Gv.out)⟩
          go_wp2_with fail
          refine (H2.out _ Gv.out).mono ?_
          rintro e x2 ⟨rfl, K2⟩
          have Gw := Lib.hid (Gv.out.trans K2)
          clear K2
          cases vb
          · have HE : Hid (resE a b u = 1) := HRE.out
            have HN : Hid (resL a b u = []) := HRL.out
            go_wp2
            go_returns
            exact ⟨_, 0, by rw [HE.out]; rfl, by rw [HN.out]; exact ⟨rfl, .inl ⟨rfl, rfl⟩⟩, (HW.out.trans Gw.out)⟩
          have HE : Hid (resE a b u = 1) := HRE.out
          have HN : Hid (resL a b u = []) := HRL.out
          go_wp2
          go_returns
          exact ⟨_, 0, by rw [HE.out]; rfl, by rw [HN.out]; exact ⟨rfl, .inl ⟨rfl, rfl⟩⟩, (HW.out.trans Gw.out)⟩

        · skip
          have c1 := ((G3.out.fr.bk HON.out id).cell 0).trans (show _ = some (Value.int .i64 u) from rfl)
          have c2 := ((G3.out.fr.bk HON.out id).cell 1).trans (show _ = some (Value.bool true) from rfl)
          have d1 := ((G3.out.fr.bk HOFF.out id).cell 0).trans (show _ = some (Value.int .i64 u) from rfl)
          have d2 := ((G3.out.fr.bk HOFF.out id).cell 1).trans (show _ = some (Value.bool false) from rfl)
          go_wp2_with fail
          clear c1 c2 d1 d2
          refine (E4.out _ G3.out).mono ?_
          rintro e y4 ⟨rfl, L4⟩
          have G4 := Lib.hid (G3.out.trans L4)
          clear L4
          cases b4
          · go_wp2_with fail
            refine (H1.out _ G4.out).mono ?_
            rintro e x1 ⟨rfl, K1⟩
            have Gv := Lib.hid (G4.out.trans K1)
            clear K1
            cases va
            · have HE : Hid (resE a b u = 1) := HRE.out
              have HN : Hid (resL a b u = []) := HRL.out
              go_wp2
              go_returns
              exact ⟨_, 0, by rw [HE.out]; rfl, by rw [HN.out]; exact ⟨rfl, .inl ⟨rfl, rfl⟩⟩, (HW.out.trans Gv.out)⟩
            go_wp2_with fail
            refine (H2.out _ Gv.out).mono ?_
            rintro e x2 ⟨rfl, K2⟩
            have Gw := Lib.hid (Gv.out.trans K2)
            clear K2
            cases vb
            · have HE : Hid (resE a b u = 1) := HRE.out
              have HN : Hid (resL a b u = []) := HRL.out
              go_wp2
              go_returns
              exact ⟨_, 0, by rw [HE.out]; rfl, by rw [HN.out]; exact ⟨rfl, .inl ⟨rfl, rfl⟩⟩, (HW.out.trans Gw.out)⟩
            have HE : Hid (resE a b u = 1) := HRE.out
            have HN : Hid (resL a b u = []) := HRL.out
            go_wp2
            go_returns
            exact ⟨_, 0, by rw [HE.out]; rfl, by rw [HN.out]; exact ⟨rfl, .inl ⟨rfl, rfl⟩⟩, (HW.out.trans Gw.out)⟩

          · go_wp2_with fail
            refine (H1.out _ G4.out).mono ?_
            rintro e x1 ⟨rfl, K1⟩
            have Gv := Lib.hid (G4.out.trans K1)
            clear K1
            cases va
            · have HE : Hid (resE a b u = 1) := HRE.out
              have HN : Hid (resL a b u = []) := HRL.out
              go_wp2
              go_returns
              exact ⟨_, 0, by rw [HE.out]; rfl, by rw [HN.out]; exact ⟨rfl, .inl ⟨rfl, rfl⟩⟩, (HW.out.trans Gv.out)⟩
            go_wp2_with fail
            refine (H2.out _ Gv.out).mono ?_
            rintro e x2 ⟨rfl, K2⟩
            have Gw := Lib.hid (Gv.out.trans K2)
            clear K2
            cases vb
            · have HE : Hid (resE a b u = 1) := HRE.out
              have HN : Hid (resL a b u = []) := HRL.out
              go_wp2
              go_returns
              exact ⟨_, 0, by rw [HE.out]; rfl, by rw [HN.out]; exact ⟨rfl, .inl ⟨rfl, rfl⟩⟩, (HW.out.trans Gw.out)⟩
            have hnm : n + m ≤ 100000 := by simpa using HNM.out
            have HE : Hid (resE a b u = if vldB (mkR (rest a b u)) then 0 else 10) := HRE.out
            have HN : Hid (resL a b u = mkV (rest a b u)) := HRL.out
            have HQ := Lib.hid (Bk.made x2 23 #[.slice A n c, .slice B m cb])
            have Gq := Lib.hid (Gw.out.alloc (.cells #[.slice A n c, .slice B m cb] 23))
            have HX := Lib.hid (concat_any (x2.alloc (.cells #[.slice A n c, .slice B m cb] 23)) x2.heap.size A B n c m cb a b HA.out HB.out HL.out HL2.out hnm (HCa.out.gr Gq.out) (HCb.out.gr Gq.out) HQ.out)
            go_wp2_with fail
            refine HX.out.mono ?_
            rintro e x3 ⟨v3, k3, rfl, r3, K3⟩
            have G3 := Lib.hid (Gq.out.trans K3)
            have hk3 : k3 ≤ 100000 := by have := row_len r3; rw [List.length_append, HL.out, HL2.out] at this; omega
            have HY := Lib.hid (delete_any x3 W _ k3 v3 (a ++ b) _ _ r3 hk3 HF.out G3.out Gq.out.size)
            clear K3 r3 HX HQ
            go_wp2_with fail
            refine HY.out.mono ?_
            rintro e x4 ⟨v4, k4, rfl, r4, K4⟩
            have G4 := Lib.hid K4
            have hk4 : k4 ≤ 100000 := by
              have h1 := row_len r4
              have h2 := List.length_filter_le (fun x : Lit => !decide (x.1 = u)) (a ++ b)
              rw [List.length_append, HL.out, HL2.out] at h2
              omega
            obtain ⟨A4, c4, rfl⟩ := rw_form r4
            have HZ := Lib.hid (make_any x4 A4 k4 c4 (rest a b u) (own_nil r4) (row_len r4) hk4 (Cs.own r4))
            have HS4 := G4.out.size
            clear K4 r4 HY
            go_wp2_with fail
            refine HZ.out.mono ?_
            rintro e x5 ⟨v5, k5, rfl, r5, K5⟩
            have G5 := Lib.hid (G4.out.trans K5)
            have HR5 := Lib.hid (rw_base r5 (Nat.le_trans HW.out.size HS4))
            clear K5 r5 HZ
            cases hv : vldB (mkR (rest a b u))
            · have HV := Lib.hid hv
              have HE2 : Hid (resE a b u = 10) := by rw [HE.out, hv]; exact rfl
              have HN2 : Hid (resL a b u = []) := by rw [HN.out]; unfold mkV; rw [hv]; exact rfl
              clear hv
              go_wp2
              go_returns
              exact ⟨_, 0, by rw [HE2.out]; rfl, by rw [HN2.out]; exact ⟨rfl, .inl ⟨rfl, rfl⟩⟩, (HW.out.trans G5.out)⟩
            · have HV := Lib.hid hv
              have HE2 : Hid (resE a b u = 0) := by rw [HE.out, hv]; exact rfl
              clear hv
              go_wp2
              go_returns
              exact ⟨_, k5, by rw [HE2.out]; rfl, by rw [HN.out]; exact HR5.out, (HW.out.trans G5.out)⟩

      · go_wp2_with fail
        refine (H1.out _ G2.out).mono ?_
        rintro e x1 ⟨rfl, K1⟩
        have Gv := Lib.hid (G2.out.trans K1)
        clear K1
        cases va
        · have HE : Hid (resE a b u = 1) := HRE.out
          have HN : Hid (resL a b u = []) := HRL.out
          go_wp2
          go_returns
          exact ⟨_, 0, by rw [HE.out]; rfl, by rw [HN.out]; exact ⟨rfl, .inl ⟨rfl, rfl⟩⟩, (HW.out.trans Gv.out)⟩
        go_wp2_with fail
        refine (H2.out _ Gv.out).mono ?_
        rintro e x2 ⟨rfl, K2⟩
        have Gw := Lib.hid (Gv.out.trans K2)
        clear K2
        cases vb
        · have HE : Hid (resE a b u = 1) := HRE.out
          have HN : Hid (resL a b u = []) := HRL.out
          go_wp2
          go_returns
          exact ⟨_, 0, by rw [HE.out]; rfl, by rw [HN.out]; exact ⟨rfl, .inl ⟨rfl, rfl⟩⟩, (HW.out.trans Gw.out)⟩
        have hnm : n + m ≤ 100000 := by simpa using HNM.out
        have HE : Hid (resE a b u = if vldB (mkR (rest a b u)) then 0 else 10) := HRE.out
        have HN : Hid (resL a b u = mkV (rest a b u)) := HRL.out
        have HQ := Lib.hid (Bk.made x2 23 #[.slice A n c, .slice B m cb])
        have Gq := Lib.hid (Gw.out.alloc (.cells #[.slice A n c, .slice B m cb] 23))
        have HX := Lib.hid (concat_any (x2.alloc (.cells #[.slice A n c, .slice B m cb] 23)) x2.heap.size A B n c m cb a b HA.out HB.out HL.out HL2.out hnm (HCa.out.gr Gq.out) (HCb.out.gr Gq.out) HQ.out)
        go_wp2_with fail
        refine HX.out.mono ?_
        rintro e x3 ⟨v3, k3, rfl, r3, K3⟩
        have G3 := Lib.hid (Gq.out.trans K3)
        have hk3 : k3 ≤ 100000 := by have := row_len r3; rw [List.length_append, HL.out, HL2.out] at this; omega
        have HY := Lib.hid (delete_any x3 W _ k3 v3 (a ++ b) _ _ r3 hk3 HF.out G3.out Gq.out.size)
        clear K3 r3 HX HQ
        go_wp2_with fail
        refine HY.out.mono ?_
        rintro e x4 ⟨v4, k4, rfl, r4, K4⟩
        have G4 := Lib.hid K4
        have hk4 : k4 ≤ 100000 := by
          have h1 := row_len r4
          have h2 := List.length_filter_le (fun x : Lit => !decide (x.1 = u)) (a ++ b)
          rw [List.length_append, HL.out, HL2.out] at h2
          omega
        obtain ⟨A4, c4, rfl⟩ := rw_form r4
        have HZ := Lib.hid (make_any x4 A4 k4 c4 (rest a b u) (own_nil r4) (row_len r4) hk4 (Cs.own r4))
        have HS4 := G4.out.size
        clear K4 r4 HY
        go_wp2_with fail
        refine HZ.out.mono ?_
        rintro e x5 ⟨v5, k5, rfl, r5, K5⟩
        have G5 := Lib.hid (G4.out.trans K5)
        have HR5 := Lib.hid (rw_base r5 (Nat.le_trans HW.out.size HS4))
        clear K5 r5 HZ
        cases hv : vldB (mkR (rest a b u))
        · have HV := Lib.hid hv
          have HE2 : Hid (resE a b u = 10) := by rw [HE.out, hv]; exact rfl
          have HN2 : Hid (resL a b u = []) := by rw [HN.out]; unfold mkV; rw [hv]; exact rfl
          clear hv
          go_wp2
          go_returns
          exact ⟨_, 0, by rw [HE2.out]; rfl, by rw [HN2.out]; exact ⟨rfl, .inl ⟨rfl, rfl⟩⟩, (HW.out.trans G5.out)⟩
        · have HV := Lib.hid hv
          have HE2 : Hid (resE a b u = 0) := by rw [HE.out, hv]; exact rfl
          clear hv
          go_wp2
          go_returns
          exact ⟨_, k5, by rw [HE2.out]; rfl, by rw [HN.out]; exact HR5.out, (HW.out.trans G5.out)⟩

  · obtain ⟨k0, koff, kon, kg⟩ := two_made w #[.int .i64 u] #[.int .i64 u, .bool false] #[.int .i64 u, .bool true]
    have hons : w.heap.size + 1 + 1 < _ := kon.lt
    have hoffs : w.heap.size + 1 < _ := koff.lt
    have hps : w.heap.size < _ := k0.lt
    generalize (((w.alloc (.cells #[.int .i64 u] 3)).alloc (.cells #[.int .i64 u, .bool false] 38)).alloc (.cells #[.int .i64 u, .bool true] 38)).drew = W at *
    generalize w.heap.size + 1 + 1 = pon at *
    generalize w.heap.size + 1 = poff at *
    have HW := Lib.hid kg
    have HON := Lib.hid kon
    have HOFF := Lib.hid koff
    have HF := Lib.hid (about_fc W w.heap.size u k0)
    have HCa := Lib.hid (HC1.out.gr kg)
    have HCb := Lib.hid (HC2.out.gr kg)
    have H1 : Hid (∀ X, Gr W X → Calls Tryd.prog 26 #[.slice A n c] X fun e w' => e = .returned (.bool (vldB a)) ∧ Gr X w') := fun X hG => valid_any X A n c a HL.out hn1 (HCa.out.gr hG)
    have H2 : Hid (∀ X, Gr W X → Calls Tryd.prog 26 #[.slice B m cb] X fun e w' => e = .returned (.bool (vldB b)) ∧ Gr X w') := fun X hG => valid_any X B m cb b HL2.out hm1 (HCb.out.gr hG)
    have HCA : Hid (∀ (x : Lit) X, Gr W X → Calls Tryd.prog 34 #[.slice A n c, .agg #[.int .i64 x.1, .bool x.2]] X fun e w' => e = .returned (.bool (a.contains x)) ∧ Gr X w') := fun x X hG => contains_any X A n c a x HL.out hn1 (HCa.out.gr hG)
    have HCB : Hid (∀ (x : Lit) X, Gr W X → Calls Tryd.prog 34 #[.slice B m cb, .agg #[.int .i64 x.1, .bool x.2]] X fun e w' => e = .returned (.bool (b.contains x)) ∧ Gr X w') := fun x X hG => contains_any X B m cb b x HL2.out hm1 (HCb.out.gr hG)
    clear k0 kon koff kg
    rw [HO.out] at HRE HRL
    clear HO
    have G0 : Hid (Gr W W) := Gr.refl W
    obtain ⟨b1, hb1⟩ : ∃ b1, b1 = a.contains (u, true) := ⟨_, rfl⟩
    obtain ⟨b2, hb2⟩ : ∃ b2, b2 = b.contains (u, false) := ⟨_, rfl⟩
    obtain ⟨b3, hb3⟩ : ∃ b3, b3 = a.contains (u, false) := ⟨_, rfl⟩
    obtain ⟨b4, hb4⟩ : ∃ b4, b4 = b.contains (u, true) := ⟨_, rfl⟩
    obtain ⟨va, hva⟩ : ∃ va, va = vldB a := ⟨_, rfl⟩
    obtain ⟨vb, hvb⟩ : ∃ vb, vb = vldB b := ⟨_, rfl⟩
    have E1 : Hid (∀ X, Gr W X → Calls Tryd.prog 34 #[.slice A n c, .agg #[.int .i64 u, .bool true]] X fun e w' => e = .returned (.bool b1) ∧ Gr X w') := by rw [hb1]; exact HCA.out (u, true)
    have E2 : Hid (∀ X, Gr W X → Calls Tryd.prog 34 #[.slice B m cb, .agg #[.int .i64 u, .bool false]] X fun e w' => e = .returned (.bool b2) ∧ Gr X w') := by rw [hb2]; exact HCB.out (u, false)
    have E3 : Hid (∀ X, Gr W X → Calls Tryd.prog 34 #[.slice A n c, .agg #[.int .i64 u, .bool false]] X fun e w' => e = .returned (.bool b3) ∧ Gr X w') := by rw [hb3]; exact HCA.out (u, false)
    have E4 : Hid (∀ X, Gr W X → Calls Tryd.prog 34 #[.slice B m cb, .agg #[.int .i64 u, .bool true]] X fun e w' => e = .returned (.bool b4) ∧ Gr X w') := by rw [hb4]; exact HCB.out (u, true)
    have HNM : Hid (va = true → vb = true → n + m ≤ 100000) := fun h1 h2 => by
      have e1 := vld_len (vldB_iff.1 (hva ▸ h1))
      have e2 := vld_len (vldB_iff.1 (hvb ▸ h2))
      rw [HL.out] at e1
      rw [HL2.out] at e2
      omega
    rw [← hva] at H1
    rw [← hvb] at H2
    rw [← hva, ← hvb, ← hb1, ← hb2, ← hb3, ← hb4] at HRE HRL
    clear hb1 hb2 hb3 hb4 hva hvb HCA HCB
    have c1 := ((G0.out.fr.bk HON.out id).cell 0).trans (show _ = some (Value.int .i64 u) from rfl)
    have c2 := ((G0.out.fr.bk HON.out id).cell 1).trans (show _ = some (Value.bool true) from rfl)
    have d1 := ((G0.out.fr.bk HOFF.out id).cell 0).trans (show _ = some (Value.int .i64 u) from rfl)
    have d2 := ((G0.out.fr.bk HOFF.out id).cell 1).trans (show _ = some (Value.bool false) from rfl)
    go_wp2_with fail
    clear c1 c2 d1 d2
    refine (E1.out _ G0.out).mono ?_
    rintro e y1 ⟨rfl, L1⟩
    have G1 := Lib.hid (G0.out.trans L1)
    clear L1
    cases b1
    · skip
      have c1 := ((G1.out.fr.bk HON.out id).cell 0).trans (show _ = some (Value.int .i64 u) from rfl)
      have c2 := ((G1.out.fr.bk HON.out id).cell 1).trans (show _ = some (Value.bool true) from rfl)
      have d1 := ((G1.out.fr.bk HOFF.out id).cell 0).trans (show _ = some (Value.int .i64 u) from rfl)
      have d2 := ((G1.out.fr.bk HOFF.out id).cell 1).trans (show _ = some (Value.bool false) from rfl)
      go_wp2_with fail
      clear c1 c2 d1 d2
      refine (E3.out _ G1.out).mono ?_
      rintro e y2 ⟨rfl, L2⟩
      have G2 := Lib.hid (G1.out.trans L2)
      clear L2
      cases b3
      · go_wp2_with fail
        refine (H1.out _ G2.out).mono ?_
        rintro e x1 ⟨rfl, K1⟩
        have Gv := Lib.hid (G2.out.trans K1)
        clear K1
        cases va
        · have HE : Hid (resE a b u = 1) := HRE.out
          have HN : Hid (resL a b u = []) := HRL.out
          go_wp2
          go_returns
          exact ⟨_, 0, by rw [HE.out]; rfl, by rw [HN.out]; exact ⟨rfl, .inl ⟨rfl, rfl⟩⟩, (HW.out.trans Gv.out)⟩
        go_wp2_with fail
        refine (H2.out _ Gv.out).mono ?_
        rintro e x2 ⟨rfl, K2⟩
        have Gw := Lib.hid (Gv.out.trans K2)
        clear K2
        cases vb
        · have HE : Hid (resE a b u = 1) := HRE.out
          have HN : Hid (resL a b u = []) := HRL.out
          go_wp2
          go_returns
          exact ⟨_, 0, by rw [HE.out]; rfl, by rw [HN.out]; exact ⟨rfl, .inl ⟨rfl, rfl⟩⟩, (HW.out.trans Gw.out)⟩
        have HE : Hid (resE a b u = 1) := HRE.out
        have HN : Hid (resL a b u = []) := HRL.out
        go_wp2
        go_returns
        exact ⟨_, 0, by rw [HE.out]; rfl, by rw [HN.out]; exact ⟨rfl, .inl ⟨rfl, rfl⟩⟩, (HW.out.trans Gw.out)⟩

      · skip
        have c1 := ((G2.out.fr.bk HON.out id).cell 0).trans (show _ = some (Value.int .i64 u) from rfl)
        have c2 := ((G2.out.fr.bk HON.out id).cell 1).trans (show _ = some (Value.bool true) from rfl)
        have d1 := ((G2.out.fr.bk HOFF.out id).cell 0).trans (show _ = some (Value.int .i64 u) from rfl)
        have d2 := ((G2.out.fr.bk HOFF.out id).cell 1).trans (show _ = some (Value.bool false) from rfl)
        go_wp2_with fail
        clear c1 c2 d1 d2
        refine (E4.out _ G2.out).mono ?_
        rintro e y3 ⟨rfl, L3⟩
        have G3 := Lib.hid (G2.out.trans L3)
        clear L3
        cases b4
        · go_wp2_with fail
          refine (H1.out _ G3.out).mono ?_
          rintro e x1 ⟨rfl, K1⟩
          have Gv := Lib.hid (G3.out.trans K1)
          clear K1
          cases va
          · have HE : Hid (resE a b u = 1) := HRE.out
            have HN : Hid (resL a b u = []) := HRL.out
            go_wp2
            go_returns
            exact ⟨_, 0, by rw [HE.out]; rfl, by rw [HN.out]; exact ⟨rfl, .inl ⟨rfl, rfl⟩⟩, (HW.out.trans Gv.out)⟩
          go_wp2_with fail
          refine (H2.out _ Gv.out).mono ?_
          rintro e x2 ⟨rfl, K2⟩
          have Gw := Lib.hid (Gv.out.trans K2)
          clear K2
          cases vb
          · have HE : Hid (resE a b u = 1) := HRE.out
            have HN : Hid (resL a b u = []) := HRL.out
            go_wp2
            go_returns
            exact ⟨_, 0, by rw [HE.out]; rfl, by rw [HN.out]; exact ⟨rfl, .inl ⟨rfl, rfl⟩⟩, (HW.out.trans Gw.out)⟩
          have HE : Hid (resE a b u = 1) := HRE.out
          have HN : Hid (resL a b u = []) := HRL.out
          go_wp2
          go_returns
          exact ⟨_, 0, by rw [HE.out]; rfl, by rw [HN.out]; exact ⟨rfl, .inl ⟨rfl, rfl⟩⟩, (HW.out.trans Gw.out)⟩

        · go_wp2_with fail
          refine (H1.out _ G3.out).mono ?_
          rintro e x1 ⟨rfl, K1⟩
          have Gv := Lib.hid (G3.out.trans K1)
          clear K1
          cases va
          · have HE : Hid (resE a b u = 1) := HRE.out
            have HN : Hid (resL a b u = []) := HRL.out
            go_wp2
            go_returns
            exact ⟨_, 0, by rw [HE.out]; rfl, by rw [HN.out]; exact ⟨rfl, .inl ⟨rfl, rfl⟩⟩, (HW.out.trans Gv.out)⟩
          go_wp2_with fail
          refine (H2.out _ Gv.out).mono ?_
          rintro e x2 ⟨rfl, K2⟩
          have Gw := Lib.hid (Gv.out.trans K2)
          clear K2
          cases vb
          · have HE : Hid (resE a b u = 1) := HRE.out
            have HN : Hid (resL a b u = []) := HRL.out
            go_wp2
            go_returns
            exact ⟨_, 0, by rw [HE.out]; rfl, by rw [HN.out]; exact ⟨rfl, .inl ⟨rfl, rfl⟩⟩, (HW.out.trans Gw.out)⟩
          have hnm : n + m ≤ 100000 := by simpa using HNM.out
          have HE : Hid (resE a b u = if vldB (mkR (rest a b u)) then 0 else 10) := HRE.out
          have HN : Hid (resL a b u = mkV (rest a b u)) := HRL.out
          have HQ := Lib.hid (Bk.made x2 23 #[.slice A n c, .slice B m cb])
          have Gq := Lib.hid (Gw.out.alloc (.cells #[.slice A n c, .slice B m cb] 23))
          have HX := Lib.hid (concat_any (x2.alloc (.cells #[.slice A n c, .slice B m cb] 23)) x2.heap.size A B n c m cb a b HA.out HB.out HL.out HL2.out hnm (HCa.out.gr Gq.out) (HCb.out.gr Gq.out) HQ.out)
          go_wp2_with fail
          refine HX.out.mono ?_
          rintro e x3 ⟨v3, k3, rfl, r3, K3⟩
          have G3 := Lib.hid (Gq.out.trans K3)
          have hk3 : k3 ≤ 100000 := by have := row_len r3; rw [List.length_append, HL.out, HL2.out] at this; omega
          have HY := Lib.hid (delete_any x3 W _ k3 v3 (a ++ b) _ _ r3 hk3 HF.out G3.out Gq.out.size)
          clear K3 r3 HX HQ
          go_wp2_with fail
          refine HY.out.mono ?_
          rintro e x4 ⟨v4, k4, rfl, r4, K4⟩
          have G4 := Lib.hid K4
          have hk4 : k4 ≤ 100000 := by
            have h1 := row_len r4
            have h2 := List.length_filter_le (fun x : Lit => !decide (x.1 = u)) (a ++ b)
            rw [List.length_append, HL.out, HL2.out] at h2
            omega
          obtain ⟨A4, c4, rfl⟩ := rw_form r4
          have HZ := Lib.hid (make_any x4 A4 k4 c4 (rest a b u) (own_nil r4) (row_len r4) hk4 (Cs.own r4))
          have HS4 := G4.out.size
          clear K4 r4 HY
          go_wp2_with fail
          refine HZ.out.mono ?_
          rintro e x5 ⟨v5, k5, rfl, r5, K5⟩
          have G5 := Lib.hid (G4.out.trans K5)
          have HR5 := Lib.hid (rw_base r5 (Nat.le_trans HW.out.size HS4))
          clear K5 r5 HZ
          cases hv : vldB (mkR (rest a b u))
          · have HV := Lib.hid hv
            have HE2 : Hid (resE a b u = 10) := by rw [HE.out, hv]; exact rfl
            have HN2 : Hid (resL a b u = []) := by rw [HN.out]; unfold mkV; rw [hv]; exact rfl
            clear hv
            go_wp2
            go_returns
            exact ⟨_, 0, by rw [HE2.out]; rfl, by rw [HN2.out]; exact ⟨rfl, .inl ⟨rfl, rfl⟩⟩, (HW.out.trans G5.out)⟩
          · have HV := Lib.hid hv
            have HE2 : Hid (resE a b u = 0) := by rw [HE.out, hv]; exact rfl
            clear hv
            go_wp2
            go_returns
            exact ⟨_, k5, by rw [HE2.out]; rfl, by rw [HN.out]; exact HR5.out, (HW.out.trans G5.out)⟩

    · skip
      have c1 := ((G1.out.fr.bk HON.out id).cell 0).trans (show _ = some (Value.int .i64 u) from rfl)
      have c2 := ((G1.out.fr.bk HON.out id).cell 1).trans (show _ = some (Value.bool true) from rfl)
      have d1 := ((G1.out.fr.bk HOFF.out id).cell 0).trans (show _ = some (Value.int .i64 u) from rfl)
      have d2 := ((G1.out.fr.bk HOFF.out id).cell 1).trans (show _ = some (Value.bool false) from rfl)
      go_wp2_with fail
      clear c1 c2 d1 d2
      refine (E2.out _ G1.out).mono ?_
      rintro e y2 ⟨rfl, L2⟩
      have G2 := Lib.hid (G1.out.trans L2)
      clear L2
      cases b2
      · skip
        have c1 := ((G2.out.fr.bk HON.out id).cell 0).trans (show _ = some (Value.int .i64 u) from rfl)
        have c2 := ((G2.out.fr.bk HON.out id).cell 1).trans (show _ = some (Value.bool true) from rfl)
        have d1 := ((G2.out.fr.bk HOFF.out id).cell 0).trans (show _ = some (Value.int .i64 u) from rfl)
        have d2 := ((G2.out.fr.bk HOFF.out id).cell 1).trans (show _ = some (Value.bool false) from rfl)
        go_wp2_with fail
        clear c1 c2 d1 d2
        refine (E3.out _ G2.out).mono ?_
        rintro e y3 ⟨rfl, L3⟩
        have G3 := Lib.hid (G2.out.trans L3)
        clear L3
        cases b3
        · go_wp2_with fail
          refine (H1.out _ G3.out).mono ?_
          rintro e x1 ⟨rfl, K1⟩
          have Gv := Lib.hid (G3.out.trans K1)
          clear K1
          cases va
          · have HE : Hid (resE a b u = 1) := HRE.out
            have HN : Hid (resL a b u = []) := HRL.out
            go_wp2
            go_returns
            exact ⟨_, 0, by rw [HE.out]; rfl, by rw [HN.out]; exact ⟨rfl, .inl ⟨rfl, rfl⟩⟩, (HW.out.trans Gv.out)⟩
          go_wp2_with fail
          refine (H2.out _ Gv.out).mono ?_
          rintro e x2 ⟨rfl, K2⟩
          have Gw := Lib.hid (Gv.out.trans K2)
          clear K2
          cases vb
          · have HE : Hid (resE a b u = 1) := HRE.out
            have HN : Hid (resL a b u = []) := HRL.out
            go_wp2
            go_returns
            exact ⟨_, 0, by rw [HE.out]; rfl, by rw [HN.out]; exact ⟨rfl, .inl ⟨rfl, rfl⟩⟩, (HW.out.trans Gw.out)⟩
          have HE : Hid (resE a b u = 1) := HRE.out
          have HN : Hid (resL a b u = []) := HRL.out
          go_wp2
          go_returns
          exact ⟨_, 0, by rw [HE.out]; rfl, by rw [HN.out]; exact ⟨rfl, .inl ⟨rfl, rfl⟩⟩, (HW.out.trans Gw.out)⟩

        · skip
          have c1 := ((G3.out.fr.bk HON.out id).cell 0).trans (show _ = some (Value.int .i64 u) from rfl)
          have c2 := ((G3.out.fr.bk HON.out id).cell 1).trans (show _ = some (Value.bool true) from rfl)
          have d1 := ((G3.out.fr.bk HOFF.out id).cell 0).trans (show _ = some (Value.int .i64 u) from rfl)
          have d2 := ((G3.out.fr.bk HOFF.out id).cell 1).trans (show _ = some (Value.bool false) from rfl)
          go_wp2_with fail
          clear c1 c2 d1 d2
          refine (E4.out _ G3.out).mono ?_
          rintro e y4 ⟨rfl, L4⟩
          have G4 := Lib.hid (G3.out.trans L4)
          clear L4
          cases b4
          · go_wp2_with fail
            refine (H1.out _ G4.out).mono ?_
            rintro e x1 ⟨rfl, K1⟩
            have Gv := Lib.hid (G4.out.trans K1)
            clear K1
            cases va
            · have HE : Hid (resE a b u = 1) := HRE.out
              have HN : Hid (resL a b u = []) := HRL.out
              go_wp2
              go_returns
              exact ⟨_, 0, by rw [HE.out]; rfl, by rw [HN.out]; exact ⟨rfl, .inl ⟨rfl, rfl⟩⟩, (HW.out.trans Gv.out)⟩
            go_wp2_with fail
            refine (H2.out _ Gv.out).mono ?_
            rintro e x2 ⟨rfl, K2⟩
            have Gw := Lib.hid (Gv.out.trans K2)
            clear K2
            cases vb
            · have HE : Hid (resE a b u = 1) := HRE.out
              have HN : Hid (resL a b u = []) := HRL.out
              go_wp2
              go_returns
              exact ⟨_, 0, by rw [HE.out]; rfl, by rw [HN.out]; exact ⟨rfl, .inl ⟨rfl, rfl⟩⟩, (HW.out.trans Gw.out)⟩
            have HE : Hid (resE a b u = 1) := HRE.out
            have HN : Hid (resL a b u = []) := HRL.out
            go_wp2
            go_returns
            exact ⟨_, 0, by rw [HE.out]; rfl, by rw [HN.out]; exact ⟨rfl, .inl ⟨rfl, rfl⟩⟩, (HW.out.trans Gw.out)⟩

          · go_wp2_with fail
            refine (H1.out _ G4.out).mono ?_
            rintro e x1 ⟨rfl, K1⟩
            have Gv := Lib.hid (G4.out.trans K1)
            clear K1
            cases va
            · have HE : Hid (resE a b u = 1) := HRE.out
              have HN : Hid (resL a b u = []) := HRL.out
              go_wp2
              go_returns
              exact ⟨_, 0, by rw [HE.out]; rfl, by rw [HN.out]; exact ⟨rfl, .inl ⟨rfl, rfl⟩⟩, (HW.out.trans Gv.out)⟩
            go_wp2_with fail
            refine (H2.out _ Gv.out).mono ?_
            rintro e x2 ⟨rfl, K2⟩
            have Gw := Lib.hid (Gv.out.trans K2)
            clear K2
            cases vb
            · have HE : Hid (resE a b u = 1) := HRE.out
              have HN : Hid (resL a b u = []) := HRL.out
              go_wp2
              go_returns
              exact ⟨_, 0, by rw [HE.out]; rfl, by rw [HN.out]; exact ⟨rfl, .inl ⟨rfl, rfl⟩⟩, (HW.out.trans Gw.out)⟩
            have hnm : n + m ≤ 100000 := by simpa using HNM.out
            have HE : Hid (resE a b u = if vldB (mkR (rest a b u)) then 0 else 10) := HRE.out
            have HN : Hid (resL a b u = mkV (rest a b u)) := HRL.out
            have HQ := Lib.hid (Bk.made x2 23 #[.slice A n c, .slice B m cb])
            have Gq := Lib.hid (Gw.out.alloc (.cells #[.slice A n c, .slice B m cb] 23))
            have HX := Lib.hid (concat_any (x2.alloc (.cells #[.slice A n c, .slice B m cb] 23)) x2.heap.size A B n c m cb a b HA.out HB.out HL.out HL2.out hnm (HCa.out.gr Gq.out) (HCb.out.gr Gq.out) HQ.out)
            go_wp2_with fail
            refine HX.out.mono ?_
            rintro e x3 ⟨v3, k3, rfl, r3, K3⟩
            have G3 := Lib.hid (Gq.out.trans K3)
            have hk3 : k3 ≤ 100000 := by have := row_len r3; rw [List.length_append, HL.out, HL2.out] at this; omega
            have HY := Lib.hid (delete_any x3 W _ k3 v3 (a ++ b) _ _ r3 hk3 HF.out G3.out Gq.out.size)
            clear K3 r3 HX HQ
            go_wp2_with fail
            refine HY.out.mono ?_
            rintro e x4 ⟨v4, k4, rfl, r4, K4⟩
            have G4 := Lib.hid K4
            have hk4 : k4 ≤ 100000 := by
              have h1 := row_len r4
              have h2 := List.length_filter_le (fun x : Lit => !decide (x.1 = u)) (a ++ b)
              rw [List.length_append, HL.out, HL2.out] at h2
              omega
            obtain ⟨A4, c4, rfl⟩ := rw_form r4
            have HZ := Lib.hid (make_any x4 A4 k4 c4 (rest a b u) (own_nil r4) (row_len r4) hk4 (Cs.own r4))
            have HS4 := G4.out.size
            clear K4 r4 HY
            go_wp2_with fail
            refine HZ.out.mono ?_
            rintro e x5 ⟨v5, k5, rfl, r5, K5⟩
            have G5 := Lib.hid (G4.out.trans K5)
            have HR5 := Lib.hid (rw_base r5 (Nat.le_trans HW.out.size HS4))
            clear K5 r5 HZ
            cases hv : vldB (mkR (rest a b u))
            · have HV := Lib.hid hv
              have HE2 : Hid (resE a b u = 10) := by rw [HE.out, hv]; exact rfl
              have HN2 : Hid (resL a b u = []) := by rw [HN.out]; unfold mkV; rw [hv]; exact rfl
              clear hv
              go_wp2
              go_returns
              exact ⟨_, 0, by rw [HE2.out]; rfl, by rw [HN2.out]; exact ⟨rfl, .inl ⟨rfl, rfl⟩⟩, (HW.out.trans G5.out)⟩
            · have HV := Lib.hid hv
              have HE2 : Hid (resE a b u = 0) := by rw [HE.out, hv]; exact rfl
              clear hv
              go_wp2
              go_returns
              exact ⟨_, k5, by rw [HE2.out]; rfl, by rw [HN.out]; exact HR5.out, (HW.out.trans G5.out)⟩

      · go_wp2_with fail
        refine (H1.out _ G2.out).mono ?_
        rintro e x1 ⟨rfl, K1⟩
        have Gv := Lib.hid (G2.out.trans K1)
        clear K1
        cases va
        · have HE : Hid (resE a b u = 1) := HRE.out
          have HN : Hid (resL a b u = []) := HRL.out
          go_wp2
          go_returns
          exact ⟨_, 0, by rw [HE.out]; rfl, by rw [HN.out]; exact ⟨rfl, .inl ⟨rfl, rfl⟩⟩, (HW.out.trans Gv.out)⟩
        go_wp2_with fail
        refine (H2.out _ Gv.out).mono ?_
        rintro e x2 ⟨rfl, K2⟩
        have Gw := Lib.hid (Gv.out.trans K2)
        clear K2
        cases vb
        · have HE : Hid (resE a b u = 1) := HRE.out
          have HN : Hid (resL a b u = []) := HRL.out
          go_wp2
          go_returns
          exact ⟨_, 0, by rw [HE.out]; rfl, by rw [HN.out]; exact ⟨rfl, .inl ⟨rfl, rfl⟩⟩, (HW.out.trans Gw.out)⟩
        have hnm : n + m ≤ 100000 := by simpa using HNM.out
        have HE : Hid (resE a b u = if vldB (mkR (rest a b u)) then 0 else 10) := HRE.out
        have HN : Hid (resL a b u = mkV (rest a b u)) := HRL.out
        have HQ := Lib.hid (Bk.made x2 23 #[.slice A n c, .slice B m cb])
        have Gq := Lib.hid (Gw.out.alloc (.cells #[.slice A n c, .slice B m cb] 23))
        have HX := Lib.hid (concat_any (x2.alloc (.cells #[.slice A n c, .slice B m cb] 23)) x2.heap.size A B n c m cb a b HA.out HB.out HL.out HL2.out hnm (HCa.out.gr Gq.out) (HCb.out.gr Gq.out) HQ.out)
        go_wp2_with fail
        refine HX.out.mono ?_
        rintro e x3 ⟨v3, k3, rfl, r3, K3⟩
        have G3 := Lib.hid (Gq.out.trans K3)
        have hk3 : k3 ≤ 100000 := by have := row_len r3; rw [List.length_append, HL.out, HL2.out] at this; omega
        have HY := Lib.hid (delete_any x3 W _ k3 v3 (a ++ b) _ _ r3 hk3 HF.out G3.out Gq.out.size)
        clear K3 r3 HX HQ
        go_wp2_with fail
        refine HY.out.mono ?_
        rintro e x4 ⟨v4, k4, rfl, r4, K4⟩
        have G4 := Lib.hid K4
        have hk4 : k4 ≤ 100000 := by
          have h1 := row_len r4
          have h2 := List.length_filter_le (fun x : Lit => !decide (x.1 = u)) (a ++ b)
          rw [List.length_append, HL.out, HL2.out] at h2
          omega
        obtain ⟨A4, c4, rfl⟩ := rw_form r4
        have HZ := Lib.hid (make_any x4 A4 k4 c4 (rest a b u) (own_nil r4) (row_len r4) hk4 (Cs.own r4))
        have HS4 := G4.out.size
        clear K4 r4 HY
        go_wp2_with fail
        refine HZ.out.mono ?_
        rintro e x5 ⟨v5, k5, rfl, r5, K5⟩
        have G5 := Lib.hid (G4.out.trans K5)
        have HR5 := Lib.hid (rw_base r5 (Nat.le_trans HW.out.size HS4))
        clear K5 r5 HZ
        cases hv : vldB (mkR (rest a b u))
        · have HV := Lib.hid hv
          have HE2 : Hid (resE a b u = 10) := by rw [HE.out, hv]; exact rfl
          have HN2 : Hid (resL a b u = []) := by rw [HN.out]; unfold mkV; rw [hv]; exact rfl
          clear hv
          go_wp2
          go_returns
          exact ⟨_, 0, by rw [HE2.out]; rfl, by rw [HN2.out]; exact ⟨rfl, .inl ⟨rfl, rfl⟩⟩, (HW.out.trans G5.out)⟩
        · have HV := Lib.hid hv
          have HE2 : Hid (resE a b u = 0) := by rw [HE.out, hv]; exact rfl
          clear hv
          go_wp2
          go_returns
          exact ⟨_, k5, by rw [HE2.out]; rfl, by rw [HN.out]; exact HR5.out, (HW.out.trans G5.out)⟩

end Go.Proofs.YtgnlbmamolbcfaaDoor
