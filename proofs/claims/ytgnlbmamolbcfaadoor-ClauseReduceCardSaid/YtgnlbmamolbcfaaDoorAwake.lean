/- The examples that every law tries first. -/
import Derived.Test.YtgnlbmamolbcfaaDoorTxt
import Derived.Test.YtgnlbmamolbcfaaDoorRes
import Derived.Test.YtgnlbmamolbcfaaDoorStatus
set_option linter.unusedVariables false
namespace Go.Proofs.YtgnlbmamolbcfaaDoor
open Go.RowKit Go.Shelf

attribute [local go_sem] Oper.semAt_some

theorem cs_bk {w : World} {g : Nat} {cs : Array Value} {l : List Lit} (h : Bk w g 38 cs) (e : cs.toList = l.flatMap lc) : Cs w (some ⟨g, 0, none⟩) l := fun i x hx => by
  refine ⟨_, rfl, ?_, ?_, ?_⟩
  · exact h.lt
  · rw [add_mk, Nat.zero_add, h.cell, ← Array.getElem?_toList, e]
    exact flat_at (F := lc) (k := 2) (j := 0) (fun _ => rfl) hx (by decide)
  · rw [add_mk, Nat.zero_add, h.cell, ← Array.getElem?_toList, e]
    exact flat_at (F := lc) (k := 2) (j := 1) (fun _ => rfl) hx (by decide)
theorem ito_small {w : World} {l : List Lit} (h : ∀ x ∈ l, 0 ≤ x.1 ∧ x.1 < 100) : Ito w l := fun x hx W _ => by
  obtain ⟨h0, h1⟩ := h x hx
  obtain ⟨x1, x2⟩ := x
  obtain ⟨u, rfl⟩ : ∃ u : Nat, x1 = u := ⟨x1.toNat, by simp at h0; omega⟩
  refine (Tryd.strconv_Itoa_small u (by simp at h1; omega) W).mono ?_
  rintro e w' ⟨rfl, rfl⟩
  exact ⟨rfl, Gr.refl _⟩
def cA : List Lit := [(1, false), (3, true)]
def cB : List Lit := [(3, true), (4, false)]
theorem eA : vldB (mkR [(3, true), (1, false), (3, true)]) = true ∧ mkV [(3, true), (1, false), (3, true)] = cA := by decide
theorem eR : resE cA [(1, true), (4, false)] 1 = 0 ∧ resL cA [(1, true), (4, false)] 1 = cB := by decide
theorem eS : statP [0, 1] cA = (3, 1) := by decide
theorem eU : subsB [(1, false)] cA = true := by decide
theorem tA : bts (txt cA) = ⟨#[117, 49, 32, 111, 102, 102, 32, 124, 32, 117, 51, 32, 111, 110]⟩ := by
  rw [cA, txt, if_neg (by simp), txt_cons, List.map_cons, List.map_nil, litB, litB, show ((1 : Int)).toNat = 1 from rfl, show ((3 : Int)).toNat = 3 from rfl, Lib.decDigits_one (by decide), Lib.decDigits_one (by decide)]
  rfl
theorem tB : bts (txt cB) = ⟨#[117, 51, 32, 111, 110, 32, 124, 32, 117, 52, 32, 111, 102, 102]⟩ := by
  rw [cB, txt, if_neg (by simp), txt_cons, List.map_cons, List.map_nil, litB, litB, show ((3 : Int)).toNat = 3 from rfl, show ((4 : Int)).toNat = 4 from rfl, Lib.decDigits_one (by decide), Lib.decDigits_one (by decide)]
  rfl

set_option maxRecDepth 100000 in
set_option maxHeartbeats 4000000 in
theorem awake_any (w : World) : Calls Tryd.prog 11 #[] w fun e w' => e = .returned (.bool true) ∧ Gr w w' := by
  have b1 := Bk.made w 38 #[.int .i64 3, .bool true, .int .i64 1, .bool false, .int .i64 3, .bool true]
  have HG1 := Lib.hid ((Gr.refl w).alloc (.cells #[.int .i64 3, .bool true, .int .i64 1, .bool false, .int .i64 3, .bool true] 38))
  have HM := Lib.hid (make_any (w.alloc (.cells #[.int .i64 3, .bool true, .int .i64 1, .bool false, .int .i64 3, .bool true] 38)) (some ⟨w.heap.size, 0, none⟩) 3 3 [(3, true), (1, false), (3, true)] (fun h => by cases h) rfl (by decide) (cs_bk b1 rfl))
  rw [eA.1, eA.2] at HM
  clear b1
  go_enter Tryd.func11, Tryd.ntmps11
  go_wp2_with fail
  refine HM.out.mono ?_
  rintro e w1 ⟨v1, m, rfl, r1, G1⟩
  have G2 := Lib.hid (HG1.out.trans G1)
  have hm : m = 2 := (row_len r1).symm
  subst hm
  obtain ⟨A, c, rfl⟩ := rw_form r1
  have HR1 := Lib.hid r1
  have HCA := Lib.hid (Cs.own r1)
  have hAn : Hid (A = none → 2 = 0) := fun h => (own_nil HR1.out h).1
  clear r1 G1 HM HG1
  have b2 := Bk.made w1 38 #[.int .i64 1, .bool true, .int .i64 4, .bool false]
  have G3 := Lib.hid (G2.out.alloc (.cells #[.int .i64 1, .bool true, .int .i64 4, .bool false] 38))
  have G13 := Lib.hid ((Gr.refl w1).alloc (.cells #[.int .i64 1, .bool true, .int .i64 4, .bool false] 38))
  have HRS := Lib.hid (resolve_any (w1.alloc (.cells #[.int .i64 1, .bool true, .int .i64 4, .bool false] 38)) A (some ⟨w1.heap.size, 0, none⟩) 2 c 2 2 cA [(1, true), (4, false)] 1 hAn.out (fun h => by cases h) rfl rfl (by unfold maxLen; omega) (by unfold maxLen; omega) (HCA.out.gr G13.out) (cs_bk b2 rfl))
  rw [eR.1, eR.2] at HRS
  clear b2
  go_wp2_with fail
  refine HRS.out.mono ?_
  rintro e w2 ⟨v2, m2, rfl, r2, K2⟩
  have G4 := Lib.hid (G3.out.trans K2)
  have G14 := Lib.hid (G13.out.trans K2)
  have hm : m2 = 2 := (row_len r2).symm
  subst hm
  obtain ⟨A2, c2, rfl⟩ := rw_form r2
  have HCB := Lib.hid (Cs.own r2)
  clear r2 K2 HRS G3 G13
  have b3 := (Bk.made w2 3 #[.int .i64 0, .int .i64 1]).sees (xs := ([0, 1] : List Int).map (Value.int .i64)) ⟨[], rfl⟩
  have G5 := Lib.hid (G4.out.alloc (.cells #[.int .i64 0, .int .i64 1] 3))
  have G15 := Lib.hid (G14.out.alloc (.cells #[.int .i64 0, .int .i64 1] 3))
  have G25 := Lib.hid ((Gr.refl w2).alloc (.cells #[.int .i64 0, .int .i64 1] 3))
  have HST := Lib.hid (status_any (w2.alloc (.cells #[.int .i64 0, .int .i64 1] 3)) A (some ⟨w2.heap.size, 0, none⟩) 2 c 2 2 cA [0, 1] rfl (by unfold maxLen; omega) (HCA.out.gr G15.out) rfl (by unfold maxLen; omega) b3)
  rw [eS] at HST
  clear b3
  go_wp2_with fail
  refine HST.out.mono ?_
  rintro e w3 ⟨rfl, K3⟩
  have G6 := Lib.hid (G5.out.trans K3)
  have G16 := Lib.hid (G15.out.trans K3)
  have G26 := Lib.hid (G25.out.trans K3)
  clear K3 HST G5 G15 G25 G4 G14
  have HTA := Lib.hid (text_any w3 A 2 c cA rfl (by decide) (by decide) (HCA.out.gr G16.out) (ito_small (by decide)))
  rw [tA] at HTA
  go_wp2_with fail
  refine HTA.out.mono ?_
  rintro e w4 ⟨rfl, K4⟩
  have G7 := Lib.hid (G6.out.trans K4)
  have G17 := Lib.hid (G16.out.trans K4)
  have G27 := Lib.hid (G26.out.trans K4)
  clear K4 HTA G6 G16 G26
  have b5 := Bk.made w4 38 #[.int .i64 1, .bool false]
  have G8 := Lib.hid (G7.out.alloc (.cells #[.int .i64 1, .bool false] 38))
  have G18 := Lib.hid (G17.out.alloc (.cells #[.int .i64 1, .bool false] 38))
  have G28 := Lib.hid (G27.out.alloc (.cells #[.int .i64 1, .bool false] 38))
  have HSB := Lib.hid (subsumes_any (w4.alloc (.cells #[.int .i64 1, .bool false] 38)) (some ⟨w4.heap.size, 0, none⟩) A 1 1 2 c [(1, false)] cA rfl (by unfold maxLen; omega) (cs_bk b5 rfl) rfl (by unfold maxLen; omega) (HCA.out.gr G18.out))
  rw [eU] at HSB
  clear b5
  go_wp2_with fail
  refine HSB.out.mono ?_
  rintro e w5 ⟨rfl, K5⟩
  have G9 := Lib.hid (G8.out.trans K5)
  have G29 := Lib.hid (G28.out.trans K5)
  clear K5 HSB G8 G18 G28
  have HTB := Lib.hid (text_any w5 A2 2 c2 cB rfl (by decide) (by decide) (HCB.out.gr G29.out) (ito_small (by decide)))
  rw [tB] at HTB
  go_wp2_with fail
  refine HTB.out.mono ?_
  rintro e w6 ⟨rfl, K6⟩
  have G10 := Lib.hid (G9.out.trans K6)
  clear K6 HTB
  go_wp2
  go_ret
  exact ⟨rfl, G10.out⟩
end Go.Proofs.YtgnlbmamolbcfaaDoor
