/- Text. -/
import Derived.Test.YtgnlbmamolbcfaaDoorRTxt
import Derived.Test.YtgnlbmamolbcfaaDoorTxtL
set_option linter.unusedVariables false
namespace Go.Proofs.YtgnlbmamolbcfaaDoor
open Go.RowKit Go.Shelf

attribute [local go_sem] Oper.semAt_some

theorem elemT : ElemS Tryd.prog 54 9 1 16 := by
  refine ⟨by kernel_rfl, ?_, by decide⟩
  obtain ⟨i, hi, hz⟩ := Option.map_eq_some_iff.1 (show (Tryd.prog.info? 9).map (fun i => (i.zero, i.size, i.bytes)) = some (some (.string ⟨#[]⟩), 1, 16) by kernel_rfl)
  simp only [Prod.mk.injEq] at hz
  exact ⟨i, _, hi, hz.1, hz.2.1, hz.2.2, rfl⟩
theorem str_one (s : ByteArray) : ∀ u ∈ (#[Value.string s] : Array Value).toList, u.oneCell' = true := by
  intro u hu
  simp at hu
  subst hu
  rfl
theorem lit_str {x : Lit} {nb : ByteArray} (hn : nb = bts (Lib.decDigits x.1.toNat)) : ((⟨#[117]⟩ ++ nb ++ wrdA x.2 : ByteArray)).data.toList = litB x := by
  rw [app_data, app_data, wrdA_data, hn, bts_data, litB, List.append_assoc]
  rfl
/-- What is asked of strconv.Itoa at the units of a clause, as long as what lies in w lies on. -/
def Ito (w : World) (l : List Lit) : Prop := ∀ x ∈ l, ∀ W, Gr w W → Calls Tryd.prog 39 #[.int .i64 x.1] W fun e w' => e = .returned (.string (bts (Lib.decDigits x.1.toNat))) ∧ Gr W w'

set_option maxRecDepth 100000 in
set_option maxHeartbeats 2000000 in
theorem text_any (w : World) (A : Option Addr) (n c : Nat) (l : List Lit) (hl : l.length = n) (hn : n ≤ 1100) (hv : ∀ x ∈ l, 0 ≤ x.1 ∧ x.1 < 1024) (hc : Cs w A l) (hi : Ito w l) :
    Calls Tryd.prog 22 #[.slice A n c] w fun e w' => e = .returned (.string (bts (txt l))) ∧ Gr w w' := by
  have HL := Lib.hid hl
  have HC := Lib.hid hc
  have HV := Lib.hid hv
  have HI := Lib.hid hi
  by_cases hn0 : n = 0
  · subst hn0
    have ht' : Hid (bts (txt l) = ⟨#[101, 109, 112, 116, 121]⟩) := by rw [List.length_eq_zero_iff.1 hl]; exact rfl
    clear hl hc hv hi
    go_enter Tryd.func22, Tryd.ntmps22
    go_wp2
    go_ret
    exact ⟨by rw [ht'.out]; rfl, Gr.refl w⟩
  have hne : Hid (txt l = txtB l) := by
    rw [txt, if_neg]
    · exact rfl
    · rintro rfl
      exact hn0 hl.symm
  have hlen := txtB_len fun x hx => (hv x hx).2
  have HLEN := Lib.hid hlen
  have hn1 : ((n : Int) == 0) = false := by simpa using hn0
  clear hl hc hv hi hlen
  have R0 : Hid (w.ownsRow w.heap.size 9 1 (.slice none 0 0) 0 (([] : List ByteArray).map Value.string)) := ⟨rfl, .inl ⟨rfl, rfl⟩⟩
  go_enter Tryd.func22, Tryd.ntmps22
  go_wp2_with fail
  go_loopw [3, 12] (fun s3 i wr => ∃ (t : Nat) (ss : List ByteArray), i = .int .i64 t ∧ t ≤ n ∧ Hid (ss.map (·.data.toList) = (l.take t).map litB) ∧ Hid (wr.ownsRow w.heap.size 9 1 s3 t (ss.map Value.string)) ∧ Hid (Gr w wr)) (fun _ i _ => n - (intOf i).toNat)
  case atStart => exact ⟨0, [], rfl, Nat.zero_le _, rfl, R0, Gr.refl w⟩
  case round =>
    obtain ⟨t, ss, rfl, ht, hS, hR, hG⟩ := hrel
    by_cases htn : t < n
    · obtain ⟨x, hx⟩ : ∃ x, l[t]? = some x := ⟨_, List.getElem?_eq_getElem (by rw [HL.out]; omega)⟩
      obtain ⟨ad, rfl, hb, d1, d2⟩ := HC.out.gr hG.out t x hx
      obtain ⟨hx0, hx9⟩ := HV.out x (List.mem_of_getElem? hx)
      have HG1 := Lib.hid (hG.out.alloc (.cells #[.int .i64 x.1, .bool x.2] 38))
      have HCL := Lib.hid (HI.out x (List.mem_of_getElem? hx) _ HG1.out)
      have hbx := Bk.made wr 38 #[.int .i64 x.1, .bool x.2]
      have HBX := Lib.hid hbx
      have HRX := Lib.hid (rw_keep (w' := wr.alloc (.cells #[.int .i64 x.1, .bool x.2] 38)) hR.out fun b e => Below.heap_alloc _ _ _ (rw_lt hR.out b e).2)
      obtain ⟨nb, hnb⟩ : ∃ nb, nb = bts (Lib.decDigits x.1.toNat) := ⟨_, rfl⟩
      have hnz : nb.size ≤ 7 := by rw [hnb]; exact num_size (by omega)
      have HLS := Lib.hid (lit_str hnb)
      rw [← hnb] at HCL
      have HTK : Hid (l.take (t + 1) = l.take t ++ [x]) := by rw [List.take_add_one, hx]; exact rfl
      obtain ⟨x1, x2⟩ := x
      simp only at *
      clear hnb hx hb hbx
      cases x2
      · skip
        go_wp2_with fail
        refine HCL.out.mono ?_
        rintro e w2 ⟨rfl, G2⟩
        have HG2 := Lib.hid (HG1.out.trans G2)
        have HR2 := Lib.hid (rw_keep (w' := w2) HRX.out fun b e => G2.fr.keep b (rw_lt HRX.out b e).2 id)
        have hs2 := HG2.out.size
        clear G2 HCL HBX HRX
        go_wp2_with (at_builtin; refine wpList_appS1 (w := w2) elemT rfl (.tmp 18) (.tmp 25) rfl w.heap.size u3 t (ss.map Value.string) _ rfl rfl rfl HR2.out (str_one _) (by unfold maxLen; omega) (by omega) hs2 ?_; intro r4 w4 hr4 hF4 _)
        have R4 : Hid (w4.ownsRow w.heap.size 9 1 r4 (t + 1) ((ss ++ [(⟨#[117]⟩ ++ nb ++ ⟨#[32, 111, 102, 102]⟩)]).map Value.string)) := by rw [List.map_append]; exact hr4
        have G4 : Hid (Gr w w4) := HG2.out.step hF4 fun b _ e => (rw_lt HR2.out b e).1
        have HS4 : Hid ((ss ++ [(⟨#[117]⟩ ++ nb ++ ⟨#[32, 111, 102, 102]⟩)]).map (·.data.toList) = (l.take (t + 1)).map litB) := by rw [HTK.out, List.map_append, List.map_append, hS.out]; exact congrArg (fun z => _ ++ [z]) HLS.out
        clear hr4 hF4
        go_roundw
        case rel => exact ⟨t + 1, _, by go_num, by omega, HS4, R4, G4⟩
        case measure => simp [intOf]; omega
      · skip
        go_wp2_with fail
        refine HCL.out.mono ?_
        rintro e w2 ⟨rfl, G2⟩
        have HG2 := Lib.hid (HG1.out.trans G2)
        have HR2 := Lib.hid (rw_keep (w' := w2) HRX.out fun b e => G2.fr.keep b (rw_lt HRX.out b e).2 id)
        have hs2 := HG2.out.size
        clear G2 HCL HBX HRX
        go_wp2_with (at_builtin; refine wpList_appS1 (w := w2) elemT rfl (.tmp 18) (.tmp 25) rfl w.heap.size u3 t (ss.map Value.string) _ rfl rfl rfl HR2.out (str_one _) (by unfold maxLen; omega) (by omega) hs2 ?_; intro r4 w4 hr4 hF4 _)
        have R4 : Hid (w4.ownsRow w.heap.size 9 1 r4 (t + 1) ((ss ++ [(⟨#[117]⟩ ++ nb ++ ⟨#[32, 111, 110]⟩)]).map Value.string)) := by rw [List.map_append]; exact hr4
        have G4 : Hid (Gr w w4) := HG2.out.step hF4 fun b _ e => (rw_lt HR2.out b e).1
        have HS4 : Hid ((ss ++ [(⟨#[117]⟩ ++ nb ++ ⟨#[32, 111, 110]⟩)]).map (·.data.toList) = (l.take (t + 1)).map litB) := by rw [HTK.out, List.map_append, List.map_append, hS.out]; exact congrArg (fun z => _ ++ [z]) HLS.out
        clear hr4 hF4
        go_roundw
        case rel => exact ⟨t + 1, _, by go_num, by omega, HS4, R4, G4⟩
        case measure => simp [intOf]; omega
    · obtain rfl : t = n := by omega
      have hS2 : ss.map (·.data.toList) = l.map litB := by rw [hS.out, List.take_of_length_le (by rw [HL.out]; omega)]
      have hsl : ss.length = t := by have := congrArg List.length hS2; rw [List.length_map, List.length_map, HL.out] at this; exact this
      obtain ⟨g, cp, hv3⟩ : ∃ g cp, u3 = .slice (some ⟨g, 0, none⟩) t cp ∧ t ≤ cp := by
        obtain ⟨_, ⟨_, h9⟩ | ⟨g', cap, cur, h9, _, _, h8, _⟩⟩ := hR.out
        · exact absurd h9 hn0
        · exact ⟨g', cap, h9, h8⟩
      obtain ⟨hv3, hcp⟩ := hv3
      have hg := (rw_lt hR.out g (by rw [hv3]; rfl)).2
      have hcell : ∀ (j : Nat) x, ss[j]? = some x → wr.cell? ⟨g, 0 + j, none⟩ = some (.string x) := fun j x hj => by
        have hsee := hR.out
        rw [hv3] at hsee
        obtain ⟨ad, e, _, h9⟩ := Sees.own hsee j (.string x) (by rw [List.getElem?_map, hj]; rfl)
        cases e
        rw [add_mk] at h9
        exact h9
      have hjl : (Lib.join (ss.map (·.data.toList)) (⟨#[32, 124, 32]⟩ : ByteArray).data.toList).length ≤ 140737488355328 := by
        rw [hS2]
        have := HLEN.out
        rw [HL.out] at this
        show (txtB l).length ≤ _
        omega
      have HJ := Lib.hid (Tryd.strings_Join g 0 cp ss ⟨#[32, 124, 32]⟩ wr hcell hg (by omega) (by omega) hjl)
      have HT : Hid ((⟨(Lib.join (ss.map (·.data.toList)) (⟨#[32, 124, 32]⟩ : ByteArray).data.toList).toArray⟩ : ByteArray) = bts (txt l)) := by rw [hS2, hne.out]; exact rfl
      rw [HT.out, hsl] at HJ
      clear hS2 hcell hjl HT hsl
      subst hv3
      go_wp2_with fail
      refine HJ.out.mono ?_
      rintro e w2 ⟨rfl, G2⟩
      have HG2 := Lib.hid (hG.out.then G2)
      clear G2
      go_wp2
      go_ret
      exact ⟨rfl, HG2.out⟩
end Go.Proofs.YtgnlbmamolbcfaaDoor
