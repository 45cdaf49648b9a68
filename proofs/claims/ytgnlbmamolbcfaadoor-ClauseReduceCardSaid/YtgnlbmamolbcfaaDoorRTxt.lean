/- The reference's Text. -/
import Derived.Test.YtgnlbmamolbcfaaDoorNum
set_option linter.unusedVariables false
namespace Go.Proofs.YtgnlbmamolbcfaaDoor
open Go.RowKit Go.Shelf

attribute [local go_sem] Oper.semAt_some

def wrdA (b : Bool) : ByteArray := if b then ⟨#[32, 111, 110]⟩ else ⟨#[32, 111, 102, 102]⟩
def bts (l : List UInt8) : ByteArray := ⟨l.toArray⟩
theorem bts_inj {a : ByteArray} {l : List UInt8} (h : a.data.toList = l) : a = bts l := by
  subst h
  rfl
theorem bts_data (l : List UInt8) : (bts l).data.toList = l := rfl
theorem wrdA_data (b : Bool) : (wrdA b).data.toList = wrd b := by cases b <;> rfl
theorem app_data (a b : ByteArray) : (a ++ b).data.toList = a.data.toList ++ b.data.toList := by rw [ByteArray.data_append, Array.toList_append]
/-- One literal more. -/
theorem txt_step {l : List Lit} {t : Nat} {x : Lit} (hx : l[t]? = some x) {sb nb : ByteArray} (hs : sb = bts (txtB (l.take t))) (hn : nb = bts (Lib.decDigits x.1.toNat)) :
    (if t = 0 then sb else sb ++ ⟨#[32, 124, 32]⟩) ++ ⟨#[117]⟩ ++ nb ++ wrdA x.2 = bts (txtB (l.take (t + 1))) := by
  refine bts_inj ?_
  have ht := (List.getElem?_eq_some_iff.1 hx).1
  rw [List.take_add_one, hx, Option.toList_some, txt_snoc, app_data, app_data, app_data, wrdA_data, hn, bts_data]
  by_cases h0 : t = 0
  · subst h0
    rw [if_pos rfl, hs, List.take_zero, if_pos rfl]
    simp [litB, bts, txtB, Lib.join_nil]
  · rw [if_neg h0, if_neg (by intro e; have := congrArg List.length e; rw [List.length_take, List.length_nil] at this; omega), app_data, hs, bts_data]
    simp [litB, sepB]
theorem txt_size {l : List Lit} (h : ∀ x ∈ l, x.1 < 1024) (t : Nat) (hl : l.length ≤ 1100) : (bts (txtB (l.take t))).size ≤ 20000 := by
  have h1 := txtB_len (l := l.take t) fun x hx => h x (List.mem_of_mem_take hx)
  have h2 : (l.take t).length ≤ 1100 := by rw [List.length_take]; omega
  show (txtB (l.take t)).toArray.size ≤ 20000
  rw [List.size_toArray]
  omega
theorem num_size {u : Nat} (h : u < 1024) : (bts (Lib.decDigits u)).size ≤ 7 := dig_len u (by omega)

set_option maxRecDepth 100000 in
set_option maxHeartbeats 2000000 in
theorem rtext_any (w : World) (A : Option Addr) (n c : Nat) (l : List Lit) (hl : l.length = n) (hn : n ≤ 1100) (hv : ∀ x ∈ l, 0 ≤ x.1 ∧ x.1 < 1024) (hc : Cs w A l) :
    Calls Tryd.prog 23 #[.slice A n c] w fun e w' => e = .returned (.string (bts (txt l))) ∧ Gr w w' := by
  have HL := Lib.hid hl
  have HC := Lib.hid hc
  have HV := Lib.hid hv
  have HZ : Hid (∀ t, (bts (txtB (l.take t))).size ≤ 20000) := fun t => txt_size (fun x hx => (hv x hx).2) t (by omega)
  clear hl hc hv
  go_enter Tryd.func23, Tryd.ntmps23
  go_wp2
  go_loopw [3, 4] (fun s i wr => ∃ (t : Nat) (sb : ByteArray), i = .int .i64 t ∧ s = .string sb ∧ t ≤ n ∧ Hid (sb = bts (txtB (l.take t))) ∧ Hid (Gr w wr)) (fun _ i _ => n - (intOf i).toNat)
  case atStart => exact ⟨0, _, rfl, rfl, Nat.zero_le _, rfl, Gr.refl w⟩
  case round =>
    obtain ⟨t, sb, rfl, rfl, ht, hS, hG⟩ := hrel
    by_cases htn : t < n
    · obtain ⟨x, hx⟩ : ∃ x, l[t]? = some x := ⟨_, List.getElem?_eq_getElem (by rw [HL.out]; omega)⟩
      obtain ⟨ad, rfl, hb, d1, d2⟩ := HC.out.gr hG.out t x hx
      obtain ⟨hx0, hx9⟩ := HV.out x (List.mem_of_getElem? hx)
      obtain ⟨x1, x2⟩ := x
      simp only at *
      obtain ⟨u, rfl⟩ : ∃ u : Nat, x1 = u := ⟨x1.toNat, by omega⟩
      have HCL := Lib.hid (num_any u (by omega) wr)
      have hzs : sb.size ≤ 20000 := by rw [hS.out]; exact HZ.out t
      obtain ⟨nb, hnb⟩ : ∃ nb, nb = bts (Lib.decDigits u) := ⟨_, rfl⟩
      have hnz : nb.size ≤ 7 := by rw [hnb]; exact num_size (by omega)
      have HST := Lib.hid (txt_step hx hS.out (show nb = bts (Lib.decDigits ((u : Int)).toNat) from hnb))
      rw [show (⟨(Lib.decDigits u).toArray⟩ : ByteArray) = nb from hnb.symm] at HCL
      have HX := Lib.hid hx
      clear hnb hx hb hx0
      by_cases h0 : 0 < t
      · have HST2 : Hid (sb ++ ⟨#[32, 124, 32]⟩ ++ ⟨#[117]⟩ ++ nb ++ wrdA x2 = bts (txtB (l.take (t + 1)))) := by
          have h := HST.out
          rw [if_neg (by omega)] at h
          exact h
        clear HST
        cases x2
        · skip
          go_wp2_with fail
          refine HCL.out.mono ?_
          rintro e w2 ⟨rfl, G2⟩
          have HG2 := Lib.hid (hG.out.trans G2)
          obtain ⟨ad', e', _, d1, d2⟩ := HC.out.gr HG2.out t _ HX.out
          cases e'
          simp only at d1 d2
          clear G2 HCL
          go_wp2
          go_roundw
          case rel => exact ⟨t + 1, _, by go_num, rfl, by omega, HST2, HG2⟩
          case measure => simp [intOf]; omega
        · skip
          go_wp2_with fail
          refine HCL.out.mono ?_
          rintro e w2 ⟨rfl, G2⟩
          have HG2 := Lib.hid (hG.out.trans G2)
          obtain ⟨ad', e', _, d1, d2⟩ := HC.out.gr HG2.out t _ HX.out
          cases e'
          simp only at d1 d2
          clear G2 HCL
          go_wp2
          go_roundw
          case rel => exact ⟨t + 1, _, by go_num, rfl, by omega, HST2, HG2⟩
          case measure => simp [intOf]; omega
      · have HST2 : Hid (sb ++ ⟨#[117]⟩ ++ nb ++ wrdA x2 = bts (txtB (l.take (t + 1)))) := by
          have h := HST.out
          rw [if_pos (by omega)] at h
          exact h
        clear HST
        cases x2
        · skip
          go_wp2_with fail
          refine HCL.out.mono ?_
          rintro e w2 ⟨rfl, G2⟩
          have HG2 := Lib.hid (hG.out.trans G2)
          obtain ⟨ad', e', _, d1, d2⟩ := HC.out.gr HG2.out t _ HX.out
          cases e'
          simp only at d1 d2
          clear G2 HCL
          go_wp2
          go_roundw
          case rel => exact ⟨t + 1, _, by go_num, rfl, by omega, HST2, HG2⟩
          case measure => simp [intOf]; omega
        · skip
          go_wp2_with fail
          refine HCL.out.mono ?_
          rintro e w2 ⟨rfl, G2⟩
          have HG2 := Lib.hid (hG.out.trans G2)
          obtain ⟨ad', e', _, d1, d2⟩ := HC.out.gr HG2.out t _ HX.out
          cases e'
          simp only at d1 d2
          clear G2 HCL
          go_wp2
          go_roundw
          case rel => exact ⟨t + 1, _, by go_num, rfl, by omega, HST2, HG2⟩
          case measure => simp [intOf]; omega
    · have hS2 : Hid (sb = bts (txtB l)) := by rw [hS.out, List.take_of_length_le (by rw [HL.out]; omega)]; exact rfl
      by_cases h0 : l = []
      · have hsb : sb = ⟨#[]⟩ := by rw [hS2.out, h0]; rfl
        have ht' : Hid (bts (txt l) = ⟨#[101, 109, 112, 116, 121]⟩) := by rw [h0]; exact rfl
        subst hsb
        clear hS2 h0
        go_wp2
        go_ret
        exact ⟨by rw [ht'.out]; rfl, hG.out⟩
      · have ht' : Hid (bts (txt l) = sb) := by rw [txt, if_neg h0, hS2.out]; exact rfl
        have he : (sb.toList == []) = false := by
          rw [ByteArray.toList_eq, hS2.out, bts_data]
          cases l with
          | nil => exact absurd rfl h0
          | cons x l => rw [txt_cons, litB]; rfl
        have he2 : sb.toList.isEmpty = false := by rw [← he]; cases sb.toList <;> rfl
        have he3 : ¬ sb.toList = [] := fun e => by rw [e] at he; cases he
        clear hS2 h0
        go_wp2
        go_ret
        exact ⟨by rw [ht'.out]; rfl, hG.out⟩
end Go.Proofs.YtgnlbmamolbcfaaDoor
