/- awake: the examples of the document. -/
import Derived.Test.YtnepkpcoglfejaaKeepI
import Derived.Test.YtnepkpcoglfejaaGr
import Derived.Test.YtnepkpcoglfejaaLessS
import Derived.Test.YtnepkpcoglfejaaNew
import Derived.Test.YtnepkpcoglfejaaPopS
import Derived.Test.YtnepkpcoglfejaaPushS
import Derived.Test.YtnepkpcoglfejaaPeekI
import Derived.Test.YtnepkpcoglfejaaLenAI
namespace Go.Proofs.Ytnepkpcoglfejaa
open Go.RowKit Go.Sort Go.Shelf

def fullS : List (ByteArray × Int) := [(sA1, 1), (sA2, 3), (sB1, 0), (sB2, 2)]
theorem full_eq : pushAll ltS [sB1, sA1, sB2, sA2] [] 0 = fullS := by rfl
theorem full_ok : ∀ e ∈ fullS, okS e.1 := by
  intro e he
  simp [fullS] at he
  rcases he with rfl | rfl | rfl | rfl <;> simp [okS]
def cat (l : List (ByteArray × Int)) : ByteArray := l.foldl (fun s x => s ++ x.1) ByteArray.empty
theorem cat_snoc (l : List (ByteArray × Int)) (x : ByteArray × Int) : cat (l ++ [x]) = cat l ++ x.1 := by simp [cat]

def oddB (x : Int) : Bool := x.tmod 2 == 1
theorem odd_kc : Kc Try.prog encXI oddB (.func (.func 35) #[] #[]) (fun _ => False) (fun _ v _ => v.ownBlock = none) := by
  refine ⟨fun h _ _ => h, fun h hb => hb.elim (fun h => h.elim) (fun e => by rw [h] at e; cases e), 35, #[], rfl, enters_of Try.func35 (by kernel_rfl) rfl, fun x pre v w _ hv => ?_⟩
  change Calls Try.prog 35 #[.int .i64 x] w _
  go_enter Try.func35, Try.ntmps35
  go_wp2
  go_ret
  exact ⟨rfl, v, hv, Fr.refl _ _, .inl rfl⟩

theorem seesS {w : World} {l : List Value} (t : TypeId) : Sees (w.alloc (.cells l.toArray t)) (w.alloc (.cells l.toArray t)).heap.size (some ⟨w.heap.size, 0, none⟩) l :=
  Bk.sees (Bk.made w t l.toArray) (by simp)

set_option maxRecDepth 100000 in
set_option maxHeartbeats 1000000 in
theorem awake_any (w : World) : Calls Try.prog 9 #[] w fun e w' => e = .returned (.bool true) ∧ Below w.heap.size w w' := by
  go_enter Try.func9, Try.ntmps9
  go_wp2_with fail
  refine (newS w 31 w.heap.size #[] ltS).mono ?_
  rintro e w1 ⟨rfl, W1, F1⟩
  have hl1 := W1.bd.1
  have G1 := Lib.hid ((Gr.refl w).no F1)
  replace W1 := Lib.hid W1
  clear F1
  go_wp2_with fail
  have F2 := Fr.alloc (fun _ => False) w1 (.cells #[.string { data := #[98, 49] }, .string { data := #[97, 49] }, .string { data := #[98, 50] }, .string { data := #[97, 50] }] 9)
  have W2 := W1.out.fr F2 (fun h => h) (fun _ _ h => h)
  refine (pushS lessS _ _ _ _ 0 4 4 _ _ [sB1, sA1, sB2, sA2] [] W2 (fun h => h) (fun _ _ h => h) (Nat.le_refl _) (by simp) (by simp [okS]) rfl (by simp) (by simp) trivial (seesS 9) ?_).mono ?_
  · rintro ad ⟨⟩
    exact ⟨by show w1.heap.size ≠ w.heap.size; omega, fun h => h, by simp [Value.ownBlock]⟩
  rintro e w2 ⟨rfl, hv2, W3, _, _, F3⟩
  rw [full_eq] at W3
  have G3 := Lib.hid ((G1.out.no F2).step F3 (fun b _ h => by
    rcases h with h | h | h
    · exact h.elim
    · simp [Value.ownBlock] at h
    · omega))
  have HW := Lib.hid W3
  clear W1 F2 W2 W3 F3 G1 hl1
  go_wp2_with fail
  go_loopw [2, 13] (fun s i wr => ∃ t hv, i = .int .i64 (t : Nat) ∧ t ≤ 4 ∧ s = .string (cat (fullS.take t)) ∧ Hid (WlS wr w.heap.size w.heap.size (.func (.func 31) #[] #[]) hv ltS (fullS.drop t) 4) ∧ Hid (Gr w wr)) (fun _ i _ => 4 - (intOf i).toNat)
  case atStart => exact ⟨0, hv2, rfl, Nat.zero_le _, rfl, HW, G3⟩
  case round =>
    obtain ⟨t, hv, rfl, ht, rfl, hW, hG⟩ := hrel
    by_cases h4 : t < 4
    · obtain ⟨x, hx⟩ : ∃ x, fullS[t]? = some x := ⟨_, List.getElem?_eq_getElem (show t < fullS.length from h4)⟩
      have hd : fullS.drop t = x :: fullS.drop (t + 1) := by
        obtain ⟨h9, h8⟩ := List.getElem?_eq_some_iff.1 hx
        rw [List.drop_eq_getElem_cons h9, h8]
      have hsn : Hid (cat (fullS.take (t + 1)) = cat (fullS.take t) ++ x.1) := by
        rw [List.take_add_one, hx]
        exact cat_snoc _ _
      have hsz : (cat (fullS.take t)).size ≤ 8 ∧ x.1.size ≤ 2 := by
        rcases (show t = 0 ∨ t = 1 ∨ t = 2 ∨ t = 3 by omega) with rfl | rfl | rfl | rfl <;> (cases hx; exact ⟨by decide, by decide⟩)
      obtain ⟨hs1, hs2⟩ := hsz
      have hok : ∀ e ∈ fullS.drop t, okS e.1 := fun e he => full_ok e (List.mem_of_mem_drop he)
      have hln : (fullS.drop t).length ≤ 1000000 := Nat.le_trans (by rw [List.length_drop]; omega) (show fullS.length ≤ 1000000 by decide)
      have HP := popS lessS wr w.heap.size w.heap.size 4 0 hv _ hW.out (fun h => h) (fun _ _ h => h) hok hln trivial
      have hbd := hW.out.bd
      rw [hd] at HP
      have HP' : Hid (Calls Try.prog 33 #[.pointer (some ⟨w.heap.size, 0, none⟩)] wr fun e w' => e = .returned (.tuple #[.string x.1, .bool true]) ∧ ∃ hv', WlS w' w.heap.size w.heap.size (.func (.func 31) #[] #[]) hv' ltS (fullS.drop (t + 1)) 4 ∧ Gr w w') := by
        refine HP.mono ?_
        rintro e w' ⟨rfl, hv', h1, h2, h3, h4⟩
        refine ⟨rfl, hv', h1, hG.out.step h4 fun b _ h => ?_⟩
        rcases h with h | h | h
        · exact h.elim
        · exact (hbd.2 b h).1
        · omega
      generalize hc : cat (fullS.take t) = cc at *
      clear HP hd hx hok hln hbd hW hG hc
      obtain ⟨x1, xn⟩ := x
      go_wp2_with fail
      refine HP'.out.mono ?_
      rintro e w5 ⟨rfl, hv', W5, G5⟩
      replace W5 := Lib.hid W5
      replace G5 := Lib.hid G5
      go_wp2
      go_roundw
      case rel => exact ⟨t + 1, hv', by go_num, by omega, by rw [hsn.out], W5, G5⟩
      case measure => simp [intOf]; omega
    · obtain rfl : t = 4 := by omega
      have hsc : cat (fullS.take 4) = { data := #[97, 49, 97, 50, 98, 49, 98, 50] } := by rfl
      rw [hsc]
      clear hsc hW h4 ht
      have hG0 := hG.out.size
      go_wp2_with fail
      refine (newI wr 34 wr.heap.size #[] ltI).mono ?_
      rintro e w1 ⟨rfl, W1, F1⟩
      have hl1 := W1.bd.1
      have G1 := Lib.hid (hG.out.no F1)
      replace W1 := Lib.hid W1
      clear F1
      go_wp2_with fail
      have F2 := Fr.alloc (fun _ => False) w1 (.cells #[.int .i64 3, .int .i64 1, .int .i64 2] 3)
      have W2 := W1.out.fr F2 (fun h => h) (fun _ _ h => h)
      refine (pushI lessI _ _ _ _ 0 3 3 _ _ [3, 1, 2] [] W2 (fun h => h) (fun _ _ h => h) (Nat.le_refl _) (by simp) (by simp) rfl (by simp) (by simp) trivial (seesS 3) ?_).mono ?_
      · rintro ad ⟨⟩
        exact ⟨by show w1.heap.size ≠ wr.heap.size; omega, fun h => h, by simp [Value.ownBlock]⟩
      rintro e w2 ⟨rfl, hv2, W3, _, _, F3⟩
      have hpa : pushAll ltI [3, 1, 2] [] 0 = [(1, 1), (2, 2), (3, 0)] := by rfl
      rw [hpa] at W3
      have G3 := Lib.hid ((G1.out.no F2).step F3 (fun b _ h => by
        rcases h with h | h | h
        · exact h.elim
        · simp [Value.ownBlock] at h
        · omega))
      have HW := Lib.hid W3
      clear W1 F2 W2 W3 F3 G1 hl1 hpa
      go_wp2_with fail
      refine (keepI lessI odd_kc w2 _ _ _ hv2 .nilFunc _ HW.out (by simp) (by simp) rfl (fun h => h) (by simp [Value.ownBlock]) (Nat.le_refl _)).mono ?_
      have hfl : ([(1, 1), (2, 2), (3, 0)] : List (Int × Int)).filter (fun e => oddB e.1) = [(1, 1), (3, 0)] := by rfl
      rw [hfl]
      rintro e w3 ⟨rfl, hv3, v3, W4, _, _, F4⟩
      have G4 := Lib.hid (G3.out.step F4 (fun b _ h => by
        rcases h with h | h | h
        · exact h.elim
        · simp [Value.ownBlock] at h
        · omega))
      replace W4 := Lib.hid W4
      clear hfl HW G3 F4
      go_wp2_with fail
      refine (peekI w3 _ _ _ _ _ ltI lessI.ord _ W4.out).mono ?_
      rintro e w4 ⟨rfl, F5⟩
      have W5 := Lib.hid (W4.out.fr F5 (fun h => h) (fun _ _ h => h))
      have G5 := Lib.hid (G4.out.no F5)
      simp only [hdI, encXI, List.isEmpty_cons, Bool.not_false]
      clear F5
      go_wp2_with fail
      refine (lenI w4 _ _ _ _ _ ltI _ W5.out).mono ?_
      rintro e w5 ⟨rfl, rfl⟩
      go_wp2
      go_ret
      exact ⟨rfl, G5.out.below⟩
end Go.Proofs.Ytnepkpcoglfejaa
