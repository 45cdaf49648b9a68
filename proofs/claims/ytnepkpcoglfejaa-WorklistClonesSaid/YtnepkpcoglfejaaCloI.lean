/- slices.Clone of entries. -/
import Derived.Test.YtnepkpcoglfejaaPushI
import Derived.Test.YtnepkpcoglfejaaApp3
namespace Go.Proofs.Ytnepkpcoglfejaa
open Go.RowKit

theorem eqsI (g n c : Nat) (w : World) : (binOp .eql 75 (.slice (some ⟨g, 0, none⟩) n c) (.slice none 0 0)).run Try.prog w = .ok (.bool false) w := by kernel_rfl
theorem eqzI (w : World) : (binOp .eql 75 (.slice none 0 0) (.slice none 0 0)).run Try.prog w = .ok (.bool true) w := by kernel_rfl
set_option maxRecDepth 100000 in
set_option maxHeartbeats 800000 in
theorem cloneI (w : World) (B n : Nat) (hv : Value) (hs : List (Int × Int)) (h : w.ownsRow B 79 2 hv n (hs.flatMap encEI)) (hl : hs.length = n) (hn : n ≤ 1000000) :
    Calls Try.prog 51 #[hv] w fun e w' => ∃ v', e = .returned v' ∧ w'.ownsRow w.heap.size 79 2 v' n (hs.flatMap encEI) ∧ Fr (fun _ => False) w w' := by
  have hF : ∀ a, (encEI a).length = 2 := fun _ => rfl
  rcases h with ⟨h1, ⟨rfl, rfl⟩ | ⟨g, cap, cur, rfl, hB, hh, hc, hx, hsz, ht⟩⟩
  · have heq := eqzI w
    go_enter Try.func51, Try.ntmps51
    go_wp2
    go_ret
    exact ⟨_, rfl, ⟨h1, .inl ⟨rfl, rfl⟩⟩, Fr.refl _ _⟩
  · have hgl : g < w.heap.size := Bk.lt hh
    have HH := Lib.hid hh
    have HT := Lib.hid ht
    have H1 := Lib.hid h1
    clear hh ht h1 hl
    have heq := eqsI g n cap w
    have HO : Hid ((w.alloc (.cells #[] 79)).ownsRow w.heap.size 79 2 (.slice (some ⟨w.heap.size, 0, none⟩) 0 0) 0 []) := ⟨rfl, .inr ⟨w.heap.size, 0, #[], rfl, Nat.le_refl _, Bk.made _ _ _, Nat.le_refl _, Nat.zero_le _, rfl, rfl⟩⟩
    have HC : Hid (∀ j u, (hs.flatMap encEI)[j]? = some u → (w.alloc (.cells #[] 79)).cell? ((⟨g, 0, none⟩ : Addr).add j) = some u) := fun j u hu => by
      have hj := (List.getElem?_eq_some_iff.1 hu).1
      rw [H1.out] at hj
      have hb : Bk (w.alloc (.cells #[] 79)) g 79 cur := Bk.alloc HH.out _
      rw [add_mk, Nat.zero_add, hb.cell, ← Array.getElem?_toList, ← hu, ← HT.out, List.getElem?_take_of_lt hj]
    have HU : Hid (∀ u ∈ hs.flatMap encEI, u.oneCell' = true) := fun u hu => by
      obtain ⟨a, _, ha⟩ := List.mem_flatMap.1 hu
      simp [encEI] at ha
      rcases ha with rfl | rfl <;> rfl
    go_enter Try.func51, Try.ntmps51
    go_wp2_with (at_builtin; refine wpList_appS elemI rfl _ _ rfl w.heap.size (.slice (some ⟨w.heap.size, 0, none⟩) 0 0) 0 [] rfl HO.out ⟨g, 0, none⟩ n cap (hs.flatMap encEI) rfl H1.out HC.out HU.out (by unfold maxLen; omega) (by omega) (by simp) ?_; intro v' w' h2 h3 h5)
    go_wp2
    go_ret
    rw [Nat.zero_add, List.nil_append] at h2
    refine ⟨v', rfl, h2, ⟨((Below.refl _ _).alloc (Nat.zero_le _) _).grown h3 (Nat.zero_le _) (fun _ _ => Nat.zero_le _), fun b hb _ => ?_⟩⟩
    exact (h3.block b (by simp; omega) (fun e => by injection e with e; exact absurd e (by show ¬ b = w.heap.size; omega))).trans (Below.heap_alloc _ _ _ hb)

end Go.Proofs.Ytnepkpcoglfejaa
