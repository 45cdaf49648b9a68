/- slices.Clone of workers; Join; Func.Step. -/
import Derived.Test.YtambnijbbnohfaaJoinA
namespace Go.Proofs.Ytambnijbbnohfaa
open Go.RowKit

set_option maxHeartbeats 400000 in
theorem cloneW_any (A : Option Addr) (n c B : Nat) (vs : List Value) (w : World) (hn : vs.length = n) (hN : n ≤ 1000000) (hs : Sees w B A vs) (h1 : ∀ u ∈ vs, u.oneCell' = true) :
    Calls Try.prog 27 #[.slice A n c] w fun e w' => ∃ v, e = .returned v ∧ w'.ownsRow w.heap.size 34 1 v vs.length vs ∧ Below w.heap.size w w' := by
  have heq := fun (W : World) (A : Option Addr) (n c : Nat) => Lib.run_eql_slice_nil (P := Try.prog) W 31 34 A n c 0 0 Try.underlying31
  rcases A with _ | ad
  · obtain rfl : vs = [] := by
      cases vs with
      | nil => rfl
      | cons y ys => obtain ⟨ad, h, _⟩ := hs 0 _ rfl; cases h
    go_enter Try.func27, Try.ntmps27
    go_wp2
    go_ret
    exact ⟨_, rfl, World.ownsRow_nil _ _ _ _, Below.refl _ _⟩
  · have HN := Lib.hid hn; clear hn
    have HS := Lib.hid (hs.self.alloc (Nat.le_refl _) (.cells #[] 34)); clear hs
    have H1 := Lib.hid h1; clear h1
    go_enter Try.func27, Try.ntmps27
    go_wp2_with (at_builtin; refine wpList_app Try.wks rfl _ _ rfl w.heap.size _ [] rfl (World.ownsRow_made w #[] 0 (Nat.le_refl _) (by unfold maxLen; omega) rfl) w.heap.size _ _ _ vs rfl HN.out HS.out H1.out (by unfold maxLen; rw [List.length_nil]; omega) (by rw [List.length_nil]; omega) (by rw [World.size_alloc]; omega) ?_)
    intro v' w1 hown' hgrow hob
    have h2 : Below w.heap.size w w1 := ((Below.refl _ _).alloc (Nat.le_refl _) _).grown hgrow (by simp) (fun b e => by simp [Value.ownBlock] at e; omega)
    have h3 : w1.ownsRow w.heap.size 34 1 v' vs.length vs := by simpa using hown'
    clear hown' hgrow hob
    go_wp2
    go_ret
    exact ⟨_, rfl, h3, h2⟩

structure JoinPost (vs : List Value) (w : World) (e : Ending) (w' : World) : Prop where
  ex : ∃ br v, e = .returned (.iface 32 (.func (Fn.func 28) #[] #[.pointer (some ⟨br, 0, none⟩)])) ∧ w.heap.size ≤ br ∧ Bk w' br 31 #[v] ∧ w'.ownsRow w.heap.size 34 1 v vs.length vs
  below : Below w.heap.size w w'

set_option maxHeartbeats 400000 in
theorem join_any (A : Option Addr) (n c B : Nat) (vs : List Value) (w : World) (hn : vs.length = n) (hN : n ≤ 1000000) (hs : Sees w B A vs) (h1 : ∀ u ∈ vs, u.oneCell' = true) : Calls Try.prog 15 #[.slice A n c] w (JoinPost vs w) := by
  have H := Lib.hid (cloneW_any A n c B vs w hn hN hs h1)
  clear hn hN hs h1
  go_enter Try.func15, Try.ntmps15
  go_wp2_with fail
  refine H.out.mono ?_
  rintro e w1 ⟨v, rfl, hown, hb⟩
  have hvw : ∃ Aw n cw, v = .slice Aw n cw := by
    obtain ⟨_, ⟨rfl, h0⟩ | ⟨g, cap, cur, rfl, _⟩⟩ := hown
    · exact ⟨_, _, _, rfl⟩
    · exact ⟨_, _, _, rfl⟩
  obtain ⟨Aw, n', cw, rfl⟩ := hvw
  go_wp2
  go_ret
  exact ⟨⟨_, _, rfl, hb.size, Bk.made _ _ _, World.ownsRow.alloc hown _⟩, hb.alloc hb.size _⟩

theorem eql_func (F : Nat) (caps : Array Value) (w : World) : (binOp .eql 32 (.func (Fn.func F) #[] caps) .nilFunc).run Try.prog w = .ok (.bool false) w := by kernel_rfl
theorem eql_nilFunc (w : World) : (binOp .eql 32 .nilFunc .nilFunc).run Try.prog w = .ok (.bool true) w := by kernel_rfl

set_option maxHeartbeats 400000 in
theorem fstep_nil (w : World) : Calls Try.prog 16 #[.nilFunc] w fun e w' => e = .returned (.bool true) ∧ w = w' := by
  have heq := eql_nilFunc
  go_enter Try.func16, Try.ntmps16
  go_wp2
  go_ret
  exact ⟨rfl, rfl⟩

set_option maxHeartbeats 400000 in
theorem fstep_any (F : Nat) (caps : Array Value) (b : Bool) (Q : World → Prop) (w : World) (eg : ∀ args W, (callFunc F args).run Try.prog W = .ok (.enter F args) W) (h : Calls Try.prog F caps w fun e w' => e = .returned (.bool b) ∧ Q w') :
    Calls Try.prog 16 #[.func (Fn.func F) #[] caps] w fun e w' => e = .returned (.bool b) ∧ Q w' := by
  have H := Lib.hid h; clear h
  have heq := eql_func
  go_enter Try.func16, Try.ntmps16
  go_wp2_with fail
  refine H.out.mono ?_
  rintro e w1 ⟨rfl, hq⟩
  have HQ := Lib.hid hq; clear hq
  go_wp2
  go_ret
  exact ⟨rfl, HQ.out⟩

end Go.Proofs.Ytambnijbbnohfaa
