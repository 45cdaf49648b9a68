/- The step report of an operation on a frontier of ints. -/
import Derived.Test.YtokdalilnckkoaaLook
namespace Go.Proofs.Ytokdalilnckkoaa
open Go.RowKit

set_option maxHeartbeats 400000 in
theorem reportI (o g K : Nat) (at_ top : Option Nat) (res pd : Int) (w : World) (h : ObI w o g K at_ false res) (hf : FrI w g top pd) (h1 : -1000000 < pd) (h2 : pd ≤ 1000000) :
    Calls Try.prog 39 #[.pointer (some ⟨o, 0, none⟩)] w (PoI w o g [o, g] true K at_ false res top (pd + -1)) := by
  have c0 := h.c0
  have hog : ¬ o = g := Bk.ne h hf (by decide)
  have H := Lib.hid (add64_any g _ _ pd (-1) w hf (by omega) h2 (by omega) (by omega))
  have q1 : ObI (w.setCell ⟨g, 1, none⟩ (.int .i64 (pd + -1))) o g K at_ false res := Bk.other h hog _
  have q2 : FrI (w.setCell ⟨g, 1, none⟩ (.int .i64 (pd + -1))) g top (pd + -1) := Bk.put hf 1 _
  have HO := Lib.hid q1
  have HF := Lib.hid q2
  clear h hf q1 q2
  go_enter Try.func39, Try.ntmps39
  go_wp2_with fail
  refine H.out.mono ?_
  rintro e w' ⟨rfl, rfl⟩
  go_wp2
  go_ret
  exact ⟨rfl, HO.out, HF.out, (Ch.refl w _).set (by simp) _⟩

end Go.Proofs.Ytokdalilnckkoaa
