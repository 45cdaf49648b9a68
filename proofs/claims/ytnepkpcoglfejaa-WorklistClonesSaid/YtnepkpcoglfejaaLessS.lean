/- The function that orders strings by their first byte. -/
import Derived.Test.YtnepkpcoglfejaaLess
namespace Go.Proofs.Ytnepkpcoglfejaa
open Go.RowKit Go.Sort Go.Shelf

def sB1 : ByteArray := { data := #[98, 49] }
def sA1 : ByteArray := { data := #[97, 49] }
def sB2 : ByteArray := { data := #[98, 50] }
def sA2 : ByteArray := { data := #[97, 50] }
def okS (a : ByteArray) : Prop := a = sB1 ∨ a = sA1 ∨ a = sB2 ∨ a = sA2
def kS (a : ByteArray) : Int := if a = sA1 ∨ a = sA2 then 0 else 1
def ltS (a b : ByteArray) : Bool := decide (kS a < kS b)
theorem ltS_eq {a b : ByteArray} (ha : okS a) (hb : okS b) : Op.bytesLess (a.extract 0 1).toList (b.extract 0 1).toList = ltS a b := by
  rcases ha with rfl | rfl | rfl | rfl <;> rcases hb with rfl | rfl | rfl | rfl <;> kernel_rfl

set_option maxRecDepth 100000 in
set_option maxHeartbeats 400000 in
theorem lessS : Lc Try.prog encXS okS ltS (.func (.func 31) #[] #[]) (fun _ => False) (fun _ _ => True) Rg := by
  refine Lc.pure (Ord.key kS) (enters_of Try.func31 (by kernel_rfl) rfl) fun a b w oa ob => ?_
  change Calls Try.prog 31 #[.string a, .string b] w _
  have ha : 1 ≤ a.size := by rcases oa with rfl | rfl | rfl | rfl <;> decide
  have hb : 1 ≤ b.size := by rcases ob with rfl | rfl | rfl | rfl <;> decide
  have HE := Lib.hid (ltS_eq oa ob)
  go_enter Try.func31, Try.ntmps31
  go_wp2
  go_quiet (fail)
  go_wp2
  go_ret
  exact ⟨by rw [← HE.out]; rfl, ⟨nq, #[], by rw [grow_empty]⟩⟩
end Go.Proofs.Ytnepkpcoglfejaa
