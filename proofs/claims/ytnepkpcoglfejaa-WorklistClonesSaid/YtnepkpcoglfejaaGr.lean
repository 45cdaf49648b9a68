/- Worlds that have only grown. No program in sight. -/
import Derived.Test.YtnepkpcoglfejaaRow
namespace Go.Proofs.Ytnepkpcoglfejaa
open Go.RowKit

/-- All that lay in w lies in w'. -/
def Gr (w w' : World) : Prop := Fr (fun b => w.heap.size ≤ b) w w'
section
variable {w w1 w2 : World} {X : Nat → Prop}
theorem Gr.refl (w : World) : Gr w w := Fr.refl _ _
theorem Gr.step (h : Gr w w1) (k : Fr X w1 w2) (hX : ∀ b, b < w1.heap.size → X b → w.heap.size ≤ b) : Gr w w2 := Fr.trans h (k.wide hX)
theorem Gr.no (h : Gr w w1) (k : Fr (fun _ => False) w1 w2) : Gr w w2 := h.step k fun _ _ h => h.elim
theorem Gr.alloc (h : Gr w w1) (o : Obj) : Gr w (w1.alloc o) := h.no (Fr.alloc _ _ _)
theorem Gr.below (h : Gr w w1) : Below w.heap.size w w1 := Fr.below h (Nat.le_refl _) fun b hb h => by omega
theorem Gr.size (h : Gr w w1) : w.heap.size ≤ w1.heap.size := Fr.size h
theorem Gr.of (h : Below w.heap.size w w1) : Gr w w1 := ⟨⟨h.os, h.tape, h.output, h.size, fun b hb => absurd hb (Nat.not_lt_zero b)⟩, fun b hb _ => h.block b hb⟩
theorem Gr.no_of (h : Below w.heap.size w w1) : Fr (fun _ => False) w w1 := ⟨⟨h.os, h.tape, h.output, h.size, fun b hb => absurd hb (Nat.not_lt_zero b)⟩, fun b hb _ => h.block b hb⟩
theorem Gr.fr (h : Gr w w1) : Fr (fun _ => False) w w1 := Gr.no_of h.below
theorem Gr.then (h : Gr w w1) (k : Below w1.heap.size w1 w2) : Gr w w2 := h.no (Gr.no_of k)
theorem Gr.set (h : Gr w w1) {p : Addr} (hp : w.heap.size ≤ p.block) (v : Value) : Gr w (w1.setCell p v) := Fr.trans h (Fr.set _ _ _ hp)
end
end Go.Proofs.Ytnepkpcoglfejaa
