/- What is asked of a 'less' function value, and frames. No program in sight. -/
import Derived.Test.YtnepkpcoglfejaaHeap
import Derived.Test.YtnepkpcoglfejaaApp
import Derived.WalkKit
import Derived.Lib.Hide
import Derived.Sort.Grow
namespace Go.Proofs.Ytnepkpcoglfejaa
open Go.RowKit

/-- All blocks but those of X lie as they lay. -/
structure Fr (X : Nat → Prop) (w w' : World) : Prop where
  bel : Below 0 w w'
  keep : ∀ b, b < w.heap.size → ¬ X b → w'.heap[b]? = w.heap[b]?
section
variable {X Y : Nat → Prop} {w w' w'' : World}
theorem Fr.refl (X : Nat → Prop) (w : World) : Fr X w w := ⟨.refl _ _, fun _ _ _ => rfl⟩
theorem Fr.trans (h : Fr X w w') (k : Fr X w' w'') : Fr X w w'' := ⟨h.bel.trans k.bel, fun b hb hx => (k.keep b (Nat.lt_of_lt_of_le hb h.bel.size) hx).trans (h.keep b hb hx)⟩
theorem Fr.wide (h : Fr X w w') (hX : ∀ b, b < w.heap.size → X b → Y b) : Fr Y w w' := ⟨h.bel, fun b hb hy => h.keep b hb fun hx => hy (hX b hb hx)⟩
theorem Fr.drew (X : Nat → Prop) (w : World) : Fr X w w.drew := ⟨⟨rfl, rfl, rfl, Nat.le_refl _, fun _ _ => rfl⟩, fun _ _ _ => rfl⟩
theorem Fr.drewN (X : Nat → Prop) (w : World) (n : Nat) : Fr X w (w.drewN n) := ⟨⟨rfl, rfl, rfl, Nat.le_refl _, fun _ _ => rfl⟩, fun _ _ _ => rfl⟩
theorem Fr.alloc (X : Nat → Prop) (w : World) (o : Obj) : Fr X w (w.alloc o) := ⟨(Below.refl 0 w).alloc (Nat.zero_le _) o, fun b hb _ => Below.heap_alloc w o b hb⟩
theorem Fr.set (w : World) (p : Addr) (v : Value) (hX : X p.block) : Fr X w (w.setCell p v) := ⟨(Below.refl 0 w).setCell (Nat.zero_le _) v, fun b _ hx => Below.heap_setCell w p v b fun e => hx (e ▸ hX)⟩
theorem Fr.bk (h : Fr X w w') {g t : Nat} {cs : Array Value} (hb : Bk w g t cs) (hx : ¬ X g) : Bk w' g t cs := Bk.keep hb (h.keep g hb.lt hx)
theorem Fr.size (h : Fr X w w') : w.heap.size ≤ w'.heap.size := h.bel.size
theorem Fr.below (h : Fr X w w') {B : Nat} (hB : B ≤ w.heap.size) (hx : ∀ b, b < B → ¬ X b) : Below B w w' := ⟨h.bel.os, h.bel.tape, h.bel.output, h.bel.size, fun b hb => h.keep b (Nat.lt_of_lt_of_le hb hB) (hx b hb)⟩
end

/-- A function value fv that orders the items: it may write the blocks c, and J k says that at most k calls were counted. -/
structure Lc {α : Type} (P : Program) (encX : α → Value) (ok : α → Prop) (lt : α → α → Bool) (fv : Value) (c : Nat → Prop) (J : Nat → World → Prop) (R : World → World → Prop) : Prop where
  ord : Ord lt
  refl : ∀ w, R w w
  trans : ∀ {w w' w''}, R w w' → R w' w'' → R w w''
  alloc : ∀ w o, R w (w.alloc o)
  drew : ∀ w, R w w.drew
  fr : ∀ {w w'}, R w w' → Fr c w w'
  mono : ∀ {k m w}, J k w → k ≤ m → J m w
  stay : ∀ {k w w'}, J k w → (∀ b, c b → w'.heap[b]? = w.heap[b]?) → J k w'
  bnd : ∀ {k w b}, J k w → c b → b < w.heap.size
  call : ∃ F cb, fv = .func (.func F) #[] cb ∧ (∀ args W, (callFunc F args).run P W = .ok (.enter F args) W) ∧ ∀ a b k W, ok a → ok b → J k W → Calls P F (#[encX a, encX b] ++ cb) W fun e w' => e = .returned (.bool (lt a b)) ∧ J (k + 1) w' ∧ R W w'
section
variable {α : Type} {P : Program} {encX : α → Value} {ok : α → Prop} {lt : α → α → Bool} {fv : Value} {c : Nat → Prop} {J : Nat → World → Prop} {R : World → World → Prop} {k : Nat} {w w' : World}
theorem Lc.jalloc (L : Lc P encX ok lt fv c J R) (h : J k w) (o : Obj) : J k (w.alloc o) := L.stay h fun b hb => Below.heap_alloc w o b (L.bnd h hb)
theorem Lc.jdrew (L : Lc P encX ok lt fv c J R) (h : J k w) : J k w.drew := L.stay h fun _ _ => rfl
end

/-- Worlds that have drawn and grown. -/
def Rg (w w' : World) : Prop := ∃ q os, w' = Go.Sort.grow (w.drewN q) os

end Go.Proofs.Ytnepkpcoglfejaa
