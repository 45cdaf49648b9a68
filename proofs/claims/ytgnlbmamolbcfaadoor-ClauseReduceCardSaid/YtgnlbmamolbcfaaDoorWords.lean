/- Words for memory used by all walks of this seat: a slice that is seen as a list of values, a block that is known whole, and frames. No program in sight. -/
import Derived.WalkKit
import Derived.Below
import Derived.Laws.OwnMore
import Derived.Maps.AppendAt
import Derived.Deep.Draws
namespace Go.Proofs.YtgnlbmamolbcfaaDoor
open Go.RowKit

theorem add_blk (a : Addr) (n : Nat) : (a.add n).block = a.block := by unfold Addr.add; split <;> rfl
theorem add_add (a : Addr) (i j : Nat) : (a.add i).add j = a.add (i + j) := by
  unfold Addr.add
  by_cases hi : i = 0 <;> by_cases hj : j = 0 <;> simp [hi, hj, Nat.add_assoc]
theorem add_mk (g o i : Nat) : (⟨g, o, none⟩ : Addr).add i = ⟨g, o + i, none⟩ := by
  unfold Addr.add
  by_cases h : i = 0 <;> simp [h]

/-- The address A is that of a row that begins with the values xs, in a block below B (nothing is said of A where xs is empty). -/
def Sees (w : World) (B : Nat) (A : Option Addr) (xs : List Value) : Prop :=
  ∀ j u, xs[j]? = some u → ∃ ad, A = some ad ∧ ad.block < B ∧ w.cell? (ad.add j) = some u

section
variable {w w' : World} {B B' : Nat} {A : Option Addr} {xs : List Value}
theorem Sees.nil : Sees w B A [] := fun j u h => by simp at h
theorem Sees.look (h : Sees w B A xs) {k : Nat} (hk : k < xs.length) : ∃ ad, A = some ad ∧ ad.block < B ∧ w.cell? (ad.add k) = some xs[k] :=
  h k _ (List.getElem?_eq_getElem hk)
theorem Sees.kept (h : Sees w B A xs) (hk : ∀ b, b < B → w'.heap[b]? = w.heap[b]?) : Sees w' B A xs := fun j u hu => by
  obtain ⟨ad, e, hb, hc⟩ := h j u hu
  exact ⟨ad, e, hb, (World.cell?_of_block (hk _ (by rw [add_blk]; exact hb))).trans hc⟩
theorem Sees.below (h : Sees w B A xs) (hb : Below B w w') : Sees w' B A xs := h.kept hb.block
theorem Sees.up (h : Sees w B A xs) (hB : B ≤ B') : Sees w B' A xs := fun j u hu => by
  obtain ⟨ad, e, hb, hc⟩ := h j u hu
  exact ⟨ad, e, by omega, hc⟩
theorem Sees.go (h : Sees w w.heap.size A xs) (hb : Below w.heap.size w w') : Sees w' w'.heap.size A xs := (h.below hb).up hb.size
theorem Sees.alloc (h : Sees w B A xs) (hB : B ≤ w.heap.size) (o : Obj) : Sees (w.alloc o) B A xs := h.kept fun b hb => Below.heap_alloc w o b (by omega)
theorem Sees.drewN (h : Sees w B A xs) (k : Nat) : Sees (w.drewN k) B A xs := h
theorem Sees.tail (h : Sees w B A xs) {k cap : Nat} (hc : xs.length ≤ cap) : Sees w B (if cap = k then A else A.map (·.add k)) (xs.drop k) := fun j u hu => by
  rw [List.getElem?_drop] at hu
  obtain ⟨ad, rfl, hb, hcell⟩ := h _ _ hu
  have hlt : k + j < xs.length := by
    rcases Nat.lt_or_ge (k + j) xs.length with h | h
    · exact h
    · rw [List.getElem?_eq_none h] at hu; cases hu
  rw [if_neg (by omega)]
  exact ⟨ad.add k, rfl, by rw [add_blk]; exact hb, by rw [add_add]; exact hcell⟩
theorem Sees.own {base : Nat} {e : TypeId} {n c : Nat} (h : w.ownsRow base e 1 (.slice A n c) n xs) : Sees w w.heap.size A xs := fun j u hu => by
  have hj : j < xs.length := by
    rcases Nat.lt_or_ge j xs.length with h | h
    · exact h
    · rw [List.getElem?_eq_none h] at hu; cases hu
  obtain ⟨hl, h0 | ⟨g, cap, cur, hv, _, hh, _, _, _, ht⟩⟩ := h
  · omega
  · have hA : A = some ⟨g, 0, none⟩ := by injection hv
    subst hA
    refine ⟨_, rfl, ?_, ?_⟩
    · rcases Nat.lt_or_ge g w.heap.size with hlt | hge
      · exact hlt
      · rw [Array.getElem?_eq_none hge] at hh; cases hh
    · rw [add_mk, Nat.zero_add, cell_of_row w g j cur e (0, 0) hh, ← Array.getElem?_toList, ← hu, ← ht, List.getElem?_take_of_lt (by omega)]
end

/-- Block g holds just the cells cs of element type t, none of them frozen. -/
def Bk (w : World) (g : Nat) (t : TypeId) (cs : Array Value) : Prop := w.heap[g]? = some (.cells cs t (0, 0))
section
variable {w w' : World} {g : Nat} {t : TypeId} {cs : Array Value}
theorem Bk.lt (h : Bk w g t cs) : g < w.heap.size := by
  rcases Nat.lt_or_ge g w.heap.size with hlt | hge
  · exact hlt
  · unfold Bk at h; rw [Array.getElem?_eq_none hge] at h; cases h
theorem Bk.cell (h : Bk w g t cs) (i : Nat) : w.cell? ⟨g, i, none⟩ = cs[i]? := cell_of_row w g i cs t (0, 0) h
theorem Bk.frozen (h : Bk w g t cs) (i : Nat) : w.frozen? ⟨g, i, none⟩ = false := by
  unfold Bk at h
  simp [World.frozen?, h]
theorem Bk.made (w : World) (t : TypeId) (cs : Array Value) : Bk (w.alloc (.cells cs t)) w.heap.size t cs := heap_alloc_new w _
theorem Bk.alloc (h : Bk w g t cs) (o : Obj) : Bk (w.alloc o) g t cs := (Below.heap_alloc w o g h.lt).trans h
theorem Bk.put (h : Bk w g t cs) (i : Nat) (u : Value) : Bk (w.setCell ⟨g, i, none⟩ u) g t (cs.setIfInBounds i u) := by
  unfold Bk at h ⊢
  simp [World.setCell, Array.getElem?_modify, h]
theorem Bk.other (h : Bk w g t cs) {p : Addr} (hp : g ≠ p.block) (u : Value) : Bk (w.setCell p u) g t cs := (Below.heap_setCell w p u g hp).trans h
theorem Bk.keep (h : Bk w g t cs) (hk : w'.heap[g]? = w.heap[g]?) : Bk w' g t cs := hk.trans h
theorem Bk.below {B : Nat} (h : Bk w g t cs) (hb : Below B w w') (hg : g < B) : Bk w' g t cs := h.keep (hb.block g hg)
theorem Bk.ne {g' : Nat} {t' : TypeId} {cs' : Array Value} (h : Bk w g t cs) (h' : Bk w g' t' cs') (hne : t ≠ t') : g ≠ g' := by
  rintro rfl
  unfold Bk at h h'
  rw [h] at h'
  injection h' with h'
  injection h' with _ ht
  exact hne ht
theorem Bk.sees (h : Bk w g t cs) {xs : List Value} (hx : xs <+: cs.toList) : Sees w w.heap.size (some ⟨g, 0, none⟩) xs := fun j u hu => by
  refine ⟨_, rfl, h.lt, ?_⟩
  rw [add_mk, Nat.zero_add, h.cell]
  obtain ⟨r, hr⟩ := hx
  have hj : j < xs.length := by
    rcases Nat.lt_or_ge j xs.length with h | h
    · exact h
    · rw [List.getElem?_eq_none h] at hu; cases hu
  rw [← Array.getElem?_toList, ← hr, List.getElem?_append_left hj]
  exact hu
end
theorem below_drewN {B : Nat} {a w : World} (h : Below B a w) (n : Nat) : Below B a (w.drewN n) := ⟨h.os, h.tape, h.output, h.size, h.block⟩

theorem ret_int {k : IntKind} {a b : Int} (h : a = b) : Ending.returned (.int k a) = .returned (.int k b) := by rw [h]
theorem ret_bool {a b : Bool} (h : a = b) : Ending.returned (.bool a) = .returned (.bool b) := by rw [h]

end Go.Proofs.YtgnlbmamolbcfaaDoor
