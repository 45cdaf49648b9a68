/- What the walks are told of the arguments. -/
import Derived.Test.YtnepkpcoglfejaaRow
import Derived.OpenShut
namespace Go.Proofs.Ytnepkpcoglfejaa
open Go.RowKit

/-- A slice of integers that came in: it is nil; or it leads to a row of 'cap' cells, the numbers 'zs' (the first 'len' are its elements, the rest its spare room), each fitting its kind. -/
def IsRow (k : IntKind) (w : World) (a : Option Addr) (len cap : Nat) (zs : List Int) : Prop :=
  (a = none ∧ len = 0 ∧ cap = 0 ∧ zs = []) ∨
  ∃ x, a = some x ∧ len ≤ cap ∧ cap ≤ maxLen ∧ zs.length = cap ∧ (∀ i, i < zs.length → w.cell? (x.add i) = some (.int k (zs.getD i 0))) ∧ ∀ n ∈ zs, (Lit.int k n).wf = true

section
variable {k : IntKind} {w : World} {a : Option Addr} {len cap : Nat} {zs : List Int}
theorem IsRow.caps (h : IsRow k w a len cap zs) : len ≤ cap ∧ cap ≤ maxLen := by
  rcases h with ⟨_, rfl, rfl, _⟩ | ⟨x, _, h1, h2, _⟩
  · exact ⟨Nat.le_refl _, Nat.zero_le _⟩
  · exact ⟨h1, h2⟩
theorem IsRow.lens (h : IsRow k w a len cap zs) : (zs.take len).length = len := by
  rcases h with ⟨_, rfl, rfl, rfl⟩ | ⟨x, _, h1, h2, h3, _⟩
  · rfl
  · rw [List.length_take]; omega
theorem IsRow.sees (h : IsRow k w a len cap zs) : Sees w w.heap.size a ((zs.take len).map (Value.int k)) := by
  rcases h with ⟨_, rfl, rfl, rfl⟩ | ⟨x, rfl, h1, h2, h3, h4, _⟩
  · exact Sees.nil
  · intro j u hu
    rw [List.getElem?_map] at hu
    have hj : j < (zs.take len).length := by
      rcases Nat.lt_or_ge j (zs.take len).length with h | h
      · exact h
      · rw [List.getElem?_eq_none h] at hu; cases hu
    rw [List.length_take] at hj
    rw [List.getElem?_take_of_lt (by omega), List.getElem?_eq_getElem (by omega)] at hu
    simp only [Option.map_some, Option.some.injEq] at hu
    have hc := h4 j (by omega)
    rw [List.getD_eq_getElem?_getD, List.getElem?_eq_getElem (by omega), Option.getD_some, hu] at hc
    exact ⟨x, rfl, by have := World.block_lt_of_cell? w _ hc; rwa [add_blk] at this, hc⟩
theorem IsRow.bytes (h : IsRow .u8 w a len cap zs) : ∀ x ∈ zs.take len, 0 ≤ x ∧ x ≤ 255 := by
  rcases h with ⟨_, rfl, rfl, rfl⟩ | ⟨x, rfl, h1, h2, h3, h4, h5⟩
  · intro x hx; simp at hx
  · intro x hx
    exact bounds_u8 (h5 x (List.mem_of_mem_take hx))
end

end Go.Proofs.Ytnepkpcoglfejaa
