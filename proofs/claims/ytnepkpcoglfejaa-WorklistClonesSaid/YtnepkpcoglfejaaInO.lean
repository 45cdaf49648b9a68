/- What the walks are told of an argument that is a list of operations. -/
import Derived.Test.YtnepkpcoglfejaaDoAll
import Derived.Deep.SlicePairs
import Derived.OpenShut
set_option linter.unusedVariables false
namespace Go.Proofs.Ytnepkpcoglfejaa
open Go.RowKit Go.Shelf

theorem opCells_snoc (l : List (Int × Int)) (p : Int × Int) : opCells (l ++ [p]) = opCells l ++ [.int .u8 p.1, .int .i64 p.2] := by simp [opCells]
theorem opCells_length : ∀ l : List (Int × Int), (opCells l).length = l.length * 2
  | [] => rfl
  | p :: l => by
    have := opCells_length l
    simp only [opCells, List.flatMap_cons, List.length_append, List.length_cons, List.length_nil] at this ⊢
    omega

/-- The first n elements of a row of pairs of bytes. -/
theorem ops_of {w : World} {a : Addr} : ∀ n : Nat, (∀ i, i < n → ∃ x y : Int, w.cell? (a.add (i * 2)) = some (.int .u8 x) ∧ w.cell? (a.add (i * 2 + 1)) = some (.int .i64 y) ∧ (0 ≤ x ∧ x ≤ 255)) →
    ∃ l : List (Int × Int), l.length = n ∧ Sees w w.heap.size (some a) (opCells l) ∧ ∀ p ∈ l, 0 ≤ p.1 ∧ p.1 ≤ 255
  | 0, _ => ⟨[], rfl, Sees.nil, fun p hp => by cases hp⟩
  | n + 1, h => by
    obtain ⟨l, hl, hs, hb⟩ := ops_of n (fun i hi => h i (by omega))
    obtain ⟨x, y, hx, hy, b1⟩ := h n (by omega)
    refine ⟨l ++ [(x, y)], by simp [hl], fun j u hu => ?_, fun p hp => ?_⟩
    · rw [opCells_snoc] at hu
      rcases Nat.lt_or_ge j (opCells l).length with hj | hj
      · rw [List.getElem?_append_left hj] at hu
        exact hs j u hu
      · rw [List.getElem?_append_right hj] at hu
        rw [opCells_length, hl] at hj hu
        have hlt : ∀ {o : Nat} {v : Value}, w.cell? (a.add o) = some v → a.block < w.heap.size := fun hc => by
          have := World.block_lt_of_cell? w _ hc
          rwa [add_blk] at this
        obtain ⟨d, rfl⟩ : ∃ d, j = n * 2 + d := ⟨j - n * 2, by omega⟩
        rw [Nat.add_sub_cancel_left] at hu
        match d, hu with
        | 0, hu =>
          simp at hu
          subst hu
          exact ⟨a, rfl, hlt hx, hx⟩
        | 1, hu =>
          simp at hu
          subst hu
          exact ⟨a, rfl, hlt hy, hy⟩
        | d + 2, hu => simp at hu
    · rcases List.mem_append.1 hp with hp | hp
      · exact hb p hp
      · rw [List.mem_singleton] at hp
        subst hp
        exact b1

theorem open_ops {H : Type} {enc : TypeId × Value → H} {w : World} {base : Nat} {spare : Nat → Bool} {held : Bool} {fuel : Nat} {A : Option Addr} {n c : Nat} {x : DataW H × List MemPlace}
    (h : DataW.trod enc Try.prog w base spare held fuel 49 [.slice A n c] = some x) :
    n ≤ c ∧ ∃ l : List (Int × Int), l.length = n ∧ Sees w w.heap.size A (opCells l) ∧ ∀ p ∈ l, 0 ≤ p.1 ∧ p.1 ≤ 255 := by
  rcases Go.Deep.open_slice_pairs Try.underlying49 Try.underlying51 (by kernel_rfl) rfl rfl (by kernel_rfl) (by kernel_rfl) h with ⟨hcs, _⟩ | ⟨a, len, cap, m, k, V0, V1, D0, D1, P0, P1, hcs, _, hl, _, hm, _, hi⟩
  · simp at hcs
    obtain ⟨rfl, rfl, rfl⟩ := hcs
    exact ⟨Nat.le_refl _, [], rfl, Sees.nil, fun p hp => by cases hp⟩
  · simp at hcs
    obtain ⟨rfl, rfl, rfl⟩ := hcs
    refine ⟨hl, ops_of n fun i hin => ?_⟩
    obtain ⟨h1, h2, h3, h4⟩ := hi i (by rw [hm]; split <;> omega)
    obtain ⟨p, hp, _, wp⟩ := DataW.trod_int Try.underlying5 h3
    obtain ⟨q, hq, _, wq⟩ := DataW.trod_int Try.underlying3 h4
    simp at hp hq
    rw [hp] at h1
    rw [hq] at h2
    exact ⟨p, q, h1, h2, bounds_u8 wp⟩

end Go.Proofs.Ytnepkpcoglfejaa
