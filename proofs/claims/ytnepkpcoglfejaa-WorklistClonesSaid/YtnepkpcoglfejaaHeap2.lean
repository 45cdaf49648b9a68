/- Pushes, in plain Lean. -/
import Derived.Test.YtnepkpcoglfejaaHeap
namespace Go.Proofs.Ytnepkpcoglfejaa

/-- The entries after the pushes of items, the first one with the number N. -/
def pushAll {α : Type} (lt : α → α → Bool) : List α → List (α × Int) → Nat → List (α × Int)
  | [], E, _ => E
  | x :: xs, E, N => pushAll lt xs (ins (bfr lt) (x, (N : Int)) E) (N + 1)
theorem pushAll_snoc {α : Type} (lt : α → α → Bool) : ∀ (xs : List α) (x : α) (E : List (α × Int)) (N : Nat), pushAll lt (xs ++ [x]) E N = ins (bfr lt) (x, ((N + xs.length : Nat) : Int)) (pushAll lt xs E N)
  | [], x, E, N => rfl
  | y :: xs, x, E, N => by
    rw [List.cons_append, pushAll, pushAll_snoc lt xs, pushAll, List.length_cons, show N + (xs.length + 1) = N + 1 + xs.length by omega]
theorem pushAll_len {α : Type} (lt : α → α → Bool) : ∀ (xs : List α) (E : List (α × Int)) (N : Nat), (pushAll lt xs E N).length = E.length + xs.length
  | [], E, N => rfl
  | x :: xs, E, N => by
    rw [pushAll, pushAll_len lt xs, (ins_perm _ E).length_eq, List.length_cons, List.length_cons]
    omega
theorem pushAll_mem {α : Type} (lt : α → α → Bool) : ∀ (xs : List α) (E : List (α × Int)) (N : Nat) (e : α × Int), e ∈ pushAll lt xs E N → e ∈ E ∨ e.1 ∈ xs
  | [], E, N, e, h => .inl h
  | x :: xs, E, N, e, h => by
    rcases pushAll_mem lt xs _ _ e h with h | h
    · rcases List.mem_cons.1 ((ins_perm _ E).mem_iff.1 h) with rfl | h
      · exact .inr (List.mem_cons_self ..)
      · exact .inl h
    · exact .inr (List.mem_cons_of_mem _ h)

theorem dg_succ (n : Nat) : dg (n + 1) ≤ dg n + 1 := by
  by_cases h : n = 0
  · subst h
    rw [dg_zero, dg_pos (by omega)]
    exact Nat.le_of_eq (by rw [show (0 + 1) / 2 = 0 from rfl, dg_zero])
  · have h1 := dg_mono (show n + 1 ≤ 2 * n by omega)
    rw [dg_pos (show 0 < 2 * n by omega), show 2 * n / 2 = n by omega] at h1
    exact h1

end Go.Proofs.Ytnepkpcoglfejaa
