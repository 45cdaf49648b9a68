/- The methods of a nil list of ints. -/
import Derived.Test.YtnepkpcoglfejaaAll
set_option linter.unusedVariables false
namespace Go.Proofs.Ytnepkpcoglfejaa
open Go.RowKit Go.Shelf

set_option maxHeartbeats 400000 in
theorem nil_push (A : Option Addr) (n c : Nat) (w : World) : Calls Try.prog 17 #[.pointer none, .slice A n c] w fun e w' => e = .returned (.tuple #[]) ∧ w = w' := by
  go_enter Try.func17, Try.ntmps17
  go_wp2
  refine bodyPost_ret (results_none rfl _ _ _) rfl ?_
  exact ⟨rfl, rfl⟩
set_option maxHeartbeats 400000 in
theorem nil_peek (w : World) : Calls Try.prog 26 #[.pointer none] w fun e w' => e = .returned (.tuple #[.int .i64 0, .bool false]) ∧ w = w' := by
  go_enter Try.func26, Try.ntmps26
  go_wp2
  go_returns
  exact ⟨rfl, rfl⟩
set_option maxHeartbeats 400000 in
theorem nil_pop (w : World) : Calls Try.prog 19 #[.pointer none] w fun e w' => e = .returned (.tuple #[.int .i64 0, .bool false]) ∧ w = w' := by
  go_enter Try.func19, Try.ntmps19
  go_wp2_with (go_at_call 26; refine (nil_peek _).mono ?_; rintro e w1 ⟨rfl, rfl⟩)
  go_returns
  exact ⟨rfl, rfl⟩
set_option maxHeartbeats 400000 in
theorem nil_len (w : World) : Calls Try.prog 20 #[.pointer none] w fun e w' => e = .returned (.int .i64 0) ∧ w = w' := by
  go_enter Try.func20, Try.ntmps20
  go_wp2
  go_ret
  exact ⟨rfl, rfl⟩
set_option maxHeartbeats 400000 in
theorem nil_clone (w : World) : Calls Try.prog 28 #[.pointer none] w fun e w' => e = .returned (.pointer none) ∧ w = w' := by
  go_enter Try.func28, Try.ntmps28
  go_wp2
  go_ret
  exact ⟨rfl, rfl⟩
set_option maxHeartbeats 400000 in
theorem nil_keep (w : World) : Calls Try.prog 29 #[.pointer none, .nilFunc] w fun e w' => e = .returned (.int .i64 0) ∧ w = w' := by
  go_enter Try.func29, Try.ntmps29
  go_wp2
  go_ret
  exact ⟨rfl, rfl⟩

/-! Without a function the items come in the order of their pushes. -/
def num (xs : List Int) : Nat → List (Int × Int)
  | 0 => []
  | t + 1 => num xs t ++ [(xs.getD t 0, (t : Int))]
theorem num_len (xs : List Int) : ∀ t, (num xs t).length = t
  | 0 => rfl
  | t + 1 => by rw [num, List.length_append, num_len xs t]; rfl
theorem num_hi (xs : List Int) : ∀ t, ∀ e ∈ num xs t, e.2 < t
  | 0, e, h => by cases h
  | t + 1, e, h => by
    rcases List.mem_append.1 h with h | h
    · have := num_hi xs t e h
      omega
    · rw [List.mem_singleton.1 h]
      show (t : Int) < ((t + 1 : Nat) : Int)
      omega
theorem ins_end {e : Int × Int} : ∀ {E : List (Int × Int)}, (∀ x ∈ E, x.2 < e.2) → ins (bfr fun _ _ => false) e E = E ++ [e]
  | [], _ => rfl
  | x :: E, h => by
    have h1 := h x (List.mem_cons_self ..)
    have h2 : bfr (fun _ _ : Int => false) e x = false := by
      simp only [bfr, Bool.false_or, Bool.not_false, Bool.true_and, decide_eq_false_iff_not]
      omega
    rw [ins, h2, if_neg (by decide), ins_end fun y hy => h y (List.mem_cons_of_mem _ hy)]
    rfl
theorem num_push (xs : List Int) : ∀ t, t ≤ xs.length → pushAll (fun _ _ => false) (xs.take t) [] 0 = num xs t
  | 0, _ => rfl
  | t + 1, h => by
    have hx : xs[t]? = some (xs[t]'(by omega)) := List.getElem?_eq_getElem _
    rw [List.take_add_one, hx]
    show pushAll _ (xs.take t ++ [_]) [] 0 = _
    rw [pushAll_snoc, num_push xs t (by omega), List.length_take, Nat.min_eq_left (by omega), Nat.zero_add, ins_end (num_hi xs t), num, List.getD_eq_getElem?_getD, hx]
    rfl
theorem num_at (xs : List Int) {t i : Nat} : ∀ {t : Nat}, i < t → (num xs t)[i]? = some (xs.getD i 0, (i : Int))
  | 0, h => by omega
  | t + 1, h => by
    rw [num]
    by_cases e : i = t
    · subst e
      rw [List.getElem?_append_right (by rw [num_len]; exact Nat.le_refl _), num_len, Nat.sub_self]
      rfl
    · rw [List.getElem?_append_left (by rw [num_len]; omega)]
      exact num_at xs (t := t) (by omega)
end Go.Proofs.Ytnepkpcoglfejaa
