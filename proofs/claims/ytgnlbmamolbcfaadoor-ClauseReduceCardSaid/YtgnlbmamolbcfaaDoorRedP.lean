/- Reduce, in plain Lean: the clauses that stay hold where all valid ones hold. -/
import Derived.Test.YtgnlbmamolbcfaaDoorMakeP
set_option linter.unusedVariables false
namespace Go.Proofs.YtgnlbmamolbcfaaDoor

/-- Clause k strikes clause i. -/
def kill (ls : List (List Lit)) (i k : Nat) : Bool := subsB (ls.getD k []) (ls.getD i []) && (decide ((ls.getD k []).length < (ls.getD i []).length) || decide (k < i))
/-- Clause i stays, as far as the first t clauses say. -/
def stayT (ls : List (List Lit)) (i t : Nat) : Bool := vldB (ls.getD i []) && (List.range t).all fun k => !kill ls i k
def redT (ls : List (List Lit)) : Nat → List (List Lit)
  | 0 => []
  | i + 1 => if stayT ls i ls.length then redT ls i ++ [ls.getD i []] else redT ls i
theorem stayT_succ (ls : List (List Lit)) (i t : Nat) : stayT ls i (t + 1) = (stayT ls i t && !kill ls i t) := by
  unfold stayT
  rw [List.range_succ, List.all_append, Bool.and_assoc]
  simp
theorem redT_yes {ls : List (List Lit)} {i : Nat} (h : stayT ls i ls.length = true) : redT ls (i + 1) = redT ls i ++ [ls.getD i []] := by rw [redT, if_pos h]
theorem redT_no {ls : List (List Lit)} {i : Nat} (h : stayT ls i ls.length = false) : redT ls (i + 1) = redT ls i := by rw [redT, if_neg (by rw [h]; decide)]
theorem stay_no {ls : List (List Lit)} {i k : Nat} (hk : k < ls.length) (h : kill ls i k = true) : stayT ls i ls.length = false := by
  unfold stayT
  rw [Bool.and_eq_false_iff]
  right
  rw [List.all_eq_false]
  exact ⟨k, List.mem_range.2 hk, by simp [h]⟩
theorem mem_redT {ls : List (List Lit)} {c : List Lit} : ∀ {n : Nat}, c ∈ redT ls n ↔ ∃ i, i < n ∧ stayT ls i ls.length = true ∧ c = ls.getD i []
  | 0 => by simp [redT]
  | n + 1 => by
    cases h : stayT ls n ls.length
    · rw [redT_no h, mem_redT]
      constructor
      · rintro ⟨i, h1, h2, h3⟩
        exact ⟨i, by omega, h2, h3⟩
      · rintro ⟨i, h1, h2, h3⟩
        by_cases e : i = n
        · subst e; rw [h] at h2; cases h2
        · exact ⟨i, by omega, h2, h3⟩
    · rw [redT_yes h, List.mem_append, mem_redT]
      constructor
      · rintro (⟨i, h1, h2, h3⟩ | h1)
        · exact ⟨i, by omega, h2, h3⟩
        · exact ⟨n, by omega, h, by simpa using h1⟩
      · rintro ⟨i, h1, h2, h3⟩
        by_cases e : i = n
        · subst e; right; simp [h3]
        · exact .inl ⟨i, by omega, h2, h3⟩
theorem ris_le : ∀ {b a : List Lit}, Ris a → Ris b → (∀ x ∈ a, x ∈ b) → a.length ≤ b.length
  | _, [], _, _, _ => Nat.zero_le _
  | [], x :: a, _, _, h => absurd (h x (by simp)) (by simp)
  | y :: b, x :: a, ha, hb, h => by
    have ha' := List.pairwise_cons.1 ha
    have hb' := List.pairwise_cons.1 hb
    by_cases e : x = y
    · subst e
      have := ris_le ha'.2 hb'.2 fun z hz => by
        rcases List.mem_cons.1 (h z (by simp [hz])) with e2 | e2
        · have := ha'.1 z hz
          rw [e2] at this
          omega
        · exact e2
      simp only [List.length_cons]
      omega
    · have hx : x ∈ b := (List.mem_cons.1 (h x (by simp))).resolve_left e
      have hyx := hb'.1 x hx
      have := ris_le ha hb'.2 fun z hz => by
        rcases List.mem_cons.1 (h z hz) with e2 | e2
        · exfalso
          rcases List.mem_cons.1 hz with e3 | e3
          · exact e (e3.symm.trans e2)
          · have := ha'.1 z e3
            rw [e2] at this
            omega
        · exact e2
      simp only [List.length_cons] at this ⊢
      omega
theorem subs_len {a b : List Lit} (h : subsB a b = true) : a.length ≤ b.length := by
  unfold subsB at h
  simp only [Bool.and_eq_true] at h
  obtain ⟨h1, h2, h3⟩ := h
  refine ris_le (vld_iff.1 (vldB_iff.1 h1)).2 (vld_iff.1 (vldB_iff.1 h2)).2 fun x hx => ?_
  have := List.all_eq_true.1 h3 x hx
  rwa [List.contains_iff_mem] at this
/-- Under k all valid clauses hold if those that stay hold. -/
theorem red_all {ls : List (List Lit)} {k : Nat} (h : ∀ c ∈ redT ls ls.length, holds c k = true) : ∀ (N i : Nat), i < ls.length → (ls.getD i []).length * (ls.length + 1) + i < N → vldB (ls.getD i []) = true → holds (ls.getD i []) k = true := fun N => by
  induction N with
  | zero => intro i _ h2; omega
  | succ N ih =>
    intro i hi hN hv
    cases hs : stayT ls i ls.length
    · unfold stayT at hs
      rw [hv, Bool.true_and, List.all_eq_false] at hs
      obtain ⟨j, hj, hk⟩ := hs
      rw [List.mem_range] at hj
      have hk' : kill ls i j = true := by simpa using hk
      unfold kill at hk'
      rw [Bool.and_eq_true] at hk'
      obtain ⟨h1, h2⟩ := hk'
      have hle := subs_len h1
      have h1' := h1
      unfold subsB at h1'
      simp only [Bool.and_eq_true] at h1'
      refine within_holds h1'.2.2 k (ih j hj ?_ h1'.1)
      simp only [Bool.or_eq_true, decide_eq_true_eq] at h2
      rcases h2 with h2 | h2
      · have : ((ls.getD j []).length + 1) * (ls.length + 1) ≤ (ls.getD i []).length * (ls.length + 1) := Nat.mul_le_mul_right _ h2
        rw [Nat.add_mul, Nat.one_mul] at this
        omega
      · have : (ls.getD j []).length * (ls.length + 1) ≤ (ls.getD i []).length * (ls.length + 1) := Nat.mul_le_mul_right _ hle
        omega
    · exact h _ (mem_redT.2 ⟨i, hi, hs, rfl⟩)
/-- All of the first t clauses that are valid hold. -/
def allV (ls : List (List Lit)) (k t : Nat) : Bool := (List.range t).all fun i => !vldB (ls.getD i []) || holds (ls.getD i []) k
def allH (ls : List (List Lit)) (k t : Nat) : Bool := (List.range t).all fun i => holds (ls.getD i []) k
theorem allV_succ (ls : List (List Lit)) (k t : Nat) : allV ls k (t + 1) = (allV ls k t && (!vldB (ls.getD t []) || holds (ls.getD t []) k)) := by
  unfold allV
  rw [List.range_succ, List.all_append]
  simp
theorem allH_succ (ls : List (List Lit)) (k t : Nat) : allH ls k (t + 1) = (allH ls k t && holds (ls.getD t []) k) := by
  unfold allH
  rw [List.range_succ, List.all_append]
  simp
theorem getD_mem {ls : List (List Lit)} {i : Nat} (h : i < ls.length) : ls.getD i [] ∈ ls := by
  rw [List.getD_eq_getElem?_getD, List.getElem?_eq_getElem h, Option.getD_some]
  exact List.getElem_mem h
theorem red_law (ls : List (List Lit)) (k : Nat) : allV ls k ls.length = allH (redT ls ls.length) k (redT ls ls.length).length := by
  rw [Bool.eq_iff_iff]
  unfold allV allH
  rw [List.all_eq_true, List.all_eq_true]
  constructor
  · intro h i hi
    rw [List.mem_range] at hi
    obtain ⟨j, hj, hs, e⟩ := mem_redT.1 (getD_mem hi)
    rw [e]
    have h1 := h j (List.mem_range.2 hj)
    unfold stayT at hs
    rw [Bool.and_eq_true] at hs
    rw [hs.1] at h1
    simpa using h1
  · intro h i hi
    rw [List.mem_range] at hi
    cases hv : vldB (ls.getD i [])
    · rfl
    · rw [red_all (fun c hc => ?_) _ i hi (Nat.lt_succ_self _) hv]; rfl
      obtain ⟨j, hj, rfl⟩ := List.mem_iff_getElem.1 hc
      have := h j (List.mem_range.2 hj)
      rwa [List.getD_eq_getElem?_getD, List.getElem?_eq_getElem hj, Option.getD_some] at this
end Go.Proofs.YtgnlbmamolbcfaaDoor
