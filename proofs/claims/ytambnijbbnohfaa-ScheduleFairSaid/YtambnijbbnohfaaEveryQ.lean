/- Plain facts for ScheduleEvery: workers with steps, their numbers. Owned rows beside each other. -/
import Derived.Test.YtambnijbbnohfaaEveryP
namespace Go.Proofs.Ytambnijbbnohfaa
open Go.RowKit

/-- How many of the first j counts are positive. -/
def pl : List Int → Nat → Nat
  | [], _ => 0
  | _ :: _, 0 => 0
  | c :: cs, j + 1 => (if 0 < c then 1 else 0) + pl cs j
def nums (cs : List Int) : List Int := cs.filter (fun c => decide (0 < c))

theorem pl_len : ∀ (cs : List Int) (j : Nat), pl cs j = (nums (cs.take j)).length
  | [], j => by simp [pl, nums]
  | c :: cs, 0 => by simp [pl, nums]
  | c :: cs, j + 1 => by
    have := pl_len cs j
    simp only [pl, List.take_succ_cons, nums, List.filter_cons]
    by_cases h : 0 < c
    · have hd : decide (0 < c) = true := by simpa using h
      rw [if_pos h, hd]
      simp only [if_true, List.length_cons]
      unfold nums at this
      omega
    · have hd : decide (0 < c) = false := by simpa using h
      rw [if_neg h, hd]
      simp only [Nat.zero_add]
      exact this
theorem pl_at : ∀ (cs : List Int) (j : Nat), 0 < cs.getD j 0 → (nums cs).getD (pl cs j) 0 = cs.getD j 0 ∧ pl cs j < (nums cs).length
  | [], j, h => by simp at h
  | c :: cs, 0, h => by
    have h' : 0 < c := h
    have hd : decide (0 < c) = true := by simpa using h'
    simp only [nums, List.filter_cons, hd, if_true, pl]
    exact ⟨rfl, by simp⟩
  | c :: cs, j + 1, h => by
    rw [List.getD_cons_succ] at h ⊢
    have ih := pl_at cs j h
    simp only [nums, List.filter_cons, pl]
    by_cases hc : 0 < c
    · have hd : decide (0 < c) = true := by simpa using hc
      rw [hd, if_pos hc]
      simp only [if_true, List.length_cons]
      rw [show 1 + pl cs j = pl cs j + 1 from by omega, List.getD_cons_succ]
      exact ⟨ih.1, by have := ih.2; unfold nums at this; omega⟩
    · have hd : decide (0 < c) = false := by simpa using hc
      rw [hd, if_neg hc, Nat.zero_add]
      exact ih
theorem pl_lt : ∀ (cs : List Int) (i j : Nat), i < j → 0 < cs.getD i 0 → pl cs i < pl cs j
  | [], i, j, _, h => by simp at h
  | c :: cs, 0, j + 1, _, h => by
    have h' : 0 < c := h
    simp only [pl, if_pos h']
    omega
  | c :: cs, i + 1, j + 1, hij, h => by
    rw [List.getD_cons_succ] at h
    have := pl_lt cs i j (by omega) h
    simp only [pl]
    omega
  | c :: cs, i, 0, hij, _ => by omega
theorem pl_inj (cs : List Int) (i j : Nat) (hi : 0 < cs.getD i 0) (hj : 0 < cs.getD j 0) (h : pl cs i = pl cs j) : i = j := by
  rcases Nat.lt_trichotomy i j with h1 | h1 | h1
  · have := pl_lt cs i j h1 hi; omega
  · exact h1
  · have := pl_lt cs j i h1 hj; omega
theorem pl_sur : ∀ (cs : List Int) (k : Nat), k < (nums cs).length → ∃ j, 0 < cs.getD j 0 ∧ pl cs j = k
  | [], k, h => by simp [nums] at h
  | c :: cs, k, h => by
    simp only [nums, List.filter_cons] at h
    by_cases hc : 0 < c
    · have hd : decide (0 < c) = true := by simpa using hc
      rw [hd] at h
      simp only [if_true, List.length_cons] at h
      match k with
      | 0 => exact ⟨0, hc, rfl⟩
      | k + 1 =>
        obtain ⟨j, h1, h2⟩ := pl_sur cs k (by unfold nums; omega)
        exact ⟨j + 1, by rw [List.getD_cons_succ]; exact h1, by simp only [pl, if_pos hc]; omega⟩
    · have hd : decide (0 < c) = false := by simpa using hc
      rw [hd] at h
      obtain ⟨j, h1, h2⟩ := pl_sur cs k h
      exact ⟨j + 1, by rw [List.getD_cons_succ]; exact h1, by simp only [pl, if_neg hc]; omega⟩

/-- The counts of the entries of os, each of them a number below n. -/
def cntTo (os : List Int) (n : Nat) : List Int := (List.range n).map (fun j : Nat => (os.countP (fun x => decide (x = (j : Int))) : Int))
theorem cntTo_get (os : List Int) (n j : Nat) (hj : j < n) : (cntTo os n).getD j 0 = (os.countP (fun x => decide (x = (j : Int))) : Int) := by
  rw [List.getD_eq_getElem?_getD, cntTo, List.getElem?_map, List.getElem?_range hj]
  rfl
def plI (cs : List Int) (x : Int) : Int := (pl cs x.toNat : Int)

theorem every_counts (os : List Int) (n : Nat) (ho : ∀ x ∈ os, 0 ≤ x ∧ x.toNat < n) : Counts (nums (cntTo os n)) (os.map (plI (cntTo os n))) ∧ ∀ x ∈ os.map (plI (cntTo os n)), 0 ≤ x ∧ x.toNat < (nums (cntTo os n)).length := by
  have hpos : ∀ x ∈ os, 0 < (cntTo os n).getD x.toNat 0 := fun x hx => by
    obtain ⟨h0, h1⟩ := ho x hx
    rw [cntTo_get os n _ h1]
    have : 0 < os.countP (fun y => decide (y = ((x.toNat : Nat) : Int))) := List.countP_pos_iff.mpr ⟨x, hx, by simp; omega⟩
    omega
  refine ⟨fun k => ?_, fun y hy => ?_⟩
  · rw [List.countP_map]
    by_cases hk : k < (nums (cntTo os n)).length
    · obtain ⟨j, h1, h2⟩ := pl_sur _ k hk
      have hjn : j < n := by
        rcases Nat.lt_or_ge j n with h | h
        · exact h
        · rw [List.getD_eq_getElem?_getD, List.getElem?_eq_none (by simp [cntTo]; exact h)] at h1
          simp at h1
      rw [← h2, (pl_at _ j h1).1, cntTo_get os n j hjn]
      congr 1
      refine List.countP_congr fun x hx => ?_
      obtain ⟨h3, h4⟩ := ho x hx
      show decide (x = (j : Int)) = true ↔ decide (plI (cntTo os n) x = ((pl (cntTo os n) j : Nat) : Int)) = true
      rw [decide_eq_true_iff, decide_eq_true_iff]
      constructor
      · intro e
        subst e
        unfold plI
        rw [Int.toNat_natCast]
      · intro e
        unfold plI at e
        have := pl_inj _ _ _ (hpos x hx) h1 (by omega)
        omega
    · rw [List.getD_eq_getElem?_getD, List.getElem?_eq_none (by omega)]
      have : os.countP ((fun x => decide (x = (k : Int))) ∘ plI (cntTo os n)) = 0 := by
        rw [List.countP_eq_zero]
        intro x hx
        have := (pl_at _ _ (hpos x hx)).2
        show ¬ decide (plI (cntTo os n) x = (k : Int)) = true
        rw [decide_eq_true_iff]
        unfold plI
        omega
      rw [this]
      rfl
  · simp only [List.mem_map] at hy
    obtain ⟨x, hx, rfl⟩ := hy
    have := (pl_at _ _ (hpos x hx)).2
    unfold plI
    exact ⟨by omega, by omega⟩

/-- The rows of u and v are apart. -/
def Apart (u v : Value) : Prop := ∀ b, u.ownBlock = some b → v.ownBlock ≠ some b
theorem Apart.symm {u v : Value} (h : Apart u v) : Apart v u := fun b e e' => h b e' e
theorem Apart.nil (v : Value) (n c : Nat) : Apart (.slice none n c) v := fun b e => by cases e

section
variable {w w' : World} {B : Nat} {u v v' : Value} {xs : List Int}
theorem OwnI.beside (h : OwnI w B u xs) (ha : Apart u v) (hk : ∀ b, b < w.heap.size → v.ownBlock ≠ some b → w'.heap[b]? = w.heap[b]?) : OwnI w' B u xs := h.keep fun b e => hk b (h.lt b e).2 (ha b e)
theorem OwnI.grows (h : OwnI w B u xs) (ha : Apart u v) (hob : v'.ownBlock = v.ownBlock ∨ ∀ b, v'.ownBlock = some b → w.heap.size < b) : Apart u v' := fun b e e' => by
  rcases hob with h1 | h1
  · rw [h1] at e'
    exact ha b e e'
  · have := h1 b e'
    have := (h.lt b e).2
    omega
end

end Go.Proofs.Ytambnijbbnohfaa
