/- The machine of operations on a frontier: no program in sight. -/
import Derived.Test.YtokdalilnckkoaaOps
namespace Go.Proofs.Ytokdalilnckkoaa
open Go.RowKit

/-- An operation: pc 1 begin, 2 read, 3 put, 4 look, 5 cut, 6 count, others report. -/
structure OpS where
  pc : Nat
  at_ : Option Nat
  fin : Bool
  res : Int

/-- A frontier: the top, the number of pending items, the cells, their items and what lies below them. -/
structure Mem (α : Type) where
  top : Option Nat
  pd : Int
  cells : List Nat
  item : Nat → α
  below : Nat → Option Nat

def upd {β : Type} (f : Nat → β) (c : Nat) (v : β) : Nat → β := fun d => if d = c then v else f d
theorem upd_same {β : Type} (f : Nat → β) (c : Nat) (v : β) : upd f c v c = v := by simp [upd]
theorem upd_other {β : Type} (f : Nat → β) {c d : Nat} (v : β) (h : d ≠ c) : upd f c v d = f d := by simp [upd, h]

/-- A step. -/
def stp {α : Type} (m : Mem α) (s : OpS) : Mem α × OpS × Bool :=
  if s.fin then (m, s, true) else
  match s.pc with
  | 1 => ({ m with pd := m.pd + 1 }, { s with pc := 2 }, false)
  | 2 => ({ m with below := upd m.below (s.at_.getD 0) m.top }, { s with pc := 3 }, false)
  | 3 => if m.top = m.below (s.at_.getD 0) then ({ m with top := s.at_ }, { s with pc := 2, fin := true }, true) else (m, { s with pc := 2 }, false)
  | 4 => (m, { s with at_ := m.top, pc := if m.top = none then 6 else 5 }, false)
  | 5 => if m.top = s.at_ then ({ m with top := m.below (s.at_.getD 0) }, { s with pc := 4, res := 1, fin := true }, true) else (m, { s with pc := 4 }, false)
  | 6 => (m, { s with res := if m.pd = 0 then 3 else 2, fin := true }, true)
  | _ => ({ m with pd := m.pd + -1 }, { s with fin := true }, true)

/-- The pointer is nil or one of the cells. -/
def On (C : List Nat) (p : Option Nat) : Prop := ∀ c, p = some c → c ∈ C
theorem on_none (C : List Nat) : On C none := fun _ e => by cases e
theorem on_some {C : List Nat} {c : Nat} (h : c ∈ C) : On C (some c) := fun d e => by cases e; exact h

/-- An operation makes sense. -/
structure OkO {α : Type} (m : Mem α) (s : OpS) : Prop where
  at_ : On m.cells s.at_
  has : s.pc = 1 ∨ s.pc = 2 ∨ s.pc = 3 ∨ s.pc = 5 → ∃ c, s.at_ = some c
  zero : s.fin = false → s.res = 0
  won : s.res = 1 → ∃ c, s.at_ = some c

structure OkM {α : Type} (m : Mem α) : Prop where
  top : On m.cells m.top
  below : ∀ c ∈ m.cells, On m.cells (m.below c)

theorem stp_fin {α : Type} {m : Mem α} {s : OpS} (h : s.fin = true) : stp m s = (m, s, true) := by simp [stp, h]
theorem stp_cells {α : Type} (m : Mem α) (s : OpS) : (stp m s).1.cells = m.cells ∧ (stp m s).1.item = m.item := by
  unfold stp
  split
  · exact ⟨rfl, rfl⟩
  · split <;> first | exact ⟨rfl, rfl⟩ | (split <;> exact ⟨rfl, rfl⟩)
theorem stp_ret {α : Type} (m : Mem α) (s : OpS) : (stp m s).2.2 = (stp m s).2.1.fin := by
  unfold stp
  split
  · rename_i h; exact h.symm
  · rename_i h
    have h : s.fin = false := by simpa using h
    split <;> first | (simp [h]; done) | rfl | (split <;> first | (simp [h]; done) | rfl)

theorem stp_okM {α : Type} {m : Mem α} {s : OpS} (h : OkM m) (ho : OkO m s) : OkM (stp m s).1 := by
  unfold stp
  split
  · exact h
  · split
    · exact ⟨h.top, h.below⟩
    · refine ⟨h.top, fun c hc => ?_⟩
      dsimp only
      unfold upd
      split
      · exact h.top
      · exact h.below c hc
    · split
      · exact ⟨ho.at_, h.below⟩
      · exact h
    · exact h
    · split
      · rename_i h5 _
        obtain ⟨c, e⟩ := ho.has (by simp [h5])
        refine ⟨?_, h.below⟩
        rw [e]
        exact h.below c (ho.at_ c e)
      · exact h
    · exact h
    · exact ⟨h.top, h.below⟩

theorem stp_okO {α : Type} {m : Mem α} {s : OpS} (h : OkM m) (ho : OkO m s) : OkO (stp m s).1 (stp m s).2.1 := by
  obtain ⟨pc, at_, fin, res⟩ := s
  obtain ⟨h1, h2, h3, h4⟩ := ho
  dsimp only at h1 h2 h3 h4
  unfold stp
  split
  · exact ⟨h1, h2, h3, h4⟩
  · rename_i hf
    have hf : fin = false := by simpa using hf
    have h0 := h3 hf
    split
    · rename_i e; dsimp only at e; exact ⟨h1, fun _ => h2 (by simp [e]), h3, h4⟩
    · rename_i e; dsimp only at e; exact ⟨h1, fun _ => h2 (by simp [e]), h3, h4⟩
    · rename_i e; dsimp only at e
      split
      · exact ⟨h1, fun _ => h2 (by simp [e]), fun e => (by cases e), h4⟩
      · exact ⟨h1, fun _ => h2 (by simp [e]), h3, h4⟩
    · refine ⟨h.top, fun hp => ?_, h3, fun e => by simp [h0] at e⟩
      dsimp only at hp ⊢
      split at hp
      · simp at hp
      · rename_i ht
        cases hh : m.top with
        | none => exact absurd hh ht
        | some c => exact ⟨c, rfl⟩
    · rename_i e; dsimp only at e
      split
      · exact ⟨h1, fun hp => (by simp at hp), fun e => (by cases e), fun _ => h2 (by simp [e])⟩
      · exact ⟨h1, fun hp => (by simp at hp), h3, h4⟩
    · rename_i e; dsimp only at e
      refine ⟨h1, fun hp => (by simp [e] at hp), fun e => (by cases e), fun e => ?_⟩
      dsimp only at e
      split at e <;> omega
    · exact ⟨h1, h2, fun e => (by cases e), h4⟩

theorem stp_pc {α : Type} {m : Mem α} {s : OpS} (h : 1 ≤ s.pc ∧ s.pc ≤ 6) : 1 ≤ (stp m s).2.1.pc ∧ (stp m s).2.1.pc ≤ 6 := by
  unfold stp
  split
  · exact h
  · split <;> first | (dsimp only; omega) | (split <;> dsimp only <;> omega) | (dsimp only; split <;> omega)

theorem stp_pd {α : Type} (m : Mem α) (s : OpS) : m.pd - 1 ≤ (stp m s).1.pd ∧ (stp m s).1.pd ≤ m.pd + 1 := by
  unfold stp
  split
  · dsimp only; omega
  · split <;> first | (dsimp only; omega) | (split <;> dsimp only <;> omega)

/-- How many steps an operation needs at most if no other operation performs a step. -/
def mu {α : Type} (m : Mem α) (s : OpS) : Nat :=
  if s.fin then 0 else
  match s.pc with
  | 1 => 5
  | 2 => 2
  | 3 => if m.top = m.below (s.at_.getD 0) then 1 else 3
  | 4 => 2
  | 5 => if m.top = s.at_ then 1 else 3
  | _ => 1
theorem mu_stp {α : Type} (m : Mem α) (s : OpS) (h : s.fin = false) : mu (stp m s).1 (stp m s).2.1 < mu m s := by
  obtain ⟨pc, at_, fin, res⟩ := s
  obtain rfl : fin = false := h
  match pc with
  | 0 => simp [stp, mu]
  | 1 => simp [stp, mu]
  | 2 => simp [stp, mu, upd]
  | 3 => by_cases h : m.top = m.below (at_.getD 0) <;> simp [stp, mu, h]
  | 4 => by_cases h : m.top = none <;> simp [stp, mu, h]
  | 5 => by_cases h : m.top = at_ <;> simp [stp, mu, h]
  | 6 => simp [stp, mu]
  | n + 7 => simp [stp, mu]
theorem mu_le {α : Type} (m : Mem α) (s : OpS) : mu m s ≤ 5 := by
  unfold mu
  split
  · omega
  · split <;> first | omega | (split <;> omega)

/-- All steps of an operation. -/
def allSteps {α : Type} : Nat → Mem α → OpS → Mem α × OpS
  | 0, m, s => (m, s)
  | n + 1, m, s => if s.fin then (m, s) else allSteps n (stp m s).1 (stp m s).2.1
theorem allSteps_fin {α : Type} : ∀ (n : Nat) (m : Mem α) (s : OpS), mu m s ≤ n → (allSteps n m s).2.fin = true
  | 0, m, s, h => by
    cases hf : s.fin with
    | true => exact hf
    | false => have := mu_stp m s hf; omega
  | n + 1, m, s, h => by
    unfold allSteps
    split
    · assumption
    · rename_i hf
      have hf : s.fin = false := by simpa using hf
      have := mu_stp m s hf
      exact allSteps_fin n _ _ (by omega)
theorem allSteps_more {α : Type} : ∀ (n k : Nat) (m : Mem α) (s : OpS), mu m s ≤ n → allSteps (n + k) m s = allSteps n m s
  | 0, k, m, s, h => by
    have hf : s.fin = true := allSteps_fin 0 m s h
    cases k with
    | zero => rfl
    | succ k => simp [allSteps, hf]
  | n + 1, k, m, s, h => by
    rw [Nat.add_right_comm]
    unfold allSteps
    cases hf : s.fin with
    | true => simp
    | false =>
      have := mu_stp m s hf
      simpa using allSteps_more n k _ _ (by omega)

/-- The least number with a property. -/
theorem least {p : Nat → Prop} (h : ∃ n, p n) : ∃ n, p n ∧ ∀ k, p k → n ≤ k := by
  obtain ⟨n, hn⟩ := h
  induction n using Nat.strongRecOn with
  | _ n ih =>
    by_cases hk : ∃ k, k < n ∧ p k
    · obtain ⟨k, h1, h2⟩ := hk
      exact ih k h1 h2
    · exact ⟨n, hn, fun k hp => Nat.le_of_not_lt fun hl => hk ⟨k, hl, hp⟩⟩
open Classical in
noncomputable def lea (p : Nat → Prop) : Nat := if h : ∃ n, p n then Classical.choose (least h) else 0
theorem lea_has {p : Nat → Prop} (h : ∃ n, p n) : p (lea p) := by
  unfold lea
  rw [dif_pos h]
  exact (Classical.choose_spec (least h)).1
theorem lea_le {p : Nat → Prop} {k : Nat} (h : p k) : lea p ≤ k := by
  have hex : ∃ n, p n := ⟨k, h⟩
  unfold lea
  rw [dif_pos hex]
  exact (Classical.choose_spec (least hex)).2 k h

end Go.Proofs.Ytokdalilnckkoaa
