/- FrontierCloses: the workers as a machine; what they owe. No program in sight. -/
import Derived.Test.YtokdalilnckkoaaStk
namespace Go.Proofs.Ytokdalilnckkoaa
open Go.RowKit

/-- A worker: the index of its operation, the items to be pushed, whether it has an item, whether it has ended. -/
structure CW where
  ix : Option Nat
  todo : List Int
  having : Bool
  ended : Bool

def wnext (m : Mem Int) (ops : List (Nat × OpS)) (c o : Nat) (w : CW) : Mem Int × List (Nat × OpS) × CW :=
  match w.todo with
  | x :: r => (addCell m c x, ops ++ [(o, opPush c)], { w with ix := some ops.length, todo := r })
  | [] => if w.having then (m, ops ++ [(o, opDone)], { w with ix := some ops.length, having := false }) else (m, ops ++ [(o, opTake)], { w with ix := some ops.length })

/-- What a worker does with the result of an operation. -/
def wfin (m : Mem Int) (w : CW) (s : OpS) (seen : List Int) : CW × List Int :=
  if s.fin then
    if s.res = 1 then ({ w with ix := none, having := true, todo := if 1 < m.item (s.at_.getD 0) then [m.item (s.at_.getD 0) / 2, m.item (s.at_.getD 0) - m.item (s.at_.getD 0) / 2] else w.todo }, seen ++ [m.item (s.at_.getD 0)])
    else if s.res = 3 then ({ w with ix := none, ended := true }, seen) else ({ w with ix := none }, seen)
  else (w, seen)

/-- How items, and what is owed, are counted. -/
structure Om where
  stack : Int → Int
  todo : Int → Int
  begun : Int → Int
  hv : Int

def opv (Ω : Om) (m : Mem Int) (s : OpS) : Int :=
  if s.fin then 0 else if s.pc = 1 then Ω.todo (m.item (s.at_.getD 0)) else if s.pc ≤ 3 then Ω.begun (m.item (s.at_.getD 0)) else if s.pc = 7 then Ω.hv else 0
def ixv (Ω : Om) (m : Mem Int) (ops : List (Nat × OpS)) : Option Nat → Int
  | none => 0
  | some i => match ops[i]? with | some p => opv Ω m p.2 | none => 0
def wkv (Ω : Om) (m : Mem Int) (ops : List (Nat × OpS)) (w : CW) : Int := (w.todo.map Ω.todo).sum + (if w.having then Ω.hv else 0) + ixv Ω m ops w.ix
def Tot (Ω : Om) (m : Mem Int) (ops : List (Nat × OpS)) (L : List Nat) (ws : List CW) : Int := (L.map fun c => Ω.stack (m.item c)).sum + (ws.map (wkv Ω m ops)).sum

theorem sum_set {α : Type} {f f' : α → Int} : ∀ {ws : List α} {k : Nat} {w w' : α}, ws[k]? = some w → (∀ j v, j ≠ k → ws[j]? = some v → f' v = f v) → ((ws.set k w').map f').sum = (ws.map f).sum - f w + f' w'
  | [], k, w, w', h, _ => by simp at h
  | a :: ws, 0, w, w', h, hj => by
    simp at h
    subst h
    have e : ws.map f' = ws.map f := List.map_congr_left fun v hv => by
      obtain ⟨j, hj', rfl⟩ := List.mem_iff_getElem.1 hv
      exact hj (j + 1) _ (by omega) (by simp)
    simp only [List.set_cons_zero, List.map_cons, List.sum_cons, e]
    omega
  | a :: ws, k + 1, w, w', h, hj => by
    simp at h
    have ih := sum_set (w' := w') h (fun j v hjk hv => hj (j + 1) v (by omega) (by simpa using hv))
    have e := hj 0 a (by omega) (by simp)
    simp only [List.set_cons_succ, List.map_cons, List.sum_cons, ih, e]
    omega
theorem sum_nonneg {l : List Int} : (∀ x ∈ l, 0 ≤ x) → 0 ≤ l.sum := by
  induction l with
  | nil => simp
  | cons a l ih =>
    intro h
    have h1 := h a (by simp)
    have h2 := ih fun x hx => h x (by simp [hx])
    rw [List.sum_cons]
    omega
theorem sum_zero {l : List Int} : (∀ x ∈ l, 0 ≤ x) → l.sum = 0 → ∀ x ∈ l, x = 0 := by
  induction l with
  | nil => intro _ _ x hx; cases hx
  | cons a l ih =>
    intro h hs x hx
    have h1 := h a (by simp)
    have h2 := sum_nonneg fun x hx => h x (List.mem_cons_of_mem a hx)
    rw [List.sum_cons] at hs
    rcases List.mem_cons.1 hx with rfl | hx
    · omega
    · exact ih (fun x hx => h x (by simp [hx])) (by omega) x hx

theorem Chain.unique {m : Mem Int} : ∀ {p : Option Nat} {L L' : List Nat}, Chain m p L → Chain m p L' → L = L'
  | _, [], [], _, _ => rfl
  | p, [], c :: L', h, ⟨h', _⟩ => by rw [show p = none from h] at h'; cases h'
  | p, c :: L, [], ⟨h', _⟩, h => by rw [show p = none from h] at h'; cases h'
  | p, c :: L, d :: L', ⟨h1, _, h2⟩, ⟨h3, _, h4⟩ => by
    rw [h1] at h3
    injection h3 with h3
    subst h3
    rw [Chain.unique h2 h4]

/-- The stack behind a step. -/
def stkStep (m : Mem Int) (s : OpS) (L : List Nat) : List Nat :=
  if s.fin = false ∧ s.pc = 3 ∧ m.top = m.below (s.at_.getD 0) then s.at_.getD 0 :: L else if s.fin = false ∧ s.pc = 5 ∧ m.top = s.at_ then L.tail else L

theorem Stk.chain {m : Mem Int} {ops : List (Nat × OpS)} (h : Stk m ops) {i o : Nat} {s : OpS} (hi : ops[i]? = some (o, s)) {L : List Nat} (hL : Chain m m.top L) : Chain (stp m s).1 (stp m s).1.top (stkStep m s L) ∧ (s.fin = false → s.pc = 5 → m.top = s.at_ → ∃ c L', s.at_ = some c ∧ L = c :: L') := by
  have hok := h.okO _ (List.mem_of_getElem? hi)
  have hpc := h.pc _ (List.mem_of_getElem? hi)
  obtain ⟨L0, hL0, hP⟩ := h.ex
  obtain rfl := Chain.unique hL hL0
  obtain ⟨pc, at_, fin, res⟩ := s
  dsimp only at hok hpc ⊢
  cases fin with
  | true => exact ⟨by simpa [stp, stkStep] using hL, fun e => by cases e⟩
  | false =>
    match pc with
    | 0 => omega
    | n + 8 => omega
    | 1 => exact ⟨by simp [stkStep, stp]; exact hL.keep (fun _ _ => rfl) (fun _ hc => hc), fun _ e => by cases e⟩
    | 2 =>
      obtain ⟨c, rfl⟩ := hok.has (by simp)
      have hcL : c ∉ L := fun hc => h.unf hi rfl rfl rfl ((hP.mem_iff).1 (List.mem_append.2 (.inl hc)))
      refine ⟨?_, fun _ e => by cases e⟩
      simp [stkStep, stp]
      exact hL.keep (fun d hd => upd_other _ _ (fun e => hcL (e ▸ hd))) (fun _ hc => hc)
    | 3 =>
      obtain ⟨c, rfl⟩ := hok.has (by simp)
      have hcm : c ∈ m.cells := hok.at_ c rfl
      refine ⟨?_, fun _ e => by cases e⟩
      by_cases ht : m.top = m.below c
      · simp [stkStep, stp, ht]
        refine ⟨rfl, hcm, ?_⟩
        show Chain _ (m.below c) L
        rw [← ht]
        exact hL.keep (fun _ _ => rfl) (fun _ hc => hc)
      · simpa [stkStep, stp, ht] using hL
    | 4 => exact ⟨by simpa [stkStep, stp] using hL, fun _ e => by cases e⟩
    | 5 =>
      obtain ⟨c, rfl⟩ := hok.has (by simp)
      by_cases ht : m.top = some c
      · cases L with
        | nil => rw [show m.top = none from hL] at ht; cases ht
        | cons d L =>
          obtain ⟨hd, _, hr'⟩ := hL
          rw [ht] at hd
          injection hd with hd
          subst hd
          refine ⟨?_, fun _ _ _ => ⟨c, L, rfl, rfl⟩⟩
          simp [stkStep, stp, ht]
          exact hr'.keep (fun _ _ => rfl) (fun _ hc => hc)
      · exact ⟨by simpa [stkStep, stp, ht] using hL, fun _ _ e => absurd e ht⟩
    | 6 => exact ⟨by simpa [stkStep, stp] using hL, fun _ e => by cases e⟩
    | 7 => exact ⟨by simp [stkStep, stp]; exact hL.keep (fun _ _ => rfl) (fun _ hc => hc), fun _ e => by cases e⟩

end Go.Proofs.Ytokdalilnckkoaa
