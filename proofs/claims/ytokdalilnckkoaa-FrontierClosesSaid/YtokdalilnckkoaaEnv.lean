/- The calls of a law: what they do to the machine, and what they leave alone. -/
import Derived.Test.YtokdalilnckkoaaExt
namespace Go.Proofs.Ytokdalilnckkoaa
open Go.RowKit Go.Shelf

/-- From the pointer p on, the cells L lie below each other. -/
def Chain {α : Type} (m : Mem α) : Option Nat → List Nat → Prop
  | p, [] => p = none
  | p, c :: r => p = some c ∧ c ∈ m.cells ∧ Chain m (m.below c) r

/-- The blocks of a machine lie at B or beyond. -/
structure Up {α : Type} (B g : Nat) (m : Mem α) (ops : List (Nat × OpS)) : Prop where
  g : B ≤ g
  cells : ∀ c ∈ m.cells, B ≤ c
  ops : ∀ p ∈ ops, B ≤ p.1
theorem Up.ch {α : Type} {B g : Nat} {m : Mem α} {ops : List (Nat × OpS)} (h : Up B g m ops) {o : Nat} (ho : B ≤ o) : ∀ b ∈ o :: g :: m.cells, B ≤ b := by
  intro b hb
  rcases List.mem_cons.1 hb with rfl | hb
  · exact ho
  · rcases List.mem_cons.1 hb with rfl | hb
    · exact h.g
    · exact h.cells b hb
theorem Up.set {α : Type} {B g : Nat} {m m' : Mem α} {ops : List (Nat × OpS)} (h : Up B g m ops) {i o : Nat} (s : OpS) (ho : B ≤ o) (hc : m'.cells = m.cells) : Up B g m' (ops.set i (o, s)) :=
  ⟨h.g, by rw [hc]; exact h.cells, fun p hp => by
    rcases List.mem_or_eq_of_mem_set hp with hp | rfl
    · exact h.ops p hp
    · exact ho⟩
theorem Up.add {α : Type} {B g : Nat} {m : Mem α} {ops : List (Nat × OpS)} (h : Up B g m ops) {o : Nat} (s : OpS) (ho : B ≤ o) : Up B g m (ops ++ [(o, s)]) :=
  ⟨h.g, h.cells, fun p hp => by
    rcases List.mem_append.1 hp with hp | hp
    · exact h.ops p hp
    · rw [List.mem_singleton] at hp
      subst hp
      exact ho⟩
theorem Up.cell {α : Type} {B g : Nat} {m : Mem α} {ops : List (Nat × OpS)} (h : Up B g m ops) {c : Nat} (x : α) (hc : B ≤ c) : Up B g (addCell m c x) ops :=
  ⟨h.g, fun d hd => by
    rcases List.mem_append.1 hd with hd | hd
    · exact h.cells d hd
    · rw [List.mem_singleton] at hd
      subst hd
      exact hc, h.ops⟩
theorem allSteps_cells {α : Type} : ∀ (n : Nat) (m : Mem α) (s : OpS), (allSteps n m s).1.cells = m.cells ∧ (allSteps n m s).1.item = m.item
  | 0, _, _ => ⟨rfl, rfl⟩
  | n + 1, m, s => by
    unfold allSteps
    split
    · exact ⟨rfl, rfl⟩
    · have h1 := allSteps_cells n (stp m s).1 (stp m s).2.1
      have h2 := stp_cells m s
      exact ⟨h1.1.trans h2.1, h1.2.trans h2.2⟩


theorem RelI.st {w : World} {g : Nat} {m : Mem Int} {ops : List (Nat × OpS)} (h : RelI w g m ops) : ∀ {p : Option Nat} {L : List Nat}, Chain m p L → StI w.heap.size w p (L.map m.item)
  | _, [], hc => hc
  | _, c :: _, ⟨hp, hc, hr⟩ => ⟨c, m.below c, hp, Bk.lt (h.cell c hc), h.cell c hc, h.st hr⟩
theorem RelI.iter {w : World} {g : Nat} {m : Mem Int} {ops : List (Nat × OpS)} (h : RelI w g m ops) {L : List Nat} (hc : Chain m m.top L) : IterI w (some ⟨g, 0, none⟩) (L.map m.item) := iterI h.fr (h.st hc)

/-- All blocks but those of frontiers, operations and cells lie as they lay. -/
structure FmI (w w' : World) : Prop where
  size : w.heap.size ≤ w'.heap.size
  keep : ∀ b, b < w.heap.size → (∀ cs t, w.heap[b]? = some (.cells cs t (0, 0)) → t ≠ 79 ∧ t ≠ 83 ∧ t ≠ 81) → w'.heap[b]? = w.heap[b]?
theorem FmI.refl (w : World) : FmI w w := ⟨Nat.le_refl _, fun _ _ _ => rfl⟩
theorem FmI.trans {w w' w'' : World} (h : FmI w w') (k : FmI w' w'') : FmI w w'' := ⟨Nat.le_trans h.size k.size, fun b hb ht => by
  have e := h.keep b hb ht
  rw [← e] at ht
  exact (k.keep b (Nat.lt_of_lt_of_le hb h.size) ht).trans e⟩
theorem FmI.below {w w' : World} (h : Below w.heap.size w w') : FmI w w' := ⟨h.size, fun b hb _ => h.block b hb⟩
theorem FmI.bk {w w' : World} (h : FmI w w') {b t : Nat} {cs : Array Value} (hb : Bk w b t cs) (ht : t ≠ 79 ∧ t ≠ 83 ∧ t ≠ 81) : Bk w' b t cs := hb.keep (h.keep b hb.lt fun cs' t' e => by
  have : some (Obj.cells cs t (0, 0)) = some (.cells cs' t' (0, 0)) := Eq.trans (Eq.symm hb) e
  injection this with this
  injection this with _ this
  subst this
  exact ht)

structure EnI (w0 w : World) (g : Nat) (m : Mem Int) (ops : List (Nat × OpS)) : Prop where
  rel : RelI w g m ops
  up : Up w0.heap.size g m ops
  bel : Below w0.heap.size w0 w

section
variable {w0 w w' : World} {g : Nat} {m m' : Mem Int} {ops : List (Nat × OpS)} {i o : Nat} {s s' : OpS}
theorem EnI.fm (h : EnI w0 w g m ops) (hi : ops[i]? = some (o, s)) (hc : Ch w w' (o :: g :: m.cells)) : FmI w w' := ⟨by rw [hc.size]; exact Nat.le_refl _, fun b _ ht => hc.block b fun hm => by
  have key : ∀ (b' t : Nat) (cs : Array Value), b = b' → Bk w b' t cs → t ≠ 79 ∧ t ≠ 83 ∧ t ≠ 81 := fun b' t cs e hb => by subst e; exact ht cs t hb
  rcases List.mem_cons.1 hm with e | hm
  · exact (key _ _ _ e (h.rel.op_at hi)).2.1 rfl
  · rcases List.mem_cons.1 hm with e | hm
    · exact (key _ _ _ e h.rel.fr).1 rfl
    · exact (key _ _ _ rfl (h.rel.cell b hm)).2.2 rfl⟩
theorem EnI.change (h : EnI w0 w g m ops) (hi : ops[i]? = some (o, s)) (hr : RelI w' g m' (ops.set i (o, s'))) (hm : m'.cells = m.cells) (hc : Ch w w' (o :: g :: m.cells)) : EnI w0 w' g m' (ops.set i (o, s')) := by
  have ho := h.up.ops _ (List.mem_of_getElem? hi)
  exact ⟨hr, h.up.set s' ho hm, h.bel.trans (hc.below (h.up.ch ho))⟩
theorem EnI.grow (h : EnI w0 w g m ops) (hb : Below w.heap.size w w') : EnI w0 w' g m ops := ⟨h.rel.below hb, h.up, h.bel.trans (hb.mono h.bel.size)⟩
theorem EnI.still (h : EnI w0 w g m ops) (hb : Ch w w' []) : EnI w0 w' g m ops := ⟨h.rel.still hb, h.up, h.bel.trans (hb.below (by simp))⟩
/-- A block of the caller's own has changed. -/
theorem EnI.own (h : EnI w0 w g m ops) {b t : Nat} {cs : Array Value} (hb : Bk w b t cs) (ht : t ≠ 79 ∧ t ≠ 83 ∧ t ≠ 81) (hB : w0.heap.size ≤ b) (hc : Ch w w' [b]) : EnI w0 w' g m ops :=
  ⟨h.rel.keep hc (by simpa using Bk.ne h.rel.fr hb (Ne.symm ht.1)) (fun c hm => by simpa using Bk.ne (h.rel.cell c hm) hb (Ne.symm ht.2.2)) (fun p hp => by simpa using Bk.ne (h.rel.op p hp) hb (Ne.symm ht.2.1)), h.up, h.bel.trans (hc.below (by simpa using hB))⟩
end

section
variable (w0 w : World) (g : Nat) (m : Mem Int) (ops : List (Nat × OpS)) (h : EnI w0 w g m ops)
include h
theorem e_pushI (x : Int) : Calls Try.prog 9 #[.pointer (some ⟨g, 0, none⟩), evI x] w fun e w' => e = .returned (.pointer (some ⟨w.heap.size + 1, 0, none⟩)) ∧ EnI w0 w' g (addCell m w.heap.size x) (ops ++ [(w.heap.size + 1, opPush w.heap.size)]) ∧ FmI w w' := by
  refine (pushesI w g m ops h.rel x).mono ?_
  rintro e w' ⟨rfl, hr, hb⟩
  have hs := h.bel.size
  exact ⟨rfl, ⟨hr, (h.up.cell x hs).add _ (by omega), h.bel.trans (hb.mono hs)⟩, .below hb⟩
theorem e_takeI : Calls Try.prog 10 #[.pointer (some ⟨g, 0, none⟩)] w fun e w' => e = .returned (.pointer (some ⟨w.heap.size, 0, none⟩)) ∧ EnI w0 w' g m (ops ++ [(w.heap.size, opTake)]) ∧ FmI w w' := by
  refine (takesI w g m ops h.rel).mono ?_
  rintro e w' ⟨rfl, hr, hb⟩
  have hs := h.bel.size
  exact ⟨rfl, ⟨hr, h.up.add _ hs, h.bel.trans (hb.mono hs)⟩, .below hb⟩
theorem e_stepI (i o : Nat) (s : OpS) (hi : ops[i]? = some (o, s)) (h1 : -900000 ≤ m.pd) (h2 : m.pd ≤ 900000) : Calls Try.prog 11 #[.pointer (some ⟨o, 0, none⟩)] w fun e w' => e = .returned (.bool (stp m s).2.2) ∧ EnI w0 w' g (stp m s).1 (ops.set i (o, (stp m s).2.1)) ∧ FmI w w' := by
  refine (moveI w g m ops h.rel i o s hi h1 h2 ).mono ?_
  rintro e w' ⟨rfl, hr, hc⟩
  exact ⟨rfl, h.change hi hr (stp_cells m s).1 hc, h.fm hi hc⟩
theorem e_runI (i o : Nat) (s : OpS) (hi : ops[i]? = some (o, s)) (h1 : -900000 ≤ m.pd - 5) (h2 : m.pd + 5 ≤ 900000) (hpc : PcI s) : Calls Try.prog 12 #[.pointer (some ⟨o, 0, none⟩)] w fun e w' =>
    e = .returned (.tuple #[evI (gotOfI (allSteps 5 m s).1 (allSteps 5 m s).2), .int .i64 (resOf (allSteps 5 m s).2)]) ∧ EnI w0 w' g (allSteps 5 m s).1 (ops.set i (o, (allSteps 5 m s).2)) ∧ FmI w w' := by
  refine (runI w g m ops h.rel i o s hi h1 h2 hpc).mono ?_
  rintro e w' ⟨rfl, hr, hc⟩
  exact ⟨rfl, h.change hi hr (allSteps_cells 5 m s).1 hc, h.fm hi hc⟩
theorem e_showI (i o : Nat) (s : OpS) (hi : ops[i]? = some (o, s)) : Calls Try.prog 13 #[.pointer (some ⟨o, 0, none⟩)] w fun e w' => e = .returned (.tuple #[evI (gotOfI m s), .int .i64 (resOf s)]) ∧ EnI w0 w' g m ops ∧ FmI w w' := by
  refine (showI w g m ops h.rel i o s hi).mono ?_
  rintro e w' ⟨rfl, hc⟩
  exact ⟨rfl, h.still hc, ⟨by rw [hc.size]; exact Nat.le_refl _, fun b _ _ => hc.block b (by simp)⟩⟩
theorem e_lenI (L : List Nat) (hL : Chain m m.top L) (hl : L.length ≤ 1000000) : Calls Try.prog 17 #[.pointer (some ⟨g, 0, none⟩)] w fun e w' => e = .returned (.int .i64 L.length) ∧ EnI w0 w' g m ops ∧ FmI w w' := by
  refine (lenI _ _ w (h.rel.iter hL) (by simpa using hl)).mono ?_
  rintro e w' ⟨rfl, hb⟩
  exact ⟨by simp, h.grow hb, .below hb⟩
theorem e_pendingI : Calls Try.prog 15 #[.pointer (some ⟨g, 0, none⟩)] w fun e w' => e = .returned (.int .i64 m.pd) ∧ w = w' := pendingI g m.top m.pd w h.rel.fr
end
theorem e_newI (w0 w : World) (hb : Below w0.heap.size w0 w) : Calls Try.prog 8 #[] w fun e w' => e = .returned (.pointer (some ⟨w.heap.size, 0, none⟩)) ∧ EnI w0 w' w.heap.size mem0I [] ∧ FmI w w' := by
  refine (makeI w).mono ?_
  rintro e w' ⟨rfl, hr, hb'⟩
  have hs := hb.size
  exact ⟨rfl, ⟨hr, ⟨hs, fun c hc => (by cases hc), fun p hp => (by cases hp)⟩, hb.trans (hb'.mono hs)⟩, .below hb'⟩

theorem RelS.st {w : World} {g : Nat} {m : Mem Bs} {ops : List (Nat × OpS)} (h : RelS w g m ops) : ∀ {p : Option Nat} {L : List Nat}, Chain m p L → StS w.heap.size w p (L.map m.item)
  | _, [], hc => hc
  | _, c :: _, ⟨hp, hc, hr⟩ => ⟨c, m.below c, hp, Bk.lt (h.cell c hc), h.cell c hc, h.st hr⟩
theorem RelS.iter {w : World} {g : Nat} {m : Mem Bs} {ops : List (Nat × OpS)} (h : RelS w g m ops) {L : List Nat} (hc : Chain m m.top L) : IterS w (some ⟨g, 0, none⟩) (L.map m.item) := iterS h.fr (h.st hc)

/-- All blocks but those of frontiers, operations and cells lie as they lay. -/
structure FmS (w w' : World) : Prop where
  size : w.heap.size ≤ w'.heap.size
  keep : ∀ b, b < w.heap.size → (∀ cs t, w.heap[b]? = some (.cells cs t (0, 0)) → t ≠ 94 ∧ t ≠ 98 ∧ t ≠ 96) → w'.heap[b]? = w.heap[b]?
theorem FmS.refl (w : World) : FmS w w := ⟨Nat.le_refl _, fun _ _ _ => rfl⟩
theorem FmS.trans {w w' w'' : World} (h : FmS w w') (k : FmS w' w'') : FmS w w'' := ⟨Nat.le_trans h.size k.size, fun b hb ht => by
  have e := h.keep b hb ht
  rw [← e] at ht
  exact (k.keep b (Nat.lt_of_lt_of_le hb h.size) ht).trans e⟩
theorem FmS.below {w w' : World} (h : Below w.heap.size w w') : FmS w w' := ⟨h.size, fun b hb _ => h.block b hb⟩
theorem FmS.bk {w w' : World} (h : FmS w w') {b t : Nat} {cs : Array Value} (hb : Bk w b t cs) (ht : t ≠ 94 ∧ t ≠ 98 ∧ t ≠ 96) : Bk w' b t cs := hb.keep (h.keep b hb.lt fun cs' t' e => by
  have : some (Obj.cells cs t (0, 0)) = some (.cells cs' t' (0, 0)) := Eq.trans (Eq.symm hb) e
  injection this with this
  injection this with _ this
  subst this
  exact ht)

structure EnS (w0 w : World) (g : Nat) (m : Mem Bs) (ops : List (Nat × OpS)) : Prop where
  rel : RelS w g m ops
  up : Up w0.heap.size g m ops
  bel : Below w0.heap.size w0 w

section
variable {w0 w w' : World} {g : Nat} {m m' : Mem Bs} {ops : List (Nat × OpS)} {i o : Nat} {s s' : OpS}
theorem EnS.fm (h : EnS w0 w g m ops) (hi : ops[i]? = some (o, s)) (hc : Ch w w' (o :: g :: m.cells)) : FmS w w' := ⟨by rw [hc.size]; exact Nat.le_refl _, fun b _ ht => hc.block b fun hm => by
  have key : ∀ (b' t : Nat) (cs : Array Value), b = b' → Bk w b' t cs → t ≠ 94 ∧ t ≠ 98 ∧ t ≠ 96 := fun b' t cs e hb => by subst e; exact ht cs t hb
  rcases List.mem_cons.1 hm with e | hm
  · exact (key _ _ _ e (h.rel.op_at hi)).2.1 rfl
  · rcases List.mem_cons.1 hm with e | hm
    · exact (key _ _ _ e h.rel.fr).1 rfl
    · exact (key _ _ _ rfl (h.rel.cell b hm)).2.2 rfl⟩
theorem EnS.change (h : EnS w0 w g m ops) (hi : ops[i]? = some (o, s)) (hr : RelS w' g m' (ops.set i (o, s'))) (hm : m'.cells = m.cells) (hc : Ch w w' (o :: g :: m.cells)) : EnS w0 w' g m' (ops.set i (o, s')) := by
  have ho := h.up.ops _ (List.mem_of_getElem? hi)
  exact ⟨hr, h.up.set s' ho hm, h.bel.trans (hc.below (h.up.ch ho))⟩
theorem EnS.grow (h : EnS w0 w g m ops) (hb : Below w.heap.size w w') : EnS w0 w' g m ops := ⟨h.rel.below hb, h.up, h.bel.trans (hb.mono h.bel.size)⟩
theorem EnS.still (h : EnS w0 w g m ops) (hb : Ch w w' []) : EnS w0 w' g m ops := ⟨h.rel.still hb, h.up, h.bel.trans (hb.below (by simp))⟩
/-- A block of the caller's own has changed. -/
theorem EnS.own (h : EnS w0 w g m ops) {b t : Nat} {cs : Array Value} (hb : Bk w b t cs) (ht : t ≠ 94 ∧ t ≠ 98 ∧ t ≠ 96) (hB : w0.heap.size ≤ b) (hc : Ch w w' [b]) : EnS w0 w' g m ops :=
  ⟨h.rel.keep hc (by simpa using Bk.ne h.rel.fr hb (Ne.symm ht.1)) (fun c hm => by simpa using Bk.ne (h.rel.cell c hm) hb (Ne.symm ht.2.2)) (fun p hp => by simpa using Bk.ne (h.rel.op p hp) hb (Ne.symm ht.2.1)), h.up, h.bel.trans (hc.below (by simpa using hB))⟩
end

section
variable (w0 w : World) (g : Nat) (m : Mem Bs) (ops : List (Nat × OpS)) (h : EnS w0 w g m ops)
include h
theorem e_pushS (x : Bs) : Calls Try.prog 25 #[.pointer (some ⟨g, 0, none⟩), evS x] w fun e w' => e = .returned (.pointer (some ⟨w.heap.size + 1, 0, none⟩)) ∧ EnS w0 w' g (addCell m w.heap.size x) (ops ++ [(w.heap.size + 1, opPush w.heap.size)]) ∧ FmS w w' := by
  refine (pushesS w g m ops h.rel x).mono ?_
  rintro e w' ⟨rfl, hr, hb⟩
  have hs := h.bel.size
  exact ⟨rfl, ⟨hr, (h.up.cell x hs).add _ (by omega), h.bel.trans (hb.mono hs)⟩, .below hb⟩
theorem e_takeS : Calls Try.prog 29 #[.pointer (some ⟨g, 0, none⟩)] w fun e w' => e = .returned (.pointer (some ⟨w.heap.size, 0, none⟩)) ∧ EnS w0 w' g m (ops ++ [(w.heap.size, opTake)]) ∧ FmS w w' := by
  refine (takesS w g m ops h.rel).mono ?_
  rintro e w' ⟨rfl, hr, hb⟩
  have hs := h.bel.size
  exact ⟨rfl, ⟨hr, h.up.add _ hs, h.bel.trans (hb.mono hs)⟩, .below hb⟩
theorem e_stepS (i o : Nat) (s : OpS) (hi : ops[i]? = some (o, s)) (h1 : -900000 ≤ m.pd) (h2 : m.pd ≤ 900000) (hpc : 1 ≤ s.pc ∧ s.pc ≤ 6) : Calls Try.prog 30 #[.pointer (some ⟨o, 0, none⟩)] w fun e w' => e = .returned (.bool (stp m s).2.2) ∧ EnS w0 w' g (stp m s).1 (ops.set i (o, (stp m s).2.1)) ∧ FmS w w' := by
  refine (moveS w g m ops h.rel i o s hi h1 h2 hpc).mono ?_
  rintro e w' ⟨rfl, hr, hc⟩
  exact ⟨rfl, h.change hi hr (stp_cells m s).1 hc, h.fm hi hc⟩
theorem e_runS (i o : Nat) (s : OpS) (hi : ops[i]? = some (o, s)) (h1 : -900000 ≤ m.pd - 5) (h2 : m.pd + 5 ≤ 900000) (hpc : PcS s) : Calls Try.prog 26 #[.pointer (some ⟨o, 0, none⟩)] w fun e w' =>
    e = .returned (.tuple #[evS (gotOfS (allSteps 5 m s).1 (allSteps 5 m s).2), .int .i64 (resOf (allSteps 5 m s).2)]) ∧ EnS w0 w' g (allSteps 5 m s).1 (ops.set i (o, (allSteps 5 m s).2)) ∧ FmS w w' := by
  refine (runS w g m ops h.rel i o s hi h1 h2 hpc).mono ?_
  rintro e w' ⟨rfl, hr, hc⟩
  exact ⟨rfl, h.change hi hr (allSteps_cells 5 m s).1 hc, h.fm hi hc⟩
theorem e_showS (i o : Nat) (s : OpS) (hi : ops[i]? = some (o, s)) : Calls Try.prog 31 #[.pointer (some ⟨o, 0, none⟩)] w fun e w' => e = .returned (.tuple #[evS (gotOfS m s), .int .i64 (resOf s)]) ∧ EnS w0 w' g m ops ∧ FmS w w' := by
  refine (showS w g m ops h.rel i o s hi).mono ?_
  rintro e w' ⟨rfl, hc⟩
  exact ⟨rfl, h.still hc, ⟨by rw [hc.size]; exact Nat.le_refl _, fun b _ _ => hc.block b (by simp)⟩⟩
theorem e_lenS (L : List Nat) (hL : Chain m m.top L) (hl : L.length ≤ 1000000) : Calls Try.prog 27 #[.pointer (some ⟨g, 0, none⟩)] w fun e w' => e = .returned (.int .i64 L.length) ∧ EnS w0 w' g m ops ∧ FmS w w' := by
  refine (lenS _ _ w (h.rel.iter hL) (by simpa using hl)).mono ?_
  rintro e w' ⟨rfl, hb⟩
  exact ⟨by simp, h.grow hb, .below hb⟩
theorem e_pendingS : Calls Try.prog 32 #[.pointer (some ⟨g, 0, none⟩)] w fun e w' => e = .returned (.int .i64 m.pd) ∧ w = w' := pendingS g m.top m.pd w h.rel.fr
end
theorem e_newS (w0 w : World) (hb : Below w0.heap.size w0 w) : Calls Try.prog 24 #[] w fun e w' => e = .returned (.pointer (some ⟨w.heap.size, 0, none⟩)) ∧ EnS w0 w' w.heap.size mem0S [] ∧ FmS w w' := by
  refine (makeS w).mono ?_
  rintro e w' ⟨rfl, hr, hb'⟩
  have hs := hb.size
  exact ⟨rfl, ⟨hr, ⟨hs, fun c hc => (by cases hc), fun p hp => (by cases hp)⟩, hb.trans (hb'.mono hs)⟩, .below hb'⟩

end Go.Proofs.Ytokdalilnckkoaa
