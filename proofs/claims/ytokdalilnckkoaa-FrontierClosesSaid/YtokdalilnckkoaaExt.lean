/- New operations and the machine. -/
import Derived.Test.YtokdalilnckkoaaRuns
namespace Go.Proofs.Ytokdalilnckkoaa
open Go.RowKit Go.Shelf

/-- A new cell. -/
def addCell {α : Type} (m : Mem α) (c : Nat) (x : α) : Mem α := { m with cells := m.cells ++ [c], item := upd m.item c x, below := upd m.below c none }
def opPush (c : Nat) : OpS := ⟨1, some c, false, 0⟩
def opTake : OpS := ⟨4, none, false, 0⟩
def opDone : OpS := ⟨7, none, false, 0⟩
theorem On.more {C : List Nat} {p : Option Nat} (h : On C p) (c : Nat) : On (C ++ [c]) p := fun d e => List.mem_append.2 (.inl (h d e))


def mem0I : Mem Int := ⟨none, 0, [], fun _ => 0, fun _ => none⟩

theorem makeI (w : World) :
    Calls Try.prog 8 #[] w fun e w' => e = .returned (.pointer (some ⟨w.heap.size, 0, none⟩)) ∧ RelI w' w.heap.size mem0I [] ∧ Below w.heap.size w w' := by
  refine (newI w).mono ?_
  rintro e w' ⟨rfl, rfl⟩
  refine ⟨rfl, ⟨Bk.made w _ _, fun c hc => (by cases hc), fun p hp => (by cases hp), ⟨on_none _, fun c hc => by cases hc⟩, fun p hp => (by cases hp), List.nodup_nil⟩, (Below.refl _ w).alloc (Nat.le_refl _) _⟩

section
variable {w w' : World} {g : Nat} {m : Mem Int} {ops : List (Nat × OpS)}
theorem RelI.lt (h : RelI w g m ops) {p : Nat × OpS} (hp : p ∈ ops) : p.1 < w.heap.size := Bk.lt (h.op p hp)
theorem RelI.add (h : RelI w g m ops) (hb : Below w.heap.size w w') {o : Nat} {s : OpS} (ho : w.heap.size ≤ o) (hob : ObI w' o g (fnI s.pc) s.at_ s.fin s.res) (hok : OkO m s) : RelI w' g m (ops ++ [(o, s)]) := by
  have h' := h.below hb
  refine ⟨h'.fr, h'.cell, fun p hp => ?_, h.okM, fun p hp => ?_, ?_⟩
  · rcases List.mem_append.1 hp with hp | hp
    · exact h'.op p hp
    · rw [List.mem_singleton] at hp
      subst hp
      exact hob
  · rcases List.mem_append.1 hp with hp | hp
    · exact h.okO p hp
    · rw [List.mem_singleton] at hp
      subst hp
      exact hok
  · rw [List.map_append, List.nodup_append]
    refine ⟨h.nd, by simp, fun a ha b hb' => ?_⟩
    simp at hb'
    subst hb'
    obtain ⟨p, hp, rfl⟩ := List.mem_map.1 ha
    have := h.lt hp
    omega
theorem RelI.cell_add (h : RelI w g m ops) (hb : Below w.heap.size w w') {c : Nat} {x : Int} (hc : w.heap.size ≤ c) (hcl : ClI w' c (evI x) none) : RelI w' g (addCell m c x) ops := by
  have h' := h.below hb
  have hne : ∀ d ∈ m.cells, d ≠ c := fun d hd => by have := Bk.lt (h.cell d hd); omega
  refine ⟨h'.fr, fun d hd => ?_, h'.op, ⟨h.okM.top.more c, fun d hd => ?_⟩, fun p hp => ?_, h.nd⟩
  · rcases List.mem_append.1 hd with hd | hd
    · simp only [addCell, upd_other _ _ (hne d hd)]
      exact h'.cell d hd
    · rw [List.mem_singleton] at hd
      subst hd
      simp only [addCell, upd_same]
      exact hcl
  · rcases List.mem_append.1 hd with hd | hd
    · simp only [addCell, upd_other _ _ (hne d hd)]
      exact (h.okM.below d hd).more c
    · rw [List.mem_singleton] at hd
      subst hd
      simp only [addCell, upd_same]
      exact on_none _
  · have := h.okO p hp
    exact ⟨this.at_.more c, this.has, this.zero, this.won⟩
end

theorem pushesI (w : World) (g : Nat) (m : Mem Int) (ops : List (Nat × OpS)) (h : RelI w g m ops) (x : Int) :
    Calls Try.prog 9 #[.pointer (some ⟨g, 0, none⟩), evI x] w fun e w' => e = .returned (.pointer (some ⟨w.heap.size + 1, 0, none⟩)) ∧ RelI w' g (addCell m w.heap.size x) (ops ++ [(w.heap.size + 1, opPush w.heap.size)]) ∧ Below w.heap.size w w' := by
  refine (pushI g x w).mono ?_
  rintro e w' ⟨rfl, rfl⟩
  have b1 : Below w.heap.size w (w.alloc (.cells #[evI x, pv none] 81)) := (Below.refl _ w).alloc (Nat.le_refl _) _
  have r1 := h.cell_add b1 (Nat.le_refl _) (x := x) (Bk.made w _ _)
  have hs : (w.alloc (.cells #[evI x, pv none] 81)).heap.size = w.heap.size + 1 := by simp
  have b2 : ∀ q : Obj, Below (w.alloc (.cells #[evI x, pv none] 81)).heap.size (w.alloc (.cells #[evI x, pv none] 81)) ((w.alloc (.cells #[evI x, pv none] 81)).alloc q) := fun q => (Below.refl _ _).alloc (Nat.le_refl _) q
  refine ⟨rfl, r1.add (b2 _) (by rw [hs]; exact Nat.le_refl _) ?_ ⟨on_some (by simp [addCell]), fun _ => ⟨_, rfl⟩, fun _ => rfl, fun _ => ⟨_, rfl⟩⟩, b1.trans ((b2 _).mono (by rw [hs]; omega))⟩
  have := Bk.made (w.alloc (.cells #[evI x, pv none] 81)) 83 #[.pointer (some ⟨g, 0, none⟩), nxt 33 (w.heap.size + 1), pv (some w.heap.size), .bool false, .int .i64 0]
  rw [hs] at this
  exact this

theorem takesI (w : World) (g : Nat) (m : Mem Int) (ops : List (Nat × OpS)) (h : RelI w g m ops) :
    Calls Try.prog 10 #[.pointer (some ⟨g, 0, none⟩)] w fun e w' => e = .returned (.pointer (some ⟨w.heap.size, 0, none⟩)) ∧ RelI w' g m (ops ++ [(w.heap.size, opTake)]) ∧ Below w.heap.size w w' := by
  refine (takeI g w).mono ?_
  rintro e w' ⟨rfl, rfl⟩
  have b : ∀ q : Obj, Below w.heap.size w (w.alloc q) := fun q => (Below.refl _ w).alloc (Nat.le_refl _) q
  exact ⟨rfl, h.add (b _) (Nat.le_refl _) (Bk.made w _ _) ⟨on_none _, fun h => (by simp [opTake] at h), fun _ => rfl, fun e => (by simp [opTake] at e)⟩, b _⟩

def mem0S : Mem Bs := ⟨none, 0, [], fun _ => bs0, fun _ => none⟩

theorem makeS (w : World) :
    Calls Try.prog 24 #[] w fun e w' => e = .returned (.pointer (some ⟨w.heap.size, 0, none⟩)) ∧ RelS w' w.heap.size mem0S [] ∧ Below w.heap.size w w' := by
  refine (newS w).mono ?_
  rintro e w' ⟨rfl, rfl⟩
  refine ⟨rfl, ⟨Bk.made w _ _, fun c hc => (by cases hc), fun p hp => (by cases hp), ⟨on_none _, fun c hc => by cases hc⟩, fun p hp => (by cases hp), List.nodup_nil⟩, (Below.refl _ w).alloc (Nat.le_refl _) _⟩

section
variable {w w' : World} {g : Nat} {m : Mem Bs} {ops : List (Nat × OpS)}
theorem RelS.lt (h : RelS w g m ops) {p : Nat × OpS} (hp : p ∈ ops) : p.1 < w.heap.size := Bk.lt (h.op p hp)
theorem RelS.add (h : RelS w g m ops) (hb : Below w.heap.size w w') {o : Nat} {s : OpS} (ho : w.heap.size ≤ o) (hob : ObS w' o g (fnS s.pc) s.at_ s.fin s.res) (hok : OkO m s) : RelS w' g m (ops ++ [(o, s)]) := by
  have h' := h.below hb
  refine ⟨h'.fr, h'.cell, fun p hp => ?_, h.okM, fun p hp => ?_, ?_⟩
  · rcases List.mem_append.1 hp with hp | hp
    · exact h'.op p hp
    · rw [List.mem_singleton] at hp
      subst hp
      exact hob
  · rcases List.mem_append.1 hp with hp | hp
    · exact h.okO p hp
    · rw [List.mem_singleton] at hp
      subst hp
      exact hok
  · rw [List.map_append, List.nodup_append]
    refine ⟨h.nd, by simp, fun a ha b hb' => ?_⟩
    simp at hb'
    subst hb'
    obtain ⟨p, hp, rfl⟩ := List.mem_map.1 ha
    have := h.lt hp
    omega
theorem RelS.cell_add (h : RelS w g m ops) (hb : Below w.heap.size w w') {c : Nat} {x : Bs} (hc : w.heap.size ≤ c) (hcl : ClS w' c (evS x) none) : RelS w' g (addCell m c x) ops := by
  have h' := h.below hb
  have hne : ∀ d ∈ m.cells, d ≠ c := fun d hd => by have := Bk.lt (h.cell d hd); omega
  refine ⟨h'.fr, fun d hd => ?_, h'.op, ⟨h.okM.top.more c, fun d hd => ?_⟩, fun p hp => ?_, h.nd⟩
  · rcases List.mem_append.1 hd with hd | hd
    · simp only [addCell, upd_other _ _ (hne d hd)]
      exact h'.cell d hd
    · rw [List.mem_singleton] at hd
      subst hd
      simp only [addCell, upd_same]
      exact hcl
  · rcases List.mem_append.1 hd with hd | hd
    · simp only [addCell, upd_other _ _ (hne d hd)]
      exact (h.okM.below d hd).more c
    · rw [List.mem_singleton] at hd
      subst hd
      simp only [addCell, upd_same]
      exact on_none _
  · have := h.okO p hp
    exact ⟨this.at_.more c, this.has, this.zero, this.won⟩
end

theorem pushesS (w : World) (g : Nat) (m : Mem Bs) (ops : List (Nat × OpS)) (h : RelS w g m ops) (x : Bs) :
    Calls Try.prog 25 #[.pointer (some ⟨g, 0, none⟩), evS x] w fun e w' => e = .returned (.pointer (some ⟨w.heap.size + 1, 0, none⟩)) ∧ RelS w' g (addCell m w.heap.size x) (ops ++ [(w.heap.size + 1, opPush w.heap.size)]) ∧ Below w.heap.size w w' := by
  refine (pushS g x w).mono ?_
  rintro e w' ⟨rfl, rfl⟩
  have b1 : Below w.heap.size w (w.alloc (.cells #[evS x, pv none] 96)) := (Below.refl _ w).alloc (Nat.le_refl _) _
  have r1 := h.cell_add b1 (Nat.le_refl _) (x := x) (Bk.made w _ _)
  have hs : (w.alloc (.cells #[evS x, pv none] 96)).heap.size = w.heap.size + 1 := by simp
  have b2 : ∀ q : Obj, Below (w.alloc (.cells #[evS x, pv none] 96)).heap.size (w.alloc (.cells #[evS x, pv none] 96)) ((w.alloc (.cells #[evS x, pv none] 96)).alloc q) := fun q => (Below.refl _ _).alloc (Nat.le_refl _) q
  refine ⟨rfl, r1.add (b2 _) (by rw [hs]; exact Nat.le_refl _) ?_ ⟨on_some (by simp [addCell]), fun _ => ⟨_, rfl⟩, fun _ => rfl, fun _ => ⟨_, rfl⟩⟩, b1.trans ((b2 _).mono (by rw [hs]; omega))⟩
  have := Bk.made (w.alloc (.cells #[evS x, pv none] 96)) 98 #[.pointer (some ⟨g, 0, none⟩), nxt 43 (w.heap.size + 1), pv (some w.heap.size), .bool false, .int .i64 0]
  rw [hs] at this
  exact this

theorem takesS (w : World) (g : Nat) (m : Mem Bs) (ops : List (Nat × OpS)) (h : RelS w g m ops) :
    Calls Try.prog 29 #[.pointer (some ⟨g, 0, none⟩)] w fun e w' => e = .returned (.pointer (some ⟨w.heap.size, 0, none⟩)) ∧ RelS w' g m (ops ++ [(w.heap.size, opTake)]) ∧ Below w.heap.size w w' := by
  refine (takeS g w).mono ?_
  rintro e w' ⟨rfl, rfl⟩
  have b : ∀ q : Obj, Below w.heap.size w (w.alloc q) := fun q => (Below.refl _ w).alloc (Nat.le_refl _) q
  exact ⟨rfl, h.add (b _) (Nat.le_refl _) (Bk.made w _ _) ⟨on_none _, fun h => (by simp [opTake] at h), fun _ => rfl, fun e => (by simp [opTake] at e)⟩, b _⟩

end Go.Proofs.Ytokdalilnckkoaa
