/- Lists: their state, Peek, Len. -/
import Derived.Test.YtnepkpcoglfejaaLs
namespace Go.Proofs.Ytnepkpcoglfejaa
open Go.RowKit

/-- A list lies at p with the entries E, N pushes so far. -/
def WlA (w : World) (p B : Nat) (fv hv : Value) (lt : (Int × Int) → (Int × Int) → Bool) (E : List ((Int × Int) × Int)) (N : Nat) : Prop := ∃ hs, LsA w p B fv hv N hs ∧ Wk lt hs E N
/-- The first item, or the zero. -/
def hdA : List ((Int × Int) × Int) → (Int × Int)
  | [] => (0, 0)
  | e :: _ => e.1
section
variable {w w' : World} {p B N : Nat} {fv hv : Value} {lt : (Int × Int) → (Int × Int) → Bool} {E : List ((Int × Int) × Int)}
theorem WlA.fr {X : Nat → Prop} (h : WlA w p B fv hv lt E N) (hF : Fr X w w') (hp : ¬ X p) (hg : ∀ b, hv.ownBlock = some b → ¬ X b) : WlA w' p B fv hv lt E N := by
  obtain ⟨hs, h1, h2⟩ := h
  exact ⟨hs, h1.fr hF hp hg, h2⟩
theorem WlA.bd (h : WlA w p B fv hv lt E N) : p < w.heap.size ∧ ∀ b, hv.ownBlock = some b → B ≤ b ∧ b < w.heap.size := by
  obtain ⟨hs, h1, h2⟩ := h
  exact ⟨h1.hd.lt, rw_lt h1.row⟩
theorem WlA.ne (h : WlA w p B fv hv lt E N) : hv.ownBlock ≠ some p := by
  obtain ⟨hs, h1, h2⟩ := h
  exact rw_ne h1.row h1.hd (by decide)
theorem WlA.form (h : WlA w p B fv hv lt E N) : ∃ A c, hv = .slice A E.length c := by
  obtain ⟨hs, h1, h2⟩ := h
  have := rw_form h1.row
  rw [h2.len] at this
  exact this
theorem WlA.block (h : WlA w p B fv hv lt E N) (hE : E ≠ []) : ∃ g c, hv = .slice (some ⟨g, 0, none⟩) E.length c := by
  obtain ⟨hs, h1, h2⟩ := h
  have hl := h2.len
  obtain ⟨_, ⟨rfl, h0⟩ | ⟨g, cap, cur, rfl, _⟩⟩ := h1.row
  · rw [h0] at hl
    exact absurd (List.length_eq_zero_iff.1 hl.symm) hE
  · exact ⟨g, cap, by rw [hl]⟩
end
/-- A list lies at p with the entries E, N pushes so far. -/
def WlI (w : World) (p B : Nat) (fv hv : Value) (lt : Int → Int → Bool) (E : List (Int × Int)) (N : Nat) : Prop := ∃ hs, LsI w p B fv hv N hs ∧ Wk lt hs E N
/-- The first item, or the zero. -/
def hdI : List (Int × Int) → Int
  | [] => 0
  | e :: _ => e.1
section
variable {w w' : World} {p B N : Nat} {fv hv : Value} {lt : Int → Int → Bool} {E : List (Int × Int)}
theorem WlI.fr {X : Nat → Prop} (h : WlI w p B fv hv lt E N) (hF : Fr X w w') (hp : ¬ X p) (hg : ∀ b, hv.ownBlock = some b → ¬ X b) : WlI w' p B fv hv lt E N := by
  obtain ⟨hs, h1, h2⟩ := h
  exact ⟨hs, h1.fr hF hp hg, h2⟩
theorem WlI.bd (h : WlI w p B fv hv lt E N) : p < w.heap.size ∧ ∀ b, hv.ownBlock = some b → B ≤ b ∧ b < w.heap.size := by
  obtain ⟨hs, h1, h2⟩ := h
  exact ⟨h1.hd.lt, rw_lt h1.row⟩
theorem WlI.ne (h : WlI w p B fv hv lt E N) : hv.ownBlock ≠ some p := by
  obtain ⟨hs, h1, h2⟩ := h
  exact rw_ne h1.row h1.hd (by decide)
theorem WlI.form (h : WlI w p B fv hv lt E N) : ∃ A c, hv = .slice A E.length c := by
  obtain ⟨hs, h1, h2⟩ := h
  have := rw_form h1.row
  rw [h2.len] at this
  exact this
theorem WlI.block (h : WlI w p B fv hv lt E N) (hE : E ≠ []) : ∃ g c, hv = .slice (some ⟨g, 0, none⟩) E.length c := by
  obtain ⟨hs, h1, h2⟩ := h
  have hl := h2.len
  obtain ⟨_, ⟨rfl, h0⟩ | ⟨g, cap, cur, rfl, _⟩⟩ := h1.row
  · rw [h0] at hl
    exact absurd (List.length_eq_zero_iff.1 hl.symm) hE
  · exact ⟨g, cap, by rw [hl]⟩
end
/-- A list lies at p with the entries E, N pushes so far. -/
def WlS (w : World) (p B : Nat) (fv hv : Value) (lt : ByteArray → ByteArray → Bool) (E : List (ByteArray × Int)) (N : Nat) : Prop := ∃ hs, LsS w p B fv hv N hs ∧ Wk lt hs E N
/-- The first item, or the zero. -/
def hdS : List (ByteArray × Int) → ByteArray
  | [] => ByteArray.empty
  | e :: _ => e.1
section
variable {w w' : World} {p B N : Nat} {fv hv : Value} {lt : ByteArray → ByteArray → Bool} {E : List (ByteArray × Int)}
theorem WlS.fr {X : Nat → Prop} (h : WlS w p B fv hv lt E N) (hF : Fr X w w') (hp : ¬ X p) (hg : ∀ b, hv.ownBlock = some b → ¬ X b) : WlS w' p B fv hv lt E N := by
  obtain ⟨hs, h1, h2⟩ := h
  exact ⟨hs, h1.fr hF hp hg, h2⟩
theorem WlS.bd (h : WlS w p B fv hv lt E N) : p < w.heap.size ∧ ∀ b, hv.ownBlock = some b → B ≤ b ∧ b < w.heap.size := by
  obtain ⟨hs, h1, h2⟩ := h
  exact ⟨h1.hd.lt, rw_lt h1.row⟩
theorem WlS.ne (h : WlS w p B fv hv lt E N) : hv.ownBlock ≠ some p := by
  obtain ⟨hs, h1, h2⟩ := h
  exact rw_ne h1.row h1.hd (by decide)
theorem WlS.form (h : WlS w p B fv hv lt E N) : ∃ A c, hv = .slice A E.length c := by
  obtain ⟨hs, h1, h2⟩ := h
  have := rw_form h1.row
  rw [h2.len] at this
  exact this
theorem WlS.block (h : WlS w p B fv hv lt E N) (hE : E ≠ []) : ∃ g c, hv = .slice (some ⟨g, 0, none⟩) E.length c := by
  obtain ⟨hs, h1, h2⟩ := h
  have hl := h2.len
  obtain ⟨_, ⟨rfl, h0⟩ | ⟨g, cap, cur, rfl, _⟩⟩ := h1.row
  · rw [h0] at hl
    exact absurd (List.length_eq_zero_iff.1 hl.symm) hE
  · exact ⟨g, cap, by rw [hl]⟩
end

end Go.Proofs.Ytnepkpcoglfejaa
