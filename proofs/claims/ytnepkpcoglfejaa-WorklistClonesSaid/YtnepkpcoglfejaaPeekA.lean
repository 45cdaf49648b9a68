/- Peek and Len. -/
import Derived.Test.YtnepkpcoglfejaaWl
import Derived.Handy
namespace Go.Proofs.Ytnepkpcoglfejaa
open Go.RowKit

set_option maxRecDepth 100000 in
set_option maxHeartbeats 800000 in
theorem peekA (w : World) (p B N : Nat) (fv hv : Value) (lt : (Int × Int) → (Int × Int) → Bool) (O : Ord lt) (E : List ((Int × Int) × Int)) (h : WlA w p B fv hv lt E N) :
    Calls Try.prog 38 #[.pointer (some ⟨p, 0, none⟩)] w fun e w' => e = .returned (.tuple #[encXA (hdA E), .bool !E.isEmpty]) ∧ Fr (fun _ => False) w w' := by
  cases E with
  | nil =>
    obtain ⟨A, cp, rfl⟩ := h.form
    obtain ⟨hs, h1, h2⟩ := h
    have ch : w.cell? ⟨p, 1, none⟩ = some (.slice A 0 cp) := (h1.hd.cell 1).trans rfl
    have hpl : p < w.heap.size := h1.hd.lt
    clear h1 h2
    go_enter Try.func38, Try.ntmps38
    go_wp2
    go_returns
    first | exact ⟨rfl, Fr.alloc _ _ _⟩ | exact ⟨rfl, (Fr.alloc _ _ _).trans (Fr.alloc _ _ _)⟩
  | cons e E =>
    obtain ⟨g, cp, rfl⟩ := h.block (by simp)
    obtain ⟨hs, h1, h2⟩ := h
    have hl := h2.len
    obtain ⟨r, hr⟩ : ∃ r, hs[0]? = some r := ⟨_, List.getElem?_eq_getElem (by rw [hl]; simp)⟩
    obtain ⟨E', hE⟩ := h2.head (bfr_ord O) hr
    injection hE with hE1 hE2
    subst hE1
    have h3 := h1.row
    rw [hl] at h3
    have ch : w.cell? ⟨p, 1, none⟩ = some (.slice (some ⟨g, 0, none⟩) (e :: E).length cp) := (h1.hd.cell 1).trans rfl
    obtain ⟨⟨e1, e2⟩, en⟩ := e
    have hpl : p < w.heap.size := h1.hd.lt
    have hgl : g < w.heap.size := (rw_lt h3 g rfl).2
    have h2 := h3
    have ce1 : w.cell? ⟨g, 0 * 3, none⟩ = some (.int .i64 e1) := row_cell (F := encEA) (k := 3) (j := 0) (fun _ => rfl) h2 hr (by decide)
    have ce2 : w.cell? ⟨g, 0 * 3 + 1, none⟩ = some (.int .i64 e2) := row_cell (F := encEA) (k := 3) (j := 1) (fun _ => rfl) h2 hr (by decide)
    have ce3 : w.cell? ⟨g, 0 * 3 + 2, none⟩ = some (.int .i64 en) := row_cell (F := encEA) (k := 3) (j := 2) (fun _ => rfl) h2 hr (by decide)
    simp only [Nat.zero_mul, Nat.zero_add] at ce1 ce2 ce3
    have hpos : 0 < (((e1, e2), en) :: E).length := by simp
    have hne : ¬ (((((e1, e2), en) :: E).length : Nat) : Int) = 0 := by omega
    generalize (((e1, e2), en) :: E).length = n at *
    clear h1 h2 h3 hl hr
    go_enter Try.func38, Try.ntmps38
    go_wp2
    go_returns
    first | exact ⟨rfl, Fr.alloc _ _ _⟩ | exact ⟨rfl, (Fr.alloc _ _ _).trans (Fr.alloc _ _ _)⟩

end Go.Proofs.Ytnepkpcoglfejaa
