/- Rows of literals that are cut, overwritten and cleared. -/
import Derived.Test.YtgnlbmamolbcfaaDoorClo
import Derived.Lib.SliceRun
set_option linter.unusedVariables false
namespace Go.Proofs.YtgnlbmamolbcfaaDoor
open Go.RowKit Go.Shelf

theorem flat_take : ∀ (l : List Lit) (k : Nat), (l.take k).flatMap lc = (l.flatMap lc).take (k * 2)
  | [], k => by simp
  | a :: l, 0 => by simp
  | a :: l, k + 1 => by rw [List.take_succ_cons, List.flatMap_cons, List.flatMap_cons, show (k + 1) * 2 = (lc a).length + k * 2 by simp [lc]; omega, List.take_length_add_append, flat_take l k]
/-- A row of literals of our own, at the head of block g. -/
abbrev RowL (w : World) (B g n cap : Nat) (l : List Lit) : Prop := w.ownsRow B 38 2 (.slice (some ⟨g, 0, none⟩) n cap) n (l.flatMap lc)
section
variable {w w' : World} {B g n cap i : Nat} {l : List Lit} {x y : Lit}
theorem RowL.c1 (h : RowL w B g n cap l) (hi : l[i]? = some x) : w.cell? ⟨g, i * 2, none⟩ = some (.int .i64 x.1) := row_cell (F := lc) (k := 2) (j := 0) (fun _ => rfl) h hi (by decide)
theorem RowL.c2 (h : RowL w B g n cap l) (hi : l[i]? = some x) : w.cell? ⟨g, i * 2 + 1, none⟩ = some (.bool x.2) := row_cell (F := lc) (k := 2) (j := 1) (fun _ => rfl) h hi (by decide)
theorem RowL.fz (h : RowL w B g n cap l) (j : Nat) : w.frozen? ⟨g, j, none⟩ = false := by
  obtain ⟨cur, hb⟩ := rw_bk h g rfl
  exact hb.frozen _
theorem RowL.len (h : RowL w B g n cap l) : l.length = n := by
  have := h.1
  rw [flat_len (k := 2) (fun _ => rfl)] at this
  omega
theorem RowL.put (h : RowL w B g n cap l) (hi : l[i]? = some x) (y : Lit) : RowL ((w.setCell ⟨g, i * 2, none⟩ (.int .i64 y.1)).setCell ⟨g, i * 2 + 1, none⟩ (.bool y.2)) B g n cap (l.set i y) := by
  have h1 := row_set (F := lc) (k := 2) (j := 0) (b := (y.1, x.2)) (x := .int .i64 y.1) (fun _ => rfl) h hi (by decide) rfl
  have hi2 : (l.set i (y.1, x.2))[i]? = some (y.1, x.2) := by
    rw [List.getElem?_set_self (List.getElem?_eq_some_iff.1 hi).1]
  have h2 := row_set (F := lc) (k := 2) (j := 1) (b := y) (x := .bool y.2) (fun _ => rfl) h1 hi2 (by decide) rfl
  rw [List.set_set] at h2
  exact h2
theorem RowL.cap_le (h : RowL w B g n cap l) : n ≤ cap := by
  obtain ⟨_, ⟨h0, _⟩ | ⟨g', cap', cur, hv, hB, hh, hc, _⟩⟩ := h
  · cases h0
  · injection hv with _ _ hv3
    subst hv3
    exact hc
theorem set_cells (g t : Nat) : ∀ (xs : List Value) (o : Nat) (w : World) (cur : Array Value), Bk w g t cur → ∃ cur', Bk (w.setCells g o xs) g t cur' ∧ cur'.size = cur.size ∧ (∀ j, j < o → cur'[j]? = cur[j]?) ∧ Fr (fun b => b = g) w (w.setCells g o xs)
  | [], o, w, cur, h => ⟨cur, h, rfl, fun _ _ => rfl, Fr.refl _ _⟩
  | x :: r, o, w, cur, h => by
    obtain ⟨cur', h1, h2, h3, h4⟩ := set_cells g t r (o + 1) _ _ (h.put o x)
    refine ⟨cur', h1, by rw [h2]; simp, fun j hj => ?_, Fr.trans (Fr.set w ⟨g, o, none⟩ x rfl) h4⟩
    rw [h3 j (by omega), Array.getElem?_setIfInBounds, if_neg (by omega)]
/-- The row is cut to its first k literals; what lies behind is written over. -/
theorem RowL.cut (h : RowL w B g n cap l) {k o : Nat} (hk : k ≤ n) (xs : List Value) (ho : k * 2 ≤ o) : RowL (w.setCells g o xs) B g k cap (l.take k) ∧ Fr (fun b => b = g) w (w.setCells g o xs) := by
  have hlen := h.len
  obtain ⟨hl, ⟨h0, _⟩ | ⟨g', cap', cur, hv, hB, hh, hc, hx, hs, ht⟩⟩ := h
  · cases h0
  · injection hv with hv hv2 hv3
    injection hv with hv
    injection hv with hv
    subst hv
    subst hv3
    obtain ⟨cur', h1, h2, h3, h4⟩ := set_cells g 38 xs o w cur hh
    refine ⟨⟨by rw [flat_len (k := 2) (fun _ => rfl), List.length_take]; omega, .inr ⟨g, cap, cur', rfl, hB, h1, by omega, hx, by rw [h2, hs], ?_⟩⟩, h4⟩
    have e1 : (l.take k).flatMap lc = (l.flatMap lc).take (k * 2) := flat_take l k
    rw [e1, ← ht, List.take_take, Nat.min_eq_left (by omega)]
    apply List.ext_getElem?
    intro j
    by_cases hj : j < k * 2
    · rw [List.getElem?_take_of_lt hj, List.getElem?_take_of_lt hj, Array.getElem?_toList, Array.getElem?_toList, h3 j (by omega)]
    · rw [List.getElem?_take_eq_none (by omega), List.getElem?_take_eq_none (by omega)]
theorem RowL.cut0 (h : RowL w B g n cap l) {k : Nat} (hk : k ≤ n) : RowL w B g k cap (l.take k) := (h.cut hk [] (Nat.le_refl _)).1
theorem RowL.drewN (h : RowL w B g n cap l) (q : Nat) : RowL (w.drewN q) B g n cap l := rw_keep h fun _ _ => rfl
theorem RowL.some_of {v : Value} (h : w.ownsRow B 38 2 v n (l.flatMap lc)) (h0 : 0 < n) : ∃ g cap, v = .slice (some ⟨g, 0, none⟩) n cap := by
  obtain ⟨_, ⟨_, h9⟩ | ⟨g', cap, cur, rfl, _⟩⟩ := h
  · omega
  · exact ⟨g', cap, rfl⟩
end

/-- clear on literals. -/
theorem run_clear (w : World) (ty : TypeId) (g o n c : Nat) (hn : 0 < n) {B N cap : Nat} {l : List Lit} (h : RowL w B g N cap l) (hN : o + n * 2 ≤ N * 2) :
    ∃ zs, (Builtin.clear_ #[23] ty #[.slice (some ⟨g, o, none⟩) n c]).run Tryd.prog w = .ok (.tuple #[]) (w.setCells g o zs) := by
  have hlen := h.len
  obtain ⟨i, hi, hz⟩ := Option.map_eq_some_iff.1 (show (Tryd.prog.info? 38).map (fun i => (i.zero)) = some (some (.agg #[.int .i64 0, .bool false])) by kernel_rfl)
  have hzv : (zeroValue 38).run Tryd.prog w = .ok (.agg #[.int .i64 0, .bool false]) w := by kernel_rfl
  have hu : Tryd.prog.underlying 23 = some (.slice 38) := by kernel_rfl
  refine ⟨(Builtin.zeroCells (Value.agg #[.int .i64 0, .bool false]).cells n).toList, ?_⟩
  have hsz : (Builtin.zeroCells (Value.agg #[.int .i64 0, .bool false]).cells n).toList.length = n * 2 := by
    simp [Builtin.zeroCells, Value.cells]
  have hone : ∀ v ∈ (Builtin.zeroCells (Value.agg #[.int .i64 0, .bool false]).cells n).toList, v.oneCell' = true := by
    intro v hv
    rw [Array.mem_toList_iff] at hv
    obtain ⟨j, hj, rfl⟩ := Array.mem_iff_getElem.1 hv
    simp only [Builtin.zeroCells]
    have : (Value.agg #[.int .i64 0, .bool false]).cells.size = 2 := rfl
    rcases Nat.mod_two_eq_zero_or_one j with e | e <;> simp [Value.cells, e] <;> rfl
  have hst := run_storeCells_cells (P := Tryd.prog) g o (Builtin.zeroCells (Value.agg #[.int .i64 0, .bool false]).cells n).toList 0 w
    (fun j hj => by
      rw [hsz] at hj
      obtain ⟨x, hx⟩ : ∃ x, l[(o + j) / 2]? = some x := ⟨_, List.getElem?_eq_getElem (by omega)⟩
      rcases (show o + j = (o + j) / 2 * 2 ∨ o + j = (o + j) / 2 * 2 + 1 by omega) with e | e
      · rw [Nat.add_zero, e, h.c1 hx]; rfl
      · rw [Nat.add_zero, e, h.c2 hx]; rfl) (fun j hj => h.fz _) hone
  obtain ⟨m, rfl⟩ : ∃ m, n = m + 1 := ⟨n - 1, by omega⟩
  simp only [Nat.add_zero] at hst
  simp [Builtin.clear_, run_underlying hu, hzv, hst]
end Go.Proofs.YtgnlbmamolbcfaaDoor
