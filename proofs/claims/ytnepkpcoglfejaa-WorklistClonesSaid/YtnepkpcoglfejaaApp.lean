/- append onto a row of the call's own, the source seen as a list (nil let in): one-cell elements. No program in sight. -/
import Derived.Test.YtnepkpcoglfejaaWords
import Derived.OwnWalk
namespace Go.Proofs.Ytnepkpcoglfejaa
open Go.RowKit

/-- What the append laws ask of a slice type t with one-cell elements of type e, z their zero, 'by' their bytes. -/
structure OneCell (P : Program) (t e : TypeId) (bytes : Nat) : Prop where
  ht : P.underlying t = some (.slice e)
  hi : ∃ i z, P.info? e = some i ∧ i.zero = some z ∧ i.size = 1 ∧ i.bytes = bytes ∧ z.cells.size = 1

section
variable {P : Program} {t e : TypeId} {bytes : Nat}
theorem run_app (h : OneCell P t e bytes) (w : World) (base : Nat) (ty : TypeId) (v : Value) (xs : List Value) (hown : w.ownsRow base e 1 v xs.length xs) (B : Nat) (A : Option Addr) (m c : Nat) (ys : List Value) (hys : ys.length = m) (hsee : Sees w B A ys) (h1 : ∀ u ∈ ys, u.oneCell' = true)
    (h63 : xs.length + m ≤ maxLen) (hbytes : (xs.length + m) * bytes ≤ 140737488355328) (hbase : base ≤ w.heap.size) :
    ∃ v' w', (Builtin.append_ #[t, t] ty #[v, .slice A m c]).run P w = .ok v' w' ∧ w'.ownsRow base e 1 v' (xs ++ ys).length (xs ++ ys) ∧ w.grownBy w' v.ownBlock ∧ (v'.ownBlock = v.ownBlock ∨ v'.ownBlock = some w.heap.size) := by
  obtain ⟨i, z, hi, hz, hsz, hby, hzs⟩ := h.hi
  rw [List.length_append, hys]
  rcases A with _ | ad
  · have hm : ys = [] := by
      cases ys with
      | nil => rfl
      | cons y ys => obtain ⟨ad, h, _⟩ := hsee 0 y rfl; cases h
    subst hm
    obtain rfl : m = 0 := hys.symm
    refine ⟨v, w, ?_, by simpa using hown, World.grownBy.refl w _, .inl rfl⟩
    rcases hown.2 with ⟨rfl, h0⟩ | ⟨g, cap, cur, rfl, _, _, hnc, _⟩
    · rw [h0] at *
      simp [Builtin.append_, run_underlying h.ht, sizeOf, typeInfo, hi, Builtin.lenOf, Builtin.firstCells]
    · simp [Builtin.append_, run_underlying h.ht, sizeOf, typeInfo, hi, Builtin.lenOf, Builtin.firstCells, hnc, storeCells]
  · have hcells : ∀ j u, ys[j]? = some u → w.cell? (ad.add j) = some u := fun j u hu => by
      obtain ⟨ad', h, _, hc⟩ := hsee j u hu
      injection h with h
      subst h
      exact hc
    obtain ⟨v', w', hrun, h2, h3, _, h5⟩ := run_append_own_at (P := P) w base t ty e i z 1 bytes h.ht hi hz hsz hby hzs (by omega) v xs.length xs hown ad m c ys (by omega) hcells h1 h63 hbytes hbase
    exact ⟨v', w', hrun, h2, h3, h5⟩

theorem wp_app (h : OneCell P t e bytes) (w : World) {o : Oper} {a : Act} {K : Act → World → Prop} {Q : Exit → Act → World → Prop} (s x : Operand) (ho : o.op = .call { callee := .builtin .append, args := #[s, x], argTypes := #[t, t] })
    (base : Nat) (v : Value) (xs : List Value) (hs : a.eval s = v) (hown : w.ownsRow base e 1 v xs.length xs) (B : Nat) (A : Option Addr) (m c : Nat) (ys : List Value) (hx : a.eval x = .slice A m c) (hys : ys.length = m) (hsee : Sees w B A ys) (h1 : ∀ u ∈ ys, u.oneCell' = true)
    (h63 : xs.length + m ≤ maxLen) (hbytes : (xs.length + m) * bytes ≤ 140737488355328) (hbase : base ≤ w.heap.size)
    (hK : ∀ v' w', w'.ownsRow base e 1 v' (xs ++ ys).length (xs ++ ys) → w.grownBy w' v.ownBlock → (v'.ownBlock = v.ownBlock ∨ v'.ownBlock = some w.heap.size) → K (a.put o.dst v') w') : o.wp P a w K Q := by
  obtain ⟨v', w', hrun, h2, h3, h4⟩ := run_app h w base o.type v xs hown B A m c ys hys hsee h1 h63 hbytes hbase
  unfold Oper.wp execOp
  simp only [ho, resolve, invoke, builtin, Sem.run_bind, Sem.run_pure, Result.andThen_ok, List.map_toArray, List.map_cons, List.map_nil, hs, hx, hrun]
  exact hK v' w' h2 h3 h4

theorem wpList_app (h : OneCell P t e bytes) {w : World} {ops : Array Oper} {rest : List Oper} {o : Oper} {a : Act} {Q : Exit → Act → World → Prop} (hgd : o.guard = none) (s x : Operand) (ho : o.op = .call { callee := .builtin .append, args := #[s, x], argTypes := #[t, t] })
    (base : Nat) (v : Value) (xs : List Value) (hs : a.eval s = v) (hown : w.ownsRow base e 1 v xs.length xs) (B : Nat) (A : Option Addr) (m c : Nat) (ys : List Value) (hx : a.eval x = .slice A m c) (hys : ys.length = m) (hsee : Sees w B A ys) (h1 : ∀ u ∈ ys, u.oneCell' = true)
    (h63 : xs.length + m ≤ maxLen) (hbytes : (xs.length + m) * bytes ≤ 140737488355328) (hbase : base ≤ w.heap.size)
    (hK : ∀ v' w', w'.ownsRow base e 1 v' (xs ++ ys).length (xs ++ ys) → w.grownBy w' v.ownBlock → (v'.ownBlock = v.ownBlock ∨ v'.ownBlock = some w.heap.size) → wpList P ops Q rest (a.put o.dst v') w') : wpList P ops Q (o :: rest) a w :=
  wpList_plain hgd fun _ hK' => wp_app h w s x ho base v xs hs hown B A m c ys hx hys hsee h1 h63 hbytes hbase fun v' w' h2 h3 h4 => hK' _ _ (hK v' w' h2 h3 h4)

/-- One element: it was laid in a new block first. -/
theorem wpList_app1 (h : OneCell P t e bytes) {w : World} {ops : Array Oper} {rest : List Oper} {o : Oper} {a : Act} {Q : Exit → Act → World → Prop} (hgd : o.guard = none) (s x : Operand) (ho : o.op = .call { callee := .builtin .append, args := #[s, x], argTypes := #[t, t] })
    (base : Nat) (v : Value) (xs : List Value) (u : Value) (hs : a.eval s = v) (hx : a.eval x = .slice (some ⟨w.heap.size, 0, none⟩) 1 1) (hown : w.ownsRow base e 1 v xs.length xs) (h1 : u.oneCell' = true)
    (h63 : xs.length + 1 ≤ maxLen) (hbytes : (xs.length + 1) * bytes ≤ 140737488355328) (hbase : base ≤ w.heap.size)
    (hK : ∀ v' w', w'.ownsRow base e 1 v' (xs ++ [u]).length (xs ++ [u]) → (∀ b, b < w.heap.size → v.ownBlock ≠ some b → w'.heap[b]? = w.heap[b]?) → (v'.ownBlock = v.ownBlock ∨ ∀ b, v'.ownBlock = some b → w.heap.size < b) → (∀ B, B ≤ w.heap.size → (∀ b, v.ownBlock = some b → B ≤ b) → Below B w w') → wpList P ops Q rest (a.put o.dst v') w') :
    wpList P ops Q (o :: rest) a (w.alloc (.cells #[u] e)) := by
  refine wpList_app h hgd s x ho base v xs hs (hown.alloc _) (w.heap.size + 1) (some ⟨w.heap.size, 0, none⟩) 1 1 [u] hx rfl (fun j x hj => ⟨_, rfl, by simp, cell_one_new _ _ _ j x hj⟩) (by simpa using h1) h63 hbytes (by simp; omega) fun v' w' h2 h3 h4 => hK v' w' h2 ?_ ?_ ?_
  · intro b hb hne
    exact (h3.block b (by simp; omega) (fun e => hne e.symm)).trans (Below.heap_alloc _ _ _ hb)
  · rcases h4 with h4 | h4
    · exact .inl h4
    · refine .inr fun b hb => ?_
      rw [hb] at h4
      injection h4 with h4
      simp at h4
      omega
  · intro B hB hr
    exact ((Below.refl _ _).alloc hB _).grown h3 (by simp; omega) hr
end

end Go.Proofs.Ytnepkpcoglfejaa
