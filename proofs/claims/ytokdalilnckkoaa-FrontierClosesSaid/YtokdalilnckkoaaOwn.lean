/- Slices of the law's own: rows of one-cell elements. -/
import Derived.Test.YtokdalilnckkoaaOnceP
namespace Go.Proofs.Ytokdalilnckkoaa
open Go.RowKit Go.Shelf

/-- A slice value that owns the values us of type e, in blocks from B on. -/
def Ow (w : World) (B : Nat) (e : TypeId) (v : Value) (us : List Value) : Prop := w.ownsRow B e 1 v us.length us
/-- The own blocks of two values are not the same. -/
def Apart (u v : Value) : Prop := ∀ b, u.ownBlock = some b → v.ownBlock ≠ some b
theorem Apart.symm {u v : Value} (h : Apart u v) : Apart v u := fun b e e' => h b e' e
theorem Apart.nil (v : Value) (n c : Nat) : Apart (.slice none n c) v := fun b e => by cases e

section
variable {w w' : World} {B B' e : Nat} {u v v' : Value} {us : List Value}
theorem Ow.nil (w : World) (B e : Nat) : Ow w B e (.slice none 0 0) [] := World.ownsRow_nil w B e 1
theorem Ow.keep (h : Ow w B e v us) (hk : ∀ b, v.ownBlock = some b → w'.heap[b]? = w.heap[b]?) : Ow w' B e v us := by
  refine ⟨h.1, ?_⟩
  rcases h.2 with hn | ⟨g, cap, cur, rfl, hb, hgg, rest⟩
  · exact .inl hn
  · exact .inr ⟨g, cap, cur, rfl, hb, (hk g rfl).trans hgg, rest⟩
theorem Ow.lt (h : Ow w B e v us) : ∀ b, v.ownBlock = some b → B ≤ b ∧ b < w.heap.size := World.ownsRow.lt h
theorem Ow.below (h : Ow w B e v us) (hb : Below B' w w') (hB : w.heap.size ≤ B') : Ow w' B e v us :=
  h.keep fun b e => hb.block b (by have := (h.lt b e).2; omega)
theorem Ow.alloc (h : Ow w B e v us) (o : Obj) : Ow (w.alloc o) B e v us := h.keep fun b e => Below.heap_alloc w o b (h.lt b e).2
theorem Ow.bk (h : Ow w B e v us) : ∀ b, v.ownBlock = some b → ∃ cur, Bk w b e cur := by
  rcases h.2 with ⟨rfl, _⟩ | ⟨g, cap, cur, rfl, _, hgg, rest⟩
  · intro b e; cases e
  · intro b e
    obtain rfl : g = b := by simpa [Value.ownBlock] using e
    exact ⟨cur, hgg⟩
theorem Ow.ne (h : Ow w B e v us) {g t : Nat} {cs : Array Value} (hb : Bk w g t cs) (ht : t ≠ e) : v.ownBlock ≠ some g := fun he => by
  obtain ⟨cur, hh⟩ := h.bk g he
  exact Bk.ne hh hb (fun e => ht e.symm) rfl
theorem Ow.apart {e' : Nat} {us' : List Value} (h : Ow w B e v us) (h' : Ow w B' e' v' us') (hne : e ≠ e') : Apart v v' := fun b hb hb' => by
  obtain ⟨cur, hh⟩ := h.bk b hb
  obtain ⟨cur', hh'⟩ := h'.bk b hb'
  exact Bk.ne hh hh' hne rfl
theorem Ow.beside (h : Ow w B e u us) (ha : Apart u v) (hk : ∀ b, b < w.heap.size → v.ownBlock ≠ some b → w'.heap[b]? = w.heap[b]?) : Ow w' B e u us := h.keep fun b e => hk b (h.lt b e).2 (ha b e)
theorem Ow.grows (h : Ow w B e u us) (ha : Apart u v) (hob : v'.ownBlock = v.ownBlock ∨ ∀ b, v'.ownBlock = some b → w.heap.size < b) : Apart u v' := fun b e e' => by
  rcases hob with h1 | h1
  · rw [h1] at e'
    exact ha b e e'
  · have := h1 b e'
    have := (h.lt b e).2
    omega
theorem Ow.fm (h : Ow w B e v us) (hf : FmI w w') (he : e ≠ 79 ∧ e ≠ 83 ∧ e ≠ 81) : Ow w' B e v us := h.keep fun b hb => by
  obtain ⟨cur, hh⟩ := h.bk b hb
  exact (hf.bk hh he).trans hh.symm
theorem Ow.form (h : Ow w B e v us) : ∃ A c, v = .slice A us.length c ∧ us.length ≤ c ∧ c ≤ maxLen ∧ Sees w w.heap.size A us := by
  have h' := h
  obtain ⟨_, ⟨rfl, h0⟩ | ⟨g, cap, cur, rfl, _, _, hc, hcM, _⟩⟩ := h
  · refine ⟨none, 0, by rw [h0], by omega, Nat.zero_le _, ?_⟩
    unfold Ow at h'
    rw [h0] at h'
    exact Sees.own h'
  · exact ⟨_, cap, rfl, hc, hcM, Sees.own h'⟩
theorem Ow.head (h : Ow w B e v us) (h0 : 0 < us.length) : ∃ g c cur, v = .slice (some ⟨g, 0, none⟩) us.length c ∧ B ≤ g ∧ Bk w g e cur ∧ us.length ≤ c ∧ c ≤ maxLen ∧ cur.size = c ∧ cur.toList.take us.length = us := by
  obtain ⟨_, hn | ⟨g, c, cur, hv, hg, hrow, hc, hcM, hcs, hcur⟩⟩ := h
  · omega
  · exact ⟨g, c, cur, hv, hg, hrow, hc, hcM, by simpa using hcs, by simpa using hcur⟩
theorem ow_mk {g c : Nat} {cur : Array Value} (hg : B ≤ g) (hrow : Bk w g e cur) (hc : us.length ≤ c) (hcM : c ≤ maxLen) (hcs : cur.size = c) (hcur : cur.toList.take us.length = us) : Ow w B e (.slice (some ⟨g, 0, none⟩) us.length c) us :=
  ⟨by simp, .inr ⟨g, c, cur, rfl, hg, hrow, hc, hcM, by simpa using hcs, by simpa using hcur⟩⟩
theorem ow_cell {g k : Nat} {cur : Array Value} {x : Value} (hrow : Bk w g e cur) (hcur : cur.toList.take us.length = us) (hk : us[k]? = some x) : w.cell? ⟨g, k, none⟩ = some x := by
  have hl : k < us.length := (List.getElem?_eq_some_iff.1 hk).1
  rw [hrow.cell, ← Array.getElem?_toList, ← List.getElem?_take_of_lt hl, hcur, hk]
theorem ow_set {g c k : Nat} {cur : Array Value} (x : Value) (hg : B ≤ g) (hrow : Bk w g e cur) (hc : us.length ≤ c) (hcM : c ≤ maxLen) (hcs : cur.size = c) (hcur : cur.toList.take us.length = us) :
    Ow (w.setCell ⟨g, k, none⟩ x) B e (.slice (some ⟨g, 0, none⟩) us.length c) (us.set k x) := by
  have h := ow_mk (us := us.set k x) hg (hrow.put k x) (by simpa using hc) hcM (by simpa using hcs) (by
    rw [Array.toList_setIfInBounds, List.length_set, List.take_set, hcur])
  simpa using h
end

/-- The pointer to the operation in block p. -/
def pt (p : Nat) : Value := .pointer (some ⟨p, 0, none⟩)
theorem Try.opsz : OneCell Try.prog 26 29 8 := by
  refine ⟨by kernel_rfl, ?_⟩
  obtain ⟨i, hi, hz⟩ := Option.map_eq_some_iff.1 (show (Try.prog.info? 29).map (fun i => (i.zero, i.size, i.bytes)) = some (some (.pointer none), 1, 8) by kernel_rfl)
  simp only [Prod.mk.injEq] at hz
  exact ⟨i, _, hi, hz.1, hz.2.1, hz.2.2, rfl⟩

end Go.Proofs.Ytokdalilnckkoaa
