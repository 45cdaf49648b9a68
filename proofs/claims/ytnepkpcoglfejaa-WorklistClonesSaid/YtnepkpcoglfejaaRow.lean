/- Rows of structs in memory. No program in sight. -/
import Derived.Test.YtnepkpcoglfejaaLc
namespace Go.Proofs.Ytnepkpcoglfejaa
open Go.RowKit

/-- What the append laws ask of a slice type t with elements of type e of 'size' cells. -/
structure ElemS (P : Program) (t e : TypeId) (size bytes : Nat) : Prop where
  ht : P.underlying t = some (.slice e)
  hi : ∃ i z, P.info? e = some i ∧ i.zero = some z ∧ i.size = size ∧ i.bytes = bytes ∧ z.cells.size = size
  pos : 0 < size

section
variable {P : Program} {t e size bytes : Nat}
/-- One element: it was laid in a new block first. -/
theorem wpList_appS1 (h : ElemS P t e size bytes) {w : World} {ops : Array Oper} {rest : List Oper} {o : Oper} {a : Act} {Q : Exit → Act → World → Prop} (hgd : o.guard = none) (s x : Operand) (ho : o.op = .call { callee := .builtin .append, args := #[s, x], argTypes := #[t, t] })
    (base : Nat) (v : Value) (n : Nat) (xs : List Value) (us : Array Value) (hs : a.eval s = v) (hx : a.eval x = .slice (some ⟨w.heap.size, 0, none⟩) 1 1) (hus : us.size = size) (hown : w.ownsRow base e size v n xs) (h1 : ∀ u ∈ us.toList, u.oneCell' = true)
    (h63 : n + 1 ≤ maxLen) (hbytes : (n + 1) * bytes ≤ 140737488355328) (hbase : base ≤ w.heap.size)
    (hK : ∀ v' w', w'.ownsRow base e size v' (n + 1) (xs ++ us.toList) → Fr (fun b => v.ownBlock = some b) w w' → (v'.ownBlock = v.ownBlock ∨ ∀ b, v'.ownBlock = some b → w.heap.size < b) → wpList P ops Q rest (a.put o.dst v') w') :
    wpList P ops Q (o :: rest) a (w.alloc (.cells us e)) := by
  obtain ⟨i, z, hi, hz, hsz, hby, hzs⟩ := h.hi
  have hcell : ∀ j u, us.toList[j]? = some u → (w.alloc (.cells us e)).cell? ((⟨w.heap.size, 0, none⟩ : Addr).add j) = some u := fun j u hu => by
    rw [add_mk, Nat.zero_add, (Bk.made w e us).cell, ← Array.getElem?_toList]
    exact hu
  obtain ⟨v', w', hrun, h2, h3, _, h5⟩ := run_append_own_at (P := P) (w.alloc (.cells us e)) base t o.type e i z size bytes h.ht hi hz hsz hby hzs h.pos v n xs (hown.alloc _) ⟨w.heap.size, 0, none⟩ 1 1 us.toList (by simp [hus]) hcell h1 h63 hbytes (by simp; omega)
  refine wpList_plain hgd fun _ hK' => ?_
  unfold Oper.wp execOp
  simp only [ho, resolve, invoke, builtin, Sem.run_bind, Sem.run_pure, Result.andThen_ok, List.map_toArray, List.map_cons, List.map_nil, hs, hx, hrun]
  refine hK' _ _ (hK v' w' h2 ⟨((Below.refl _ _).alloc (Nat.zero_le _) _).grown h3 (by simp) (fun _ _ => Nat.zero_le _), ?_⟩ ?_)
  · intro b hb hne
    exact (h3.block b (by simp; omega) (fun e => hne e.symm)).trans (Below.heap_alloc _ _ _ hb)
  · rcases h5 with h5 | h5
    · exact .inl h5
    · refine .inr fun b hb => ?_
      rw [hb] at h5
      injection h5 with h5
      simp at h5
      omega
end

/-! Rows of structs. -/
section
variable {w w' : World} {B e size n : Nat} {v : Value} {xs : List Value}
theorem rw_keep (h : w.ownsRow B e size v n xs) (hk : ∀ b, v.ownBlock = some b → w'.heap[b]? = w.heap[b]?) : w'.ownsRow B e size v n xs := by
  refine ⟨h.1, ?_⟩
  rcases h.2 with hn | ⟨g, cap, cur, rfl, hb, hgg, rest⟩
  · exact .inl hn
  · exact .inr ⟨g, cap, cur, rfl, hb, (hk g rfl).trans hgg, rest⟩
theorem rw_drew (h : w.ownsRow B e size v n xs) : w.drew.ownsRow B e size v n xs := rw_keep h fun _ _ => rfl
theorem rw_bk (h : w.ownsRow B e size v n xs) : ∀ b, v.ownBlock = some b → ∃ cur, Bk w b e cur := by
  rcases h.2 with ⟨rfl, _⟩ | ⟨g, cap, cur, rfl, _, hgg, rest⟩
  · intro b e; cases e
  · intro b e
    obtain rfl : g = b := by simpa [Value.ownBlock] using e
    exact ⟨cur, hgg⟩
theorem rw_ne (h : w.ownsRow B e size v n xs) {g t : Nat} {cs : Array Value} (hb : Bk w g t cs) (ht : t ≠ e) : v.ownBlock ≠ some g := fun he => by
  obtain ⟨cur, hh⟩ := rw_bk h g he
  exact Bk.ne hh hb (fun e => ht e.symm) rfl
theorem rw_lt (h : w.ownsRow B e size v n xs) : ∀ b, v.ownBlock = some b → B ≤ b ∧ b < w.heap.size := World.ownsRow.lt h
theorem rw_form (h : w.ownsRow B e size v n xs) : ∃ A c, v = .slice A n c := by
  obtain ⟨_, ⟨rfl, rfl⟩ | ⟨g, cap, cur, rfl, _⟩⟩ := h
  · exact ⟨none, 0, rfl⟩
  · exact ⟨_, cap, rfl⟩
end

/-! Lists of structs laid flat. -/
section
variable {α : Type} {F : α → List Value} {k : Nat}
theorem flat_len (hF : ∀ a, (F a).length = k) : ∀ l : List α, (l.flatMap F).length = l.length * k
  | [] => by simp
  | a :: l => by rw [List.flatMap_cons, List.length_append, hF, flat_len hF l, List.length_cons, Nat.add_mul]; omega
theorem flat_at (hF : ∀ a, (F a).length = k) : ∀ {l : List α} {i j : Nat} {a : α}, l[i]? = some a → j < k → (l.flatMap F)[i * k + j]? = (F a)[j]?
  | [], i, j, a, h, _ => by simp at h
  | b :: l, 0, j, a, h, hj => by
    simp at h
    subst h
    rw [List.flatMap_cons, Nat.zero_mul, Nat.zero_add, List.getElem?_append_left (by rw [hF]; exact hj)]
  | b :: l, i + 1, j, a, h, hj => by
    simp at h
    rw [List.flatMap_cons, List.getElem?_append_right (by rw [hF, Nat.add_mul]; omega), hF, show (i + 1) * k + j - k = i * k + j from by rw [Nat.add_mul]; omega]
    exact flat_at hF h hj
theorem flat_set (hF : ∀ a, (F a).length = k) : ∀ {l : List α} {i j : Nat} {a b : α} {x : Value}, l[i]? = some a → j < k → (F a).set j x = F b → (l.flatMap F).set (i * k + j) x = (l.set i b).flatMap F
  | [], i, j, a, b, x, h, _, _ => by simp at h
  | c :: l, 0, j, a, b, x, h, hj, hx => by
    simp at h
    subst h
    rw [List.flatMap_cons, Nat.zero_mul, Nat.zero_add, List.set_append_left _ _ (by rw [hF]; exact hj), hx]
    rfl
  | c :: l, i + 1, j, a, b, x, h, hj, hx => by
    simp at h
    rw [List.flatMap_cons, List.set_append_right _ _ (by rw [hF, Nat.add_mul]; omega), hF, show (i + 1) * k + j - k = i * k + j from by rw [Nat.add_mul]; omega, flat_set hF h hj hx]
    rfl
end

section
variable {α : Type} {F : α → List Value} {k : Nat} {w : World} {B e g c n : Nat} {l : List α}
theorem row_cell (hF : ∀ a, (F a).length = k) (h : w.ownsRow B e k (.slice (some ⟨g, 0, none⟩) n c) n (l.flatMap F)) {i j : Nat} {a : α} (hi : l[i]? = some a) (hj : j < k) : w.cell? ⟨g, i * k + j, none⟩ = (F a)[j]? := by
  obtain ⟨hl, h0 | ⟨g', cap, cur, hv, _, hh, _, _, _, ht⟩⟩ := h
  · cases h0.1
  · injection hv with hv
    injection hv with hv
    injection hv with hv
    subst hv
    have hlt : i * k + j < (l.flatMap F).length := by
      rw [flat_len hF]
      have := (List.getElem?_eq_some_iff.1 hi).1
      have h2 : (i + 1) * k ≤ l.length * k := Nat.mul_le_mul_right k this
      rw [Nat.add_mul] at h2
      omega
    rw [cell_of_row w g _ cur e (0, 0) hh, ← Array.getElem?_toList, ← List.getElem?_take_of_lt (show i * k + j < n * k from by rw [← hl]; exact hlt), ht, flat_at hF hi hj]
theorem row_set (hF : ∀ a, (F a).length = k) (h : w.ownsRow B e k (.slice (some ⟨g, 0, none⟩) n c) n (l.flatMap F)) {i j : Nat} {a b : α} {x : Value} (hi : l[i]? = some a) (hj : j < k) (hx : (F a).set j x = F b) :
    (w.setCell ⟨g, i * k + j, none⟩ x).ownsRow B e k (.slice (some ⟨g, 0, none⟩) n c) n ((l.set i b).flatMap F) := by
  obtain ⟨hl, h0 | ⟨g', cap, cur, hv, hb, hh, h1, h2, h3, ht⟩⟩ := h
  · cases h0.1
  · have hv' := hv
    injection hv with hv hvn hvc
    injection hv with hv
    injection hv with hv
    subst hv
    subst hvc
    refine ⟨by rw [← hl, flat_len hF, flat_len hF, List.length_set], .inr ⟨g, c, _, rfl, hb, Bk.put hh _ x, h1, h2, by simpa using h3, ?_⟩⟩
    rw [Array.toList_setIfInBounds, List.take_set, ht, flat_set hF hi hj hx]
end


end Go.Proofs.Ytnepkpcoglfejaa
