/- Frames, rows of structs, worlds that have grown. No program in sight. -/
import Derived.Test.YtgnlbmamolbcfaaDoorWords
import Derived.WalkKit
import Derived.Lib.Hide
import Derived.Sort.Grow
set_option linter.unusedVariables false
namespace Go.Proofs.YtgnlbmamolbcfaaDoor
open Go.RowKit

/-- All blocks but those of X lie as they lay. -/
structure Fr (X : Nat → Prop) (w w' : World) : Prop where
  bel : Below 0 w w'
  keep : ∀ b, b < w.heap.size → ¬ X b → w'.heap[b]? = w.heap[b]?
section
variable {X Y : Nat → Prop} {w w' w'' : World}
theorem Fr.refl (X : Nat → Prop) (w : World) : Fr X w w := ⟨.refl _ _, fun _ _ _ => rfl⟩
theorem Fr.trans (h : Fr X w w') (k : Fr X w' w'') : Fr X w w'' := ⟨h.bel.trans k.bel, fun b hb hx => (k.keep b (Nat.lt_of_lt_of_le hb h.bel.size) hx).trans (h.keep b hb hx)⟩
theorem Fr.wide (h : Fr X w w') (hX : ∀ b, b < w.heap.size → X b → Y b) : Fr Y w w' := ⟨h.bel, fun b hb hy => h.keep b hb fun hx => hy (hX b hb hx)⟩
theorem Fr.drew (X : Nat → Prop) (w : World) : Fr X w w.drew := ⟨⟨rfl, rfl, rfl, Nat.le_refl _, fun _ _ => rfl⟩, fun _ _ _ => rfl⟩
theorem Fr.drewN (X : Nat → Prop) (w : World) (n : Nat) : Fr X w (w.drewN n) := ⟨⟨rfl, rfl, rfl, Nat.le_refl _, fun _ _ => rfl⟩, fun _ _ _ => rfl⟩
theorem Fr.alloc (X : Nat → Prop) (w : World) (o : Obj) : Fr X w (w.alloc o) := ⟨(Below.refl 0 w).alloc (Nat.zero_le _) o, fun b hb _ => Below.heap_alloc w o b hb⟩
theorem Fr.set (w : World) (p : Addr) (v : Value) (hX : X p.block) : Fr X w (w.setCell p v) := ⟨(Below.refl 0 w).setCell (Nat.zero_le _) v, fun b _ hx => Below.heap_setCell w p v b fun e => hx (e ▸ hX)⟩
theorem Fr.bk (h : Fr X w w') {g t : Nat} {cs : Array Value} (hb : Bk w g t cs) (hx : ¬ X g) : Bk w' g t cs := Bk.keep hb (h.keep g hb.lt hx)
theorem Fr.size (h : Fr X w w') : w.heap.size ≤ w'.heap.size := h.bel.size
theorem Fr.below (h : Fr X w w') {B : Nat} (hB : B ≤ w.heap.size) (hx : ∀ b, b < B → ¬ X b) : Below B w w' := ⟨h.bel.os, h.bel.tape, h.bel.output, h.bel.size, fun b hb => h.keep b (Nat.lt_of_lt_of_le hb hB) (hx b hb)⟩
end



/-- What the append laws ask of a slice type t with elements of type e of 'size' cells. -/
structure ElemS (P : Program) (t e : TypeId) (size bytes : Nat) : Prop where
  ht : P.underlying t = some (.slice e)
  hi : ∃ i z, P.info? e = some i ∧ i.zero = some z ∧ i.size = size ∧ i.bytes = bytes ∧ z.cells.size = size
  pos : 0 < size

section
variable {P : Program} {t e size bytes : Nat}
/-- One element: it was laid in a new block first. -/
theorem wpList_appS1 (h : ElemS P t e size bytes) {w : World} {ops : Array Oper} {rest : List Oper} {o : Oper} {a : Act} {Q : Exit → Act → World → Prop} (hgd : o.guard = none) (s x : Operand) (ho : o.op = .call { callee := .builtin .append, args := #[s, x], argTypes := #[t, t] })
    (base : Nat) (v : Value) (n : Nat) (xs : List Value) (us : Array Value) (hs : a.eval s = v) (hx : a.eval x = .slice (some ⟨w.heap.size, 0, none⟩) 1 1) (hus : us.size = size) (hown : w.ownsRow base e size v n xs) (h1 : ∀ u ∈ us.toList, u.oneCell' = true)
    (h63 : n + 1 ≤ maxLen) (hbytes : (n + 1) * bytes ≤ 140737488355328) (hbase : base ≤ w.heap.size)
    (hK : ∀ v' w', w'.ownsRow base e size v' (n + 1) (xs ++ us.toList) → Fr (fun b => v.ownBlock = some b) w w' → (v'.ownBlock = v.ownBlock ∨ ∀ b, v'.ownBlock = some b → w.heap.size < b) → wpList P ops Q rest (a.put o.dst v') w') :
    wpList P ops Q (o :: rest) a (w.alloc (.cells us e)) := by
  obtain ⟨i, z, hi, hz, hsz, hby, hzs⟩ := h.hi
  have hcell : ∀ j u, us.toList[j]? = some u → (w.alloc (.cells us e)).cell? ((⟨w.heap.size, 0, none⟩ : Addr).add j) = some u := fun j u hu => by
    rw [add_mk, Nat.zero_add, (Bk.made w e us).cell, ← Array.getElem?_toList]
    exact hu
  obtain ⟨v', w', hrun, h2, h3, _, h5⟩ := run_append_own_at (P := P) (w.alloc (.cells us e)) base t o.type e i z size bytes h.ht hi hz hsz hby hzs h.pos v n xs (hown.alloc _) ⟨w.heap.size, 0, none⟩ 1 1 us.toList (by simp [hus]) hcell h1 h63 hbytes (by simp; omega)
  refine wpList_plain hgd fun _ hK' => ?_
  unfold Oper.wp execOp
  simp only [ho, resolve, invoke, builtin, Sem.run_bind, Sem.run_pure, Result.andThen_ok, List.map_toArray, List.map_cons, List.map_nil, hs, hx, hrun]
  refine hK' _ _ (hK v' w' h2 ⟨((Below.refl _ _).alloc (Nat.zero_le _) _).grown h3 (by simp) (fun _ _ => Nat.zero_le _), ?_⟩ ?_)
  · intro b hb hne
    exact (h3.block b (by simp; omega) (fun e => hne e.symm)).trans (Below.heap_alloc _ _ _ hb)
  · rcases h5 with h5 | h5
    · exact .inl h5
    · refine .inr fun b hb => ?_
      rw [hb] at h5
      injection h5 with h5
      simp at h5
      omega
end

/-! Rows of structs. -/
section
variable {w w' : World} {B e size n : Nat} {v : Value} {xs : List Value}
theorem rw_keep (h : w.ownsRow B e size v n xs) (hk : ∀ b, v.ownBlock = some b → w'.heap[b]? = w.heap[b]?) : w'.ownsRow B e size v n xs := by
  refine ⟨h.1, ?_⟩
  rcases h.2 with hn | ⟨g, cap, cur, rfl, hb, hgg, rest⟩
  · exact .inl hn
  · exact .inr ⟨g, cap, cur, rfl, hb, (hk g rfl).trans hgg, rest⟩
theorem rw_drew (h : w.ownsRow B e size v n xs) : w.drew.ownsRow B e size v n xs := rw_keep h fun _ _ => rfl
theorem rw_bk (h : w.ownsRow B e size v n xs) : ∀ b, v.ownBlock = some b → ∃ cur, Bk w b e cur := by
  rcases h.2 with ⟨rfl, _⟩ | ⟨g, cap, cur, rfl, _, hgg, rest⟩
  · intro b e; cases e
  · intro b e
    obtain rfl : g = b := by simpa [Value.ownBlock] using e
    exact ⟨cur, hgg⟩
theorem rw_ne (h : w.ownsRow B e size v n xs) {g t : Nat} {cs : Array Value} (hb : Bk w g t cs) (ht : t ≠ e) : v.ownBlock ≠ some g := fun he => by
  obtain ⟨cur, hh⟩ := rw_bk h g he
  exact Bk.ne hh hb (fun e => ht e.symm) rfl
theorem rw_lt (h : w.ownsRow B e size v n xs) : ∀ b, v.ownBlock = some b → B ≤ b ∧ b < w.heap.size := World.ownsRow.lt h
theorem rw_form (h : w.ownsRow B e size v n xs) : ∃ A c, v = .slice A n c := by
  obtain ⟨_, ⟨rfl, rfl⟩ | ⟨g, cap, cur, rfl, _⟩⟩ := h
  · exact ⟨none, 0, rfl⟩
  · exact ⟨_, cap, rfl⟩
end

/-! Lists of structs laid flat. -/
section
variable {α : Type} {F : α → List Value} {k : Nat}
theorem flat_len (hF : ∀ a, (F a).length = k) : ∀ l : List α, (l.flatMap F).length = l.length * k
  | [] => by simp
  | a :: l => by rw [List.flatMap_cons, List.length_append, hF, flat_len hF l, List.length_cons, Nat.add_mul]; omega
theorem flat_at (hF : ∀ a, (F a).length = k) : ∀ {l : List α} {i j : Nat} {a : α}, l[i]? = some a → j < k → (l.flatMap F)[i * k + j]? = (F a)[j]?
  | [], i, j, a, h, _ => by simp at h
  | b :: l, 0, j, a, h, hj => by
    simp at h
    subst h
    rw [List.flatMap_cons, Nat.zero_mul, Nat.zero_add, List.getElem?_append_left (by rw [hF]; exact hj)]
  | b :: l, i + 1, j, a, h, hj => by
    simp at h
    rw [List.flatMap_cons, List.getElem?_append_right (by rw [hF, Nat.add_mul]; omega), hF, show (i + 1) * k + j - k = i * k + j from by rw [Nat.add_mul]; omega]
    exact flat_at hF h hj
theorem flat_set (hF : ∀ a, (F a).length = k) : ∀ {l : List α} {i j : Nat} {a b : α} {x : Value}, l[i]? = some a → j < k → (F a).set j x = F b → (l.flatMap F).set (i * k + j) x = (l.set i b).flatMap F
  | [], i, j, a, b, x, h, _, _ => by simp at h
  | c :: l, 0, j, a, b, x, h, hj, hx => by
    simp at h
    subst h
    rw [List.flatMap_cons, Nat.zero_mul, Nat.zero_add, List.set_append_left _ _ (by rw [hF]; exact hj), hx]
    rfl
  | c :: l, i + 1, j, a, b, x, h, hj, hx => by
    simp at h
    rw [List.flatMap_cons, List.set_append_right _ _ (by rw [hF, Nat.add_mul]; omega), hF, show (i + 1) * k + j - k = i * k + j from by rw [Nat.add_mul]; omega, flat_set hF h hj hx]
    rfl
end

section
variable {α : Type} {F : α → List Value} {k : Nat} {w : World} {B e g c n : Nat} {l : List α}
theorem row_cell (hF : ∀ a, (F a).length = k) (h : w.ownsRow B e k (.slice (some ⟨g, 0, none⟩) n c) n (l.flatMap F)) {i j : Nat} {a : α} (hi : l[i]? = some a) (hj : j < k) : w.cell? ⟨g, i * k + j, none⟩ = (F a)[j]? := by
  obtain ⟨hl, h0 | ⟨g', cap, cur, hv, _, hh, _, _, _, ht⟩⟩ := h
  · cases h0.1
  · injection hv with hv
    injection hv with hv
    injection hv with hv
    subst hv
    have hlt : i * k + j < (l.flatMap F).length := by
      rw [flat_len hF]
      have := (List.getElem?_eq_some_iff.1 hi).1
      have h2 : (i + 1) * k ≤ l.length * k := Nat.mul_le_mul_right k this
      rw [Nat.add_mul] at h2
      omega
    rw [cell_of_row w g _ cur e (0, 0) hh, ← Array.getElem?_toList, ← List.getElem?_take_of_lt (show i * k + j < n * k from by rw [← hl]; exact hlt), ht, flat_at hF hi hj]
theorem row_set (hF : ∀ a, (F a).length = k) (h : w.ownsRow B e k (.slice (some ⟨g, 0, none⟩) n c) n (l.flatMap F)) {i j : Nat} {a b : α} {x : Value} (hi : l[i]? = some a) (hj : j < k) (hx : (F a).set j x = F b) :
    (w.setCell ⟨g, i * k + j, none⟩ x).ownsRow B e k (.slice (some ⟨g, 0, none⟩) n c) n ((l.set i b).flatMap F) := by
  obtain ⟨hl, h0 | ⟨g', cap, cur, hv, hb, hh, h1, h2, h3, ht⟩⟩ := h
  · cases h0.1
  · have hv' := hv
    injection hv with hv hvn hvc
    injection hv with hv
    injection hv with hv
    subst hv
    subst hvc
    refine ⟨by rw [← hl, flat_len hF, flat_len hF, List.length_set], .inr ⟨g, c, _, rfl, hb, Bk.put hh _ x, h1, h2, by simpa using h3, ?_⟩⟩
    rw [Array.toList_setIfInBounds, List.take_set, ht, flat_set hF hi hj hx]
end




theorem step_appS {P : Program} {t e size bytes : Nat} (h : ElemS P t e size bytes) {ops : Array Oper} {w : World} {o : Oper} {a : Act} {K : Act → World → Prop} {Q : Exit → Act → World → Prop} {E : Prop} (hgd : o.guard = none) (s x : Operand) (ho : o.op = .call { callee := .builtin .append, args := #[s, x], argTypes := #[t, t] })
    (base : Nat) (v : Value) (n : Nat) (xs : List Value) (hs : a.eval s = v) (hown : w.ownsRow base e size v n xs) (ad : Addr) (m c : Nat) (news : List Value) (hx : a.eval x = .slice (some ad) m c) (hl : news.length = m * size) (hnews : ∀ j u, news[j]? = some u → w.cell? (ad.add j) = some u) (h1 : ∀ u ∈ news, u.oneCell' = true)
    (h63 : n + m ≤ maxLen) (hbytes : (n + m) * bytes ≤ 140737488355328) (hbase : base ≤ w.heap.size)
    (hK : ∀ v' w', w'.ownsRow base e size v' (n + m) (xs ++ news) → w.grownBy w' v.ownBlock → (v'.ownBlock = v.ownBlock ∨ v'.ownBlock = some w.heap.size) → K (a.put o.dst v') w') :
    if Region.wanted o (yielded ops a.tmps) = true then Oper.wp P o a w K Q else E := by
  have hw : Region.wanted o (yielded ops a.tmps) = true := by simp [Region.wanted, hgd]
  obtain ⟨i, z, hi, hz, hsz, hby, hzs⟩ := h.hi
  rw [if_pos hw]
  obtain ⟨v', w', hrun, h2, h3, _, h5⟩ := run_append_own_at (P := P) w base t o.type e i z size bytes h.ht hi hz hsz hby hzs h.pos v n xs hown ad m c news hl hnews h1 h63 hbytes hbase
  unfold Oper.wp execOp
  simp only [ho, resolve, invoke, builtin, Sem.run_bind, Sem.run_pure, Result.andThen_ok, List.map_toArray, List.map_cons, List.map_nil, hs, hx, hrun]
  exact hK v' w' h2 h3 h5
theorem made_cells (w : World) (t : TypeId) (us : Array Value) (j : Nat) (u : Value) (h : us.toList[j]? = some u) : ((w.alloc (.cells us t)).drew).cell? ((⟨w.heap.size, 0, none⟩ : Addr).add j) = some u := by
  rw [add_mk, Nat.zero_add]
  refine ((Bk.made w t us).cell j).trans ?_
  rw [← Array.getElem?_toList]
  exact h
theorem fr_of {w w' : World} {o : Obj} {v : Value} (hg : ((w.alloc o).drew).grownBy w' v.ownBlock) : Fr (fun b => v.ownBlock = some b) w w' := by
  have hsz : ((w.alloc o).drew).heap.size = w.heap.size + 1 := World.size_alloc ..
  refine ⟨?_, fun b hb hne => (hg.block b (by omega) (fun e => hne e.symm)).trans (Below.heap_alloc w o b hb)⟩
  have hb0 : Below 0 w ((w.alloc o).drew) := ((Below.refl _ _).alloc (Nat.zero_le _) _).drew
  exact hb0.grown hg (Nat.zero_le _) (fun _ _ => Nat.zero_le _)




theorem wpList_appS {P : Program} {t e size bytes : Nat} (h : ElemS P t e size bytes) {w : World} {ops : Array Oper} {rest : List Oper} {o : Oper} {a : Act} {Q : Exit → Act → World → Prop} (hgd : o.guard = none) (s x : Operand) (ho : o.op = .call { callee := .builtin .append, args := #[s, x], argTypes := #[t, t] })
    (base : Nat) (v : Value) (n : Nat) (xs : List Value) (hs : a.eval s = v) (hown : w.ownsRow base e size v n xs) (ad : Addr) (m c : Nat) (news : List Value) (hx : a.eval x = .slice (some ad) m c) (hl : news.length = m * size) (hnews : ∀ j u, news[j]? = some u → w.cell? (ad.add j) = some u) (h1 : ∀ u ∈ news, u.oneCell' = true)
    (h63 : n + m ≤ maxLen) (hbytes : (n + m) * bytes ≤ 140737488355328) (hbase : base ≤ w.heap.size)
    (hK : ∀ v' w', w'.ownsRow base e size v' (n + m) (xs ++ news) → w.grownBy w' v.ownBlock → (v'.ownBlock = v.ownBlock ∨ v'.ownBlock = some w.heap.size) → wpList P ops Q rest (a.put o.dst v') w') :
    wpList P ops Q (o :: rest) a w := by
  obtain ⟨i, z, hi, hz, hsz, hby, hzs⟩ := h.hi
  obtain ⟨v', w', hrun, h2, h3, _, h5⟩ := run_append_own_at (P := P) w base t o.type e i z size bytes h.ht hi hz hsz hby hzs h.pos v n xs hown ad m c news hl hnews h1 h63 hbytes hbase
  refine wpList_plain hgd fun _ hK' => ?_
  unfold Oper.wp execOp
  simp only [ho, resolve, invoke, builtin, Sem.run_bind, Sem.run_pure, Result.andThen_ok, List.map_toArray, List.map_cons, List.map_nil, hs, hx, hrun]
  exact hK' _ _ (hK v' w' h2 h3 h5)


/-- All that lay in w lies in w'. -/
def Gr (w w' : World) : Prop := Fr (fun b => w.heap.size ≤ b) w w'
section
variable {w w1 w2 : World} {X : Nat → Prop}
theorem Gr.refl (w : World) : Gr w w := Fr.refl _ _
theorem Gr.step (h : Gr w w1) (k : Fr X w1 w2) (hX : ∀ b, b < w1.heap.size → X b → w.heap.size ≤ b) : Gr w w2 := Fr.trans h (k.wide hX)
theorem Gr.no (h : Gr w w1) (k : Fr (fun _ => False) w1 w2) : Gr w w2 := h.step k fun _ _ h => h.elim
theorem Gr.alloc (h : Gr w w1) (o : Obj) : Gr w (w1.alloc o) := h.no (Fr.alloc _ _ _)
theorem Gr.below (h : Gr w w1) : Below w.heap.size w w1 := Fr.below h (Nat.le_refl _) fun b hb h => by omega
theorem Gr.size (h : Gr w w1) : w.heap.size ≤ w1.heap.size := Fr.size h
theorem Gr.of (h : Below w.heap.size w w1) : Gr w w1 := ⟨⟨h.os, h.tape, h.output, h.size, fun b hb => absurd hb (Nat.not_lt_zero b)⟩, fun b hb _ => h.block b hb⟩
theorem Gr.no_of (h : Below w.heap.size w w1) : Fr (fun _ => False) w w1 := ⟨⟨h.os, h.tape, h.output, h.size, fun b hb => absurd hb (Nat.not_lt_zero b)⟩, fun b hb _ => h.block b hb⟩
theorem Gr.fr (h : Gr w w1) : Fr (fun _ => False) w w1 := Gr.no_of h.below
theorem Gr.then (h : Gr w w1) (k : Below w1.heap.size w1 w2) : Gr w w2 := h.no (Gr.no_of k)
theorem Gr.set (h : Gr w w1) {p : Addr} (hp : w.heap.size ≤ p.block) (v : Value) : Gr w (w1.setCell p v) := Fr.trans h (Fr.set _ _ _ hp)
end
end Go.Proofs.YtgnlbmamolbcfaaDoor
