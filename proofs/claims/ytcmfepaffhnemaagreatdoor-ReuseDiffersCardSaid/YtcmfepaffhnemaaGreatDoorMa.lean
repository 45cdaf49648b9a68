/- Natural numbers in memory. -/
import Derived.WalkKit
import Derived.Below
import Derived.Laws.OwnMore
import Derived.Maps.AppendAt
import Derived.Deep.Draws
import Derived.Lib.Hide
import Derived.Sort.Grow
import Derived.Sort.Statements
import Derived.Laws.World
import Derived.Test.YtcmfepaffhnemaaGreatDoorChecked
import Derived.WalkSpells
import Derived.WalkLawsBesides
import Derived.Outline
import Derived.Deep.QuietTactic
import Derived.BigQuiet
import Derived.LaidEql
import Derived.Handy
import Derived.IntWalk
import Derived.BigRegion
import Derived.Laws.BitsAllLaws
namespace Go.Proofs.YtcmfepaffhnemaaGreatDoor
open Go.RowKit

theorem add_blk (a : Addr) (n : Nat) : (a.add n).block = a.block := by unfold Addr.add; split <;> rfl
theorem add_add (a : Addr) (i j : Nat) : (a.add i).add j = a.add (i + j) := by
  unfold Addr.add
  by_cases hi : i = 0 <;> by_cases hj : j = 0 <;> simp [hi, hj, Nat.add_assoc]
theorem add_mk (g o i : Nat) : (⟨g, o, none⟩ : Addr).add i = ⟨g, o + i, none⟩ := by
  unfold Addr.add
  by_cases h : i = 0 <;> simp [h]

/-- The address A is that of a row that begins with the values xs, in a block below B (nothing is said of A where xs is empty). -/
def Sees (w : World) (B : Nat) (A : Option Addr) (xs : List Value) : Prop :=
  ∀ j u, xs[j]? = some u → ∃ ad, A = some ad ∧ ad.block < B ∧ w.cell? (ad.add j) = some u

section
variable {w w' : World} {B B' : Nat} {A : Option Addr} {xs : List Value}
theorem Sees.nil : Sees w B A [] := fun j u h => by simp at h
theorem Sees.look (h : Sees w B A xs) {k : Nat} (hk : k < xs.length) : ∃ ad, A = some ad ∧ ad.block < B ∧ w.cell? (ad.add k) = some xs[k] :=
  h k _ (List.getElem?_eq_getElem hk)
theorem Sees.kept (h : Sees w B A xs) (hk : ∀ b, b < B → w'.heap[b]? = w.heap[b]?) : Sees w' B A xs := fun j u hu => by
  obtain ⟨ad, e, hb, hc⟩ := h j u hu
  exact ⟨ad, e, hb, (World.cell?_of_block (hk _ (by rw [add_blk]; exact hb))).trans hc⟩
theorem Sees.below (h : Sees w B A xs) (hb : Below B w w') : Sees w' B A xs := h.kept hb.block
theorem Sees.up (h : Sees w B A xs) (hB : B ≤ B') : Sees w B' A xs := fun j u hu => by
  obtain ⟨ad, e, hb, hc⟩ := h j u hu
  exact ⟨ad, e, by omega, hc⟩
theorem Sees.go (h : Sees w w.heap.size A xs) (hb : Below w.heap.size w w') : Sees w' w'.heap.size A xs := (h.below hb).up hb.size
theorem Sees.alloc (h : Sees w B A xs) (hB : B ≤ w.heap.size) (o : Obj) : Sees (w.alloc o) B A xs := h.kept fun b hb => Below.heap_alloc w o b (by omega)
theorem Sees.drewN (h : Sees w B A xs) (k : Nat) : Sees (w.drewN k) B A xs := h
theorem Sees.tail (h : Sees w B A xs) {k cap : Nat} (hc : xs.length ≤ cap) : Sees w B (if cap = k then A else A.map (·.add k)) (xs.drop k) := fun j u hu => by
  rw [List.getElem?_drop] at hu
  obtain ⟨ad, rfl, hb, hcell⟩ := h _ _ hu
  have hlt : k + j < xs.length := by
    rcases Nat.lt_or_ge (k + j) xs.length with h | h
    · exact h
    · rw [List.getElem?_eq_none h] at hu; cases hu
  rw [if_neg (by omega)]
  exact ⟨ad.add k, rfl, by rw [add_blk]; exact hb, by rw [add_add]; exact hcell⟩
theorem Sees.own {base : Nat} {e : TypeId} {n c : Nat} (h : w.ownsRow base e 1 (.slice A n c) n xs) : Sees w w.heap.size A xs := fun j u hu => by
  have hj : j < xs.length := by
    rcases Nat.lt_or_ge j xs.length with h | h
    · exact h
    · rw [List.getElem?_eq_none h] at hu; cases hu
  obtain ⟨hl, h0 | ⟨g, cap, cur, hv, _, hh, _, _, _, ht⟩⟩ := h
  · omega
  · have hA : A = some ⟨g, 0, none⟩ := by injection hv
    subst hA
    refine ⟨_, rfl, ?_, ?_⟩
    · rcases Nat.lt_or_ge g w.heap.size with hlt | hge
      · exact hlt
      · rw [Array.getElem?_eq_none hge] at hh; cases hh
    · rw [add_mk, Nat.zero_add, cell_of_row w g j cur e (0, 0) hh, ← Array.getElem?_toList, ← hu, ← ht, List.getElem?_take_of_lt (by omega)]
end

/-- Block g holds just the cells cs of element type t, none of them frozen. -/
def Bk (w : World) (g : Nat) (t : TypeId) (cs : Array Value) : Prop := w.heap[g]? = some (.cells cs t (0, 0))
section
variable {w w' : World} {g : Nat} {t : TypeId} {cs : Array Value}
theorem Bk.lt (h : Bk w g t cs) : g < w.heap.size := by
  rcases Nat.lt_or_ge g w.heap.size with hlt | hge
  · exact hlt
  · unfold Bk at h; rw [Array.getElem?_eq_none hge] at h; cases h
theorem Bk.cell (h : Bk w g t cs) (i : Nat) : w.cell? ⟨g, i, none⟩ = cs[i]? := cell_of_row w g i cs t (0, 0) h
theorem Bk.frozen (h : Bk w g t cs) (i : Nat) : w.frozen? ⟨g, i, none⟩ = false := by
  unfold Bk at h
  simp [World.frozen?, h]
theorem Bk.made (w : World) (t : TypeId) (cs : Array Value) : Bk (w.alloc (.cells cs t)) w.heap.size t cs := heap_alloc_new w _
theorem Bk.alloc (h : Bk w g t cs) (o : Obj) : Bk (w.alloc o) g t cs := (Below.heap_alloc w o g h.lt).trans h
theorem Bk.put (h : Bk w g t cs) (i : Nat) (u : Value) : Bk (w.setCell ⟨g, i, none⟩ u) g t (cs.setIfInBounds i u) := by
  unfold Bk at h ⊢
  simp [World.setCell, Array.getElem?_modify, h]
theorem Bk.other (h : Bk w g t cs) {p : Addr} (hp : g ≠ p.block) (u : Value) : Bk (w.setCell p u) g t cs := (Below.heap_setCell w p u g hp).trans h
theorem Bk.keep (h : Bk w g t cs) (hk : w'.heap[g]? = w.heap[g]?) : Bk w' g t cs := hk.trans h
theorem Bk.below {B : Nat} (h : Bk w g t cs) (hb : Below B w w') (hg : g < B) : Bk w' g t cs := h.keep (hb.block g hg)
theorem Bk.ne {g' : Nat} {t' : TypeId} {cs' : Array Value} (h : Bk w g t cs) (h' : Bk w g' t' cs') (hne : t ≠ t') : g ≠ g' := by
  rintro rfl
  unfold Bk at h h'
  rw [h] at h'
  injection h' with h'
  injection h' with _ ht
  exact hne ht
theorem Bk.sees (h : Bk w g t cs) {xs : List Value} (hx : xs <+: cs.toList) : Sees w w.heap.size (some ⟨g, 0, none⟩) xs := fun j u hu => by
  refine ⟨_, rfl, h.lt, ?_⟩
  rw [add_mk, Nat.zero_add, h.cell]
  obtain ⟨r, hr⟩ := hx
  have hj : j < xs.length := by
    rcases Nat.lt_or_ge j xs.length with h | h
    · exact h
    · rw [List.getElem?_eq_none h] at hu; cases hu
  rw [← Array.getElem?_toList, ← hr, List.getElem?_append_left hj]
  exact hu
end
theorem below_drewN {B : Nat} {a w : World} (h : Below B a w) (n : Nat) : Below B a (w.drewN n) := ⟨h.os, h.tape, h.output, h.size, h.block⟩

theorem ret_int {k : IntKind} {a b : Int} (h : a = b) : Ending.returned (.int k a) = .returned (.int k b) := by rw [h]
theorem ret_bool {a b : Bool} (h : a = b) : Ending.returned (.bool a) = .returned (.bool b) := by rw [h]

end Go.Proofs.YtcmfepaffhnemaaGreatDoor

set_option linter.unusedVariables false
namespace Go.Proofs.YtcmfepaffhnemaaGreatDoor
open Go.RowKit

/-- All blocks but those of X lie as they lay. -/
structure Fr (X : Nat → Prop) (w w' : World) : Prop where
  bel : Below 0 w w'
  keep : ∀ b, b < w.heap.size → ¬ X b → w'.heap[b]? = w.heap[b]?
section
variable {X Y : Nat → Prop} {w w' w'' : World}
theorem Fr.refl (X : Nat → Prop) (w : World) : Fr X w w := ⟨.refl _ _, fun _ _ _ => rfl⟩
theorem Fr.trans (h : Fr X w w') (k : Fr X w' w'') : Fr X w w'' := ⟨h.bel.trans k.bel, fun b hb hx => (k.keep b (Nat.lt_of_lt_of_le hb h.bel.size) hx).trans (h.keep b hb hx)⟩
theorem Fr.wide (h : Fr X w w') (hX : ∀ b, b < w.heap.size → X b → Y b) : Fr Y w w' := ⟨h.bel, fun b hb hy => h.keep b hb fun hx => hy (hX b hb hx)⟩
theorem Fr.drew (X : Nat → Prop) (w : World) : Fr X w w.drew := ⟨⟨rfl, rfl, rfl, Nat.le_refl _, fun _ _ => rfl⟩, fun _ _ _ => rfl⟩
theorem Fr.drewN (X : Nat → Prop) (w : World) (n : Nat) : Fr X w (w.drewN n) := ⟨⟨rfl, rfl, rfl, Nat.le_refl _, fun _ _ => rfl⟩, fun _ _ _ => rfl⟩
theorem Fr.alloc (X : Nat → Prop) (w : World) (o : Obj) : Fr X w (w.alloc o) := ⟨(Below.refl 0 w).alloc (Nat.zero_le _) o, fun b hb _ => Below.heap_alloc w o b hb⟩
theorem Fr.set (w : World) (p : Addr) (v : Value) (hX : X p.block) : Fr X w (w.setCell p v) := ⟨(Below.refl 0 w).setCell (Nat.zero_le _) v, fun b _ hx => Below.heap_setCell w p v b fun e => hx (e ▸ hX)⟩
theorem Fr.bk (h : Fr X w w') {g t : Nat} {cs : Array Value} (hb : Bk w g t cs) (hx : ¬ X g) : Bk w' g t cs := Bk.keep hb (h.keep g hb.lt hx)
theorem Fr.size (h : Fr X w w') : w.heap.size ≤ w'.heap.size := h.bel.size
theorem Fr.below (h : Fr X w w') {B : Nat} (hB : B ≤ w.heap.size) (hx : ∀ b, b < B → ¬ X b) : Below B w w' := ⟨h.bel.os, h.bel.tape, h.bel.output, h.bel.size, fun b hb => h.keep b (Nat.lt_of_lt_of_le hb hB) (hx b hb)⟩
end



/-- What the append laws ask of a slice type t with elements of type e of 'size' cells. -/
structure ElemS (P : Program) (t e : TypeId) (size bytes : Nat) : Prop where
  ht : P.underlying t = some (.slice e)
  hi : ∃ i z, P.info? e = some i ∧ i.zero = some z ∧ i.size = size ∧ i.bytes = bytes ∧ z.cells.size = size
  pos : 0 < size

section
variable {P : Program} {t e size bytes : Nat}
/-- One element: it was laid in a new block first. -/
theorem wpList_appS1 (h : ElemS P t e size bytes) {w : World} {ops : Array Oper} {rest : List Oper} {o : Oper} {a : Act} {Q : Exit → Act → World → Prop} (hgd : o.guard = none) (s x : Operand) (ho : o.op = .call { callee := .builtin .append, args := #[s, x], argTypes := #[t, t] })
    (base : Nat) (v : Value) (n : Nat) (xs : List Value) (us : Array Value) (hs : a.eval s = v) (hx : a.eval x = .slice (some ⟨w.heap.size, 0, none⟩) 1 1) (hus : us.size = size) (hown : w.ownsRow base e size v n xs) (h1 : ∀ u ∈ us.toList, u.oneCell' = true)
    (h63 : n + 1 ≤ maxLen) (hbytes : (n + 1) * bytes ≤ 140737488355328) (hbase : base ≤ w.heap.size)
    (hK : ∀ v' w', w'.ownsRow base e size v' (n + 1) (xs ++ us.toList) → Fr (fun b => v.ownBlock = some b) w w' → (v'.ownBlock = v.ownBlock ∨ ∀ b, v'.ownBlock = some b → w.heap.size < b) → wpList P ops Q rest (a.put o.dst v') w') :
    wpList P ops Q (o :: rest) a (w.alloc (.cells us e)) := by
  obtain ⟨i, z, hi, hz, hsz, hby, hzs⟩ := h.hi
  have hcell : ∀ j u, us.toList[j]? = some u → (w.alloc (.cells us e)).cell? ((⟨w.heap.size, 0, none⟩ : Addr).add j) = some u := fun j u hu => by
    rw [add_mk, Nat.zero_add, (Bk.made w e us).cell, ← Array.getElem?_toList]
    exact hu
  obtain ⟨v', w', hrun, h2, h3, _, h5⟩ := run_append_own_at (P := P) (w.alloc (.cells us e)) base t o.type e i z size bytes h.ht hi hz hsz hby hzs h.pos v n xs (hown.alloc _) ⟨w.heap.size, 0, none⟩ 1 1 us.toList (by simp [hus]) hcell h1 h63 hbytes (by simp; omega)
  refine wpList_plain hgd fun _ hK' => ?_
  unfold Oper.wp execOp
  simp only [ho, resolve, invoke, builtin, Sem.run_bind, Sem.run_pure, Result.andThen_ok, List.map_toArray, List.map_cons, List.map_nil, hs, hx, hrun]
  refine hK' _ _ (hK v' w' h2 ⟨((Below.refl _ _).alloc (Nat.zero_le _) _).grown h3 (by simp) (fun _ _ => Nat.zero_le _), ?_⟩ ?_)
  · intro b hb hne
    exact (h3.block b (by simp; omega) (fun e => hne e.symm)).trans (Below.heap_alloc _ _ _ hb)
  · rcases h5 with h5 | h5
    · exact .inl h5
    · refine .inr fun b hb => ?_
      rw [hb] at h5
      injection h5 with h5
      simp at h5
      omega
end

/-! Rows of structs. -/
section
variable {w w' : World} {B e size n : Nat} {v : Value} {xs : List Value}
theorem rw_keep (h : w.ownsRow B e size v n xs) (hk : ∀ b, v.ownBlock = some b → w'.heap[b]? = w.heap[b]?) : w'.ownsRow B e size v n xs := by
  refine ⟨h.1, ?_⟩
  rcases h.2 with hn | ⟨g, cap, cur, rfl, hb, hgg, rest⟩
  · exact .inl hn
  · exact .inr ⟨g, cap, cur, rfl, hb, (hk g rfl).trans hgg, rest⟩
theorem rw_drew (h : w.ownsRow B e size v n xs) : w.drew.ownsRow B e size v n xs := rw_keep h fun _ _ => rfl
theorem rw_bk (h : w.ownsRow B e size v n xs) : ∀ b, v.ownBlock = some b → ∃ cur, Bk w b e cur := by
  rcases h.2 with ⟨rfl, _⟩ | ⟨g, cap, cur, rfl, _, hgg, rest⟩
  · intro b e; cases e
  · intro b e
    obtain rfl : g = b := by simpa [Value.ownBlock] using e
    exact ⟨cur, hgg⟩
theorem rw_ne (h : w.ownsRow B e size v n xs) {g t : Nat} {cs : Array Value} (hb : Bk w g t cs) (ht : t ≠ e) : v.ownBlock ≠ some g := fun he => by
  obtain ⟨cur, hh⟩ := rw_bk h g he
  exact Bk.ne hh hb (fun e => ht e.symm) rfl
theorem rw_lt (h : w.ownsRow B e size v n xs) : ∀ b, v.ownBlock = some b → B ≤ b ∧ b < w.heap.size := World.ownsRow.lt h
theorem rw_form (h : w.ownsRow B e size v n xs) : ∃ A c, v = .slice A n c := by
  obtain ⟨_, ⟨rfl, rfl⟩ | ⟨g, cap, cur, rfl, _⟩⟩ := h
  · exact ⟨none, 0, rfl⟩
  · exact ⟨_, cap, rfl⟩
end

/-! Lists of structs laid flat. -/
section
variable {α : Type} {F : α → List Value} {k : Nat}
theorem flat_len (hF : ∀ a, (F a).length = k) : ∀ l : List α, (l.flatMap F).length = l.length * k
  | [] => by simp
  | a :: l => by rw [List.flatMap_cons, List.length_append, hF, flat_len hF l, List.length_cons, Nat.add_mul]; omega
theorem flat_at (hF : ∀ a, (F a).length = k) : ∀ {l : List α} {i j : Nat} {a : α}, l[i]? = some a → j < k → (l.flatMap F)[i * k + j]? = (F a)[j]?
  | [], i, j, a, h, _ => by simp at h
  | b :: l, 0, j, a, h, hj => by
    simp at h
    subst h
    rw [List.flatMap_cons, Nat.zero_mul, Nat.zero_add, List.getElem?_append_left (by rw [hF]; exact hj)]
  | b :: l, i + 1, j, a, h, hj => by
    simp at h
    rw [List.flatMap_cons, List.getElem?_append_right (by rw [hF, Nat.add_mul]; omega), hF, show (i + 1) * k + j - k = i * k + j from by rw [Nat.add_mul]; omega]
    exact flat_at hF h hj
theorem flat_set (hF : ∀ a, (F a).length = k) : ∀ {l : List α} {i j : Nat} {a b : α} {x : Value}, l[i]? = some a → j < k → (F a).set j x = F b → (l.flatMap F).set (i * k + j) x = (l.set i b).flatMap F
  | [], i, j, a, b, x, h, _, _ => by simp at h
  | c :: l, 0, j, a, b, x, h, hj, hx => by
    simp at h
    subst h
    rw [List.flatMap_cons, Nat.zero_mul, Nat.zero_add, List.set_append_left _ _ (by rw [hF]; exact hj), hx]
    rfl
  | c :: l, i + 1, j, a, b, x, h, hj, hx => by
    simp at h
    rw [List.flatMap_cons, List.set_append_right _ _ (by rw [hF, Nat.add_mul]; omega), hF, show (i + 1) * k + j - k = i * k + j from by rw [Nat.add_mul]; omega, flat_set hF h hj hx]
    rfl
end

section
variable {α : Type} {F : α → List Value} {k : Nat} {w : World} {B e g c n : Nat} {l : List α}
theorem row_cell (hF : ∀ a, (F a).length = k) (h : w.ownsRow B e k (.slice (some ⟨g, 0, none⟩) n c) n (l.flatMap F)) {i j : Nat} {a : α} (hi : l[i]? = some a) (hj : j < k) : w.cell? ⟨g, i * k + j, none⟩ = (F a)[j]? := by
  obtain ⟨hl, h0 | ⟨g', cap, cur, hv, _, hh, _, _, _, ht⟩⟩ := h
  · cases h0.1
  · injection hv with hv
    injection hv with hv
    injection hv with hv
    subst hv
    have hlt : i * k + j < (l.flatMap F).length := by
      rw [flat_len hF]
      have := (List.getElem?_eq_some_iff.1 hi).1
      have h2 : (i + 1) * k ≤ l.length * k := Nat.mul_le_mul_right k this
      rw [Nat.add_mul] at h2
      omega
    rw [cell_of_row w g _ cur e (0, 0) hh, ← Array.getElem?_toList, ← List.getElem?_take_of_lt (show i * k + j < n * k from by rw [← hl]; exact hlt), ht, flat_at hF hi hj]
theorem row_set (hF : ∀ a, (F a).length = k) (h : w.ownsRow B e k (.slice (some ⟨g, 0, none⟩) n c) n (l.flatMap F)) {i j : Nat} {a b : α} {x : Value} (hi : l[i]? = some a) (hj : j < k) (hx : (F a).set j x = F b) :
    (w.setCell ⟨g, i * k + j, none⟩ x).ownsRow B e k (.slice (some ⟨g, 0, none⟩) n c) n ((l.set i b).flatMap F) := by
  obtain ⟨hl, h0 | ⟨g', cap, cur, hv, hb, hh, h1, h2, h3, ht⟩⟩ := h
  · cases h0.1
  · have hv' := hv
    injection hv with hv hvn hvc
    injection hv with hv
    injection hv with hv
    subst hv
    subst hvc
    refine ⟨by rw [← hl, flat_len hF, flat_len hF, List.length_set], .inr ⟨g, c, _, rfl, hb, Bk.put hh _ x, h1, h2, by simpa using h3, ?_⟩⟩
    rw [Array.toList_setIfInBounds, List.take_set, ht, flat_set hF hi hj hx]
end




theorem step_appS {P : Program} {t e size bytes : Nat} (h : ElemS P t e size bytes) {ops : Array Oper} {w : World} {o : Oper} {a : Act} {K : Act → World → Prop} {Q : Exit → Act → World → Prop} {E : Prop} (hgd : o.guard = none) (s x : Operand) (ho : o.op = .call { callee := .builtin .append, args := #[s, x], argTypes := #[t, t] })
    (base : Nat) (v : Value) (n : Nat) (xs : List Value) (hs : a.eval s = v) (hown : w.ownsRow base e size v n xs) (ad : Addr) (m c : Nat) (news : List Value) (hx : a.eval x = .slice (some ad) m c) (hl : news.length = m * size) (hnews : ∀ j u, news[j]? = some u → w.cell? (ad.add j) = some u) (h1 : ∀ u ∈ news, u.oneCell' = true)
    (h63 : n + m ≤ maxLen) (hbytes : (n + m) * bytes ≤ 140737488355328) (hbase : base ≤ w.heap.size)
    (hK : ∀ v' w', w'.ownsRow base e size v' (n + m) (xs ++ news) → w.grownBy w' v.ownBlock → (v'.ownBlock = v.ownBlock ∨ v'.ownBlock = some w.heap.size) → K (a.put o.dst v') w') :
    if Region.wanted o (yielded ops a.tmps) = true then Oper.wp P o a w K Q else E := by
  have hw : Region.wanted o (yielded ops a.tmps) = true := by simp [Region.wanted, hgd]
  obtain ⟨i, z, hi, hz, hsz, hby, hzs⟩ := h.hi
  rw [if_pos hw]
  obtain ⟨v', w', hrun, h2, h3, _, h5⟩ := run_append_own_at (P := P) w base t o.type e i z size bytes h.ht hi hz hsz hby hzs h.pos v n xs hown ad m c news hl hnews h1 h63 hbytes hbase
  unfold Oper.wp execOp
  simp only [ho, resolve, invoke, builtin, Sem.run_bind, Sem.run_pure, Result.andThen_ok, List.map_toArray, List.map_cons, List.map_nil, hs, hx, hrun]
  exact hK v' w' h2 h3 h5
theorem made_cells (w : World) (t : TypeId) (us : Array Value) (j : Nat) (u : Value) (h : us.toList[j]? = some u) : ((w.alloc (.cells us t)).drew).cell? ((⟨w.heap.size, 0, none⟩ : Addr).add j) = some u := by
  rw [add_mk, Nat.zero_add]
  refine ((Bk.made w t us).cell j).trans ?_
  rw [← Array.getElem?_toList]
  exact h
theorem fr_of {w w' : World} {o : Obj} {v : Value} (hg : ((w.alloc o).drew).grownBy w' v.ownBlock) : Fr (fun b => v.ownBlock = some b) w w' := by
  have hsz : ((w.alloc o).drew).heap.size = w.heap.size + 1 := World.size_alloc ..
  refine ⟨?_, fun b hb hne => (hg.block b (by omega) (fun e => hne e.symm)).trans (Below.heap_alloc w o b hb)⟩
  have hb0 : Below 0 w ((w.alloc o).drew) := ((Below.refl _ _).alloc (Nat.zero_le _) _).drew
  exact hb0.grown hg (Nat.zero_le _) (fun _ _ => Nat.zero_le _)




theorem wpList_appS {P : Program} {t e size bytes : Nat} (h : ElemS P t e size bytes) {w : World} {ops : Array Oper} {rest : List Oper} {o : Oper} {a : Act} {Q : Exit → Act → World → Prop} (hgd : o.guard = none) (s x : Operand) (ho : o.op = .call { callee := .builtin .append, args := #[s, x], argTypes := #[t, t] })
    (base : Nat) (v : Value) (n : Nat) (xs : List Value) (hs : a.eval s = v) (hown : w.ownsRow base e size v n xs) (ad : Addr) (m c : Nat) (news : List Value) (hx : a.eval x = .slice (some ad) m c) (hl : news.length = m * size) (hnews : ∀ j u, news[j]? = some u → w.cell? (ad.add j) = some u) (h1 : ∀ u ∈ news, u.oneCell' = true)
    (h63 : n + m ≤ maxLen) (hbytes : (n + m) * bytes ≤ 140737488355328) (hbase : base ≤ w.heap.size)
    (hK : ∀ v' w', w'.ownsRow base e size v' (n + m) (xs ++ news) → w.grownBy w' v.ownBlock → (v'.ownBlock = v.ownBlock ∨ v'.ownBlock = some w.heap.size) → wpList P ops Q rest (a.put o.dst v') w') :
    wpList P ops Q (o :: rest) a w := by
  obtain ⟨i, z, hi, hz, hsz, hby, hzs⟩ := h.hi
  obtain ⟨v', w', hrun, h2, h3, _, h5⟩ := run_append_own_at (P := P) w base t o.type e i z size bytes h.ht hi hz hsz hby hzs h.pos v n xs hown ad m c news hl hnews h1 h63 hbytes hbase
  refine wpList_plain hgd fun _ hK' => ?_
  unfold Oper.wp execOp
  simp only [ho, resolve, invoke, builtin, Sem.run_bind, Sem.run_pure, Result.andThen_ok, List.map_toArray, List.map_cons, List.map_nil, hs, hx, hrun]
  exact hK' _ _ (hK v' w' h2 h3 h5)


/-- All that lay in w lies in w'. -/
def Gr (w w' : World) : Prop := Fr (fun b => w.heap.size ≤ b) w w'
section
variable {w w1 w2 : World} {X : Nat → Prop}
theorem Gr.refl (w : World) : Gr w w := Fr.refl _ _
theorem Gr.step (h : Gr w w1) (k : Fr X w1 w2) (hX : ∀ b, b < w1.heap.size → X b → w.heap.size ≤ b) : Gr w w2 := Fr.trans h (k.wide hX)
theorem Gr.no (h : Gr w w1) (k : Fr (fun _ => False) w1 w2) : Gr w w2 := h.step k fun _ _ h => h.elim
theorem Gr.alloc (h : Gr w w1) (o : Obj) : Gr w (w1.alloc o) := h.no (Fr.alloc _ _ _)
theorem Gr.below (h : Gr w w1) : Below w.heap.size w w1 := Fr.below h (Nat.le_refl _) fun b hb h => by omega
theorem Gr.size (h : Gr w w1) : w.heap.size ≤ w1.heap.size := Fr.size h
theorem Gr.of (h : Below w.heap.size w w1) : Gr w w1 := ⟨⟨h.os, h.tape, h.output, h.size, fun b hb => absurd hb (Nat.not_lt_zero b)⟩, fun b hb _ => h.block b hb⟩
theorem Gr.no_of (h : Below w.heap.size w w1) : Fr (fun _ => False) w w1 := ⟨⟨h.os, h.tape, h.output, h.size, fun b hb => absurd hb (Nat.not_lt_zero b)⟩, fun b hb _ => h.block b hb⟩
theorem Gr.fr (h : Gr w w1) : Fr (fun _ => False) w w1 := Gr.no_of h.below
theorem Gr.then (h : Gr w w1) (k : Below w1.heap.size w1 w2) : Gr w w2 := h.no (Gr.no_of k)
theorem Gr.set (h : Gr w w1) {p : Addr} (hp : w.heap.size ≤ p.block) (v : Value) : Gr w (w1.setCell p v) := Fr.trans h (Fr.set _ _ _ hp)
end
end Go.Proofs.YtcmfepaffhnemaaGreatDoor

set_option linter.unusedVariables false
namespace Go.Proofs.YtcmfepaffhnemaaGreatDoor

abbrev B32 : Nat := 4294967296
theorem B32_eq : B32 = 4294967296 := rfl
/-- The number that a row of limbs stands for, the lowest limb first. -/
def val : List Nat → Nat
  | [] => 0
  | x :: r => x + B32 * val r
/-- All limbs are less than 2^32. -/
def Lim (l : List Nat) : Prop := ∀ x, x ∈ l → x < B32
/-- The canonical row of a number. -/
def limbs (n : Nat) : List Nat := if h : n = 0 then [] else (n % B32) :: limbs (n / B32)
  termination_by n
  decreasing_by exact Nat.div_lt_self (by omega) (by decide)

theorem limbs_zero : limbs 0 = [] := by rw [limbs]; rfl
theorem limbs_pos {n : Nat} (h : n ≠ 0) : limbs n = (n % B32) :: limbs (n / B32) := by rw [limbs, dif_neg h]
theorem limbs_one {n : Nat} (h : n ≠ 0) (hn : n < B32) : limbs n = [n] := by
  rw [limbs_pos h, Nat.mod_eq_of_lt hn, Nat.div_eq_of_lt hn, limbs_zero]
theorem val_limbs (n : Nat) : val (limbs n) = n := by
  induction n using Nat.strongRecOn with
  | ind n ih =>
    by_cases h : n = 0
    · subst h; rw [limbs_zero]; rfl
    · rw [limbs_pos h, val, ih _ (Nat.div_lt_self (by omega) (by decide))]
      exact Nat.mod_add_div n B32
theorem limbs_lim (n : Nat) : Lim (limbs n) := by
  induction n using Nat.strongRecOn with
  | ind n ih =>
    by_cases h : n = 0
    · subst h; rw [limbs_zero]; intro x hx; cases hx
    · rw [limbs_pos h]
      intro x hx
      rcases List.mem_cons.1 hx with rfl | hx
      · exact Nat.mod_lt _ (by decide)
      · exact ih _ (Nat.div_lt_self (by omega) (by decide)) x hx
theorem limbs_nil {n : Nat} : limbs n = [] ↔ n = 0 := by
  constructor
  · intro h
    rw [← val_limbs n, h]; rfl
  · rintro rfl; exact limbs_zero
theorem limbs_inj {a b : Nat} (h : limbs a = limbs b) : a = b := by rw [← val_limbs a, h, val_limbs]
theorem limbs_len0 {n : Nat} : (limbs n).length = 0 ↔ n = 0 := by rw [List.length_eq_zero_iff, limbs_nil]

theorem Lim.tail {x : Nat} {l : List Nat} (h : Lim (x :: l)) : Lim l := fun y hy => h y (List.mem_cons_of_mem _ hy)
theorem Lim.head {x : Nat} {l : List Nat} (h : Lim (x :: l)) : x < B32 := h x (List.mem_cons_self ..)
theorem Lim.take {l : List Nat} (h : Lim l) (k : Nat) : Lim (l.take k) := fun y hy => h y (List.mem_of_mem_take hy)
theorem Lim.drop {l : List Nat} (h : Lim l) (k : Nat) : Lim (l.drop k) := fun y hy => h y (List.mem_of_mem_drop hy)
theorem Lim.at {l : List Nat} (h : Lim l) {i x : Nat} (hx : l[i]? = some x) : x < B32 := h x (List.mem_of_getElem? hx)
theorem Lim.append {a b : List Nat} (ha : Lim a) (hb : Lim b) : Lim (a ++ b) := fun y hy => (List.mem_append.1 hy).elim (ha y) (hb y)
theorem Lim.nil : Lim [] := fun y hy => by cases hy
theorem Lim.one {x : Nat} (h : x < B32) : Lim [x] := fun y hy => by rw [List.mem_singleton.1 hy]; exact h

theorem val_append : ∀ (a b : List Nat), val (a ++ b) = val a + B32 ^ a.length * val b
  | [], b => by simp [val]
  | x :: a, b => by
    rw [List.cons_append, val, val_append a b, val, List.length_cons, Nat.pow_succ, Nat.mul_add, ← Nat.mul_assoc, Nat.mul_comm B32 (B32 ^ a.length)]
    omega
theorem val_lt : ∀ {l : List Nat}, Lim l → val l < B32 ^ l.length
  | [], _ => by simp [val]
  | x :: l, h => by
    have h1 := h.head
    have h2 := val_lt h.tail
    rw [val, List.length_cons, Nat.pow_succ]
    have h3 : B32 * (val l + 1) ≤ B32 * B32 ^ l.length := Nat.mul_le_mul_left _ h2
    rw [Nat.mul_add] at h3
    rw [Nat.mul_comm (B32 ^ l.length)]
    omega
theorem val_zero : ∀ {l : List Nat}, (∀ x ∈ l, x = 0) → val l = 0
  | [], _ => rfl
  | x :: l, h => by
    rw [val, val_zero fun y hy => h y (List.mem_cons_of_mem _ hy), h x (List.mem_cons_self ..), Nat.mul_zero]
theorem val_take {l : List Nat} {k : Nat} (h : ∀ i x, k ≤ i → l[i]? = some x → x = 0) : val (l.take k) = val l := by
  have hz : val (l.drop k) = 0 := val_zero fun x hx => by
    obtain ⟨i, hi⟩ := List.mem_iff_getElem?.1 hx
    rw [List.getElem?_drop] at hi
    exact h _ x (by omega) hi
  have e := val_append (l.take k) (l.drop k)
  rw [List.take_append_drop, hz, Nat.mul_zero, Nat.add_zero] at e
  exact e.symm

/-- The last limb, if there is one, is not 0. -/
def Cano (l : List Nat) : Prop := ∀ x, l.getLast? = some x → x ≠ 0
theorem Cano.tail {x y : Nat} {l : List Nat} (h : Cano (x :: y :: l)) : Cano (y :: l) := fun z hz => h z (by rw [List.getLast?_cons_cons]; exact hz)
theorem limbs_val : ∀ {l : List Nat}, Lim l → Cano l → limbs (val l) = l
  | [], _, _ => by rw [val, limbs_zero]
  | [x], h, hc => by
    have h0 : x ≠ 0 := hc x rfl
    rw [show val [x] = x by simp [val], limbs_one h0 h.head]
  | x :: y :: l, h, hc => by
    have ih := limbs_val h.tail hc.tail
    have h1 := h.head
    have hne : val (y :: l) ≠ 0 := fun e => by rw [e, limbs_zero] at ih; cases ih
    rw [val, limbs_pos (by have : B32 * val (y :: l) ≠ 0 := Nat.mul_ne_zero (by decide) hne; omega), Nat.add_mul_mod_self_left, Nat.mod_eq_of_lt h1, Nat.add_mul_div_left _ _ (by decide), Nat.div_eq_of_lt h1, Nat.zero_add, ih]
theorem limbs_cano (n : Nat) : Cano (limbs n) := by
  induction n using Nat.strongRecOn with
  | ind n ih =>
    by_cases h : n = 0
    · subst h; rw [limbs_zero]; intro x hx; cases hx
    · by_cases h2 : n / B32 = 0
      · rw [limbs_pos h, h2, limbs_zero]
        intro x hx
        have : n < B32 := by
          rcases Nat.lt_or_ge n B32 with h3 | h3
          · exact h3
          · have := Nat.div_pos h3 (by decide : 0 < B32); omega
        have hx' : n % B32 = x := by simpa using hx
        rw [Nat.mod_eq_of_lt this] at hx'
        omega
      · rw [limbs_pos h, limbs_pos h2]
        have := ih _ (Nat.div_lt_self (by omega) (by decide : 1 < B32))
        rw [limbs_pos h2] at this
        intro x hx
        rw [List.getLast?_cons_cons] at hx
        exact this x hx
/-- A row without its zeros at the end is the canonical one. -/
theorem limbs_take {l : List Nat} (h : Lim l) {k : Nat} (hk : k ≤ l.length) (hz : ∀ i x, k ≤ i → l[i]? = some x → x = 0) (hl : ∀ x, 0 < k → l[k - 1]? = some x → x ≠ 0) : limbs (val l) = l.take k := by
  rw [← val_take hz]
  refine limbs_val (h.take k) fun x hx => ?_
  rw [List.getLast?_eq_getElem?, List.length_take, Nat.min_eq_left hk] at hx
  rcases Nat.eq_zero_or_pos k with rfl | h0
  · simp at hx
  · rw [List.getElem?_take_of_lt (by omega)] at hx
    exact hl x h0 hx
theorem val_take_le (l : List Nat) (k : Nat) : val (l.take k) ≤ val l := by
  have e := val_append (l.take k) (l.drop k)
  rw [List.take_append_drop] at e
  omega
theorem limbs_low {n : Nat} (h : n ≠ 0) : B32 ^ ((limbs n).length - 1) ≤ n := by
  induction n using Nat.strongRecOn with
  | ind n ih =>
    rw [limbs_pos h, List.length_cons, Nat.add_sub_cancel]
    by_cases h2 : n / B32 = 0
    · rw [h2, limbs_zero]; simp; omega
    · have h1 := ih _ (Nat.div_lt_self (by omega) (by decide : 1 < B32)) h2
      have h3 : (limbs (n / B32)).length ≠ 0 := fun e => h2 (limbs_len0.1 e)
      obtain ⟨k, hk⟩ : ∃ k, (limbs (n / B32)).length = k + 1 := ⟨(limbs (n / B32)).length - 1, by omega⟩
      rw [hk] at h1 ⊢
      rw [Nat.add_sub_cancel] at h1
      rw [Nat.pow_succ]
      exact Nat.le_trans (Nat.mul_le_mul_right _ h1) (Nat.div_mul_le_self n B32)
theorem limbs_high (n : Nat) : n < B32 ^ (limbs n).length := by
  have := val_lt (limbs_lim n)
  rw [val_limbs] at this
  exact this
theorem limbs_len_le {n k : Nat} (h : n < B32 ^ k) : (limbs n).length ≤ k := by
  by_cases h0 : n = 0
  · subst h0; rw [limbs_zero]; exact Nat.zero_le _
  · have h1 := limbs_low h0
    refine Nat.le_of_not_lt fun h2 => ?_
    have : B32 ^ k ≤ B32 ^ ((limbs n).length - 1) := Nat.pow_le_pow_right (by decide) (by omega)
    omega
theorem limbs_len_mono {a b : Nat} (h : a ≤ b) : (limbs a).length ≤ (limbs b).length := limbs_len_le (Nat.lt_of_le_of_lt h (limbs_high b))
theorem lt_of_len {a b : Nat} (h : (limbs a).length < (limbs b).length) : a < b := by
  refine Nat.lt_of_not_le fun h2 => ?_
  have := limbs_len_mono h2
  omega
/-- Two rows of one length that part at limb i and are the same above it. -/
theorem val_lt_at : ∀ {i : Nat} {a b : List Nat} {x y : Nat}, Lim a → Lim b → a[i]? = some x → b[i]? = some y → a.drop (i + 1) = b.drop (i + 1) → x < y → val a < val b
  | _, [], b, x, y, _, _, hx, _, _, _ => by simp at hx
  | _, a :: r, [], x, y, _, _, _, hy, _, _ => by simp at hy
  | 0, a :: r, b :: s, x, y, ha, hb, hx, hy, hd, h => by
    simp at hx hy hd
    subst hx hy hd
    rw [val, val]; omega
  | i + 1, a :: r, b :: s, x, y, ha, hb, hx, hy, hd, h => by
    have h1 := val_lt_at (i := i) ha.tail hb.tail (by simpa using hx) (by simpa using hy) (by simpa using hd) h
    have h2 := ha.head
    rw [val, val]
    have h3 : B32 * (val r + 1) ≤ B32 * val s := Nat.mul_le_mul_left _ h1
    rw [Nat.mul_add] at h3
    omega
theorem val_snoc (a : List Nat) (x : Nat) : val (a ++ [x]) = val a + B32 ^ a.length * x := by
  rw [val_append]; simp [val]
theorem val_take_succ {l : List Nat} {i x : Nat} (h : l[i]? = some x) : val (l.take (i + 1)) = val (l.take i) + B32 ^ i * x := by
  have hl := (List.getElem?_eq_some_iff.1 h).1
  rw [List.take_add_one, h, Option.toList_some, val_snoc, List.length_take, Nat.min_eq_left (by omega)]
end Go.Proofs.YtcmfepaffhnemaaGreatDoor

set_option linter.unusedVariables false
namespace Go.Proofs.YtcmfepaffhnemaaGreatDoor

structure Q where
  neg : Bool
  num : Nat
  den : Nat
  deriving DecidableEq, Inhabited
namespace Q
abbrev zero : Q := ⟨false, 0, 0⟩
abbrev one : Q := ⟨false, 1, 0⟩
abbrev mone : Q := ⟨true, 1, 0⟩
/-- The denominator. -/
def un (q : Q) : Nat := if q.den = 0 then 1 else q.den
theorem un_pos (q : Q) : 0 < q.un := by unfold un; split <;> omega
/-- In lowest terms; 0 has no sign. -/
structure Ok (q : Q) : Prop where
  one : q.den ≠ 1
  cop : Nat.gcd q.num q.un = 1
  pos : q.num = 0 → q.neg = false ∧ q.den = 0
instance (q : Q) : Decidable q.Ok := decidable_of_iff (q.den ≠ 1 ∧ Nat.gcd q.num q.un = 1 ∧ (q.num = 0 → q.neg = false ∧ q.den = 0)) ⟨fun ⟨a, b, c⟩ => ⟨a, b, c⟩, fun ⟨a, b, c⟩ => ⟨a, b, c⟩⟩
end Q
/-- A denominator as it is kept. -/
def den0 (d : Nat) : Nat := if d = 1 then 0 else d
/-- The quotient in lowest terms. -/
def quot (neg : Bool) (num den : Nat) : Q := if num = 0 then Q.zero else ⟨neg, num / Nat.gcd num den, den0 (den / Nat.gcd num den)⟩
theorem quot_ok (neg : Bool) (num : Nat) {den : Nat} (hd : 0 < den) : (quot neg num den).Ok := by
  unfold quot
  split
  · exact ⟨by decide, by decide, fun _ => ⟨rfl, rfl⟩⟩
  · have hn : 0 < num := by omega
    have hg := Nat.gcd_pos_of_pos_left den hn
    have hn2 : 0 < num / Nat.gcd num den := Nat.div_pos (Nat.le_of_dvd hn (Nat.gcd_dvd_left ..)) hg
    have hd2 : 0 < den / Nat.gcd num den := Nat.div_pos (Nat.le_of_dvd hd (Nat.gcd_dvd_right ..)) hg
    have hc : Nat.gcd (num / Nat.gcd num den) (den / Nat.gcd num den) = 1 := Nat.gcd_div_gcd_div_gcd_of_pos_left hn
    have hu : (Q.mk neg (num / Nat.gcd num den) (den0 (den / Nat.gcd num den))).un = den / Nat.gcd num den := by
      unfold Q.un den0
      by_cases h : den / Nat.gcd num den = 1
      · rw [if_pos h]; exact (if_pos rfl).trans h.symm
      · rw [if_neg h]; exact if_neg (Nat.ne_of_gt hd2)
    refine ⟨?_, ?_, fun h => absurd h (by simp only; omega)⟩
    · simp only [den0]
      split <;> omega
    · rw [hu]; exact hc
theorem quot_self {q : Q} (h : q.Ok) : quot q.neg q.num q.un = q := by
  obtain ⟨n, a, d⟩ := q
  unfold quot
  split <;> rename_i h0
  · simp only at h0
    subst h0
    obtain ⟨h1, h2⟩ := h.pos rfl
    simp only at h1 h2
    subst h1 h2
    rfl
  · have hc := h.cop
    simp only at hc
    rw [hc, Nat.div_one, Nat.div_one]
    congr 1
    have h1 := h.one
    simp only at h1
    unfold den0 Q.un
    simp only
    by_cases h2 : d = 0
    · rw [if_pos h2, if_pos rfl, h2]
    · rw [if_neg h2, if_neg h1]

/-- A sum of signed numbers; 0 has no sign. -/
def sadd (na : Bool) (a : Nat) (nb : Bool) (b : Nat) : Bool × Nat :=
  if na = nb then (na && decide (0 < a + b), a + b) else if a < b then (nb, b - a) else (na && decide (0 < a - b), a - b)
namespace Q
/-- The sign as a number uses it: that of 0 does not count. -/
def sg (q : Q) : Bool := q.neg && decide (0 < q.num)
def add (a b : Q) : Q := let s := sadd (a.sg && decide (0 < a.num * b.un)) (a.num * b.un) (b.sg && decide (0 < b.num * a.un)) (b.num * a.un); quot s.1 s.2 (a.un * b.un)
def mul (a b : Q) : Q := quot (a.neg != b.neg) (a.num * b.num) (a.un * b.un)
def flip (a : Q) : Q := ⟨!a.neg, a.num, a.den⟩
def sign (a : Q) : Int := if a.num = 0 then 0 else if a.neg then -1 else 1
def cmp (a b : Q) : Int :=
  if a.sign ≠ b.sign then (if a.sign < b.sign then -1 else 1)
  else if a.num * b.un = b.num * a.un then 0 else if (a.num * b.un < b.num * a.un) = (0 ≤ a.sign) then -1 else 1
theorem sg_ok {a : Q} (h : a.Ok) : a.sg = a.neg := by
  unfold sg
  by_cases h0 : a.num = 0
  · rw [(h.pos h0).1]; rfl
  · rw [decide_eq_true (by omega), Bool.and_true]
end Q
end Go.Proofs.YtcmfepaffhnemaaGreatDoor

set_option linter.unusedVariables false
namespace Go.Proofs.YtcmfepaffhnemaaGreatDoor
open Go.RowKit

theorem Gr.keep {w w' : World} (G : Gr w w') {a : Addr} {v : Value} (h : w.cell? a = some v) : w'.cell? a = some v :=
  (World.cell?_of_block (G.below.block _ (World.block_lt_of_cell? w _ h))).trans h
theorem Gr.drewN {w w' : World} (h : Gr w w') (n : Nat) : Gr w (w'.drewN n) := h.no (Fr.drewN _ _ _)
theorem Gr.drew {w w' : World} (h : Gr w w') : Gr w w'.drew := h.no (Fr.drew _ _)
theorem Gr.trans {a b c : World} (h : Gr a b) (k : Gr b c) : Gr a c := h.no k.fr
theorem Gr.bk {w w' : World} (G : Gr w w') {g t : Nat} {cs : Array Value} (h : Bk w g t cs) : Bk w' g t cs := G.fr.bk h id
theorem Gr.lt {w w' : World} (G : Gr w w') {g : Nat} (h : g < w.heap.size) : g < w'.heap.size := Nat.lt_of_lt_of_le h G.size
theorem add_zero (a : Addr) : a.add 0 = a := by unfold Addr.add; simp
theorem add_in (a : Addr) (i : Nat) {j : Nat} (h : j ≠ 0) : a.add (i + j) = ⟨(a.add i).block, (a.add i).off + j, none⟩ := by
  rw [← add_add, Addr.add, if_neg h]
theorem Sees.gr {w w' : World} {A : Option Addr} {xs : List Value} (h : Sees w w.heap.size A xs) (G : Gr w w') : Sees w' w'.heap.size A xs := h.go G.below
theorem Sees.take {w : World} {B : Nat} {A : Option Addr} {xs : List Value} (h : Sees w B A xs) (k : Nat) : Sees w B A (xs.take k) := fun i x hx => by
  rw [List.getElem?_take] at hx
  split at hx
  · exact h i x hx
  · cases hx

/-- A slice in a slot. -/
structure Sv where
  A : Option Addr
  n : Nat
  c : Nat
abbrev Sv.v (x : Sv) : Value := .slice x.A x.n x.c
abbrev Sv.none : Sv := ⟨Option.none, 0, 0⟩
/-- Its elements, of k cells each, have the cells ds. -/
structure Sv.Is (w : World) (x : Sv) (k : Nat) (ds : List Value) : Prop where
  len : ds.length = x.n * k
  cap : x.n ≤ x.c
  max : x.c ≤ 9223372036854775807
  nil : x.A = Option.none → x.c = 0
  see : Sees w w.heap.size x.A ds
section
variable {w w' : World} {x : Sv} {k : Nat} {ds : List Value}
theorem Sv.Is.gr (h : x.Is w k ds) (G : Gr w w') : x.Is w' k ds := ⟨h.len, h.cap, h.max, h.nil, h.see.gr G⟩
theorem Sv.Is.none (w : World) (k : Nat) : Sv.none.Is w k [] := ⟨by simp, Nat.le_refl _, Nat.zero_le _, fun _ => rfl, Sees.nil⟩
theorem Sv.Is.take (h : x.Is w k ds) {m : Nat} (hm : m ≤ x.n) : Sv.Is w ⟨x.A, m, x.c⟩ k (ds.take (m * k)) :=
  ⟨by rw [List.length_take, h.len]; exact Nat.min_eq_left (Nat.mul_le_mul_right _ hm), Nat.le_trans hm h.cap, h.max, h.nil, h.see.take _⟩
theorem Sv.Is.mk0 (h : x.Is w k ds) (h0 : x.A = Option.none) : x = Sv.none ∧ ds = [] := by
  obtain ⟨A, n, c⟩ := x
  have h1 := h.nil h0
  have h2 := h.cap
  have h3 := h.len
  simp only at h0 h1 h2 h3
  subst h0 h1
  obtain rfl : n = 0 := by omega
  rw [Nat.zero_mul] at h3
  exact ⟨rfl, List.length_eq_zero_iff.1 h3⟩
theorem Sv.Is.look (h : x.Is w k ds) {i : Nat} {u : Value} (hu : ds[i]? = some u) : ∃ ad, x.A = some ad ∧ ad.block < w.heap.size ∧ w.cell? (ad.add i) = some u := h.see i u hu
end

abbrev lv (y : Nat) : Value := .int .u32 (y : Int)
/-- If it has elements, they lie in a block of elements of type e. -/
def Sv.Ty (w : World) (x : Sv) (e : TypeId) : Prop := ∀ ad, x.A = some ad → 0 < x.n → ∃ cs fr, w.heap[ad.block]? = some (.cells cs e fr)
theorem Sv.Ty.keep {w w' : World} {x : Sv} {e : TypeId} (h : x.Ty w e) (hk : ∀ ad, x.A = some ad → 0 < x.n → w'.heap[ad.block]? = w.heap[ad.block]?) : x.Ty w' e := fun ad ha hn => by
  obtain ⟨cs, fr, hh⟩ := h ad ha hn
  exact ⟨cs, fr, (hk ad ha hn).trans hh⟩
theorem Sv.Ty.gr {w w' : World} {x : Sv} {e : TypeId} (h : x.Ty w e) (G : Gr w w') : x.Ty w' e := fun ad ha hn => by
  obtain ⟨cs, fr, hh⟩ := h ad ha hn
  refine ⟨cs, fr, (G.below.block _ ?_).trans hh⟩
  rcases Nat.lt_or_ge ad.block w.heap.size with h1 | h1
  · exact h1
  · rw [Array.getElem?_eq_none h1] at hh; cases hh
/-- A natural number in a slot: the slice x holds the limbs l. -/
structure Sv.Num (w : World) (x : Sv) (l : List Nat) : Prop where
  is : x.Is w 1 (l.map lv)
  lim : Lim l
  ty : x.Ty w 211
section
variable {w w' : World} {x : Sv} {l : List Nat}
theorem Sv.Num.gr (h : x.Num w l) (G : Gr w w') : x.Num w' l := ⟨h.is.gr G, h.lim, h.ty.gr G⟩
theorem Sv.Num.len (h : x.Num w l) : l.length = x.n := by have := h.is.len; rw [List.length_map] at this; omega
theorem Sv.Num.none (w : World) : Sv.none.Num w [] := ⟨Sv.Is.none w 1, Lim.nil, fun ad h => by cases h⟩
theorem Sv.Num.take (h : x.Num w l) {k : Nat} (hk : k ≤ x.n) : Sv.Num w ⟨x.A, k, x.c⟩ (l.take k) :=
  ⟨by have := h.is.take hk; rw [Nat.mul_one, ← List.map_take] at this; exact this, h.lim.take k, fun ad ha hn => h.ty ad ha (Nat.lt_of_lt_of_le hn hk)⟩
/-- Limb i lies where the slice says. -/
theorem Sv.Num.at (h : x.Num w l) {i : Nat} (hi : i < x.n) : ∃ y ad, l[i]? = some y ∧ y < B32 ∧ x.A = some ad ∧ ad.block < w.heap.size ∧ w.cell? (ad.add i) = some (.int .u32 (y : Int)) := by
  have hl : i < l.length := by rw [h.len]; exact hi
  obtain ⟨ad, e, hb, hc⟩ := h.is.look (i := i) (u := lv l[i]) (by rw [List.getElem?_map, List.getElem?_eq_getElem hl]; rfl)
  exact ⟨_, ad, List.getElem?_eq_getElem hl, h.lim _ (List.getElem_mem hl), e, hb, hc⟩
end

/-- A rational number in a slot. -/
structure Rv where
  neg : Bool
  num : Sv
  den : Sv
abbrev Rv.v (x : Rv) : Value := .agg #[.bool x.neg, .slice x.num.A x.num.n x.num.c, .slice x.den.A x.den.n x.den.c]
abbrev Rv.cs (x : Rv) : List Value := [.bool x.neg, .slice x.num.A x.num.n x.num.c, .slice x.den.A x.den.n x.den.c]
structure Rv.Is (w : World) (x : Rv) (q : Q) : Prop where
  neg : x.neg = q.neg
  num : x.num.Num w (limbs q.num)
  den : x.den.Num w (limbs q.den)
theorem Rv.Is.gr {w w' : World} {x : Rv} {q : Q} (h : x.Is w q) (G : Gr w w') : x.Is w' q := ⟨h.neg, h.num.gr G, h.den.gr G⟩
/-- The zero value. -/
abbrev Rv.nil : Rv := ⟨false, Sv.none, Sv.none⟩
theorem Rv.Is.zero (w : World) : Rv.nil.Is w Q.zero := ⟨rfl, by rw [limbs_zero]; exact Sv.Num.none w, by rw [limbs_zero]; exact Sv.Num.none w⟩
/-- An integer in a slot. -/
structure Iv where
  neg : Bool
  mag : Sv
abbrev Iv.v (x : Iv) : Value := .agg #[.bool x.neg, .slice x.mag.A x.mag.n x.mag.c]
structure Iv.Is (w : World) (x : Iv) (neg : Bool) (m : Nat) : Prop where
  neg : x.neg = neg
  mag : x.mag.Num w (limbs m)
theorem Iv.Is.gr {w w' : World} {x : Iv} {s : Bool} {m : Nat} (h : x.Is w s m) (G : Gr w w') : x.Is w' s m := ⟨h.neg, h.mag.gr G⟩

/-- What is stored into blocks of other types does not touch a slice of elements of type e. -/
theorem Sv.Is.tf {w w' : World} {x : Sv} {k : Nat} {ds : List Value} {e : TypeId} {X : Nat → Prop} (h : x.Is w k ds) (t : x.Ty w e) (F : Fr X w w') (hX : ∀ b cs fr, X b → w.heap[b]? ≠ some (.cells cs e fr)) : x.Is w' k ds ∧ x.Ty w' e := by
  have hk : ∀ ad, x.A = some ad → 0 < x.n → w'.heap[ad.block]? = w.heap[ad.block]? ∧ ad.block < w.heap.size := fun ad ha hn => by
    obtain ⟨cs, fr, hh⟩ := t ad ha hn
    have hlt : ad.block < w.heap.size := by
      rcases Nat.lt_or_ge ad.block w.heap.size with h1 | h1
      · exact h1
      · rw [Array.getElem?_eq_none h1] at hh; cases hh
    exact ⟨F.keep _ hlt fun hx => hX _ cs fr hx hh, hlt⟩
  refine ⟨⟨h.len, h.cap, h.max, h.nil, fun i u hu => ?_⟩, t.keep fun ad ha hn => (hk ad ha hn).1⟩
  obtain ⟨ad, e, hl, hc⟩ := h.see i u hu
  have hn : 0 < x.n := by
    have h1 := (List.getElem?_eq_some_iff.1 hu).1
    have h2 := h.len
    rcases Nat.eq_zero_or_pos x.n with h3 | h3
    · rw [h3, Nat.zero_mul] at h2; omega
    · exact h3
  exact ⟨ad, e, Nat.lt_of_lt_of_le hl F.size, (World.cell?_of_block (by rw [add_blk]; exact (hk ad e hn).1)).trans hc⟩

/-- The elements (of type e) of a slice: each of k cells (cs), and what it stands for (Is). -/
def Rows {α β : Type} (cs : β → List Value) (Is : World → β → α → Prop) (e : TypeId) (k : Nat) (w : World) (x : Sv) (xs : List α) : Prop :=
  ∃ ts : List (β × α), x.Is w k (ts.flatMap fun p => cs p.1) ∧ xs = ts.map (·.2) ∧ (∀ p ∈ ts, Is w p.1 p.2) ∧ x.Ty w e
section
variable {α β : Type} {cs : β → List Value} {Is : World → β → α → Prop} {e : TypeId} {k : Nat} {w w' : World} {x : Sv} {xs : List α}
theorem Rows.gr (hI : ∀ {w w' : World} {b : β} {a : α}, Is w b a → Gr w w' → Is w' b a) (h : Rows cs Is e k w x xs) (G : Gr w w') : Rows cs Is e k w' x xs := by
  obtain ⟨ts, h1, h2, h3, h4⟩ := h
  exact ⟨ts, h1.gr G, h2, fun p hp => hI (h3 p hp) G, h4.gr G⟩
theorem Rows.tf (h : Rows cs Is e k w x xs) {X : Nat → Prop} (F : Fr X w w') (hX : ∀ b cs fr, X b → w.heap[b]? ≠ some (.cells cs e fr)) (hI : ∀ p a, Is w p a → Is w' p a) : Rows cs Is e k w' x xs := by
  obtain ⟨ts, h1, h2, h3, h4⟩ := h
  obtain ⟨h5, h6⟩ := h1.tf h4 F hX
  exact ⟨ts, h5, h2, fun p hp => hI _ _ (h3 p hp), h6⟩
theorem Rows.empty : Rows cs Is e k w Sv.none [] := ⟨[], Sv.Is.none w k, rfl, (fun p hp => by cases hp), (fun ad h => by cases h)⟩
theorem Rows.len (hk : ∀ b, (cs b).length = k) (h0 : 0 < k) (h : Rows cs Is e k w x xs) : xs.length = x.n := by
  obtain ⟨ts, h1, rfl, _⟩ := h
  have h2 := h1.len
  rw [flat_len (F := fun p : β × α => cs p.1) (k := k) (fun p => hk p.1)] at h2
  rw [List.length_map]
  exact Nat.eq_of_mul_eq_mul_right h0 h2
/-- Element i lies where the slice says. -/
theorem Rows.at (hk : ∀ b, (cs b).length = k) (h : Rows cs Is e k w x xs) {i : Nat} {a : α} (ha : xs[i]? = some a) :
    ∃ b, Is w b a ∧ ∀ j u, (cs b)[j]? = some u → ∃ ad, x.A = some ad ∧ ad.block < w.heap.size ∧ w.cell? (ad.add (i * k + j)) = some u := by
  obtain ⟨ts, h1, rfl, h3, _⟩ := h
  rw [List.getElem?_map] at ha
  obtain ⟨p, hp, rfl⟩ := Option.map_eq_some_iff.1 ha
  refine ⟨p.1, h3 p (List.mem_of_getElem? hp), fun j u hu => ?_⟩
  have hj : j < k := by
    have := (List.getElem?_eq_some_iff.1 hu).1
    rw [hk] at this
    exact this
  exact h1.look (by rw [flat_at (F := fun p : β × α => cs p.1) (k := k) (fun p => hk p.1) hp hj]; exact hu)
theorem Rows.nil (hk : ∀ b, (cs b).length = k) (h0 : 0 < k) (h : Rows cs Is e k w x xs) (hA : x.A = Option.none) : x = Sv.none ∧ xs = [] := by
  have hl := h.len hk h0
  obtain ⟨ts, h1, h2, _⟩ := h
  obtain ⟨h3, _⟩ := h1.mk0 hA
  refine ⟨h3, ?_⟩
  rw [h3] at hl
  exact List.length_eq_zero_iff.1 hl
theorem Rows.head (hk : ∀ b, (cs b).length = k) {a : α} (h : Rows cs Is e k w x (a :: xs)) : ∃ b, Is w b a ∧ ∀ j u, (cs b)[j]? = some u → ∃ ad, x.A = some ad ∧ w.cell? (ad.add j) = some u := by
  obtain ⟨b, h1, h2⟩ := h.at hk (i := 0) rfl
  exact ⟨b, h1, fun j u hu => by obtain ⟨ad, h3, _, h4⟩ := h2 j u hu; exact ⟨ad, h3, by rwa [Nat.zero_mul, Nat.zero_add] at h4⟩⟩
theorem Rows.tail (hk : ∀ b, (cs b).length = k) (h0 : 0 < k) {a : α} (h : Rows cs Is e k w x (a :: xs)) : Rows cs Is e k w ⟨if x.c = 1 then x.A else x.A.map (·.add k), x.n - 1, x.c - 1⟩ xs := by
  have hn := h.len hk h0
  rw [List.length_cons] at hn
  obtain ⟨ts, h1, h2, h3, hty⟩ := h
  cases ts with
  | nil => cases h2
  | cons p ts =>
    rw [List.map_cons] at h2
    injection h2 with h2 h4
    have hc := h1.cap
    have hl := h1.len
    rw [List.flatMap_cons, List.length_append, hk] at hl
    have hxs : xs.length = ts.length := by rw [h4, List.length_map]
    refine ⟨ts, ⟨?_, ?_, ?_, ?_, ?_⟩, h4, fun q hq => h3 q (List.mem_cons_of_mem _ hq), ?_⟩
    · show _ = (x.n - 1) * k
      rw [flat_len (F := fun p : β × α => cs p.1) (k := k) (fun p => hk p.1), ← hn, hxs]
      rfl
    · show x.n - 1 ≤ x.c - 1
      omega
    · have := h1.max
      show x.c - 1 ≤ _
      omega
    · intro e
      show x.c - 1 = 0
      simp only at e
      split at e
      · omega
      · have e2 : x.A = Option.none := by cases hA : x.A; rfl; rw [hA] at e; cases e
        have := h1.nil e2
        omega
    · intro j u hu
      obtain ⟨ad, e, hb, hcell⟩ := h1.see (k + j) u (by rw [List.flatMap_cons, List.getElem?_append_right (by rw [hk]; omega), hk, show k + j - k = j from by omega]; exact hu)
      have hj : 0 < xs.length := by
        rw [hxs]
        rcases ts with _ | ⟨a, l⟩
        · simp at hu
        · simp
      have hc2 : x.c ≠ 1 := by omega
      simp only [if_neg hc2, e, Option.map_some]
      exact ⟨ad.add k, rfl, by rw [add_blk]; exact hb, by rw [add_add]; exact hcell⟩
    · intro ad ha hx
      simp only at ha hx
      split at ha
      · exact hty ad ha (by omega)
      · obtain ⟨ad', e1, e2⟩ := Option.map_eq_some_iff.1 ha
        have := hty ad' e1 (by omega)
        rw [← e2, add_blk]
        exact this
end
end Go.Proofs.YtcmfepaffhnemaaGreatDoor

set_option linter.unusedVariables false
namespace Go.Proofs.YtcmfepaffhnemaaGreatDoor
open Go.RowKit

attribute [local go_sem] Oper.semAt_some

theorem zero_down {l : List Nat} {k : Nat} (h : ∀ i x, k + 1 ≤ i → l[i]? = some x → x = 0) (hk : l[k]? = some 0) : ∀ i x, k ≤ i → l[i]? = some x → x = 0 := fun i x hi hx => by
  rcases Nat.eq_or_lt_of_le hi with rfl | h1
  · rw [hk] at hx; injection hx with hx; exact hx.symm
  · exact h i x h1 hx
theorem trimmed {l : List Nat} {k : Nat} (hL : Lim l) (hk : k ≤ l.length) (hz : ∀ i x, k ≤ i → l[i]? = some x → x = 0) (hl : ∀ x, 0 < k → l[k - 1]? = some x → x ≠ 0) : l.take k = limbs (val l) := (limbs_take hL hk hz hl).symm

set_option maxRecDepth 100000 in
set_option maxHeartbeats 1000000 in
theorem trim_any (w : World) (x : Sv) (l : List Nat) (h : x.Num w l) :
    Calls Tryz.prog 154 #[.slice x.A x.n x.c] w fun e w' => ∃ y : Sv, e = .returned y.v ∧ y.Num w' (limbs (val l)) ∧ Gr w w' := by
  obtain ⟨A, n, c⟩ := x
  have HI := Lib.hid h
  have hn := h.is.cap
  have hc := h.is.max
  have HL := Lib.hid h.len
  simp only at hn hc HL ⊢
  clear h
  go_enter Tryz.func154, Tryz.ntmps154
  go_wp2
  go_loopw [3] (fun s wr => ∃ k : Nat, s = .int .i64 k ∧ k ≤ n ∧ Hid (∀ i x, k ≤ i → l[i]? = some x → x = 0) ∧ Hid (Gr w wr)) (fun s _ => (intOf s).toNat)
  case atStart => exact ⟨n, rfl, Nat.le_refl _, (fun i x hi hx => by rw [List.getElem?_eq_none (by rw [HL.out]; exact hi)] at hx; cases hx), Gr.refl w⟩
  case round =>
    obtain ⟨k, rfl, hk, hZ, hG⟩ := hrel
    cases k with
    | zero =>
      go_wp2
      go_ret
      refine ⟨⟨none, 0, 0⟩, rfl, ?_, hG.out⟩
      rw [← trimmed (k := 0) HI.out.lim (Nat.zero_le _) hZ.out (fun x hx => absurd hx (by omega))]
      exact Sv.Num.none _
    | succ j =>
      obtain ⟨y, ad, hy, hy9, hA, hb, d⟩ := (HI.out.gr hG.out).at (i := j) hk
      simp only at hA
      subst hA
      have hw1 : IntKind.i64.wrap ((j : Int) + 1 - 1) = (j : Int) := by rw [IntWalk.i64_in _ (by omega)]; omega
      have hw2 : IntKind.i64.wrap (((j + 1 : Nat) : Int) - 1) = (j : Int) := by rw [IntWalk.i64_in _ (by omega)]; omega
      have HB := Lib.hid hb
      by_cases hy0 : y = 0
      · subst hy0
        have HZ := Lib.hid (zero_down hZ.out hy)
        clear hy hy9 hb hZ
        go_wp2
        go_roundw
        case rel => exact ⟨j, by go_num, by omega, HZ, hG⟩
        case measure => first | (simp [intOf]; done) | (simp [intOf]; omega)
      · have HT := Lib.hid (trimmed (k := j + 1) HI.out.lim (by rw [HL.out]; exact hk) hZ.out (fun x _ hx => by
          rw [Nat.add_sub_cancel, hy] at hx
          injection hx with hx
          omega))
        have HY := Lib.hid ((HI.out.gr hG.out).take (k := j + 1) hk)
        rw [HT.out] at HY
        clear hy hy9 hb hZ
        go_wp2
        go_ret
        exact ⟨_, rfl, HY.out, hG.out⟩
end Go.Proofs.YtcmfepaffhnemaaGreatDoor

set_option linter.unusedVariables false
namespace Go.Proofs.YtcmfepaffhnemaaGreatDoor
open Go.RowKit

theorem elem_of {t e size bytes : Nat} {z : Value} (hu : Tryz.prog.underlying t = some (.slice e)) (hi : (Tryz.prog.info? e).map (fun i => (i.zero, i.size, i.bytes)) = some (some z, size, bytes)) (hz : z.cells.size = size) (hp : 0 < size) : ElemS Tryz.prog t e size bytes := by
  refine ⟨hu, ?_, hp⟩
  obtain ⟨i, hi, hz'⟩ := Option.map_eq_some_iff.1 hi
  simp only [Prod.mk.injEq] at hz'
  exact ⟨i, z, hi, hz'.1, hz'.2.1, hz'.2.2, hz⟩
theorem elemN : ElemS Tryz.prog 39 211 1 4 := elem_of (z := .int .u32 0) (by kernel_rfl) (by kernel_rfl) rfl (by decide)

/-- A row of our own is a slice that holds what was written. -/
theorem Sv.of_row {w : World} {B e k n : Nat} {v : Value} {xs : List Value} (h : w.ownsRow B e k v n xs) (hk : 0 < k) : ∃ y : Sv, v = y.v ∧ y.n = n ∧ y.Is w k xs ∧ y.Ty w e := by
  obtain ⟨hl, ⟨rfl, rfl⟩ | ⟨g, cap, cur, rfl, hB, hh, hc, hx, hs, ht⟩⟩ := h
  · rw [Nat.zero_mul] at hl
    rw [List.length_eq_zero_iff.1 hl]
    exact ⟨Sv.none, rfl, rfl, Sv.Is.none w k, fun ad h => by cases h⟩
  · refine ⟨⟨some ⟨g, 0, Option.none⟩, n, cap⟩, rfl, rfl, ⟨hl, hc, hx, (fun e => by cases e), ?_⟩, fun ad ha _ => ?_⟩
    · have hb : Bk w g e cur := hh
      exact hb.sees ⟨cur.toList.drop (n * k), by rw [← ht, List.take_append_drop]⟩
    · injection ha with ha
      rw [← ha]
      exact ⟨cur, (0, 0), hh⟩
/-- A slice's cells are there for an append. -/
theorem Sv.Is.cells {w : World} {x : Sv} {k : Nat} {ds : List Value} (h : x.Is w k ds) {ad : Addr} (hA : x.A = some ad) : ∀ j u, ds[j]? = some u → w.cell? (ad.add j) = some u := fun j u hu => by
  obtain ⟨ad', e, _, hc⟩ := h.look hu
  rw [hA] at e
  injection e with e
  subst e
  exact hc
theorem nil_of {w : World} {x : Sv} {k : Nat} {ds : List Value} (h : x.Is w k ds) (hA : x.A = none) : x.n = 0 ∧ x.c = 0 := by
  obtain ⟨h1, _⟩ := h.mk0 hA
  rw [h1]; exact ⟨rfl, rfl⟩
theorem Gr.of_own {w w1 : World} {t : TypeId} {n : Nat} (h3 : (w.alloc (.cells #[] t)).grownBy w1 (Value.slice (some ⟨w.heap.size, 0, none⟩) n 0).ownBlock) : Gr w w1 :=
  Gr.of (((Below.refl _ w).alloc (Nat.le_refl _) _).grown h3 (by simp) fun k e => by injection e with e; exact Nat.le_of_eq e)
end Go.Proofs.YtcmfepaffhnemaaGreatDoor

set_option linter.unusedVariables false
namespace Go.Proofs.YtcmfepaffhnemaaGreatDoor
open Go.RowKit

attribute [local go_sem] Oper.semAt_some

set_option maxRecDepth 100000 in
set_option maxHeartbeats 1000000 in
theorem cloneN (w : World) (x : Sv) (ds : List Value) (h : x.Is w 1 ds) (h1 : ∀ u ∈ ds, u.oneCell' = true) (hn : x.n ≤ 1000000) :
    Calls Tryz.prog 262 #[.slice x.A x.n x.c] w fun e w' => ∃ y : Sv, e = .returned y.v ∧ y.Is w' 1 ds ∧ y.Ty w' 211 ∧ Gr w w' := by
  obtain ⟨A, n, c⟩ := x
  simp only at hn
  have heq := fun (W : World) (A : Option Addr) (n c : Nat) => Lib.run_eql_slice_nil (P := Tryz.prog) W 39 211 A n c 0 0 elemN.ht
  rcases A with _ | ad
  · obtain ⟨h9, rfl⟩ := h.mk0 rfl
    injection h9 with _ h8 h7
    subst h8 h7
    go_enter Tryz.func262, Tryz.ntmps262
    go_wp2
    go_ret
    exact ⟨Sv.none, rfl, Sv.Is.none _ _, (fun ad h => by cases h), Gr.refl w⟩
  · have HO : Hid ((w.alloc (.cells #[] 211)).ownsRow w.heap.size 211 1 (.slice (some ⟨w.heap.size, 0, none⟩) 0 0) 0 []) := ⟨rfl, .inr ⟨w.heap.size, 0, #[], rfl, Nat.le_refl _, Bk.made _ _ _, Nat.le_refl _, Nat.zero_le _, rfl, rfl⟩⟩
    have HC : Hid (∀ j u, ds[j]? = some u → (w.alloc (.cells #[] 211)).cell? (ad.add j) = some u) := (h.gr ((Gr.refl w).alloc _)).cells rfl
    have HU := Lib.hid h1
    have H1 := Lib.hid h.len
    simp only at H1
    clear h h1
    go_enter Tryz.func262, Tryz.ntmps262
    go_wp2_with (at_builtin; refine wpList_appS elemN rfl _ _ rfl w.heap.size (.slice (some ⟨w.heap.size, 0, none⟩) 0 0) 0 [] rfl HO.out ad n c ds rfl H1.out HC.out HU.out (by unfold maxLen; omega) (by omega) (by simp) ?_; intro v' w' h2 h3 h5)
    go_wp2
    go_ret
    rw [Nat.zero_add, List.nil_append] at h2
    obtain ⟨y, rfl, _, hy, hty⟩ := Sv.of_row h2 (by decide)
    exact ⟨y, rfl, hy, hty, Gr.of_own h3⟩
theorem one_limbs (l : List Nat) : ∀ u ∈ l.map lv, u.oneCell' = true := by
  intro u hu
  obtain ⟨y, _, rfl⟩ := List.mem_map.1 hu
  rfl

set_option maxRecDepth 100000 in
set_option maxHeartbeats 1000000 in
theorem make_any (w : World) (x : Sv) (l : List Nat) (h : x.Num w l) (hn : l.length ≤ 1000000) :
    Calls Tryz.prog 200 #[.slice x.A x.n x.c] w fun e w' => ∃ y : Sv, e = .returned y.v ∧ y.Num w' (limbs (val l)) ∧ Gr w w' := by
  have H1 := Lib.hid (trim_any w x l h)
  have HB : Hid ((limbs (val l)).length ≤ 1000000) := by
    have h1 : (limbs (val l)).length ≤ l.length := limbs_len_le (val_lt h.lim)
    exact (Nat.le_trans h1 hn)
  clear h hn
  go_enter Tryz.func200, Tryz.ntmps200
  go_wp2_with fail
  refine H1.out.mono ?_
  rintro e w1 ⟨u, rfl, hu, G1⟩
  have HU := Lib.hid hu
  have HG := Lib.hid G1
  have H2 := Lib.hid (cloneN w1 u _ hu.is (one_limbs _) (by rw [← hu.len]; exact HB.out))
  clear hu G1 H1
  go_wp2_with fail
  refine H2.out.mono ?_
  rintro e w2 ⟨y, rfl, hy, hty, G2⟩
  have HY := Lib.hid hy
  have HT := Lib.hid hty
  have HG2 := Lib.hid (HG.out.trans G2)
  clear hy hty G2 HG H2
  go_wp2
  go_ret
  exact ⟨y, rfl, ⟨HY.out, limbs_lim _, HT.out⟩, HG2.out⟩
end Go.Proofs.YtcmfepaffhnemaaGreatDoor

set_option linter.unusedVariables false
namespace Go.Proofs.YtcmfepaffhnemaaGreatDoor

theorem val_set : ∀ {o : List Nat} {j x : Nat} (v : Nat), o[j]? = some x → val (o.set j v) + B32 ^ j * x = val o + B32 ^ j * v
  | [], j, x, v, h => by simp at h
  | y :: o, 0, x, v, h => by
    simp at h
    subst h
    simp [val]; omega
  | y :: o, j + 1, x, v, h => by
    have ih := val_set (o := o) (j := j) v (by simpa using h)
    rw [List.set_cons_succ, val, val, Nat.pow_succ, Nat.mul_comm (B32 ^ j) B32, Nat.mul_assoc, Nat.mul_assoc]
    have : B32 * (val (o.set j v) + B32 ^ j * x) = B32 * (val o + B32 ^ j * v) := by rw [ih]
    rw [Nat.mul_add, Nat.mul_add] at this
    omega
theorem val_zeros (n : Nat) : val (List.replicate n 0) = 0 := val_zero fun x hx => (List.mem_replicate.1 hx).2
theorem Lim.set {l : List Nat} (h : Lim l) (j : Nat) {v : Nat} (hv : v < B32) : Lim (l.set j v) := fun y hy => by
  rcases List.mem_or_eq_of_mem_set hy with h1 | h1
  · exact h y h1
  · rw [h1]; exact hv
theorem Lim.zeros (n : Nat) : Lim (List.replicate n 0) := fun y hy => by rw [(List.mem_replicate.1 hy).2]; decide
theorem val_take_all {l : List Nat} {n : Nat} (h : l.length ≤ n) : val (l.take n) = val l := by rw [List.take_of_length_le h]
theorem get_set_ne {o : List Nat} {i j v : Nat} (h : i ≠ j) : (o.set i v)[j]? = o[j]? := by rw [List.getElem?_set_ne h]
theorem get_zeros {n j : Nat} (h : j < n) : (List.replicate n 0)[j]? = some 0 := by rw [List.getElem?_replicate, if_pos h]

/-- Limb i, 0 behind the last one. -/
def lim0 (l : List Nat) (i : Nat) : Nat := l.getD i 0
theorem lim0_at {l : List Nat} {i x : Nat} (h : l[i]? = some x) : lim0 l i = x := by rw [lim0, List.getD_eq_getElem?_getD, h]; rfl
theorem lim0_past {l : List Nat} {i : Nat} (h : l.length ≤ i) : lim0 l i = 0 := by rw [lim0, List.getD_eq_getElem?_getD, List.getElem?_eq_none h]; rfl
theorem lim0_lt {l : List Nat} (h : Lim l) (i : Nat) : lim0 l i < B32 := by
  rcases Nat.lt_or_ge i l.length with hi | hi
  · rw [lim0_at (List.getElem?_eq_getElem hi)]
    exact h _ (List.getElem_mem hi)
  · rw [lim0_past hi]; decide
theorem val_take_lim0 (l : List Nat) (i : Nat) : val (l.take (i + 1)) = val (l.take i) + B32 ^ i * lim0 l i := by
  rcases Nat.lt_or_ge i l.length with hi | hi
  · rw [val_take_succ (List.getElem?_eq_getElem hi), lim0_at (List.getElem?_eq_getElem hi)]
  · rw [lim0_past hi, List.take_of_length_le hi, List.take_of_length_le (by omega)]; rfl

/-- The state of an addition before limb i: the row o, the carry c. -/
structure AddSt (a b o : List Nat) (i c m : Nat) : Prop where
  len : o.length = m
  lim : Lim o
  car : c ≤ 1
  sum : val o + B32 ^ i * c = val (a.take i) + val (b.take i)
  zer : ∀ j, i ≤ j → j < m → o[j]? = some 0
theorem AddSt.start (a b : List Nat) (m : Nat) : AddSt a b (List.replicate m 0) 0 0 m :=
  ⟨by simp, Lim.zeros m, by omega, by rw [val_zeros]; simp [val], fun j _ hj => get_zeros hj⟩
theorem AddSt.step {a b o : List Nat} {i c m : Nat} (h : AddSt a b o i c m) (ha : Lim a) (hb : Lim b) (hi : i < m) {s : Nat} (hs : s = c + lim0 a i + lim0 b i) :
    AddSt a b (o.set i (s % B32)) (i + 1) (s / B32) m := by
  have h1 := lim0_lt ha i
  have h2 := lim0_lt hb i
  have h3 := h.car
  have h0 := h.zer i (Nat.le_refl _) hi
  refine ⟨by rw [List.length_set]; exact h.len, h.lim.set i (Nat.mod_lt _ (by decide)), ?_, ?_, fun j hj hm => by rw [get_set_ne (by omega)]; exact h.zer j (by omega) hm⟩
  · have : s < 2 * B32 := by omega
    have := Nat.div_lt_of_lt_mul (show s < B32 * 2 by omega)
    omega
  · have e1 := val_set (s % B32) h0
    have e2 := h.sum
    have e3 := val_take_lim0 a i
    have e4 := val_take_lim0 b i
    have e5 : B32 ^ i * (s % B32) + B32 ^ (i + 1) * (s / B32) = B32 ^ i * s := by
      rw [Nat.pow_succ, Nat.mul_assoc, ← Nat.mul_add, Nat.mod_add_div]
    have e6 : B32 ^ i * s = B32 ^ i * c + B32 ^ i * lim0 a i + B32 ^ i * lim0 b i := by rw [hs, Nat.mul_add, Nat.mul_add]
    rw [Nat.mul_zero] at e1
    omega
/-- Behind the last limb the carry is laid down. -/
theorem AddSt.done {a b o : List Nat} {n c : Nat} (h : AddSt a b o n c (n + 1)) (ha : a.length ≤ n) (hb : b.length ≤ n) :
    val (o.set n c) = val a + val b ∧ Lim (o.set n c) := by
  have e1 := val_set c (h.zer n (Nat.le_refl _) (by omega))
  have e2 := h.sum
  rw [val_take_all ha, val_take_all hb] at e2
  rw [Nat.mul_zero] at e1
  exact ⟨by omega, h.lim.set n (by have := h.car; have := B32_eq; omega)⟩

/-- The state of a subtraction before limb i: the row o, the borrow c. -/
structure SubSt (a b o : List Nat) (i c m : Nat) : Prop where
  len : o.length = m
  lim : Lim o
  car : c ≤ 1
  sum : val o + val (b.take i) = val (a.take i) + B32 ^ i * c
  zer : ∀ j, i ≤ j → j < m → o[j]? = some 0
theorem SubSt.start (a b : List Nat) (m : Nat) : SubSt a b (List.replicate m 0) 0 0 m :=
  ⟨by simp, Lim.zeros m, by omega, by rw [val_zeros]; simp [val], fun j _ hj => get_zeros hj⟩
theorem SubSt.step {a b o : List Nat} {i c m : Nat} (h : SubSt a b o i c m) (ha : Lim a) (hb : Lim b) (hi : i < m) {x c' : Nat} (hx : x < B32) (hc : c' ≤ 1) (hs : x + c + lim0 b i = lim0 a i + B32 * c') :
    SubSt a b (o.set i x) (i + 1) c' m := by
  have h0 := h.zer i (Nat.le_refl _) hi
  refine ⟨by rw [List.length_set]; exact h.len, h.lim.set i hx, hc, ?_, fun j hj hm => by rw [get_set_ne (by omega)]; exact h.zer j (by omega) hm⟩
  have e1 := val_set x h0
  have e2 := h.sum
  have e3 := val_take_lim0 a i
  have e4 := val_take_lim0 b i
  have e5 : B32 ^ i * (x + c + lim0 b i) = B32 ^ i * (lim0 a i + B32 * c') := by rw [hs]
  rw [Nat.mul_add, Nat.mul_add, Nat.mul_add] at e5
  have e6 : B32 ^ (i + 1) * c' = B32 ^ i * (B32 * c') := by rw [Nat.pow_succ, Nat.mul_assoc]
  rw [Nat.mul_zero] at e1
  omega
theorem SubSt.done {a b o : List Nat} {n c m : Nat} (h : SubSt a b o n c m) (ha : a.length ≤ n) (hb : b.length ≤ n) (hm : m ≤ n) (hv : val b ≤ val a) : val o = val a - val b := by
  have e2 := h.sum
  rw [val_take_all ha, val_take_all hb] at e2
  have h3 := val_lt h.lim
  rw [h.len] at h3
  have h4 : B32 ^ m ≤ B32 ^ n := Nat.pow_le_pow_right (by decide) hm
  have h5 := h.car
  rcases Nat.eq_zero_or_pos c with rfl | hc
  · omega
  · have : c = 1 := by omega
    subst this
    omega

/-- The state of a product: the first i limbs of a are done; of limb i, k limbs of b. -/
structure MulSt (a b o : List Nat) (i : Nat) : Prop where
  len : o.length = a.length + b.length
  lim : Lim o
  sum : val o = val (a.take i) * val b
  zer : ∀ j, i + b.length ≤ j → j < a.length + b.length → o[j]? = some 0
theorem MulSt.start (a b : List Nat) : MulSt a b (List.replicate (a.length + b.length) 0) 0 :=
  ⟨by simp, Lim.zeros _, by rw [val_zeros]; simp [val], fun j _ hj => get_zeros hj⟩
structure MulIn (a b o : List Nat) (i x k c : Nat) : Prop where
  len : o.length = a.length + b.length
  lim : Lim o
  car : c < B32
  sum : val o + B32 ^ (i + k) * c = val (a.take i) * val b + B32 ^ i * (x * val (b.take k))
  zer : ∀ j, i + b.length ≤ j → j < a.length + b.length → o[j]? = some 0
theorem MulSt.into {a b o : List Nat} {i : Nat} (h : MulSt a b o i) (x : Nat) : MulIn a b o i x 0 0 :=
  ⟨h.len, h.lim, by decide, by rw [h.sum]; simp [val], h.zer⟩
theorem MulIn.step {a b o : List Nat} {i x k c y z s : Nat} (h : MulIn a b o i x k c) (hi : i < a.length) (hx : x < B32) (hb : Lim b) (hy : b[k]? = some y) (hz : o[i + k]? = some z) (hs : s = c + (x * y + z)) :
    MulIn a b (o.set (i + k) (s % B32)) i x (k + 1) (s / B32) := by
  have hk := (List.getElem?_eq_some_iff.1 hy).1
  have h1 : y < B32 := hb.at hy
  have h2 : z < B32 := h.lim.at hz
  have h3 := h.car
  have h4 : x * y ≤ (B32 - 1) * (B32 - 1) := Nat.mul_le_mul (by omega) (by omega)
  have h5 : s < B32 * B32 := by
    have : (B32 - 1) * (B32 - 1) = 18446744065119617025 := by decide
    have : B32 * B32 = 18446744073709551616 := by decide
    have := B32_eq
    omega
  refine ⟨by rw [List.length_set]; exact h.len, h.lim.set _ (Nat.mod_lt _ (by decide)), Nat.div_lt_of_lt_mul h5, ?_, fun j hj hm => by rw [get_set_ne (by omega)]; exact h.zer j hj hm⟩
  have e1 := val_set (s % B32) hz
  have e2 := h.sum
  have e3 := val_take_succ hy
  have e5 : B32 ^ (i + k) * (s % B32) + B32 ^ (i + (k + 1)) * (s / B32) = B32 ^ (i + k) * s := by
    rw [show i + (k + 1) = (i + k) + 1 by omega, Nat.pow_succ, Nat.mul_assoc, ← Nat.mul_add, Nat.mod_add_div]
  have e6 : B32 ^ (i + k) * s = B32 ^ (i + k) * c + B32 ^ (i + k) * (x * y) + B32 ^ (i + k) * z := by rw [hs, Nat.mul_add, Nat.mul_add, Nat.add_assoc]
  have e7 : B32 ^ i * (x * val (b.take (k + 1))) = B32 ^ i * (x * val (b.take k)) + B32 ^ (i + k) * (x * y) := by
    rw [e3, Nat.mul_add, Nat.mul_add, Nat.pow_add]
    congr 1
    simp only [Nat.mul_assoc, Nat.mul_left_comm, Nat.mul_comm]
  omega
theorem MulIn.done {a b o : List Nat} {i x c : Nat} (h : MulIn a b o i x b.length c) (ha : a[i]? = some x) : MulSt a b (o.set (i + b.length) c) (i + 1) := by
  have hi := (List.getElem?_eq_some_iff.1 ha).1
  have e1 := val_set c (h.zer (i + b.length) (Nat.le_refl _) (by omega))
  have e2 := h.sum
  rw [List.take_length] at e2
  refine ⟨by rw [List.length_set]; exact h.len, h.lim.set _ h.car, ?_, fun j hj hm => by rw [get_set_ne (by omega)]; exact h.zer j (by omega) hm⟩
  rw [val_take_succ ha, Nat.add_mul, Nat.mul_assoc]
  rw [Nat.mul_zero] at e1
  omega
theorem MulSt.done {a b o : List Nat} (h : MulSt a b o a.length) : val o = val a * val b := by
  rw [h.sum, List.take_length]

/-- The state of a division by one limb, from the top down to limb i. -/
structure DivSt (a o : List Nat) (d i r : Nat) : Prop where
  len : o.length = a.length
  lim : Lim o
  rem : r < d
  sum : val o * d + B32 ^ i * r = B32 ^ i * val (a.drop i)
  zer : ∀ j, j < i → j < a.length → o[j]? = some 0
theorem DivSt.start (a : List Nat) {d : Nat} (hd : 0 < d) : DivSt a (List.replicate a.length 0) d a.length 0 :=
  ⟨by simp, Lim.zeros _, hd, by rw [val_zeros, List.drop_length]; simp [val], fun j _ hj => get_zeros hj⟩
theorem DivSt.step {a o : List Nat} {d i r x s : Nat} (h : DivSt a o d (i + 1) r) (ha : Lim a) (hx : a[i]? = some x) (hd : d < B32) (hs : s = r * B32 + x) :
    DivSt a (o.set i (s / d)) d i (s % d) ∧ s / d < B32 := by
  have hi := (List.getElem?_eq_some_iff.1 hx).1
  have h1 : x < B32 := ha.at hx
  have h2 := h.rem
  have hq : s / d < B32 := by
    refine Nat.div_lt_of_lt_mul ?_
    have : (r + 1) * B32 ≤ d * B32 := Nat.mul_le_mul_right _ h2
    rw [Nat.add_mul] at this
    omega
  refine ⟨⟨by rw [List.length_set]; exact h.len, h.lim.set _ hq, Nat.mod_lt _ (by omega), ?_, fun j hj hm => by rw [get_set_ne (by omega)]; exact h.zer j (by omega) hm⟩, hq⟩
  have e1 := val_set (s / d) (h.zer i (by omega) hi)
  have e2 := h.sum
  have e3 : val (a.drop i) = x + B32 * val (a.drop (i + 1)) := by
    obtain ⟨h9, h8⟩ := List.getElem?_eq_some_iff.1 hx
    rw [List.drop_eq_getElem_cons h9, h8, val]
  have e4 : B32 ^ i * (s / d * d) + B32 ^ i * (s % d) = B32 ^ i * s := by rw [← Nat.mul_add, Nat.div_add_mod' s d]
  have e5 : B32 ^ i * s = B32 ^ (i + 1) * r + B32 ^ i * x := by
    rw [hs, Nat.mul_add, Nat.pow_succ, Nat.mul_comm r B32, Nat.mul_assoc]
  have e6 : B32 ^ i * val (a.drop i) = B32 ^ i * x + B32 ^ (i + 1) * val (a.drop (i + 1)) := by
    rw [e3, Nat.mul_add, Nat.pow_succ, Nat.mul_assoc]
  rw [Nat.mul_zero, Nat.add_zero] at e1
  rw [e1, Nat.add_mul, Nat.mul_assoc]
  omega
theorem DivSt.done {a o : List Nat} {d r : Nat} (h : DivSt a o d 0 r) : val o = val a / d ∧ r = val a % d := by
  have e := h.sum
  rw [Nat.pow_zero, Nat.one_mul, Nat.one_mul, List.drop_zero] at e
  have h2 := h.rem
  constructor
  · rw [← e, Nat.mul_comm, Nat.mul_add_div (by omega), Nat.div_eq_of_lt h2, Nat.add_zero]
  · rw [← e, Nat.mul_comm, Nat.mul_add_mod, Nat.mod_eq_of_lt h2]
end Go.Proofs.YtcmfepaffhnemaaGreatDoor

set_option linter.unusedVariables false
namespace Go.Proofs.YtcmfepaffhnemaaGreatDoor
open Go.RowKit

/-- Block g holds the limbs o. -/
def Lb (w : World) (g : Nat) (o : List Nat) : Prop := Bk w g 211 (o.map lv).toArray
section
variable {w w' : World} {g : Nat} {o : List Nat}
theorem Lb.put (h : Lb w g o) (i v : Nat) : Lb (w.setCell ⟨g, i, none⟩ (lv v)) g (o.set i v) := by
  have := Bk.put h i (lv v)
  unfold Lb
  rw [List.map_set]
  simpa using this
theorem Lb.cell (h : Lb w g o) {i x : Nat} (hx : o[i]? = some x) : w.cell? ⟨g, i, none⟩ = some (.int .u32 (x : Int)) := by
  rw [Bk.cell h i]
  simp [hx]
theorem Lb.fz (h : Lb w g o) (i : Nat) : w.frozen? ⟨g, i, none⟩ = false := Bk.frozen h i
theorem Lb.num (h : Lb w g o) (hl : Lim o) (hn : o.length ≤ 9223372036854775807) : Sv.Num w ⟨some ⟨g, 0, none⟩, o.length, o.length⟩ o :=
  ⟨⟨by simp, Nat.le_refl _, hn, fun e => (by cases e), Bk.sees h (by simp)⟩, hl, fun ad ha _ => by injection ha with ha; subst ha; exact ⟨_, _, h⟩⟩
theorem Lb.gr (h : Lb w g o) (G : Gr w w') : Lb w' g o := G.bk h
theorem Gr.put {w0 : World} (h : Gr w0 w) (hg : w0.heap.size ≤ g) (i : Nat) (v : Value) : Gr w0 (w.setCell ⟨g, i, none⟩ v) := h.set hg v
theorem lv_zeros (n : Nat) : ((List.replicate n 0).map lv).toArray = Array.replicate n (Value.int .u32 0) := by simp [lv]
theorem Lb.made (w : World) (n : Nat) : Lb (w.alloc (.cells (Array.replicate n (.int .u32 0)) 211)) w.heap.size (List.replicate n 0) := by
  unfold Lb
  rw [lv_zeros]
  exact Bk.made _ _ _
end
theorem made_u32 (n : Nat) : madeCells #[Value.int .u32 0] n = Array.replicate n (Value.int .u32 0) := by
  apply Array.toList_inj.mp
  rw [toList_madeCells_one, Array.toList_replicate]
theorem info_u32 : (Tryz.prog.info? 211).map (fun i => (i.zero, i.size, i.bytes)) = some (some (.int .u32 0), 1, 4) := by kernel_rfl
theorem makeN (n : Nat) (hn : n ≤ 100000000) (w : World) : (Instr.makeSlice 39 (.int .i64 n) (.int .i64 n)).run Tryz.prog w = .ok (.slice (some ⟨w.heap.size, 0, none⟩) n n) (w.alloc (.cells (Array.replicate n (.int .u32 0)) 211)) := by
  obtain ⟨i0, hi, hz0, hz1, hz2⟩ := info_parts info_u32
  have := run_make (P := Tryz.prog) w 39 211 i0 _ elemN.ht hi hz0 .i64 .i64 n n (by omega) (Int.le_refl _) (by rw [hz2]; omega) (by omega)
  rw [hz1, Nat.mul_one, Int.toNat_natCast] at this
  rw [← made_u32]
  exact this
theorem makeU (n : Nat) (hn : n ≤ 100000000) (w : World) : (Instr.makeSlice 38 (.int .i64 n) (.int .i64 n)).run Tryz.prog w = .ok (.slice (some ⟨w.heap.size, 0, none⟩) n n) (w.alloc (.cells (Array.replicate n (.int .u32 0)) 211)) := by
  obtain ⟨i0, hi, hz0, hz1, hz2⟩ := info_parts info_u32
  have := run_make (P := Tryz.prog) w 38 211 i0 _ (by kernel_rfl) hi hz0 .i64 .i64 n n (by omega) (Int.le_refl _) (by rw [hz2]; omega) (by omega)
  rw [hz1, Nat.mul_one, Int.toNat_natCast] at this
  rw [← made_u32]
  exact this
end Go.Proofs.YtcmfepaffhnemaaGreatDoor

set_option linter.unusedVariables false
namespace Go.Proofs.YtcmfepaffhnemaaGreatDoor
open Go.RowKit

attribute [local go_sem] Oper.semAt_some

def cmpN (a b : Nat) : Int := if a < b then -1 else if b < a then 1 else 0
theorem cmpN_lt {a b : Nat} (h : a < b) : cmpN a b = -1 := by rw [cmpN, if_pos h]
theorem cmpN_gt {a b : Nat} (h : b < a) : cmpN a b = 1 := by rw [cmpN, if_neg (by omega), if_pos h]
theorem cmpN_eq (a : Nat) : cmpN a a = 0 := by rw [cmpN, if_neg (by omega), if_neg (by omega)]
theorem drop_step {a b : List Nat} {i y : Nat} (hd : a.drop (i + 1) = b.drop (i + 1)) (ha : a[i]? = some y) (hb : b[i]? = some y) : a.drop i = b.drop i := by
  obtain ⟨h9, h8⟩ := List.getElem?_eq_some_iff.1 ha
  obtain ⟨k9, k8⟩ := List.getElem?_eq_some_iff.1 hb
  rw [List.drop_eq_getElem_cons h9, List.drop_eq_getElem_cons k9, h8, k8, hd]

set_option maxRecDepth 100000 in
set_option maxHeartbeats 2000000 in
theorem cmp_any (w : World) (x y : Sv) (a b : List Nat) (hx : x.Num w a) (hy : y.Num w b) :
    Calls Tryz.prog 111 #[.slice x.A x.n x.c, .slice y.A y.n y.c] w fun e w' => e = .returned (.int .i64 (cmpN (val a) (val b))) ∧ Gr w w' := by
  have H1 := Lib.hid (trim_any w x a hx)
  have HY := Lib.hid hy
  clear hx hy
  go_enter Tryz.func111, Tryz.ntmps111
  go_wp2_with fail
  refine H1.out.mono ?_
  rintro e w1 ⟨u, rfl, hu, G1⟩
  have HU := Lib.hid hu
  have HG1 := Lib.hid G1
  have H2 := Lib.hid (trim_any w1 y b (HY.out.gr G1))
  clear hu G1 H1 HY
  go_wp2_with fail
  refine H2.out.mono ?_
  rintro e w2 ⟨v, rfl, hv, G2⟩
  have HG2 := Lib.hid (HG1.out.trans G2)
  have HU2 := Lib.hid (HU.out.gr G2)
  have HV := Lib.hid hv
  clear hv G2 HG1 HU H2
  obtain ⟨A, n, c⟩ := u
  obtain ⟨B, m, d⟩ := v
  have hn : (limbs (val a)).length = n := HU2.out.len
  have hm : (limbs (val b)).length = m := HV.out.len
  have hnc : n ≤ c := HU2.out.is.cap
  have hc9 : c ≤ 9223372036854775807 := HU2.out.is.max
  have hmd : m ≤ d := HV.out.is.cap
  have hd9 : d ≤ 9223372036854775807 := HV.out.is.max
  have HN := Lib.hid hn
  have HM := Lib.hid hm
  clear hn hm
  simp only [Sv.v] at *
  by_cases hnm : n = m
  · subst hnm
    have hnn : ((n : Int) != n) = false := by simp
    go_wp2
    go_loopw [5] (fun s wr => ∃ k : Nat, s = .int .i64 ((k : Int) - 1) ∧ k ≤ n ∧ Hid ((limbs (val a)).drop k = (limbs (val b)).drop k) ∧ Hid (Gr w wr) ∧ Hid (Gr w2 wr)) (fun s _ => (intOf s + 1).toNat)
    case atStart =>
      refine ⟨n, ?_, Nat.le_refl _, ?_, HG2, Gr.refl _⟩
      · rfl
      · exact (show (limbs (val a)).drop n = (limbs (val b)).drop n by
          rw [List.drop_of_length_le (by rw [HN.out]; exact Nat.le_refl _), List.drop_of_length_le (by rw [HM.out]; exact Nat.le_refl _)])
    case round =>
      obtain ⟨k, rfl, hk, hD, hG, hG2⟩ := hrel
      cases k with
      | zero =>
        have hE : Hid (cmpN (val a) (val b) = 0) := by
          have h := hD.out
          rw [List.drop_zero, List.drop_zero] at h
          rw [limbs_inj h]
          exact cmpN_eq _
        have h0 : ((0 : Nat) : Int) - 1 = -1 := rfl
        rw [h0]
        clear hD
        go_wp2
        go_ret
        exact ⟨by rw [hE.out]; rfl, hG.out⟩
      | succ j =>
        have hj : (((j + 1 : Nat) : Int) - 1) = (j : Int) := by omega
        rw [hj]
        obtain ⟨p, ad, hp, hp9, hA, hb, d1⟩ := (HU2.out.gr hG2.out).at (i := j) hk
        obtain ⟨q, ad2, hq, hq9, hB, hb2, d2⟩ := (HV.out.gr hG2.out).at (i := j) hk
        simp only at hA hB
        subst hA hB
        have e1 : wr.drew.cell? (ad.add j) = some (.int .u32 p) := d1
        have e2 : wr.drew.cell? (ad2.add j) = some (.int .u32 q) := d2
        have HL : Hid (p < q → val a < val b) := fun h => by
          have := val_lt_at (limbs_lim _) (limbs_lim _) hp hq hD.out h
          rwa [val_limbs, val_limbs] at this
        have HR : Hid (q < p → val b < val a) := fun h => by
          have := val_lt_at (limbs_lim _) (limbs_lim _) hq hp hD.out.symm h
          rwa [val_limbs, val_limbs] at this
        have HS : Hid (p = q → (limbs (val a)).drop j = (limbs (val b)).drop j) := fun h => drop_step hD.out hp (h ▸ hq)
        have hG3 : Hid (Gr w wr.drew) := hG.out.drew
        have hG4 : Hid (Gr w wr.drew.drew) := hG3.out.drew
        have hG5 : Hid (Gr w2 wr.drew) := hG2.out.drew
        clear hp hq hb hb2 hp9 hq9 hD
        by_cases hpq : p = q
        · subst hpq
          have HSS := Lib.hid (HS.out rfl)
          clear HL HR HS
          go_wp2
          go_region
          all_goals go_wp2
          all_goals go_roundw
          all_goals first
            | (refine ⟨j, ?_, by omega, HSS, hG3, hG5⟩; first | rfl | (go_num; done) | (rw [IntWalk.i64_in _ (by omega)]; done))
            | (simp [intOf]; done)
            | (simp [intOf]; omega)
        · rcases Nat.lt_or_ge p q with hlt | hge
          · have hC := Lib.hid (cmpN_lt (HL.out hlt))
            have hpd : ((p : Int) != q) = true := by simp; omega
            have hpl : decide ((p : Int) < q) = true := by simp; omega
            clear HL HR HS
            go_wp2
            go_region
            all_goals go_wp2
            all_goals go_region
            all_goals go_wp2
            all_goals go_ret
            all_goals exact ⟨by rw [hC.out]; rfl, hG4.out⟩
          · have hC := Lib.hid (cmpN_gt (HR.out (by omega)))
            have hpd : ((p : Int) != q) = true := by simp; omega
            have hpl : decide ((p : Int) < q) = false := by simp; omega
            clear HL HR HS
            go_wp2
            go_region
            all_goals go_wp2
            all_goals go_region
            all_goals go_wp2
            all_goals go_ret
            all_goals exact ⟨by rw [hC.out]; rfl, hG4.out⟩
  · have HC : Hid (cmpN (val a) (val b) = if n < m then -1 else 1) := by
      by_cases h : n < m
      · rw [if_pos h]
        exact cmpN_lt (lt_of_len (by rw [HN.out, HM.out]; exact h))
      · rw [if_neg h]
        exact cmpN_gt (lt_of_len (by rw [HN.out, HM.out]; omega))
    have hnn : ((n : Int) != m) = true := by simp; omega
    by_cases h : n < m
    · rw [if_pos h] at HC
      have hd : decide ((n : Int) < m) = true := by simp; omega
      go_wp2
      go_ret
      exact ⟨by rw [HC.out]; rfl, HG2.out⟩
    · rw [if_neg h] at HC
      have hd : decide ((n : Int) < m) = false := by simp; omega
      go_wp2
      go_ret
      exact ⟨by rw [HC.out]; rfl, HG2.out⟩
end Go.Proofs.YtcmfepaffhnemaaGreatDoor

set_option linter.unusedVariables false
namespace Go.Proofs.YtcmfepaffhnemaaGreatDoor
open Go.RowKit

attribute [local go_sem] Oper.semAt_some

theorem u64_low (s : Nat) : IntKind.u32.wrap (s : Int) = ((s % B32 : Nat) : Int) := by
  rw [IntKind.wrap_u32]
  show (s : Int) % 4294967296 = ((s % 4294967296 : Nat) : Int)
  omega
theorem limbs_take_val {l : List Nat} : val (limbs (val l)) = val l := val_limbs _

set_option maxRecDepth 100000 in
set_option maxHeartbeats 2000000 in
theorem add_any (w : World) (x y : Sv) (a b : List Nat) (hx : x.Num w a) (hy : y.Num w b) (ha : a.length ≤ 1000000) (hb : b.length ≤ 1000000) :
    Calls Tryz.prog 272 #[.slice x.A x.n x.c, .slice y.A y.n y.c] w fun e w' => ∃ z : Sv, e = .returned z.v ∧ z.Num w' (limbs (val a + val b)) ∧ Gr w w' := by
  have H1 := Lib.hid (trim_any w x a hx)
  have HY := Lib.hid hy
  have HA : Hid ((limbs (val a)).length ≤ 1000000) := Nat.le_trans (limbs_len_le (val_lt hx.lim)) ha
  have HB : Hid ((limbs (val b)).length ≤ 1000000) := Nat.le_trans (limbs_len_le (val_lt hy.lim)) hb
  clear hx hy ha hb
  go_enter Tryz.func272, Tryz.ntmps272
  go_wp2_with fail
  refine H1.out.mono ?_
  rintro e w1 ⟨u, rfl, hu, G1⟩
  have HU := Lib.hid hu
  have HG1 := Lib.hid G1
  have H2 := Lib.hid (trim_any w1 y b (HY.out.gr G1))
  clear hu G1 H1 HY
  go_wp2_with fail
  refine H2.out.mono ?_
  rintro e w2 ⟨v, rfl, hv, G2⟩
  have HG2 := Lib.hid (HG1.out.trans G2)
  have HU2 := Lib.hid (HU.out.gr G2)
  have HV := Lib.hid hv
  clear hv G2 HG1 HU H2
  obtain ⟨A, n, c⟩ := u
  obtain ⟨B, m, d⟩ := v
  have HN := Lib.hid HU2.out.len
  have HM := Lib.hid HV.out.len
  have VA := Lib.hid (val_limbs (val a))
  have VB := Lib.hid (val_limbs (val b))
  simp only [Sv.v] at *
  have hn9 : n ≤ 1000000 := by rw [← HN.out]; exact HA.out
  have hm9 : m ≤ 1000000 := by rw [← HM.out]; exact HB.out
  generalize limbs (val a) = la at *
  generalize limbs (val b) = lb at *
  by_cases hnm : n < m
  · have hd : decide ((n : Int) < m) = true := by simp; omega
    have hw0 : IntKind.i64.wrap ((m : Int) + 1) = (m : Int) + 1 := IntWalk.i64_in _ (by omega)
    have hmk := makeN (m + 1) (by omega) w2
    rw [show (((m + 1 : Nat)) : Int) = (m : Int) + 1 by omega] at hmk
    have HR0 := Lib.hid (Lb.made w2 (m + 1))
    have HG3 : Hid (Gr w (w2.alloc (.cells (Array.replicate (m + 1) (.int .u32 0)) 211))) := HG2.out.alloc _
    have HGs : Hid (Gr w2 (w2.alloc (.cells (Array.replicate (m + 1) (.int .u32 0)) 211))) := (Gr.refl w2).alloc _
    have HS0 := Lib.hid (AddSt.start lb la (m + 1))
    have hg0 : Hid (w.heap.size ≤ w2.heap.size) := HG2.out.size
    go_wp2
    clear hmk hw0
    generalize hge : w2.heap.size = g at *
    have HGE := Lib.hid hge
    clear hge
    go_loopw [6, 26] (fun s6 i wr => ∃ (t cr : Nat) (o : List Nat), i = .int .i64 t ∧ s6 = .int .u64 cr ∧ t ≤ m ∧ cr ≤ 1 ∧ Hid (AddSt lb la o t cr (m + 1)) ∧ Hid (Lb wr g o) ∧ Hid (Gr w wr) ∧ Hid (Gr w2 wr)) (fun _ i _ => m - (intOf i).toNat)
    case atStart => exact ⟨0, 0, _, rfl, rfl, Nat.zero_le _, by omega, HS0, HR0, HG3, HGs⟩
    case round =>
      obtain ⟨t, cr, o, rfl, rfl, ht, hcr, hS, hR, hG, hGG⟩ := hrel
      have fz := hR.out.fz
      by_cases htn : t < m
      · obtain ⟨p, ad, hp, hp9, hAe, hbl, d1⟩ := (HV.out.gr hGG.out).at (i := t) htn
        simp only at hAe
        subst hAe
        have HP := Lib.hid (lim0_at hp)
        have q0 := hR.out.cell (hS.out.zer t (Nat.le_refl _) (by omega))
        have hB := B32_eq
        rw [hB] at hp9
        by_cases htm : t < n
        · obtain ⟨q, ad2, hq, hq9, hBe, hbl2, d2⟩ := (HU2.out.gr hGG.out).at (i := t) htm
          simp only at hBe
          subst hBe
          rw [hB] at hq9
          obtain ⟨s, hs⟩ : ∃ s, s = cr + p + q := ⟨_, rfl⟩
          have HST := Lib.hid (hS.out.step HV.out.lim HU2.out.lim (by omega) (s := s) (by rw [HP.out, lim0_at hq, hs]))
          obtain ⟨lo, hlo⟩ : ∃ lo, lo = s % B32 := ⟨_, rfl⟩
          obtain ⟨hi, hhi⟩ : ∃ hi, hi = s / B32 := ⟨_, rfl⟩
          rw [← hlo, ← hhi] at HST
          have hhi1 : hi ≤ 1 := HST.out.car
          have E1 : Hid (((cr : Int) + p + q) % 4294967296 = lo) := by rw [hB] at hlo; exact (by omega : ((cr : Int) + p + q) % 4294967296 = lo)
          have E2 : Hid (((cr : Int) + p + q) / 4294967296 = hi) := by rw [hB] at hhi; exact (by omega : ((cr : Int) + p + q) / 4294967296 = hi)
          have HL2 := Lib.hid (hR.out.put t lo)
          have HG4 := Lib.hid (hG.out.set (p := ⟨g, t, none⟩) hg0.out (lv lo))
          have HG5 := Lib.hid (hGG.out.set (p := ⟨g, t, none⟩) (by rw [HGE.out]; exact Nat.le_refl _) (lv lo))
          clear hp hq hbl hbl2 hlo hhi hs
          go_wp2
          go_roundw
          case rel =>
            rw [E1.out, E2.out]
            exact ⟨t + 1, hi, _, by go_num, rfl, by omega, hhi1, HST, HL2, HG4, HG5⟩
          case measure => simp [intOf]; omega
        · obtain ⟨s, hs⟩ : ∃ s, s = cr + p := ⟨_, rfl⟩
          have HST := Lib.hid (hS.out.step HV.out.lim HU2.out.lim (by omega) (s := s) (by rw [HP.out, lim0_past (by rw [HU2.out.len]; simp only; omega), hs]; rfl))
          obtain ⟨lo, hlo⟩ : ∃ lo, lo = s % B32 := ⟨_, rfl⟩
          obtain ⟨hi, hhi⟩ : ∃ hi, hi = s / B32 := ⟨_, rfl⟩
          rw [← hlo, ← hhi] at HST
          have hhi1 : hi ≤ 1 := HST.out.car
          have E1 : Hid (((cr : Int) + p) % 4294967296 = lo) := by rw [hB] at hlo; exact (by omega : ((cr : Int) + p) % 4294967296 = lo)
          have E2 : Hid (((cr : Int) + p) / 4294967296 = hi) := by rw [hB] at hhi; exact (by omega : ((cr : Int) + p) / 4294967296 = hi)
          have HL2 := Lib.hid (hR.out.put t lo)
          have HG4 := Lib.hid (hG.out.set (p := ⟨g, t, none⟩) hg0.out (lv lo))
          have HG5 := Lib.hid (hGG.out.set (p := ⟨g, t, none⟩) (by rw [HGE.out]; exact Nat.le_refl _) (lv lo))
          clear hp hbl hlo hhi hs
          go_wp2
          go_roundw
          case rel =>
            rw [E1.out, E2.out]
            exact ⟨t + 1, hi, _, by go_num, rfl, by omega, hhi1, HST, HL2, HG4, HG5⟩
          case measure => simp [intOf]; omega
      · obtain rfl : t = m := by omega
        have q0 := hR.out.cell (hS.out.zer t (Nat.le_refl _) (by omega))
        obtain ⟨e1, e2⟩ := hS.out.done (by rw [HV.out.len]; exact Nat.le_refl _) (by rw [HU2.out.len]; simp only; omega)
        have HL2 := Lib.hid (hR.out.put t cr)
        have HG4 := Lib.hid (hG.out.set (p := ⟨g, t, none⟩) hg0.out (lv cr))
        have hlen : (o.set t cr).length = t + 1 := by rw [List.length_set]; exact hS.out.len
        have HT := Lib.hid (trim_any (wr.setCell ⟨g, t, none⟩ (lv cr)) ⟨some ⟨g, 0, none⟩, t + 1, t + 1⟩ (o.set t cr) (by rw [← hlen]; exact HL2.out.num e2 (by omega)))
        rw [e1, VB.out, VA.out] at HT
        clear e1 e2 hlen
        go_wp2_with fail
        refine HT.out.mono ?_
        rintro e w5 ⟨z, rfl, hz, G5⟩
        have HZ := Lib.hid hz
        have HG6 := Lib.hid (HG4.out.trans G5)
        clear hz G5 HT
        go_wp2
        go_ret
        exact ⟨z, rfl, by rw [Nat.add_comm]; exact HZ.out, HG6.out⟩
  · have hd : decide ((n : Int) < m) = false := by simp; omega
    have hw0 : IntKind.i64.wrap ((n : Int) + 1) = (n : Int) + 1 := IntWalk.i64_in _ (by omega)
    have hmk := makeN (n + 1) (by omega) w2
    rw [show (((n + 1 : Nat)) : Int) = (n : Int) + 1 by omega] at hmk
    have HR0 := Lib.hid (Lb.made w2 (n + 1))
    have HG3 : Hid (Gr w (w2.alloc (.cells (Array.replicate (n + 1) (.int .u32 0)) 211))) := HG2.out.alloc _
    have HGs : Hid (Gr w2 (w2.alloc (.cells (Array.replicate (n + 1) (.int .u32 0)) 211))) := (Gr.refl w2).alloc _
    have HS0 := Lib.hid (AddSt.start la lb (n + 1))
    have hg0 : Hid (w.heap.size ≤ w2.heap.size) := HG2.out.size
    go_wp2
    clear hmk hw0
    generalize hge : w2.heap.size = g at *
    have HGE := Lib.hid hge
    clear hge
    go_loopw [6, 26] (fun s6 i wr => ∃ (t cr : Nat) (o : List Nat), i = .int .i64 t ∧ s6 = .int .u64 cr ∧ t ≤ n ∧ cr ≤ 1 ∧ Hid (AddSt la lb o t cr (n + 1)) ∧ Hid (Lb wr g o) ∧ Hid (Gr w wr) ∧ Hid (Gr w2 wr)) (fun _ i _ => n - (intOf i).toNat)
    case atStart => exact ⟨0, 0, _, rfl, rfl, Nat.zero_le _, by omega, HS0, HR0, HG3, HGs⟩
    case round =>
      obtain ⟨t, cr, o, rfl, rfl, ht, hcr, hS, hR, hG, hGG⟩ := hrel
      have fz := hR.out.fz
      by_cases htn : t < n
      · obtain ⟨p, ad, hp, hp9, hAe, hbl, d1⟩ := (HU2.out.gr hGG.out).at (i := t) htn
        simp only at hAe
        subst hAe
        have HP := Lib.hid (lim0_at hp)
        have q0 := hR.out.cell (hS.out.zer t (Nat.le_refl _) (by omega))
        have hB := B32_eq
        rw [hB] at hp9
        by_cases htm : t < m
        · obtain ⟨q, ad2, hq, hq9, hBe, hbl2, d2⟩ := (HV.out.gr hGG.out).at (i := t) htm
          simp only at hBe
          subst hBe
          rw [hB] at hq9
          obtain ⟨s, hs⟩ : ∃ s, s = cr + p + q := ⟨_, rfl⟩
          have HST := Lib.hid (hS.out.step HU2.out.lim HV.out.lim (by omega) (s := s) (by rw [HP.out, lim0_at hq, hs]))
          obtain ⟨lo, hlo⟩ : ∃ lo, lo = s % B32 := ⟨_, rfl⟩
          obtain ⟨hi, hhi⟩ : ∃ hi, hi = s / B32 := ⟨_, rfl⟩
          rw [← hlo, ← hhi] at HST
          have hhi1 : hi ≤ 1 := HST.out.car
          have E1 : Hid (((cr : Int) + p + q) % 4294967296 = lo) := by rw [hB] at hlo; exact (by omega : ((cr : Int) + p + q) % 4294967296 = lo)
          have E2 : Hid (((cr : Int) + p + q) / 4294967296 = hi) := by rw [hB] at hhi; exact (by omega : ((cr : Int) + p + q) / 4294967296 = hi)
          have HL2 := Lib.hid (hR.out.put t lo)
          have HG4 := Lib.hid (hG.out.set (p := ⟨g, t, none⟩) hg0.out (lv lo))
          have HG5 := Lib.hid (hGG.out.set (p := ⟨g, t, none⟩) (by rw [HGE.out]; exact Nat.le_refl _) (lv lo))
          clear hp hq hbl hbl2 hlo hhi hs
          go_wp2
          go_roundw
          case rel =>
            rw [E1.out, E2.out]
            exact ⟨t + 1, hi, _, by go_num, rfl, by omega, hhi1, HST, HL2, HG4, HG5⟩
          case measure => simp [intOf]; omega
        · obtain ⟨s, hs⟩ : ∃ s, s = cr + p := ⟨_, rfl⟩
          have HST := Lib.hid (hS.out.step HU2.out.lim HV.out.lim (by omega) (s := s) (by rw [HP.out, lim0_past (by rw [HV.out.len]; simp only; omega), hs]; rfl))
          obtain ⟨lo, hlo⟩ : ∃ lo, lo = s % B32 := ⟨_, rfl⟩
          obtain ⟨hi, hhi⟩ : ∃ hi, hi = s / B32 := ⟨_, rfl⟩
          rw [← hlo, ← hhi] at HST
          have hhi1 : hi ≤ 1 := HST.out.car
          have E1 : Hid (((cr : Int) + p) % 4294967296 = lo) := by rw [hB] at hlo; exact (by omega : ((cr : Int) + p) % 4294967296 = lo)
          have E2 : Hid (((cr : Int) + p) / 4294967296 = hi) := by rw [hB] at hhi; exact (by omega : ((cr : Int) + p) / 4294967296 = hi)
          have HL2 := Lib.hid (hR.out.put t lo)
          have HG4 := Lib.hid (hG.out.set (p := ⟨g, t, none⟩) hg0.out (lv lo))
          have HG5 := Lib.hid (hGG.out.set (p := ⟨g, t, none⟩) (by rw [HGE.out]; exact Nat.le_refl _) (lv lo))
          clear hp hbl hlo hhi hs
          go_wp2
          go_roundw
          case rel =>
            rw [E1.out, E2.out]
            exact ⟨t + 1, hi, _, by go_num, rfl, by omega, hhi1, HST, HL2, HG4, HG5⟩
          case measure => simp [intOf]; omega
      · obtain rfl : t = n := by omega
        have q0 := hR.out.cell (hS.out.zer t (Nat.le_refl _) (by omega))
        obtain ⟨e1, e2⟩ := hS.out.done (by rw [HU2.out.len]; exact Nat.le_refl _) (by rw [HV.out.len]; simp only; omega)
        have HL2 := Lib.hid (hR.out.put t cr)
        have HG4 := Lib.hid (hG.out.set (p := ⟨g, t, none⟩) hg0.out (lv cr))
        have hlen : (o.set t cr).length = t + 1 := by rw [List.length_set]; exact hS.out.len
        have HT := Lib.hid (trim_any (wr.setCell ⟨g, t, none⟩ (lv cr)) ⟨some ⟨g, 0, none⟩, t + 1, t + 1⟩ (o.set t cr) (by rw [← hlen]; exact HL2.out.num e2 (by omega)))
        rw [e1, VA.out, VB.out] at HT
        clear e1 e2 hlen
        go_wp2_with fail
        refine HT.out.mono ?_
        rintro e w5 ⟨z, rfl, hz, G5⟩
        have HZ := Lib.hid hz
        have HG6 := Lib.hid (HG4.out.trans G5)
        clear hz G5 HT
        go_wp2
        go_ret
        exact ⟨z, rfl, HZ.out, HG6.out⟩
end Go.Proofs.YtcmfepaffhnemaaGreatDoor

set_option linter.unusedVariables false
namespace Go.Proofs.YtcmfepaffhnemaaGreatDoor
open Go.RowKit

attribute [local go_sem] Oper.semAt_some

theorem num_of_row {w : World} {g : Nat} {o : List Nat} {n : Nat} (h : Lb w g o) (hl : Lim o) (hn : o.length = n) (hm : n ≤ 9223372036854775807) : Sv.Num w ⟨some ⟨g, 0, none⟩, n, n⟩ o := by
  have := h.num hl (by omega)
  rw [hn] at this
  exact this

set_option maxRecDepth 100000 in
set_option maxHeartbeats 1000000 in
theorem one_any (w : World) : Calls Tryz.prog 204 #[] w fun e w' => ∃ z : Sv, e = .returned z.v ∧ z.Num w' (limbs 1) ∧ Gr w w' := by
  have HR : Hid (Lb (w.alloc (.cells #[.int .u32 1] 211)) w.heap.size [1]) := Bk.made w 211 #[.int .u32 1]
  have HG := Lib.hid ((Gr.refl w).alloc (.cells #[.int .u32 1] 211))
  go_enter Tryz.func204, Tryz.ntmps204
  go_wp2
  go_ret
  exact ⟨⟨some ⟨w.heap.size, 0, none⟩, 1, 1⟩, rfl, by rw [limbs_one (by decide) (by decide)]; exact num_of_row HR.out (Lim.one (by decide)) rfl (by decide), HG.out⟩

set_option maxRecDepth 100000 in
set_option maxHeartbeats 1000000 in
theorem unit_any (w : World) (x : Sv) (m : Nat) (hx : x.Num w (limbs m)) : Calls Tryz.prog 201 #[.slice x.A x.n x.c] w fun e w' => e = .returned (.bool (decide (m = 1))) ∧ Gr w w' := by
  obtain ⟨A, n, c⟩ := x
  have hn : (limbs m).length = n := hx.len
  by_cases h1 : n = 1
  · subst h1
    obtain ⟨y, ad, hy, hy9, hA, hb, d⟩ := hx.at (i := 0) Nat.one_pos
    simp only at hA
    subst hA
    have hl : limbs m = [y] := by
      match hh : limbs m, hn with
      | [z], _ => rw [hh] at hy; simpa using hy
    have hv : m = y := by rw [← val_limbs m, hl]; simp [val]
    have HD : Hid (((y : Int) == 1) = decide (m = 1)) := by
      rw [hv]
      exact (by by_cases h : y = 1 <;> simp [h]; omega : ((y : Int) == 1) = decide (y = 1))
    rw [add_zero] at d
    clear hx hn hy hl hv hy9 hb
    go_enter Tryz.func201, Tryz.ntmps201
    go_wp2
    go_ret
    exact ⟨by rw [← HD.out]; rfl, Gr.refl w⟩
  · have hd : ((n : Int) == 1) = false := by simp; omega
    have HD : Hid (decide (m = 1) = false) := by
      have : decide (m = 1) = false := by
        rw [decide_eq_false_iff_not]
        rintro rfl
        rw [limbs_one (by decide) (by decide)] at hn
        exact h1 hn.symm
      exact this
    clear hx hn
    go_enter Tryz.func201, Tryz.ntmps201
    go_wp2
    go_ret
    exact ⟨by rw [HD.out]; rfl, Gr.refl w⟩

set_option maxRecDepth 100000 in
set_option maxHeartbeats 1000000 in
theorem of_any (w : World) (x : Nat) (hx : x < 18446744073709551616) : Calls Tryz.prog 206 #[.int .u64 x] w fun e w' => ∃ z : Sv, e = .returned z.v ∧ z.Num w' (limbs x) ∧ Gr w w' := by
  obtain ⟨lo, hi, hlo, hhi, e⟩ : ∃ lo hi, lo < B32 ∧ hi < B32 ∧ x = lo + B32 * hi := ⟨x % B32, x / B32, Nat.mod_lt _ (by decide), Nat.div_lt_of_lt_mul (by rw [B32_eq]; omega), (Nat.mod_add_div x B32).symm⟩
  have E1 : (x : Int) % 4294967296 = lo := by rw [B32_eq] at e hlo; omega
  have E2 : (x : Int) / 4294967296 = hi := by rw [B32_eq] at e hlo hhi; omega
  have HR : Hid (Lb (w.alloc (.cells #[.int .u32 lo, .int .u32 hi] 211)) w.heap.size [lo, hi]) := Bk.made w 211 #[.int .u32 lo, .int .u32 hi]
  have HG := Lib.hid ((Gr.refl w).alloc (.cells #[.int .u32 lo, .int .u32 hi] 211))
  have HT := Lib.hid (trim_any _ ⟨some ⟨w.heap.size, 0, none⟩, 2, 2⟩ [lo, hi] (num_of_row HR.out (fun y hy => by simp at hy; rcases hy with rfl | rfl <;> assumption) rfl (by decide)))
  rw [show val [lo, hi] = x by rw [e]; simp [val]] at HT
  clear e
  go_enter Tryz.func206, Tryz.ntmps206
  go_wp2_with fail
  refine HT.out.mono ?_
  rintro e w1 ⟨z, rfl, hz, G1⟩
  have HZ := Lib.hid hz
  have HG1 := Lib.hid (HG.out.trans G1)
  clear hz G1 HT
  go_wp2
  go_ret
  exact ⟨z, rfl, HZ.out, HG1.out⟩
end Go.Proofs.YtcmfepaffhnemaaGreatDoor

set_option linter.unusedVariables false
namespace Go.Proofs.YtcmfepaffhnemaaGreatDoor
open Go.RowKit

attribute [local go_sem] Oper.semAt_some

theorem or_up {r p : Nat} (hr : r < B32) (hp : p < B32) : bits .or .u64 ((r : Int) * 4294967296) (p : Int) = ((r * B32 + p : Nat) : Int) := by
  rw [B32_eq] at *
  rw [show (r : Int) * 4294967296 = ((r * 4294967296 : Nat) : Int) by omega, u64_or_nat _ _ (by omega) (by omega)]
  have := Nat.shiftLeft_add_eq_or_of_lt (i := 32) hp r
  rw [Nat.shiftLeft_eq] at this
  exact congrArg _ this.symm
theorem low_u64 {q : Nat} (h : q < 4294967296) : IntKind.u64.wrap (q : Int) % 4294967296 = (q : Int) := by rw [IntWalk.u64_in _ (by omega)]; omega
theorem tmod_nat (a b : Nat) : (a : Int).tmod b = ((a % b : Nat) : Int) := (Int.ofNat_tmod a b).symm
theorem tdiv_nat (a b : Nat) : (a : Int).tdiv b = ((a / b : Nat) : Int) := (Int.ofNat_tdiv a b).symm

set_option maxRecDepth 100000 in
set_option maxHeartbeats 2000000 in
theorem short_any (w : World) (x : Sv) (a : List Nat) (d : Nat) (hx : x.Num w a) (ha : a.length ≤ 1000000) (hd0 : 0 < d) (hd : d < B32) :
    Calls Tryz.prog 264 #[.slice x.A x.n x.c, .int .u32 d] w fun e w' => ∃ y z : Sv, e = .returned (.tuple #[y.v, z.v]) ∧ y.Num w' (limbs (val a / d)) ∧ z.Num w' (limbs (val a % d)) ∧ Gr w w' := by
  obtain ⟨A, n, c⟩ := x
  have hn : a.length = n := hx.len
  have HN := Lib.hid hn
  have HX := Lib.hid hx
  have hn9 : n ≤ 1000000 := by rw [← hn]; exact ha
  have hmk := makeN n (by omega) w
  have HR0 := Lib.hid (Lb.made w n)
  have HG0 : Hid (Gr w (w.alloc (.cells (Array.replicate n (.int .u32 0)) 211))) := (Gr.refl w).alloc _
  have HS0 := Lib.hid (DivSt.start a hd0)
  rw [HN.out] at HS0
  have hg0 : Hid (w.heap.size ≤ w.heap.size) := Nat.le_refl _
  have hd9 : d < 4294967296 := hd
  clear hx ha hn hd
  simp only
  go_enter Tryz.func264, Tryz.ntmps264
  go_wp2
  clear hmk
  generalize hge : w.heap.size = g at *
  have HGE := Lib.hid hge
  clear hge
  go_loopw [7, 8] (fun s7 i wr => ∃ (k r : Nat) (o : List Nat), i = .int .i64 ((k : Int) - 1) ∧ s7 = .int .u64 r ∧ k ≤ n ∧ Hid (DivSt a o d k r) ∧ Hid (Lb wr g o) ∧ Hid (Gr w wr)) (fun _ i _ => (intOf i + 1).toNat)
  case atStart => exact ⟨n, 0, _, rfl, rfl, Nat.le_refl _, HS0, HR0, HG0⟩
  case round =>
    obtain ⟨k, r, o, rfl, rfl, hk, hS, hR, hG⟩ := hrel
    have fz := hR.out.fz
    have hr9 : r < d := hS.out.rem
    cases k with
    | zero =>
      obtain ⟨e1, e2⟩ := hS.out.done
      have hlen : o.length = n := by rw [hS.out.len, HN.out]
      have HT := Lib.hid (trim_any wr ⟨some ⟨g, 0, none⟩, n, n⟩ o (num_of_row hR.out hS.out.lim hlen (by omega)))
      have HO := Lib.hid (fun W => of_any W r (by have := hd9; omega))
      rw [e1] at HT
      rw [e2] at HO
      have HE2 := Lib.hid e2
      clear e1 e2 hlen
      have h0 : ((0 : Nat) : Int) - 1 = -1 := rfl
      rw [h0]
      go_wp2_with fail
      refine HT.out.mono ?_
      rintro e w5 ⟨y, rfl, hy, G5⟩
      have HY := Lib.hid hy
      have HG5 := Lib.hid (hG.out.trans G5)
      clear hy G5 HT
      rw [HE2.out]
      go_wp2_with fail
      refine (HO.out w5).mono ?_
      rintro e w6 ⟨z, rfl, hz, G6⟩
      have HY6 := Lib.hid (HY.out.gr G6)
      have HZ := Lib.hid hz
      have HG6 := Lib.hid (HG5.out.trans G6)
      clear hz G6 HO
      go_wp2
      go_returns
      exact ⟨y, z, rfl, HY6.out, HZ.out, HG6.out⟩
    | succ j =>
      have hj : (((j + 1 : Nat) : Int) - 1) = (j : Int) := by omega
      rw [hj]
      obtain ⟨p, ad, hp, hp9, hAe, hbl, d1⟩ := (HX.out.gr hG.out).at (i := j) hk
      simp only at hAe
      subst hAe
      have hB := B32_eq
      rw [hB] at hp9
      have q0 := hR.out.cell (hS.out.zer j (by omega) (by rw [HN.out]; omega))
      have hrB : r < B32 := by rw [hB]; omega
      obtain ⟨s, hs⟩ : ∃ s, s = r * B32 + p := ⟨_, rfl⟩
      obtain ⟨hST, hq9⟩ := hS.out.step HX.out.lim hp (by rw [hB]; exact hd9) hs
      have HST := Lib.hid hST
      have E0 := Lib.hid (or_up hrB (by rw [hB]; exact hp9))
      rw [← hs] at E0
      have E1 := Lib.hid (tmod_nat s d)
      have E2 : Hid (IntKind.u64.wrap ((s : Int).tdiv d) % 4294967296 = ((s / d : Nat) : Int)) := by
        rw [tdiv_nat]
        exact low_u64 (by rw [hB] at hq9; exact hq9)
      have HL2 := Lib.hid (hR.out.put j (s / d))
      have HG5 := Lib.hid (hG.out.set (p := ⟨g, j, none⟩) (by rw [HGE.out]; exact Nat.le_refl _) (lv (s / d)))
      clear hp hbl hs hST hq9 hrB hS
      generalize s / d = qu at *
      generalize s % d = re at *
      go_wp2
      go_roundw
      case rel =>
        rw [E0.out, E1.out, E2.out]
        exact ⟨j, re, _, rfl, rfl, by omega, HST, HL2, HG5⟩
      case measure => first | (simp [intOf]; done) | (simp [intOf]; omega)
end Go.Proofs.YtcmfepaffhnemaaGreatDoor

set_option linter.unusedVariables false
namespace Go.Proofs.YtcmfepaffhnemaaGreatDoor
open Go.RowKit

attribute [local go_sem] Oper.semAt_some

theorem or_zero {p : Nat} (hp : p < 4294967296) : bits .or .u64 0 (p : Int) = (p : Int) := by
  have := u64_or_nat 0 p (by omega) (by omega)
  rw [Nat.zero_or] at this
  exact this
theorem or_top {v p : Nat} (hv : v < 4294967296) (hp : p < 4294967296) : bits .or .u64 (v : Int) ((p : Int) * 4294967296) = ((v + B32 * p : Nat) : Int) := by
  rw [B32_eq, show (p : Int) * 4294967296 = ((p * 4294967296 : Nat) : Int) by omega, u64_or_nat _ _ (by omega) (by omega)]
  have := Nat.shiftLeft_add_eq_or_of_lt (i := 32) hv p
  rw [Nat.shiftLeft_eq, Nat.or_comm] at this
  rw [← this, Nat.mul_comm, Nat.add_comm]

set_option maxRecDepth 100000 in
set_option maxHeartbeats 2000000 in
theorem uint_any (w : World) (x : Sv) (m : Nat) (hx : x.Num w (limbs m)) (hm : m < 18446744073709551616) :
    Calls Tryz.prog 263 #[.slice x.A x.n x.c] w fun e w' => e = .returned (.tuple #[.int .u64 m, .bool true]) ∧ Gr w w' := by
  have H1 := Lib.hid (trim_any w x _ hx)
  rw [val_limbs] at H1
  have hl2 : (limbs m).length ≤ 2 := limbs_len_le (by rw [B32_eq]; exact hm)
  clear hx
  go_enter Tryz.func263, Tryz.ntmps263
  go_wp2_with fail
  refine H1.out.mono ?_
  rintro e w1 ⟨u, rfl, hu, G1⟩
  have HU := Lib.hid hu
  have HG1 := Lib.hid G1
  clear hu G1 H1
  obtain ⟨A, n, c⟩ := u
  have HN := Lib.hid HU.out.len
  simp only [Sv.v] at *
  have hn2 : n ≤ 2 := by rw [← HN.out]; exact hl2
  have V0 : Hid (val ((limbs m).take 0) = 0) := by rw [List.take_zero]; exact rfl
  have VN : Hid (val ((limbs m).take n) = m) := by
    rw [List.take_of_length_le (by rw [HN.out]; exact Nat.le_refl _)]
    exact val_limbs m
  clear hl2
  go_wp2
  go_loopw [4, 14] (fun s4 i wr => ∃ t v : Nat, i = .int .i64 t ∧ s4 = .int .u64 v ∧ t ≤ n ∧ Hid (val ((limbs m).take t) = v) ∧ Hid (Gr w wr) ∧ Hid (Gr w1 wr)) (fun _ i _ => n - (intOf i).toNat)
  case atStart => exact ⟨0, 0, rfl, rfl, Nat.zero_le _, V0, HG1, Gr.refl _⟩
  case round =>
    obtain ⟨t, v, rfl, rfl, ht, hV, hG, hGG⟩ := hrel
    by_cases htn : t < n
    · obtain ⟨p, ad, hp, hp9, hAe, hbl, d1⟩ := (HU.out.gr hGG.out).at (i := t) htn
      simp only at hAe
      subst hAe
      have hVS := val_take_succ hp
      have hvl : v < B32 ^ t := by
        rw [← hV.out]
        have := val_lt ((limbs_lim m).take t)
        rw [List.length_take, HN.out, Nat.min_eq_left ht] at this
        exact this
      rw [hV.out] at hVS
      rw [B32_eq] at hp9
      rcases (show t = 0 ∨ t = 1 by omega) with rfl | rfl
      · have hv0 : v = 0 := by simpa using hvl
        subst hv0
        rw [add_zero] at d1
        have E0 := Lib.hid (or_zero hp9)
        have HV2 : Hid (val ((limbs m).take 1) = p) := by
          rw [hVS, Nat.pow_zero, Nat.one_mul, Nat.zero_add]
          exact rfl
        clear hVS hvl hp hbl
        go_wp2
        go_roundw
        case rel =>
          rw [E0.out]
          exact ⟨1, p, rfl, rfl, by omega, HV2, hG, hGG⟩
        case measure => simp [intOf]; omega
      · have d2 : wr.cell? ⟨ad.block, ad.off + 1, none⟩ = some (.int .u32 (p : Int)) := d1
        clear d1
        obtain rfl : n = 2 := by omega
        rw [Nat.pow_one] at hVS hvl
        have E0 := Lib.hid (or_top (by rw [B32_eq] at hvl; exact hvl) hp9)
        have HV2 := Lib.hid hVS
        generalize v + B32 * p = v2 at *
        clear hVS hvl hp hbl
        go_wp2
        go_roundw
        case rel =>
          rw [E0.out]
          exact ⟨2, v2, rfl, rfl, by omega, HV2, hG, hGG⟩
        case measure => simp [intOf]
    · obtain rfl : t = n := by omega
      have HE := Lib.hid (hV.out.symm.trans VN.out)
      go_wp2
      go_returns
      exact ⟨by rw [HE.out]; rfl, hG.out⟩

end Go.Proofs.YtcmfepaffhnemaaGreatDoor
