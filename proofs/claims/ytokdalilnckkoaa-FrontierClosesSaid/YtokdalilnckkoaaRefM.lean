/- The reference's frontier in memory: rows of structs, no walk. -/
import Derived.Test.YtokdalilnckkoaaStepsP
import Derived.Test.YtokdalilnckkoaaOnceQ
namespace Go.Proofs.Ytokdalilnckkoaa
open Go.RowKit Go.Shelf

/-- What the append laws ask of a slice type t with elements of type e of 'size' cells. -/
structure ElemS (P : Program) (t e : TypeId) (size bytes : Nat) : Prop where
  ht : P.underlying t = some (.slice e)
  hi : ∃ i z, P.info? e = some i ∧ i.zero = some z ∧ i.size = size ∧ i.bytes = bytes ∧ z.cells.size = size
  pos : 0 < size

section
variable {P : Program} {t e size bytes : Nat}
/-- One element: it was laid in a new block first. -/
theorem wpList_appS1 (h : ElemS P t e size bytes) {w : World} {ops : Array Oper} {rest : List Oper} {o : Oper} {a : Act} {Q : Exit → Act → World → Prop} (hgd : o.guard = none) (s x : Operand) (ho : o.op = .call { callee := .builtin .append, args := #[s, x], argTypes := #[t, t] })
    (base : Nat) (v : Value) (n : Nat) (xs : List Value) (us : Array Value) (hs : a.eval s = v) (hx : a.eval x = .slice (some ⟨w.heap.size, 0, none⟩) 1 1) (hus : us.size = size) (hown : w.ownsRow base e size v n xs) (h1 : ∀ u ∈ us.toList, u.oneCell' = true)
    (h63 : n + 1 ≤ maxLen) (hbytes : (n + 1) * bytes ≤ 140737488355328) (hbase : base ≤ w.heap.size)
    (hK : ∀ v' w', w'.ownsRow base e size v' (n + 1) (xs ++ us.toList) → Gw w w' v → (v'.ownBlock = v.ownBlock ∨ ∀ b, v'.ownBlock = some b → w.heap.size < b) → wpList P ops Q rest (a.put o.dst v') w') :
    wpList P ops Q (o :: rest) a (w.alloc (.cells us e)) := by
  obtain ⟨i, z, hi, hz, hsz, hby, hzs⟩ := h.hi
  have hcell : ∀ j u, us.toList[j]? = some u → (w.alloc (.cells us e)).cell? ((⟨w.heap.size, 0, none⟩ : Addr).add j) = some u := fun j u hu => by
    rw [add_mk, Nat.zero_add, (Bk.made w e us).cell, ← Array.getElem?_toList]
    exact hu
  obtain ⟨v', w', hrun, h2, h3, _, h5⟩ := run_append_own_at (P := P) (w.alloc (.cells us e)) base t o.type e i z size bytes h.ht hi hz hsz hby hzs h.pos v n xs (hown.alloc _) ⟨w.heap.size, 0, none⟩ 1 1 us.toList (by simp [hus]) hcell h1 h63 hbytes (by simp; omega)
  refine wpList_plain hgd fun _ hK' => ?_
  unfold Oper.wp execOp
  simp only [ho, resolve, invoke, builtin, Sem.run_bind, Sem.run_pure, Result.andThen_ok, List.map_toArray, List.map_cons, List.map_nil, hs, hx, hrun]
  refine hK' _ _ (hK v' w' h2 ⟨?_, ?_⟩ ?_)
  · intro b hb hne
    exact (h3.block b (by simp; omega) (fun e => hne e.symm)).trans (Below.heap_alloc _ _ _ hb)
  · intro B hB hr
    exact ((Below.refl _ _).alloc hB _).grown h3 (by simp; omega) hr
  · rcases h5 with h5 | h5
    · exact .inl h5
    · refine .inr fun b hb => ?_
      rw [hb] at h5
      injection h5 with h5
      simp at h5
      omega
end

/-! Rows of structs. -/
section
variable {w w' : World} {B e size n : Nat} {v : Value} {xs : List Value}
theorem rw_keep (h : w.ownsRow B e size v n xs) (hk : ∀ b, v.ownBlock = some b → w'.heap[b]? = w.heap[b]?) : w'.ownsRow B e size v n xs := by
  refine ⟨h.1, ?_⟩
  rcases h.2 with hn | ⟨g, cap, cur, rfl, hb, hgg, rest⟩
  · exact .inl hn
  · exact .inr ⟨g, cap, cur, rfl, hb, (hk g rfl).trans hgg, rest⟩
theorem rw_bk (h : w.ownsRow B e size v n xs) : ∀ b, v.ownBlock = some b → ∃ cur, Bk w b e cur := by
  rcases h.2 with ⟨rfl, _⟩ | ⟨g, cap, cur, rfl, _, hgg, rest⟩
  · intro b e; cases e
  · intro b e
    obtain rfl : g = b := by simpa [Value.ownBlock] using e
    exact ⟨cur, hgg⟩
theorem rw_ne (h : w.ownsRow B e size v n xs) {g t : Nat} {cs : Array Value} (hb : Bk w g t cs) (ht : t ≠ e) : v.ownBlock ≠ some g := fun he => by
  obtain ⟨cur, hh⟩ := rw_bk h g he
  exact Bk.ne hh hb (fun e => ht e.symm) rfl
theorem rw_lt (h : w.ownsRow B e size v n xs) : ∀ b, v.ownBlock = some b → B ≤ b ∧ b < w.heap.size := World.ownsRow.lt h
theorem rw_form (h : w.ownsRow B e size v n xs) : ∃ A c, v = .slice A n c := by
  obtain ⟨_, ⟨rfl, rfl⟩ | ⟨g, cap, cur, rfl, _⟩⟩ := h
  · exact ⟨none, 0, rfl⟩
  · exact ⟨_, cap, rfl⟩
end

def cellC (p : Int × Int) : List Value := [.int .i64 p.1, .int .i64 p.2]
def opC (r : ROp) : List Value := [.int .i64 r.kind, .int .i64 r.item, .int .i64 r.pc, .int .i64 r.cell, .int .i64 r.read, .int .i64 r.got, .int .i64 r.res]
theorem opC_len (r : ROp) : (opC r).length = 7 := rfl
theorem cellC_len (p : Int × Int) : (cellC p).length = 2 := rfl

/-! Lists of structs laid flat. -/
section
variable {α : Type} {F : α → List Value} {k : Nat}
theorem flat_len (hF : ∀ a, (F a).length = k) : ∀ l : List α, (l.flatMap F).length = l.length * k
  | [] => by simp
  | a :: l => by rw [List.flatMap_cons, List.length_append, hF, flat_len hF l, List.length_cons, Nat.add_mul]; omega
theorem flat_at (hF : ∀ a, (F a).length = k) : ∀ {l : List α} {i j : Nat} {a : α}, l[i]? = some a → j < k → (l.flatMap F)[i * k + j]? = (F a)[j]?
  | [], i, j, a, h, _ => by simp at h
  | b :: l, 0, j, a, h, hj => by
    simp at h
    subst h
    rw [List.flatMap_cons, Nat.zero_mul, Nat.zero_add, List.getElem?_append_left (by rw [hF]; exact hj)]
  | b :: l, i + 1, j, a, h, hj => by
    simp at h
    rw [List.flatMap_cons, List.getElem?_append_right (by rw [hF, Nat.add_mul]; omega), hF, show (i + 1) * k + j - k = i * k + j from by rw [Nat.add_mul]; omega]
    exact flat_at hF h hj
theorem flat_set (hF : ∀ a, (F a).length = k) : ∀ {l : List α} {i j : Nat} {a b : α} {x : Value}, l[i]? = some a → j < k → (F a).set j x = F b → (l.flatMap F).set (i * k + j) x = (l.set i b).flatMap F
  | [], i, j, a, b, x, h, _, _ => by simp at h
  | c :: l, 0, j, a, b, x, h, hj, hx => by
    simp at h
    subst h
    rw [List.flatMap_cons, Nat.zero_mul, Nat.zero_add, List.set_append_left _ _ (by rw [hF]; exact hj), hx]
    rfl
  | c :: l, i + 1, j, a, b, x, h, hj, hx => by
    simp at h
    rw [List.flatMap_cons, List.set_append_right _ _ (by rw [hF, Nat.add_mul]; omega), hF, show (i + 1) * k + j - k = i * k + j from by rw [Nat.add_mul]; omega, flat_set hF h hj hx]
    rfl
end

section
variable {α : Type} {F : α → List Value} {k : Nat} {w : World} {B e g c n : Nat} {l : List α}
theorem row_cell (hF : ∀ a, (F a).length = k) (h : w.ownsRow B e k (.slice (some ⟨g, 0, none⟩) n c) n (l.flatMap F)) {i j : Nat} {a : α} (hi : l[i]? = some a) (hj : j < k) : w.cell? ⟨g, i * k + j, none⟩ = (F a)[j]? := by
  obtain ⟨hl, h0 | ⟨g', cap, cur, hv, _, hh, _, _, _, ht⟩⟩ := h
  · cases h0.1
  · injection hv with hv
    injection hv with hv
    injection hv with hv
    subst hv
    have hlt : i * k + j < (l.flatMap F).length := by
      rw [flat_len hF]
      have := (List.getElem?_eq_some_iff.1 hi).1
      have h2 : (i + 1) * k ≤ l.length * k := Nat.mul_le_mul_right k this
      rw [Nat.add_mul] at h2
      omega
    rw [cell_of_row w g _ cur e (0, 0) hh, ← Array.getElem?_toList, ← List.getElem?_take_of_lt (show i * k + j < n * k from by rw [← hl]; exact hlt), ht, flat_at hF hi hj]
theorem row_set (hF : ∀ a, (F a).length = k) (h : w.ownsRow B e k (.slice (some ⟨g, 0, none⟩) n c) n (l.flatMap F)) {i j : Nat} {a b : α} {x : Value} (hi : l[i]? = some a) (hj : j < k) (hx : (F a).set j x = F b) :
    (w.setCell ⟨g, i * k + j, none⟩ x).ownsRow B e k (.slice (some ⟨g, 0, none⟩) n c) n ((l.set i b).flatMap F) := by
  obtain ⟨hl, h0 | ⟨g', cap, cur, hv, hb, hh, h1, h2, h3, ht⟩⟩ := h
  · cases h0.1
  · have hv' := hv
    injection hv with hv hvn hvc
    injection hv with hv
    injection hv with hv
    subst hv
    subst hvc
    refine ⟨by rw [← hl, flat_len hF, flat_len hF, List.length_set], .inr ⟨g, c, _, rfl, hb, Bk.put hh _ x, h1, h2, by simpa using h3, ?_⟩⟩
    rw [Array.toList_setIfInBounds, List.take_set, ht, flat_set hF hi hj hx]
end

/-- The reference's frontier f lies at r. -/
structure Rf (w : World) (B r : Nat) (f : RF) (vc vo : Value) : Prop where
  fr : Bk w r 56 #[vc, .int .i64 f.top, .int .i64 f.pd, vo]
  cs : w.ownsRow B 109 2 vc f.cells.length (f.cells.flatMap cellC)
  os : w.ownsRow B 52 7 vo f.ops.length (f.ops.flatMap opC)
  hr : B ≤ r

/-- All blocks but those of the reference lie as they lay. -/
structure FmR (B : Nat) (w w' : World) : Prop where
  bel : Below B w w'
  keep : ∀ b, b < w.heap.size → (∀ cs t, w.heap[b]? = some (.cells cs t (0, 0)) → t ≠ 56 ∧ t ≠ 109 ∧ t ≠ 52) → w'.heap[b]? = w.heap[b]?
theorem FmR.bk {B : Nat} {w w' : World} (h : FmR B w w') {b t : Nat} {cs : Array Value} (hb : Bk w b t cs) (ht : t ≠ 56 ∧ t ≠ 109 ∧ t ≠ 52) : Bk w' b t cs := hb.keep (h.keep b hb.lt fun cs' t' e => by
  have : some (Obj.cells cs t (0, 0)) = some (.cells cs' t' (0, 0)) := Eq.trans (Eq.symm hb) e
  injection this with this
  injection this with _ this
  subst this
  exact ht)
theorem FmR.refl (B : Nat) (w : World) : FmR B w w := ⟨Below.refl _ _, fun _ _ _ => rfl⟩
theorem FmR.trans {B : Nat} {w w' w'' : World} (h : FmR B w w') (k : FmR B w' w'') : FmR B w w'' := ⟨h.bel.trans k.bel, fun b hb ht => by
  have e := h.keep b hb ht
  rw [← e] at ht
  exact (k.keep b (Nat.lt_of_lt_of_le hb h.bel.size) ht).trans e⟩
theorem FmR.set {B : Nat} {w w' : World} (h : FmR B w w') {g t i : Nat} {cs : Array Value} (hg : Bk w' g t cs) (ht : t = 56 ∨ t = 109 ∨ t = 52) (hB : B ≤ g) (x : Value) : FmR B w (w'.setCell ⟨g, i, none⟩ x) :=
  ⟨h.bel.setCell hB _, fun b hb htt => by
    refine (Below.heap_setCell _ _ _ _ fun e => ?_).trans (h.keep b hb htt)
    have e' : b = g := e
    subst e'
    have hk := h.keep b hb htt
    have h3 := htt cs t (hk.symm.trans hg)
    rcases ht with h4 | h4 | h4
    · exact h3.1 h4
    · exact h3.2.1 h4
    · exact h3.2.2 h4⟩
theorem FmR.en {w0 w w' : World} {g : Nat} {m : Mem Int} {ops : List (Nat × OpS)} (h : FmR w0.heap.size w w') (hE : EnI w0 w g m ops) : EnI w0 w' g m ops :=
  ⟨⟨h.bk hE.rel.fr (by decide), fun c hc => h.bk (hE.rel.cell c hc) (by decide), fun p hp => h.bk (hE.rel.op p hp) (by decide), hE.rel.okM, hE.rel.okO, hE.rel.nd⟩, hE.up, hE.bel.trans h.bel⟩
theorem FmR.ow {w w' : World} {B B' e : Nat} {v : Value} {us : List Value} (h : FmR B w w') (ho : Ow w B' e v us) (he : e ≠ 56 ∧ e ≠ 109 ∧ e ≠ 52) : Ow w' B' e v us := ho.keep fun b hb => by
  obtain ⟨cur, hh⟩ := ho.bk b hb
  exact (h.bk hh he).trans hh.symm

section
variable {w w' w0 : World} {B r : Nat} {f : RF} {vc vo : Value}
theorem Rf.keep (h : Rf w B r f vc vo) (hk : ∀ b t cs, Bk w b t cs → t = 56 ∨ t = 109 ∨ t = 52 → w'.heap[b]? = w.heap[b]?) : Rf w' B r f vc vo :=
  ⟨Bk.keep h.fr (hk _ _ _ h.fr (by decide)), rw_keep h.cs fun b e => by obtain ⟨cur, hh⟩ := rw_bk h.cs b e; exact hk _ _ _ hh (by decide), rw_keep h.os fun b e => by obtain ⟨cur, hh⟩ := rw_bk h.os b e; exact hk _ _ _ hh (by decide), h.hr⟩
theorem Rf.fm (h : Rf w B r f vc vo) (hf : FmI w w') : Rf w' B r f vc vo := h.keep fun b t cs hb ht => (hf.bk hb (by rcases ht with rfl | rfl | rfl <;> decide)).trans hb.symm
theorem Rf.below (h : Rf w B r f vc vo) (hb : Below w.heap.size w w') : Rf w' B r f vc vo := h.fm (.below hb)
theorem Rf.gw {e : Nat} {v : Value} {us : List Value} {B' : Nat} (h : Rf w B r f vc vo) (ho : Ow w B' e v us) (hg : Gw w w' v) (he : e ≠ 56 ∧ e ≠ 109 ∧ e ≠ 52) : Rf w' B r f vc vo :=
  h.keep fun b t cs hb ht => (hg.bk ho hb (by rcases ht with rfl | rfl | rfl <;> first | exact he.1.symm | exact he.2.1.symm | exact he.2.2.symm)).trans hb.symm
theorem Rf.drew (h : Rf w B r f vc vo) : Rf w.drew B r f vc vo := ⟨h.fr, h.cs, h.os, h.hr⟩
theorem Rf.nec (h : Rf w B r f vc vo) : vc.ownBlock ≠ some r := rw_ne h.cs h.fr (by decide)
theorem Rf.neo (h : Rf w B r f vc vo) : vo.ownBlock ≠ some r := rw_ne h.os h.fr (by decide)
theorem Rf.nco (h : Rf w B r f vc vo) : ∀ b, vc.ownBlock = some b → vo.ownBlock ≠ some b := fun b e e' => by
  obtain ⟨cur, hh⟩ := rw_bk h.cs b e
  exact rw_ne h.os hh (by decide) e'

/-- The frontier's own block was written. -/
theorem Rf.head (h : Rf w B r f vc vo) {i : Nat} {x : Value} {top pd : Int} (hx : (#[vc, .int .i64 f.top, .int .i64 f.pd, vo] : Array Value).setIfInBounds i x = #[vc, .int .i64 top, .int .i64 pd, vo]) : Rf (w.setCell ⟨r, i, none⟩ x) B r { f with top := top, pd := pd } vc vo :=
  ⟨by have := Bk.put h.fr i x; rw [hx] at this; exact this,
    rw_keep h.cs fun b e => Below.heap_setCell _ _ _ _ (fun e' => h.nec (by rw [e]; exact congrArg some e')), rw_keep h.os fun b e => Below.heap_setCell _ _ _ _ (fun e' => h.neo (by rw [e]; exact congrArg some e')), h.hr⟩
/-- A field of an operation was written. -/
theorem Rf.op {go co i j : Nat} {o o' : ROp} {x : Value} (h : Rf w B r f vc (.slice (some ⟨go, 0, none⟩) f.ops.length co)) (hi : f.ops[i]? = some o) (hj : j < 7) (hx : (opC o).set j x = opC o') :
    Rf (w.setCell ⟨go, i * 7 + j, none⟩ x) B r { f with ops := f.ops.set i o' } vc (.slice (some ⟨go, 0, none⟩) f.ops.length co) :=
  ⟨Bk.keep h.fr (Below.heap_setCell _ _ _ _ (fun e => h.neo (by show some go = some r; exact congrArg some (Eq.symm e)))),
    rw_keep h.cs fun b e => Below.heap_setCell _ _ _ _ (fun e' => h.nco b e (by show some go = some b; exact congrArg some (Eq.symm e'))),
    by simpa using row_set opC_len h.os hi hj hx, h.hr⟩
/-- A field of a cell was written. -/
theorem Rf.cell {gc cc i j : Nat} {p p' : Int × Int} {x : Value} (h : Rf w B r f (.slice (some ⟨gc, 0, none⟩) f.cells.length cc) vo) (hi : f.cells[i]? = some p) (hj : j < 2) (hx : (cellC p).set j x = cellC p') :
    Rf (w.setCell ⟨gc, i * 2 + j, none⟩ x) B r { f with cells := f.cells.set i p' } (.slice (some ⟨gc, 0, none⟩) f.cells.length cc) vo :=
  ⟨Bk.keep h.fr (Below.heap_setCell _ _ _ _ (fun e => h.nec (by show some gc = some r; exact congrArg some (Eq.symm e)))),
    by simpa using row_set cellC_len h.cs hi hj hx,
    rw_keep h.os fun b e => Below.heap_setCell _ _ _ _ (fun e' => h.nco gc rfl (by rw [e]; exact congrArg some e')), h.hr⟩
end

theorem Try.cellsz : ElemS Try.prog 53 109 2 16 := by
  refine ⟨by kernel_rfl, ?_, by decide⟩
  obtain ⟨i, hi, hz⟩ := Option.map_eq_some_iff.1 (show (Try.prog.info? 109).map (fun i => (i.zero, i.size, i.bytes)) = some (some (.agg #[.int .i64 0, .int .i64 0]), 2, 16) by kernel_rfl)
  simp only [Prod.mk.injEq] at hz
  exact ⟨i, _, hi, hz.1, hz.2.1, hz.2.2, rfl⟩
theorem Try.opcsz : ElemS Try.prog 54 52 7 56 := by
  refine ⟨by kernel_rfl, ?_, by decide⟩
  obtain ⟨i, hi, hz⟩ := Option.map_eq_some_iff.1 (show (Try.prog.info? 52).map (fun i => (i.zero, i.size, i.bytes)) = some (some (.agg #[.int .i64 0, .int .i64 0, .int .i64 0, .int .i64 0, .int .i64 0, .int .i64 0, .int .i64 0]), 7, 56) by kernel_rfl)
  simp only [Prod.mk.injEq] at hz
  exact ⟨i, _, hi, hz.1, hz.2.1, hz.2.2, rfl⟩

end Go.Proofs.Ytokdalilnckkoaa
