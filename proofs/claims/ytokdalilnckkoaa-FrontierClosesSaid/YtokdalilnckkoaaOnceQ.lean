/- What holds at the heads of the loops of FrontierOnce, and how the rounds keep it: no walk. -/
import Derived.Test.YtokdalilnckkoaaOwn
namespace Go.Proofs.Ytokdalilnckkoaa
open Go.RowKit Go.Shelf

/-! A row of the law's own has grown, or one of its blocks has changed. -/
section
variable {w0 w w' : World} {g e B : Nat} {m : Mem Int} {ops : List (Nat × OpS)} {v u : Value} {us xs : List Value}
/-- All blocks but that of v lie as they lay. -/
structure Gw (w w' : World) (v : Value) : Prop where
  keep : ∀ b, b < w.heap.size → v.ownBlock ≠ some b → w'.heap[b]? = w.heap[b]?
  bel : ∀ B, B ≤ w.heap.size → (∀ b, v.ownBlock = some b → B ≤ b) → Below B w w'
theorem Gw.size (h : Gw w w' v) : w.heap.size ≤ w'.heap.size := (h.bel 0 (Nat.zero_le _) (fun _ _ => Nat.zero_le _)).size
theorem Gw.bk (h : Gw w w' v) (ho : Ow w B e v us) {b t : Nat} {cs : Array Value} (hb : Bk w b t cs) (ht : t ≠ e) : Bk w' b t cs := hb.keep (h.keep b hb.lt (ho.ne hb ht))
theorem Gw.en (h : Gw w w' v) (ho : Ow w w0.heap.size e v us) (he : e ≠ 79 ∧ e ≠ 83 ∧ e ≠ 81) (hE : EnI w0 w g m ops) : EnI w0 w' g m ops :=
  ⟨⟨h.bk ho hE.rel.fr (Ne.symm he.1), fun c hc => h.bk ho (hE.rel.cell c hc) (Ne.symm he.2.2), fun p hp => h.bk ho (hE.rel.op p hp) (Ne.symm he.2.1), hE.rel.okM, hE.rel.okO, hE.rel.nd⟩,
    hE.up, hE.bel.trans (h.bel _ hE.bel.size (fun b e => (ho.lt b e).1))⟩
theorem Gw.ow {B' e' : Nat} (h : Gw w w' v) (hu : Ow w B' e' u xs) (ha : Apart u v) : Ow w' B' e' u xs := hu.beside ha h.keep
end

/-- The cells of a list of acts. -/
def actCells (l : List (Int × Int)) : List Value := l.flatMap fun p => [.int .u8 p.1, .int .u8 p.2]

def tks (ops : List (Nat × OpS)) : List (Nat × OpS) := ops.filter fun p => !isPush p.2
theorem tks_push (ops : List (Nat × OpS)) (o c : Nat) : tks (ops ++ [(o, opPush c)]) = tks ops := by simp [tks, isPush, opPush]
theorem tks_take (ops : List (Nat × OpS)) (o : Nat) : tks (ops ++ [(o, opTake)]) = tks ops ++ [(o, opTake)] := by simp [tks, isPush, opTake]
theorem isPush_stp {m : Mem Int} {s : OpS} (h : 1 ≤ s.pc ∧ s.pc ≤ 6) : isPush (stp m s).2.1 = isPush s := by
  obtain ⟨pc, at_, fin, res⟩ := s
  dsimp only at h
  unfold stp isPush
  cases fin with
  | true => rfl
  | false =>
    match pc with
    | 0 => omega
    | 1 => rfl
    | 2 => rfl
    | 3 => by_cases ht : m.top = m.below (at_.getD 0) <;> simp [ht]
    | 4 => by_cases ht : m.top = none <;> simp [ht]
    | 5 => by_cases ht : m.top = at_ <;> simp [ht]
    | 6 => rfl
    | n + 7 => omega
theorem stp_pc6 {m : Mem Int} {s : OpS} (h : 1 ≤ s.pc ∧ s.pc ≤ 6) : 1 ≤ (stp m s).2.1.pc ∧ (stp m s).2.1.pc ≤ 6 := stp_pc h
theorem isPush_all : ∀ (n : Nat) {m : Mem Int} {s : OpS}, 1 ≤ s.pc ∧ s.pc ≤ 6 → isPush (allSteps n m s).2 = isPush s
  | 0, _, _, _ => rfl
  | n + 1, m, s, h => by
    unfold allSteps
    split
    · rfl
    · exact (isPush_all n (stp_pc6 h)).trans (isPush_stp h)
theorem tks_set : ∀ {ops : List (Nat × OpS)} {i o : Nat} {s s' : OpS}, ops[i]? = some (o, s) → isPush s' = isPush s → (tks (ops.set i (o, s'))).map (fun p => pt p.1) = (tks ops).map (fun p => pt p.1)
  | [], i, o, s, s', hi, _ => by simp at hi
  | a :: l, 0, o, s, s', hi, h => by
    simp at hi
    subst hi
    simp only [List.set_cons_zero, tks, List.filter_cons, h]
    split <;> rfl
  | a :: l, i + 1, o, s, s', hi, h => by
    simp at hi
    have ih := tks_set hi h
    simp only [tks] at ih
    simp only [List.set_cons_succ, tks, List.filter_cons]
    split
    · simp only [List.map_cons, ih]
    · exact ih
theorem ops_set {ops : List (Nat × OpS)} {i o : Nat} {s s' : OpS} (hi : ops[i]? = some (o, s)) : (ops.set i (o, s')).map (fun p => pt p.1) = ops.map (fun p => pt p.1) := by
  obtain ⟨hl, e⟩ := List.getElem?_eq_some_iff.1 hi
  rw [List.map_set]
  have e' : (ops.map fun p => pt p.1)[i]? = some (pt o) := by rw [List.getElem?_map, hi]; rfl
  obtain ⟨hl', e'⟩ := List.getElem?_eq_some_iff.1 e'
  conv => rhs; rw [← List.set_getElem_self hl']
  rw [e']

/-- What holds at the head of a round of the loop over the acts. -/
structure O1 (w0 : World) (g b2 b6 : Nat) (m : Mem Int) (ops : List (Nat × OpS)) (v4 v5 : Value) (w : World) : Prop where
  en : EnI w0 w g m ops
  once : Once m ops
  x2 : Boxed w b2 4 (.bool false)
  x6 : Boxed w b6 3 (.int .i64 m.cells.length)
  o4 : Ow w w0.heap.size 29 v4 (ops.map fun p => pt p.1)
  o5 : Ow w w0.heap.size 29 v5 ((tks ops).map fun p => pt p.1)
  ap : Apart v4 v5
  hb2 : w0.heap.size ≤ b2
  hb6 : w0.heap.size ≤ b6

section
variable {w0 w w1 w2 w3 : World} {g b2 b6 : Nat} {m : Mem Int} {ops : List (Nat × OpS)} {v4 v4' v5 v5' : Value}
theorem O1.alloc (h : O1 w0 g b2 b6 m ops v4 v5 w) (o : Obj) : O1 w0 g b2 b6 m ops v4 v5 (w.alloc o) :=
  ⟨h.en.grow ((Below.refl _ _).alloc (Nat.le_refl _) _), h.once, h.x2.alloc _, h.x6.alloc _, h.o4.alloc _, h.o5.alloc _, h.ap, h.hb2, h.hb6⟩
theorem O1.pd (h : O1 w0 g b2 b6 m ops v4 v5 w) (hl : ops.length ≤ 150) : 0 ≤ m.pd ∧ m.pd ≤ 150 := by
  have := List.length_filterMap_le begF ops
  rw [h.once.pd]
  omega
theorem O1.cells (h : O1 w0 g b2 b6 m ops v4 v5 w) : m.cells.length ≤ ops.length := by
  rw [← h.once.own]
  exact List.length_filterMap_le _ _
theorem O1.lt (h : O1 w0 g b2 b6 m ops v4 v5 w) : ∀ c ∈ m.cells, c < w.heap.size := fun c hc => Bk.lt (h.en.rel.cell c hc)

/-- A new operation was made: the rows are as they were. -/
theorem O1.mid {m' : Mem Int} {ops' : List (Nat × OpS)} (h : O1 w0 g b2 b6 m ops v4 v5 w) (E : EnI w0 w1 g m' ops') (F : FmI w w1) :
    EnI w0 w1 g m' ops' ∧ Boxed w1 b2 4 (.bool false) ∧ Boxed w1 b6 3 (.int .i64 m.cells.length) ∧ Ow w1 w0.heap.size 29 v4 (ops.map fun p => pt p.1) ∧ Ow w1 w0.heap.size 29 v5 ((tks ops).map fun p => pt p.1) :=
  ⟨E, F.bk h.x2 (by decide), F.bk h.x6 (by decide), h.o4.fm F (by decide), h.o5.fm F (by decide)⟩

theorem O1.push (h : O1 w0 g b2 b6 m ops v4 v5 w) {o : Nat} (E : EnI w0 w1 g (addCell m w.heap.size m.cells.length) (ops ++ [(o, opPush w.heap.size)])) (F : FmI w w1)
    (hown : Ow w2 w0.heap.size 29 v4' ((ops.map fun p => pt p.1) ++ [pt o])) (G : Gw w1 w2 v4) (hob : v4'.ownBlock = v4.ownBlock ∨ ∀ b, v4'.ownBlock = some b → w1.heap.size < b) :
    Boxed w2 b6 3 (.int .i64 m.cells.length) ∧ O1 w0 g b2 b6 (addCell m w.heap.size m.cells.length) (ops ++ [(o, opPush w.heap.size)]) v4' v5 (w2.setCell ⟨b6, 0, none⟩ (.int .i64 (m.cells.length + 1))) := by
  obtain ⟨_, x2, x6, o4, o5⟩ := h.mid E F
  have E2 := G.en o4 (by decide) E
  have x2' : Boxed w2 b2 4 (.bool false) := G.bk o4 x2 (by decide)
  have x6' : Boxed w2 b6 3 (.int .i64 m.cells.length) := G.bk o4 x6 (by decide)
  have o5' := G.ow o5 h.ap.symm
  have hc : ∀ b, b ≠ b6 → (w2.setCell ⟨b6, 0, none⟩ (.int .i64 (m.cells.length + 1))).heap[b]? = w2.heap[b]? := fun b hb => Below.heap_setCell w2 ⟨b6, 0, none⟩ _ b hb
  have hne : ∀ {v : Value} {us : List Value}, Ow w2 w0.heap.size 29 v us → ∀ b, v.ownBlock = some b → b ≠ b6 := fun ho b e e' => by
    subst e'
    exact ho.ne x6' (by decide) e
  refine ⟨x6', ⟨E2.own x6' (by decide) h.hb6 ((Ch.refl _ _).set (by simp) _), h.once.push o _ fun hc => Nat.lt_irrefl _ (h.lt _ hc), (hc b2 (Bk.ne x2' x6' (by decide))).trans x2', ?_, ?_, ?_, ?_, h.hb2, h.hb6⟩⟩
  · have := Bk.put x6' 0 (.int .i64 (m.cells.length + 1))
    simpa [addCell, Boxed, Bk] using this
  · have := hown.keep (fun b e => hc b (hne hown b e))
    simpa using this
  · rw [tks_push]
    exact o5'.keep (fun b e => hc b (hne o5' b e))
  · exact (Ow.grows o5 h.ap.symm hob).symm

theorem O1.take (h : O1 w0 g b2 b6 m ops v4 v5 w) {o : Nat} (E : EnI w0 w1 g m (ops ++ [(o, opTake)])) (F : FmI w w1)
    (hown : Ow w2 w0.heap.size 29 v4' ((ops.map fun p => pt p.1) ++ [pt o])) (G : Gw w1 w2 v4) (hob : v4'.ownBlock = v4.ownBlock ∨ ∀ b, v4'.ownBlock = some b → w1.heap.size < b) :
    Ow w2 w0.heap.size 29 v5 ((tks ops).map fun p => pt p.1) ∧ ∀ w3 v5', Ow w3 w0.heap.size 29 v5' (((tks ops).map fun p => pt p.1) ++ [pt o]) → Gw w2 w3 v5 → (v5'.ownBlock = v5.ownBlock ∨ ∀ b, v5'.ownBlock = some b → w2.heap.size < b) → O1 w0 g b2 b6 m (ops ++ [(o, opTake)]) v4' v5' w3 := by
  obtain ⟨_, x2, x6, o4, o5⟩ := h.mid E F
  have E2 := G.en o4 (by decide) E
  have x2' : Boxed w2 b2 4 (.bool false) := G.bk o4 x2 (by decide)
  have x6' : Boxed w2 b6 3 (.int .i64 m.cells.length) := G.bk o4 x6 (by decide)
  have o5' := G.ow o5 h.ap.symm
  have ap' : Apart v5 v4' := Ow.grows o5 h.ap.symm hob
  refine ⟨o5', fun w3 v5' hown3 G3 hob3 => ⟨G3.en o5' (by decide) E2, h.once.take o, G3.bk o5' x2' (by decide), G3.bk o5' x6' (by decide), ?_, ?_, ?_, h.hb2, h.hb6⟩⟩
  · have := G3.ow hown ap'.symm
    simpa using this
  · rw [tks_take]
    simpa using hown3
  · exact Ow.grows hown ap'.symm hob3

theorem O1.step (h : O1 w0 g b2 b6 m ops v4 v5 w) {i o : Nat} {s : OpS} (hi : ops[i]? = some (o, s)) (E : EnI w0 w1 g (stp m s).1 (ops.set i (o, (stp m s).2.1))) (F : FmI w w1) : O1 w0 g b2 b6 (stp m s).1 (ops.set i (o, (stp m s).2.1)) v4 v5 w1 := by
  obtain ⟨_, x2, x6, o4, o5⟩ := h.mid E F
  refine ⟨E, h.once.step hi, x2, by rw [(stp_cells m s).1]; exact x6, by rw [ops_set hi]; exact o4, ?_, h.ap, h.hb2, h.hb6⟩
  rw [tks_set hi (isPush_stp (h.once.pc _ (List.mem_of_getElem? hi)))]
  exact o5

theorem O1.run (h : O1 w0 g b2 b6 m ops v4 v5 w) {i o : Nat} {s : OpS} (hi : ops[i]? = some (o, s)) (E : EnI w0 w1 g (allSteps 5 m s).1 (ops.set i (o, (allSteps 5 m s).2))) (F : FmI w w1) : O1 w0 g b2 b6 (allSteps 5 m s).1 (ops.set i (o, (allSteps 5 m s).2)) v4 v5 w1 := by
  obtain ⟨_, x2, x6, o4, o5⟩ := h.mid E F
  refine ⟨E, h.once.run 5 hi, x2, by rw [(allSteps_cells 5 m s).1]; exact x6, by rw [ops_set hi]; exact o4, ?_, h.ap, h.hb2, h.hb6⟩
  rw [tks_set hi (isPush_all 5 (h.once.pc _ (List.mem_of_getElem? hi)))]
  exact o5
end

theorem actCells_at : ∀ {l : List (Int × Int)} {k : Nat} {p : Int × Int}, l[k]? = some p → (actCells l)[k * 2]? = some (.int .u8 p.1) ∧ (actCells l)[k * 2 + 1]? = some (.int .u8 p.2)
  | [], k, p, h => by simp at h
  | a :: l, 0, p, h => by
    simp at h
    subst h
    exact ⟨rfl, rfl⟩
  | a :: l, k + 1, p, h => by
    simp at h
    have ih := actCells_at h
    rw [show (k + 1) * 2 = k * 2 + 1 + 1 from by omega]
    exact ih
theorem act_at {l : List (Int × Int)} {w w' : World} {A : Option Addr} {k : Nat} (hs : Sees w w.heap.size A (actCells l)) (hx : ∀ p ∈ l, (0 ≤ p.1 ∧ p.1 ≤ 255) ∧ 0 ≤ p.2 ∧ p.2 ≤ 255) (hb : Below w.heap.size w w') (hk : k < l.length) :
    ∃ (kd it : Int) (ad : Addr), A = some ad ∧ (0 ≤ kd ∧ kd ≤ 255) ∧ (0 ≤ it ∧ it ≤ 255) ∧ w'.cell? (ad.add (k * 2)) = some (.int .u8 kd) ∧ w'.cell? ⟨(ad.add (k * 2)).block, (ad.add (k * 2)).off + 1, none⟩ = some (.int .u8 it) ∧ ad.block < w.heap.size ∧ (l[k]? = some (kd, it)) := by
  have hl : l[k]? = some l[k] := List.getElem?_eq_getElem hk
  obtain ⟨h1, h2⟩ := actCells_at hl
  have hs' := hs.below hb
  obtain ⟨ad, rfl, hbk, hc1⟩ := hs' _ _ h1
  obtain ⟨ad', e, _, hc2⟩ := hs' _ _ h2
  injection e with e
  subst e
  have hp := hx _ (List.getElem_mem hk)
  exact ⟨_, _, ad, rfl, hp.1, hp.2, hc1, by
    have h3 : w'.cell? ((ad.add (k * 2)).add 1) = some (.int .u8 l[k].2) := by rw [add_add]; exact hc2
    exact h3, hbk, hl⟩

end Go.Proofs.Ytokdalilnckkoaa
