/- The lists of the reference in memory, its Push and its Keep. -/
import Derived.Test.YtnepkpcoglfejaaAll
import Derived.Deep.RegionHeld3
import Derived.Deep.DeepCutAuto
set_option linter.unusedVariables false
namespace Go.Proofs.Ytnepkpcoglfejaa
open Go.RowKit Go.Sort Go.Shelf

def itC (x : Int × Int) : List Value := [.int .i64 x.1, .int .i64 x.2]
/-- The row at A begins with the items l; it lies in a block of items. -/
def Rf (w : World) (A : Option Addr) (l : List (Int × Int)) : Prop :=
  ∀ (i : Nat) (x : Int × Int), l[i]? = some x → ∃ ad cs, A = some ad ∧ Bk w ad.block 27 cs ∧ w.cell? (ad.add (i * 2)) = some (.int .i64 x.1) ∧ w.cell? ⟨(ad.add (i * 2)).block, (ad.add (i * 2)).off + 1, none⟩ = some (.int .i64 x.2)
section
variable {w w' : World} {A : Option Addr} {l : List (Int × Int)} {X : Nat → Prop}
theorem Rf.nil : Rf w A [] := fun i x h => by simp at h
theorem Rf.keep (h : Rf w A l) (hk : ∀ b cs, Bk w b 27 cs → w'.heap[b]? = w.heap[b]?) : Rf w' A l := fun i x hx => by
  obtain ⟨ad, cs, rfl, hb, h1, h2⟩ := h i x hx
  have h9 := hk _ _ hb
  have e9 : (ad.add (i * 2)).block = ad.block := add_blk _ _
  exact ⟨ad, cs, rfl, h9.trans hb, (World.cell?_of_block (by rw [e9]; exact h9)).trans h1, (World.cell?_of_block (by show w'.heap[(ad.add (i * 2)).block]? = _; rw [e9]; exact h9)).trans h2⟩
theorem Rf.fr (h : Rf w A l) (hF : Fr X w w') (hX : ∀ b cs, Bk w b 27 cs → ¬ X b) : Rf w' A l := h.keep fun b cs hb => hF.keep b hb.lt (hX b cs hb)
theorem Rf.no (h : Rf w A l) (hF : Fr (fun _ => False) w w') : Rf w' A l := h.fr hF fun _ _ _ => id
theorem Rf.lb {w0 : World} {p N : Nat} {hv : Value} {E : List ((Int × Int) × Int)} (h : Rf w A l) (hE : EnA w0 w p hv E N) (hF : Fr (Lb p hv) w w') : Rf w' A l := h.fr hF fun b cs hb hx => by rcases hE.ty hx hb with e | e <;> cases e
theorem Rf.tail {x : Int × Int} {c : Nat} (h : Rf w A (x :: l)) : Rf w (A.map (·.add 2)) l := fun i y hy => by
  obtain ⟨ad, cs, rfl, hb, h1, h2⟩ := h (i + 1) y (by simpa using hy)
  have e1 : (ad.add 2).add (i * 2) = ad.add ((i + 1) * 2) := by rw [add_add]; congr 1; omega
  exact ⟨ad.add 2, cs, rfl, by rw [add_blk]; exact hb, by rw [e1]; exact h1, by rw [e1]; exact h2⟩
theorem Rf.own {B n c : Nat} (h : w.ownsRow B 27 2 (.slice A n c) n (l.flatMap itC)) : Rf w A l := fun i x hx => by
  have hl : (l.flatMap itC).length = n * 2 := h.1
  rw [flat_len (k := 2) (fun _ => rfl)] at hl
  have hi := (List.getElem?_eq_some_iff.1 hx).1
  have h' := h
  obtain ⟨_, ⟨_, h0⟩ | ⟨g, cap, cur, hv, _, hh, _⟩⟩ := h
  · omega
  · injection hv with hv _ _
    subst hv
    have c1 := row_cell (F := itC) (k := 2) (j := 0) (fun _ => rfl) h' hx (by decide)
    have c2 := row_cell (F := itC) (k := 2) (j := 1) (fun _ => rfl) h' hx (by decide)
    exact ⟨⟨g, 0, none⟩, cur, rfl, hh, by rw [add_mk, Nat.zero_add]; exact c1, by rw [add_mk, Nat.zero_add]; exact c2⟩
end
theorem elemR : ElemS Try.prog 42 27 2 16 := by
  refine ⟨by kernel_rfl, ?_, by decide⟩
  obtain ⟨i, hi, hz⟩ := Option.map_eq_some_iff.1 (show (Try.prog.info? 27).map (fun i => (i.zero, i.size, i.bytes)) = some (some (.agg #[.int .i64 0, .int .i64 0]), 2, 16) by kernel_rfl)
  simp only [Prod.mk.injEq] at hz
  exact ⟨i, _, hi, hz.1, hz.2.1, hz.2.2, rfl⟩

/-! Push. -/
def rstep (x : Int × Int) (s : List (Int × Int) × Bool) (y : Int × Int) : List (Int × Int) × Bool := if s.2 = false ∧ x.1 < y.1 then (s.1 ++ [x, y], true) else (s.1 ++ [y], s.2)
def rfold (x : Int × Int) (l : List (Int × Int)) (t : Nat) : List (Int × Int) × Bool := (l.take t).foldl (rstep x) ([], false)
/-- The item goes behind all that are not greater. -/
def insK (x : Int × Int) : List (Int × Int) → List (Int × Int)
  | [] => [x]
  | y :: l => if x.1 < y.1 then x :: y :: l else y :: insK x l
theorem rfold_succ {x y : Int × Int} {l : List (Int × Int)} {t : Nat} (h : l[t]? = some y) : rfold x l (t + 1) = rstep x (rfold x l t) y := by
  unfold rfold
  rw [List.take_add_one, h, List.foldl_append]
  rfl
theorem rfold_len (x : Int × Int) (l : List (Int × Int)) : ∀ t, t ≤ l.length → (rfold x l t).1.length = t + (if (rfold x l t).2 then 1 else 0)
  | 0, _ => rfl
  | t + 1, h => by
    rw [rfold_succ (List.getElem?_eq_getElem (by omega)), rstep]
    have ih := rfold_len x l t (by omega)
    split
    · rename_i hc
      rw [hc.1] at ih
      simp only [List.length_append, List.length_cons, List.length_nil, if_true]
      simp at ih
      omega
    · simp only [List.length_append, List.length_cons, List.length_nil]
      omega
theorem fold_true (x : Int × Int) : ∀ (l a : List (Int × Int)), l.foldl (rstep x) (a, true) = (a ++ l, true)
  | [], a => by simp
  | y :: l, a => by
    rw [List.foldl_cons, rstep, if_neg (by simp), fold_true x l]
    simp
theorem fold_false (x : Int × Int) : ∀ (l a : List (Int × Int)), (let s := l.foldl (rstep x) (a, false); if s.2 then s.1 else s.1 ++ [x]) = a ++ insK x l
  | [], a => by simp [insK]
  | y :: l, a => by
    rw [List.foldl_cons]
    by_cases h : x.1 < y.1
    · have hs : rstep x (a, false) y = (a ++ [x, y], true) := by rw [rstep, if_pos ⟨rfl, h⟩]
      rw [hs, fold_true]
      simp [insK, h]
    · have hs : rstep x (a, false) y = (a ++ [y], false) := by rw [rstep, if_neg (fun e => h e.2)]
      have := fold_false x l (a ++ [y])
      rw [hs, this, insK, if_neg h, List.append_assoc]
      rfl
theorem rfold_all (x : Int × Int) (l : List (Int × Int)) : (if (rfold x l l.length).2 then (rfold x l l.length).1 else (rfold x l l.length).1 ++ [x]) = insK x l := by
  have := fold_false x l []
  unfold rfold
  rw [List.take_length]
  simpa using this
theorem insK_len (x : Int × Int) : ∀ l, (insK x l).length = l.length + 1
  | [] => rfl
  | y :: l => by
    rw [insK]
    split
    · rfl
    · rw [List.length_cons, insK_len x l]; rfl
/-- What holds at the head of a round of Push. -/
structure Rp (w : World) (A : Option Addr) (l : List (Int × Int)) (q : Nat) (x : Int × Int) (o : List (Int × Int)) (v : Value) (W : World) : Prop where
  row : W.ownsRow w.heap.size 27 2 v o.length (o.flatMap itC)
  bx : Bk W q 27 #[.int .i64 x.1, .int .i64 x.2]
  rf : Rf W A l
  gr : Gr w W
  hq : w.heap.size ≤ q
  d : v.ownBlock ≠ some q
  hA : ∀ ad, A = some ad → l ≠ [] → ad.block < w.heap.size
theorem Rp.app {w : World} {A : Option Addr} {l : List (Int × Int)} {q : Nat} {x y : Int × Int} {o : List (Int × Int)} {v v' : Value} {W W' : World} (h : Rp w A l q x o v W) (hr : W'.ownsRow w.heap.size 27 2 v' (o.length + 1) (o.flatMap itC ++ itC y)) (hF : Fr (fun b => v.ownBlock = some b) W W') (ho : v'.ownBlock = v.ownBlock ∨ ∀ b, v'.ownBlock = some b → W.heap.size < b) : Rp w A l q x (o ++ [y]) v' W' := by
  refine ⟨?_, hF.bk h.bx h.d, ?_, h.gr.step hF fun b _ e => (rw_lt h.row b e).1, h.hq, ?_, h.hA⟩
  · rw [List.length_append, List.flatMap_append]
    simpa using hr
  · intro i z hz
    obtain ⟨ad, cs, rfl, hb, h1, h2⟩ := h.rf i z hz
    have hlt := h.hA ad rfl (fun e => by rw [e] at hz; simp at hz)
    have h9 : W'.heap[ad.block]? = W.heap[ad.block]? := hF.keep _ hb.lt fun e => by have := (rw_lt h.row _ e).1; omega
    have e9 : (ad.add (i * 2)).block = ad.block := add_blk _ _
    exact ⟨ad, cs, rfl, h9.trans hb, (World.cell?_of_block (by rw [e9]; exact h9)).trans h1, (World.cell?_of_block (by show W'.heap[(ad.add (i * 2)).block]? = _; rw [e9]; exact h9)).trans h2⟩
  · rcases ho with e | e
    · rw [e]; exact h.d
    · intro e'
      have := e q e'
      have := h.bx.lt
      omega
end Go.Proofs.Ytnepkpcoglfejaa
