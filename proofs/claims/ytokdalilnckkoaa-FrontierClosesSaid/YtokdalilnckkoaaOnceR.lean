/- FrontierOnce: the counts of the items seen. -/
import Derived.Test.YtokdalilnckkoaaOnceQ
import Derived.Laws.MakeOwn
import Derived.OwnWalk
namespace Go.Proofs.Ytokdalilnckkoaa
open Go.RowKit Go.Shelf

/-- How often each of the first n numbers is in a list. -/
def cnt (n : Nat) (L : List Int) : List Int := (List.range n).map fun (j : Nat) => (L.count (j : Int) : Int)
theorem cnt_length (n : Nat) (L : List Int) : (cnt n L).length = n := by simp [cnt]
theorem cnt_at {n j : Nat} (L : List Int) (hj : j < n) : (cnt n L)[j]? = some (L.count (j : Int) : Int) := by
  simp [cnt, hj]
theorem cnt_nil (n : Nat) : cnt n [] = List.replicate n 0 := by
  apply List.ext_getElem?
  intro i
  by_cases hi : i < n
  · rw [cnt_at _ hi, List.getElem?_replicate, if_pos hi]
    rfl
  · rw [List.getElem?_eq_none (by rw [cnt_length]; omega), List.getElem?_eq_none (by simp; omega)]
theorem cnt_snoc {n j : Nat} (L : List Int) : cnt n (L ++ [(j : Int)]) = (cnt n L).set j ((L.count (j : Int) : Int) + 1) := by
  apply List.ext_getElem?
  intro i
  by_cases hi : i < n
  · rw [cnt_at _ hi, List.getElem?_set, List.count_append]
    by_cases hij : j = i
    · subst hij
      rw [if_pos rfl, if_pos (by rw [cnt_length]; exact hi)]
      simp
    · rw [if_neg hij, cnt_at _ hi]
      have : List.count (i : Int) [(j : Int)] = 0 := by
        rw [List.count_eq_zero]
        simp
        omega
      rw [this]
      rfl
  · rw [List.getElem?_eq_none (by rw [cnt_length]; omega), List.getElem?_eq_none (by rw [List.length_set, cnt_length]; omega)]
theorem range_one : ∀ n j : Nat, j < n → ((List.range n).map (fun (k : Nat) => (k : Int))).count (j : Int) = 1
  | 0, j, h => by omega
  | n + 1, j, h => by
    rw [List.range_succ, List.map_append, List.count_append]
    by_cases hj : j = n
    · subst hj
      have : ((List.range j).map (fun (k : Nat) => (k : Int))).count (j : Int) = 0 := by
        rw [List.count_eq_zero]
        simp
        omega
      rw [this]
      simp
    · rw [range_one n j (by omega)]
      have : List.count (j : Int) ([n].map fun (k : Nat) => (k : Int)) = 0 := by
        rw [List.count_eq_zero]
        simp
        omega
      rw [this]
theorem cnt_one {n j : Nat} {L : List Int} (h : L.Perm ((List.range n).map (fun (k : Nat) => (k : Int)))) (hj : j < n) : (cnt n L)[j]? = some 1 := by
  rw [cnt_at _ hj, h.count_eq, range_one n j hj]
  rfl

/-- The cells of a row of ints. -/
def ints (cs : List Int) : Array Value := (cs.map (Value.int .i64)).toArray
theorem ints_size (cs : List Int) : (ints cs).size = cs.length := by simp [ints]
theorem ints_at {cs : List Int} {j : Nat} {x : Int} (h : cs[j]? = some x) : (ints cs)[j]? = some (.int .i64 x) := by simp [ints, h]
theorem ints_set (cs : List Int) (j : Nat) (x : Int) : (ints cs).setIfInBounds j (.int .i64 x) = ints (cs.set j x) := by
  apply Array.toList_inj.mp
  simp [ints, List.map_set]
theorem made_ints (n : Nat) : madeCells #[Value.int .i64 0] n = ints (List.replicate n 0) := by
  apply Array.toList_inj.mp
  rw [toList_madeCells_one, ints, List.map_replicate]
theorem Try.info3' : (Try.prog.info? 3).map (fun i => (i.zero, i.size, i.bytes)) = some (some (.int .i64 0), 1, 8) := by kernel_rfl
theorem make34 (n : Nat) (hn : n ≤ 1000) (w : World) : (Instr.makeSlice 34 (.int .i64 n) (.int .i64 n)).run Try.prog w = .ok (.slice (some ⟨w.heap.size, 0, none⟩) n n) (w.alloc (.cells (ints (cnt n [])) 3)) := by
  obtain ⟨i0, hi, hz0, hz1, hz2⟩ := info_parts Try.info3'
  have := run_make (P := Try.prog) w 34 3 i0 _ Try.underlying34 hi hz0 .i64 .i64 n n (by omega) (Int.le_refl _) (by rw [hz2]; omega) (by omega)
  rw [hz1, Nat.mul_one, Int.toNat_natCast] at this
  rw [cnt_nil, ← made_ints]
  exact this

/-- All operations are finished; L are the items seen so far. -/
structure O2 (w0 : World) (g b2 b6 b12 bs n : Nat) (m : Mem Int) (ops : List (Nat × OpS)) (v5 : Value) (L : List Int) (w : World) : Prop where
  en : EnI w0 w g m ops
  x2 : Boxed w b2 4 (.bool false)
  x6 : Boxed w b6 3 (.int .i64 n)
  o5 : Ow w w0.heap.size 29 v5 ((tks ops).map fun p => pt p.1)
  x12 : Boxed w b12 34 (.slice (some ⟨bs, 0, none⟩) n n)
  row : Bk w bs 3 (ints (cnt n L))
  hb2 : w0.heap.size ≤ b2
  hb6 : w0.heap.size ≤ b6
  hb12 : w0.heap.size ≤ b12
  hbs : w0.heap.size ≤ bs
  ne : bs ≠ b6
  low : ∀ c ∈ m.cells, c < bs

theorem Bk.grown {w w' : World} {b t : Nat} {cs : Array Value} {row : Option Nat} (h : Bk w b t cs) (hg : w.grownBy w' row) (hr : ∀ r, row = some r → ∃ o : Obj, w.heap[r]? = some o ∧ o.isCells = false) : Bk w' b t cs :=
  h.keep (grownBy_keeps_cells hg hr h rfl)
theorem EnI.grown {w0 w w' : World} {g : Nat} {m : Mem Int} {ops : List (Nat × OpS)} {row : Option Nat} (h : EnI w0 w g m ops) (hg : w.grownBy w' row) (hr : ∀ r, row = some r → w0.heap.size ≤ r ∧ ∃ o : Obj, w.heap[r]? = some o ∧ o.isCells = false) : EnI w0 w' g m ops :=
  ⟨⟨Bk.grown h.rel.fr hg (fun r e => (hr r e).2), fun c hc => Bk.grown (h.rel.cell c hc) hg (fun r e => (hr r e).2), fun p hp => Bk.grown (h.rel.op p hp) hg (fun r e => (hr r e).2), h.rel.okM, h.rel.okO, h.rel.nd⟩,
    h.up, h.bel.grown hg h.bel.size (fun k e => (hr k e).1)⟩
theorem Ow.grown {w w' : World} {B e : Nat} {v : Value} {us : List Value} {row : Option Nat} (h : Ow w B e v us) (hg : w.grownBy w' row) (hr : ∀ r, row = some r → ∃ o : Obj, w.heap[r]? = some o ∧ o.isCells = false) : Ow w' B e v us :=
  h.keep fun b hb => by
    obtain ⟨cur, hh⟩ := h.bk b hb
    exact (Bk.grown hh hg hr).trans hh.symm

section
variable {w0 w w1 : World} {g b2 b6 b12 bs n : Nat} {m : Mem Int} {ops : List (Nat × OpS)} {v4 v5 : Value} {L : List Int}
theorem O1.start (h : O1 w0 g b2 b6 m ops v4 v5 w) : O2 w0 g b2 b6 (w.heap.size + 1) w.heap.size m.cells.length m ops v5 [] ((w.alloc (.cells (ints (cnt m.cells.length [])) 3)).alloc (.cells #[.slice (some ⟨w.heap.size, 0, none⟩) m.cells.length m.cells.length] 34)) := by
  have hA := (h.alloc (.cells (ints (cnt m.cells.length [])) 3)).alloc (.cells #[.slice (some ⟨w.heap.size, 0, none⟩) m.cells.length m.cells.length] 34)
  have hs := h.en.bel.size
  have h6 := Bk.lt h.x6
  refine ⟨hA.en, hA.x2, hA.x6, hA.o5, ?_, (Bk.made w 3 _).alloc _, h.hb2, h.hb6, by omega, hs, by omega, h.lt⟩
  have := Bk.made (w.alloc (.cells (ints (cnt m.cells.length [])) 3)) 34 #[.slice (some ⟨w.heap.size, 0, none⟩) m.cells.length m.cells.length]
  rw [World.size_alloc] at this
  exact this
theorem O2.fm (h : O2 w0 g b2 b6 b12 bs n m ops v5 L w) (E : EnI w0 w1 g m ops) (F : FmI w w1) : O2 w0 g b2 b6 b12 bs n m ops v5 L w1 :=
  ⟨E, F.bk h.x2 (by decide), F.bk h.x6 (by decide), h.o5.fm F (by decide), F.bk h.x12 (by decide), F.bk h.row (by decide), h.hb2, h.hb6, h.hb12, h.hbs, h.ne, h.low⟩
theorem O2.cell (h : O2 w0 g b2 b6 b12 bs n m ops v5 L w) {j : Nat} (hj : j < n) : w.cell? ⟨bs, j, none⟩ = some (.int .i64 (L.count (j : Int) : Int)) := by
  rw [Bk.cell h.row, ints_at (cnt_at L hj)]
theorem O2.grown {B : Nat} {row : Option Nat} (h : O2 w0 g b2 b6 b12 bs n m ops v5 L w) (hB : w0.heap.size ≤ B) (hg : w.grownBy w1 row) (hr : ∀ r, row = some r → B ≤ r ∧ ∃ o : Obj, w.heap[r]? = some o ∧ o.isCells = false) : O2 w0 g b2 b6 b12 bs n m ops v5 L w1 := by
  have hr' : ∀ r, row = some r → ∃ o : Obj, w.heap[r]? = some o ∧ o.isCells = false := fun r e => (hr r e).2
  exact ⟨h.en.grown hg (fun r e => ⟨Nat.le_trans hB (hr r e).1, (hr r e).2⟩), Bk.grown h.x2 hg hr', Bk.grown h.x6 hg hr', h.o5.grown hg hr', Bk.grown h.x12 hg hr', Bk.grown h.row hg hr', h.hb2, h.hb6, h.hb12, h.hbs, h.ne, h.low⟩
theorem O2.st (h : O2 w0 g b2 b6 b12 bs n m ops v5 L w) : ∀ {p : Option Nat} {C : List Nat}, Chain m p C → StI bs w p (C.map m.item)
  | _, [], hc => hc
  | _, c :: _, ⟨hp, hc, hr⟩ => ⟨c, m.below c, hp, h.low c hc, h.en.rel.cell c hc, h.st hr⟩
/-- One item more. -/
theorem O2.see (h : O2 w0 g b2 b6 b12 bs n m ops v5 L w) (j : Nat) : O2 w0 g b2 b6 b12 bs n m ops v5 (L ++ [(j : Int)]) (w.setCell ⟨bs, j, none⟩ (.int .i64 ((L.count (j : Int) : Int) + 1))) := by
  have hc : ∀ b, b ≠ bs → (w.setCell ⟨bs, j, none⟩ (.int .i64 ((L.count (j : Int) : Int) + 1))).heap[b]? = w.heap[b]? := fun b hb => Below.heap_setCell w ⟨bs, j, none⟩ _ b hb
  refine ⟨h.en.own h.row (by decide) h.hbs ((Ch.refl _ _).set (by simp) _), (hc b2 (Bk.ne h.x2 h.row (by decide))).trans h.x2, (hc b6 h.ne.symm).trans h.x6, h.o5.keep fun b e => hc b fun e' => h.o5.ne h.row (by decide) (e' ▸ e), (hc b12 (Bk.ne h.x12 h.row (by decide))).trans h.x12, ?_, h.hb2, h.hb6, h.hb12, h.hbs, h.ne, h.low⟩
  rw [cnt_snoc L, ← ints_set]
  exact Bk.put h.row j _
end

/-- All items are numbers below n. -/
def Good (n : Nat) (pre : List Int) : Prop := ∀ x ∈ pre, ∃ j : Nat, j < n ∧ x = (j : Int)
theorem good_nil (n : Nat) : Good n [] := fun x hx => by cases hx
theorem good_snoc {n j : Nat} {pre : List Int} (h : Good n pre) (hj : j < n) : Good n (pre ++ [(j : Int)]) := fun x hx => by
  rcases List.mem_append.1 hx with hx | hx
  · exact h x hx
  · exact ⟨j, hj, List.mem_singleton.1 hx⟩
theorem not_good {n : Nat} {pre : List Int} {x : Int} (h : ¬ (0 ≤ x ∧ x < n)) : ¬ Good n (pre ++ [x]) := fun hg => by
  obtain ⟨j, hj, e⟩ := hg x (by simp)
  omega
theorem good_of {n : Nat} {m : Mem Int} {C : List Nat} {pre : List Int} (h : ∀ c ∈ C, ∃ j : Nat, j < n ∧ m.item c = (j : Int)) (hp : pre <+: C.map m.item) : Good n pre := fun x hx => by
  obtain ⟨c, hc, rfl⟩ := List.mem_map.1 (hp.mem hx)
  exact h c hc

/-! The items of the operations. -/
theorem Once.index {m : Mem Int} {ops : List (Nat × OpS)} (h : Once m ops) {c : Nat} (hc : c ∈ m.cells) : ∃ j : Nat, j < m.cells.length ∧ m.item c = (j : Int) := by
  have : m.item c ∈ m.cells.map m.item := List.mem_map.2 ⟨c, hc, rfl⟩
  rw [h.item] at this
  obtain ⟨j, hj, e⟩ := List.mem_map.1 this
  exact ⟨j, by simpa using hj, e.symm⟩
theorem won_tks {m : Mem Int} : ∀ {ops : List (Nat × OpS)}, (∀ p ∈ ops, isPush p.2 = true → p.2.res = 0) → (tks ops).filterMap wonF = ops.filterMap wonF
  | [], _ => rfl
  | p :: ops, h => by
    have ih := won_tks (m := m) (ops := ops) (fun q hq => h q (by simp [hq]))
    unfold tks at ih ⊢
    rw [List.filter_cons]
    split
    · rw [List.filterMap_cons, List.filterMap_cons, ih]
    · rename_i hp
      have hp : isPush p.2 = true := by simpa using hp
      have hr := h p (by simp) hp
      rw [List.filterMap_cons, ih]
      simp [wonF, hr]

/-- The items that were taken by the first k of the takes. -/
def won (m : Mem Int) (ts : List (Nat × OpS)) : List Int := (ts.filterMap wonF).map m.item
theorem won_snoc {m : Mem Int} {ts : List (Nat × OpS)} {k : Nat} {p : Nat × OpS} (h : ts[k]? = some p) : won m (ts.take (k + 1)) = won m (ts.take k) ++ won m [p] := by
  obtain ⟨hk, e⟩ := List.getElem?_eq_some_iff.1 h
  rw [List.take_succ_eq_append_getElem hk, e]
  simp [won]
theorem won_one {m : Mem Int} {o : Nat} {s : OpS} {c : Nat} (hf : s.fin = true) (hr : s.res = 1) (ha : s.at_ = some c) : won m [(o, s)] = [m.item c] := by simp [won, wonF, hf, hr, ha]
theorem won_no {m : Mem Int} {o : Nat} {s : OpS} (hr : s.res ≠ 1) : won m [(o, s)] = [] := by simp [won, wonF, hr]
theorem won_le (m : Mem Int) (ts : List (Nat × OpS)) : (won m ts).length ≤ ts.length := by
  unfold won
  rw [List.length_map]
  exact List.length_filterMap_le _ _

/-- What a finished take shows. -/
theorem take_shows {m : Mem Int} {ops : List (Nat × OpS)} (h : Once m ops) (hf : ∀ p ∈ ops, p.2.fin = true) {k o : Nat} {s : OpS} (hk : (tks ops)[k]? = some (o, s)) :
    (∃ i : Nat, ops[i]? = some (o, s)) ∧ resOf s = s.res ∧ ((∃ j : Nat, j < m.cells.length ∧ s.res = 1 ∧ gotOfI m s = (j : Int) ∧ won m ((tks ops).take (k + 1)) = won m ((tks ops).take k) ++ [(j : Int)]) ∨ ((s.res = 2 ∨ s.res = 3) ∧ gotOfI m s = 0 ∧ won m ((tks ops).take (k + 1)) = won m ((tks ops).take k))) := by
  have hmem : (o, s) ∈ tks ops := List.mem_of_getElem? hk
  have hm := List.mem_filter.1 hmem
  have hp : isPush s = false := by simpa using hm.2
  have hfs : s.fin = true := hf _ hm.1
  obtain ⟨i, hi, e⟩ := List.mem_iff_getElem.1 hm.1
  have hr := h.fin _ hm.1 hp hfs
  refine ⟨⟨i, by rw [List.getElem?_eq_getElem hi, e]⟩, by simp [resOf, hfs], ?_⟩
  by_cases h1 : s.res = 1
  · obtain ⟨c, hc⟩ := (h.okO _ hm.1).won h1
    obtain ⟨j, hj, e⟩ := h.index ((h.okO _ hm.1).at_ c hc)
    refine .inl ⟨j, hj, h1, ?_, ?_⟩
    · dsimp only at hc
      simp [gotOfI, hfs, h1, hc, e]
    · rw [won_snoc hk, won_one hfs h1 hc, e]
  · dsimp only at hr
    refine .inr ⟨by omega, by simp [gotOfI, h1], ?_⟩
    rw [won_snoc hk, won_no h1, List.append_nil]

/-- What is on the stack, and what was taken. -/
theorem Once.parts {m : Mem Int} {ops : List (Nat × OpS)} (h : Once m ops) (hf : ∀ p ∈ ops, p.2.fin = true) :
    ∃ L, Chain m m.top L ∧ L.length ≤ m.cells.length ∧ (∀ c ∈ L, ∃ j : Nat, j < m.cells.length ∧ m.item c = (j : Int)) ∧ (won m (tks ops) ++ L.map m.item).Perm ((List.range m.cells.length).map (fun (k : Nat) => (k : Int))) ∧ m.pd = m.cells.length := by
  obtain ⟨L, hL, hP, hpd⟩ := h.all hf
  refine ⟨L, hL, ?_, fun c hc => h.index ((hP.mem_iff).1 (List.mem_append.2 (.inl hc))), ?_, hpd⟩
  · have := hP.length_eq
    rw [List.length_append] at this
    omega
  · rw [← h.item]
    refine List.perm_append_comm.trans ?_
    unfold won
    rw [won_tks (m := m) h.res, ← List.map_append]
    exact hP.map _

end Go.Proofs.Ytokdalilnckkoaa
