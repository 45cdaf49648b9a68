/- The walk of ScheduleEvery. -/
import Derived.Test.YtambnijbbnohfaaEveryQ
import Derived.Test.YtambnijbbnohfaaLawRun
namespace Go.Proofs.Ytambnijbbnohfaa
open Go.RowKit

/-- The first k numbers, modulo 4. -/
def mod4 (os : List Int) (k : Nat) : List Int := (os.take k).map (fun x => x % 4)
theorem mod4_succ (os : List Int) (k : Nat) (hk : k < os.length) : mod4 os (k + 1) = mod4 os k ++ [os[k] % 4] := by
  unfold mod4
  rw [List.take_add_one, List.getElem?_eq_getElem hk, List.map_append]
  rfl
theorem mod4_len (os : List Int) (k : Nat) : (mod4 os k).length = min k os.length := by simp [mod4]

def cntCells (ws : List Int) : Array Value := ((cntTo ws 4).map (Value.int .i64)).toArray
structure E1 (w1 : World) (os : List Int) (k : Nat) (vw : Value) (w : World) : Prop where
  below : Below w1.heap.size w1 w
  want : OwnI w (w1.heap.size + 1) vw (mod4 os k)
  cnt : Bk w w1.heap.size 43 (cntCells (mod4 os k))
theorem E1.start (w1 : World) (os : List Int) : E1 w1 os 0 (.slice none 0 0) (w1.alloc (.cells #[.int .i64 0, .int .i64 0, .int .i64 0, .int .i64 0] 43)) :=
  ⟨(Below.refl _ _).alloc (Nat.le_refl _) _, OwnI.nil _ _, Bk.made _ _ _⟩
theorem cnt_cell {w : World} {g : Nat} {ws : List Int} (h : Bk w g 43 (cntCells ws)) {q : Nat} (hq : q < 4) : w.cell? ⟨g, q, none⟩ = some (.int .i64 (ws.countP (fun x => decide (x = (q : Int))) : Nat)) := by
  rw [h.cell, cntCells, List.getElem?_toArray, List.getElem?_map, cntTo, List.getElem?_map, List.getElem?_range hq]
  rfl

theorem cnt_put (ws : List Int) (q : Nat) : (cntCells ws).setIfInBounds q (.int .i64 ((ws.countP (fun x => decide (x = (q : Int))) : Nat) + 1 : Int)) = cntCells (ws ++ [(q : Int)]) := by
  unfold cntCells
  refine Array.ext_getElem? fun i => ?_
  rw [Array.getElem?_setIfInBounds]
  simp only [List.getElem?_toArray, List.getElem?_map, cntTo, List.size_toArray, List.length_map, List.length_range]
  by_cases hi : i < 4
  · by_cases e : q = i
    · subst e
      rw [if_pos rfl, if_pos hi, List.getElem?_range hi]
      simp
    · rw [if_neg e, List.getElem?_range hi]
      have : ¬ (q : Int) = (i : Int) := by omega
      simp [List.countP_cons, this]
  · rw [List.getElem?_eq_none (by simp; omega)]
    split <;> simp
    omega

theorem E1.round {w1 : World} {os : List Int} {k q cq : Nat} {vw v4 : Value} {w w4 : World} (h : E1 w1 os k vw w) (_hq : q < 4) (hs : mod4 os k ++ [(q : Int)] = mod4 os (k + 1)) (hc : (mod4 os k).countP (fun x => decide (x = (q : Int))) = cq)
    (hrow : w4.ownsRow (w1.heap.size + 1) 3 1 v4 ((mod4 os k).map (Value.int .i64) ++ [Value.int .i64 q]).length ((mod4 os k).map (Value.int .i64) ++ [Value.int .i64 q]))
    (hkeep : ∀ b, b < (w.setCell ⟨w1.heap.size, q, none⟩ (.int .i64 ((cq : Int) + 1))).heap.size → vw.ownBlock ≠ some b → w4.heap[b]? = (w.setCell ⟨w1.heap.size, q, none⟩ (.int .i64 ((cq : Int) + 1))).heap[b]?)
    (hb0 : Below 0 (w.setCell ⟨w1.heap.size, q, none⟩ (.int .i64 ((cq : Int) + 1))) w4) : E1 w1 os (k + 1) v4 w4 := by
  obtain ⟨h1, h2, h3⟩ := h
  have hob : ∀ b, vw.ownBlock = some b → w1.heap.size + 1 ≤ b := fun b e => (h2.lt b e).1
  have hsz : (w.setCell ⟨w1.heap.size, q, none⟩ (.int .i64 ((cq : Int) + 1))).heap.size = w.heap.size := by simp [World.setCell]
  rw [hsz] at hkeep
  have hlt := h3.lt
  refine ⟨?_, ?_, ?_⟩
  · have hb1 : Below w1.heap.size w1 (w.setCell ⟨w1.heap.size, q, none⟩ (.int .i64 ((cq : Int) + 1))) := h1.setCell (Nat.le_refl _) _
    exact hb1.trans ⟨hb0.os, hb0.tape, hb0.output, hb0.size, fun b hb => hkeep b (by omega) (fun e => by have := hob b e; omega)⟩
  · rw [← hs]
    exact own_app (xs := mod4 os k) (ys := [(q : Int)]) hrow
  · have := (h3.put q (.int .i64 ((cq : Int) + 1))).keep (hkeep _ hlt (fun e => by have := hob _ e; omega))
    rw [← hc, cnt_put, hs] at this
    exact this

theorem cnt_four (ws : List Int) : ∃ c0 c1 c2 c3 : Nat, cntTo ws 4 = [(c0 : Int), (c1 : Int), (c2 : Int), (c3 : Int)] ∧ (c0 ≤ ws.length ∧ c1 ≤ ws.length ∧ c2 ≤ ws.length ∧ c3 ≤ ws.length) :=
  ⟨_, _, _, _, rfl, List.countP_le_length, List.countP_le_length, List.countP_le_length, List.countP_le_length⟩

/-- The places of the first r workers. -/
def plTo (C : List Int) (r : Nat) : List Int := (List.range r).map (fun j : Nat => (pl C j : Int))
theorem plTo_len (C : List Int) (r : Nat) : (plTo C r).length = r := by simp [plTo]
theorem plTo_succ (C : List Int) (r : Nat) : plTo C (r + 1) = plTo C r ++ [(pl C r : Int)] := by simp [plTo, List.range_succ]
theorem plTo_get (C : List Int) (n q : Nat) (h : q < n) : (plTo C n).getD q 0 = (pl C q : Nat) := by
  rw [plTo, List.getD_eq_getElem?_getD, List.getElem?_map, List.getElem?_range h]
  rfl
theorem nums_le (C : List Int) (r : Nat) (h : C.length ≤ 4) : (nums (C.take r)).length ≤ 4 := by
  have := List.length_filter_le (fun c => decide (0 < c)) (C.take r)
  rw [List.length_take] at this
  unfold nums
  omega
theorem nums_succ (C : List Int) (r : Nat) (h : r < C.length) : nums (C.take (r + 1)) = if 0 < C.getD r 0 then nums (C.take r) ++ [C.getD r 0] else nums (C.take r) := by
  unfold nums
  rw [List.take_add_one, List.getElem?_eq_getElem h, List.filter_append, List.getD_eq_getElem?_getD, List.getElem?_eq_getElem h]
  by_cases hc : 0 < C[r] <;> simp [hc]
theorem four_idx0 (c0 c1 c2 c3 : Nat) (w : World) : (Instr.index 43 (.agg #[.int .i64 c0, .int .i64 c1, .int .i64 c2, .int .i64 c3]) (.int .i64 ((0 : Nat) : Int))).run Try.prog w = .ok (.int .i64 ([(c0 : Int), (c1 : Int), (c2 : Int), (c3 : Int)].getD 0 0)) w := by kernel_rfl
theorem four_idx1 (c0 c1 c2 c3 : Nat) (w : World) : (Instr.index 43 (.agg #[.int .i64 c0, .int .i64 c1, .int .i64 c2, .int .i64 c3]) (.int .i64 ((1 : Nat) : Int))).run Try.prog w = .ok (.int .i64 ([(c0 : Int), (c1 : Int), (c2 : Int), (c3 : Int)].getD 1 0)) w := by kernel_rfl
theorem four_idx2 (c0 c1 c2 c3 : Nat) (w : World) : (Instr.index 43 (.agg #[.int .i64 c0, .int .i64 c1, .int .i64 c2, .int .i64 c3]) (.int .i64 ((2 : Nat) : Int))).run Try.prog w = .ok (.int .i64 ([(c0 : Int), (c1 : Int), (c2 : Int), (c3 : Int)].getD 2 0)) w := by kernel_rfl
theorem four_idx3 (c0 c1 c2 c3 : Nat) (w : World) : (Instr.index 43 (.agg #[.int .i64 c0, .int .i64 c1, .int .i64 c2, .int .i64 c3]) (.int .i64 ((3 : Nat) : Int))).run Try.prog w = .ok (.int .i64 ([(c0 : Int), (c1 : Int), (c2 : Int), (c3 : Int)].getD 3 0)) w := by kernel_rfl
theorem four_idx (c0 c1 c2 c3 r : Nat) (hr : r < 4) (w : World) : (Instr.index 43 (.agg #[.int .i64 c0, .int .i64 c1, .int .i64 c2, .int .i64 c3]) (.int .i64 r)).run Try.prog w = .ok (.int .i64 ([(c0 : Int), (c1 : Int), (c2 : Int), (c3 : Int)].getD r 0)) w := by
  have h : r = 0 ∨ r = 1 ∨ r = 2 ∨ r = 3 := by omega
  rcases h with rfl | rfl | rfl | rfl
  · exact four_idx0 c0 c1 c2 c3 w
  · exact four_idx1 c0 c1 c2 c3 w
  · exact four_idx2 c0 c1 c2 c3 w
  · exact four_idx3 c0 c1 c2 c3 w
theorem four_get (c0 c1 c2 c3 r : Nat) {n : Nat} (h : c0 ≤ n ∧ c1 ≤ n ∧ c2 ≤ n ∧ c3 ≤ n) (hn : n ≤ 60) : ∃ cr : Nat, [(c0 : Int), (c1 : Int), (c2 : Int), (c3 : Int)].getD r 0 = cr ∧ cr ≤ 60 := by
  match r with
  | 0 => exact ⟨c0, rfl, by omega⟩
  | 1 => exact ⟨c1, rfl, by omega⟩
  | 2 => exact ⟨c2, rfl, by omega⟩
  | 3 => exact ⟨c3, rfl, by omega⟩
  | r + 4 => exact ⟨0, by simp, by omega⟩

structure E2 (w1 : World) (W C : List Int) (r p : Nat) (vw vn vp : Value) (w : World) : Prop where
  below : Below w1.heap.size w1 w
  want : OwnI w w1.heap.size vw W
  num : OwnI w w1.heap.size vn (nums (C.take r))
  pla : OwnI w w1.heap.size vp (plTo C p)
  a1 : Apart vw vn
  a2 : Apart vw vp
  a3 : Apart vn vp
theorem E2.start {w1 w : World} {W C : List Int} {vw : Value} (hb : Below w1.heap.size w1 w) (hw : OwnI w w1.heap.size vw W) : E2 w1 W C 0 0 vw (.slice none 0 0) (.slice none 0 0) w :=
  ⟨hb, hw, OwnI.nil _ _, OwnI.nil _ _, (Apart.nil _ _ _).symm, (Apart.nil _ _ _).symm, Apart.nil _ _ _⟩

theorem E2.placed {w1 w w4 : World} {W C : List Int} {r p : Nat} {vw vn vp v4 : Value} {x : Int} (h : E2 w1 W C r p vw vn vp w) (hx : x = pl C p) (hrow : OwnI w4 w1.heap.size v4 (plTo C p ++ [x]))
    (hkeep : ∀ b, b < w.heap.size → vp.ownBlock ≠ some b → w4.heap[b]? = w.heap[b]?) (hob : v4.ownBlock = vp.ownBlock ∨ ∀ b, v4.ownBlock = some b → w.heap.size < b) (hb : Below w1.heap.size w w4) : E2 w1 W C r (p + 1) vw vn v4 w4 := by
  obtain ⟨h1, h2, h3, h4, h5, h6, h7⟩ := h
  exact ⟨h1.trans hb, h2.beside h6 hkeep, h3.beside h7 hkeep, by rw [plTo_succ, ← hx]; exact hrow, h5, h2.grows h6 hob, h3.grows h7 hob⟩
theorem E2.numbered {w1 w w4 : World} {W C : List Int} {r p : Nat} {vw vn vp v4 : Value} {x : Int} (h : E2 w1 W C r p vw vn vp w) (hr : r < C.length) (hx : C.getD r 0 = x) (hpos : 0 < x) (hrow : OwnI w4 w1.heap.size v4 (nums (C.take r) ++ [x]))
    (hkeep : ∀ b, b < w.heap.size → vn.ownBlock ≠ some b → w4.heap[b]? = w.heap[b]?) (hob : v4.ownBlock = vn.ownBlock ∨ ∀ b, v4.ownBlock = some b → w.heap.size < b) (hb : Below w1.heap.size w w4) : E2 w1 W C (r + 1) p vw v4 vp w4 := by
  obtain ⟨h1, h2, h3, h4, h5, h6, h7⟩ := h
  exact ⟨h1.trans hb, h2.beside h5 hkeep, by rw [nums_succ C r hr, hx, if_pos hpos]; exact hrow, h4.beside h7.symm hkeep, h2.grows h5 hob, h6, (h4.grows h7.symm hob).symm⟩
theorem E2.skipped {w1 w : World} {W C : List Int} {r p : Nat} {vw vn vp : Value} {x : Int} (h : E2 w1 W C r p vw vn vp w) (hr : r < C.length) (hx : C.getD r 0 = x) (hpos : ¬ 0 < x) : E2 w1 W C (r + 1) p vw vn vp w := by
  obtain ⟨h1, h2, h3, h4, h5, h6, h7⟩ := h
  exact ⟨h1, h2, by rw [nums_succ C r hr, hx, if_neg hpos]; exact h3, h4, h5, h6, h7⟩

theorem Try.info5' : (Try.prog.info? 5).map (fun i => (i.zero, i.size, i.bytes)) = some (some (.int .u8 0), 1, 1) := by kernel_rfl
theorem Try.bytes : OneCell Try.prog 23 5 1 := by
  refine ⟨Try.underlying23, ?_⟩
  obtain ⟨i0, hi, hz0, hz1, hz2⟩ := info_parts Try.info5'
  exact ⟨i0, _, hi, hz0, hz1, hz2, rfl⟩

/-- The list behind t rounds of the third loop. -/
def wantAt (W C : List Int) (t : Nat) : List Int := (W.take t).map (plI C) ++ W.drop t
theorem wantAt_len (W C : List Int) (t : Nat) : (wantAt W C t).length = W.length := by simp [wantAt]; omega
theorem wantAt_get (W C : List Int) (t : Nat) (h : t < W.length) : (wantAt W C t).getD t 0 = W[t] := by
  rw [wantAt, List.getD_eq_getElem?_getD, List.getElem?_append_right (by simp; omega), List.length_map, List.length_take, show t - min t W.length = 0 from by omega, List.drop_eq_getElem_cons h]
  rfl
theorem wantAt_set (W C : List Int) (t : Nat) (h : t < W.length) : (wantAt W C t).set t (plI C W[t]) = wantAt W C (t + 1) := by
  unfold wantAt
  rw [List.set_append_right _ _ (by simp; omega), List.length_map, List.length_take, show t - min t W.length = 0 from by omega, List.drop_eq_getElem_cons h, List.set_cons_zero, List.take_add_one, List.getElem?_eq_getElem h, List.map_append]
  simp

structure E3 (w1 : World) (W C : List Int) (tw t : Nat) (vw vn vp vl vs : Value) (w : World) : Prop where
  below : Below w1.heap.size w1 w
  want : OwnI w w1.heap.size vw (wantAt W C tw)
  num : OwnI w w1.heap.size vn (nums C)
  pla : OwnI w w1.heap.size vp (plTo C 4)
  a : Apart vw vn ∧ Apart vw vp ∧ Apart vw vl ∧ Apart vl vn ∧ Apart vl vp
  ex : ∃ left sc : List Int, OwnI w w1.heap.size vl left ∧ left.length = (nums C).length ∧ w.ownsRow w1.heap.size 5 1 vs sc.length (sc.map (Value.int .u8)) ∧ sc.length = t ∧ (∀ x ∈ sc, 0 ≤ x ∧ x ≤ 255) ∧
    sc ++ scriptOf left ((W.drop t).map (plI C)) = scriptOf (nums C) (W.map (plI C)) ∧ Counts left ((W.drop t).map (plI C)) ∧ ∀ x ∈ (W.drop t).map (plI C), 0 ≤ x ∧ x.toNat < left.length

theorem E3.start {w1 w w5 : World} {W C : List Int} {r : Nat} {vw vn vp v5 : Value} (h : E2 w1 W C r 4 vw vn vp w) (hr : (C.take r) = C) (hown : OwnI w5 w1.heap.size v5 (nums C)) (hg : (w.alloc (.cells #[] 3)).grownBy w5 (Value.slice (some ⟨w.heap.size, 0, none⟩) 0 0).ownBlock)
    (hob : v5.ownBlock = (Value.slice (some ⟨w.heap.size, 0, none⟩) 0 0).ownBlock ∨ v5.ownBlock = some (w.heap.size + 1))
    (hc : Counts (nums C) (W.map (plI C)) ∧ ∀ x ∈ W.map (plI C), 0 ≤ x ∧ x.toNat < (nums C).length) : E3 w1 W C 0 0 vw vn vp v5 (.slice none 0 0) w5 := by
  obtain ⟨h1, h2, h3, h4, h5, h6, h7⟩ := h
  rw [hr] at h3
  have hb : Below w.heap.size w w5 := ((Below.refl _ _).alloc (Nat.le_refl _) _).grown hg (by simp) (fun b e => by simp [Value.ownBlock] at e; omega)
  have hv5 : ∀ b, v5.ownBlock = some b → w.heap.size ≤ b := fun b e => by
    rcases hob with h | h
    · rw [h] at e; simp [Value.ownBlock] at e; omega
    · rw [h] at e; simp at e; omega
  have hap : ∀ {u : Value} {xs : List Int}, OwnI w w1.heap.size u xs → Apart v5 u := fun {u xs} hu b e e' => by
    have := (hu.lt b e').2
    have := hv5 b e
    omega
  refine ⟨h1.trans (hb.mono h1.size), ?_, h3.below hb (Nat.le_refl _), h4.below hb (Nat.le_refl _), ⟨h5, h6, (hap h2).symm, hap h3, hap h4⟩, nums C, [], hown, rfl, World.ownsRow_nil _ _ _ _, rfl, by simp, ?_, ?_⟩
  · have : wantAt W C 0 = W := by simp [wantAt]
    rw [this]
    exact h2.below hb (Nat.le_refl _)
  · simp
  · simpa using hc

theorem OwnI.sees {w : World} {B n c : Nat} {A : Option Addr} {xs : List Int} (h : OwnI w B (.slice A n c) xs) : Sees w w.heap.size A (xs.map (Value.int .i64)) := by
  obtain ⟨A', c', e, _, hs⟩ := h.form
  injection e with e1 e2 e3
  subst e1
  exact hs
theorem E3.placed {w1 w : World} {W C : List Int} {t gw n cw y : Nat} {vn vp vl vs : Value} (h : E3 w1 W C t t (.slice (some ⟨gw, 0, none⟩) n cw) vn vp vl vs w) (ht : t < W.length) (hn : n = W.length) (hy : (pl C W[t].toNat : Nat) = y) :
    E3 w1 W C (t + 1) t (.slice (some ⟨gw, 0, none⟩) n cw) vn vp vl vs (w.setCell ⟨gw, t, none⟩ (.int .i64 y)) := by
  obtain ⟨h1, h2, h3, h4, ⟨a1, a2, a3, a4, a5⟩, left, sc, g1, g2, g3, g4⟩ := h
  obtain ⟨gw', cw', curw, hvw, hgwB, hroww, hcww, hcwM, hcws, hcwu⟩ := h2.head (by rw [wantAt_len]; omega)
  obtain ⟨rfl, rfl⟩ : gw = gw' ∧ cw = cw' := by injection hvw with h1 h2 h3; injection h1 with h1; injection h1 with h1; exact ⟨h1, h3⟩
  have hset : ∀ b, b ≠ gw → (w.setCell ⟨gw, t, none⟩ (.int .i64 y)).heap[b]? = w.heap[b]? := fun b hb => Below.heap_setCell _ _ _ _ hb
  have hk : ∀ {u : Value} {xs : List Int}, OwnI w w1.heap.size u xs → Apart (.slice (some ⟨gw, 0, none⟩) n cw) u → OwnI (w.setCell ⟨gw, t, none⟩ (.int .i64 y)) w1.heap.size u xs := fun {u xs} hu ha => hu.keep fun b e => hset b (fun e' => ha gw rfl (by rw [e, e']))
  refine ⟨h1.setCell hgwB _, ?_, hk h3 a1, hk h4 a2, ⟨a1, a2, a3, a4, a5⟩, left, sc, hk g1 a3, g2, row_keep g3 fun b e => hset b (fun e' => row_ne g3 hroww (by decide) (by rw [e, e'])), g4⟩
  have := row_set (x := (y : Int)) hgwB hroww hcww hcwM hcws hcwu (k := t) (by rw [wantAt_len]; exact ht)
  have e : (y : Int) = plI C W[t] := by unfold plI; rw [hy]
  rw [e, wantAt_set W C t ht, wantAt_len, ← hn] at this
  rw [e]
  exact this
theorem E3.below' {w1 w w' : World} {W C : List Int} {tw t : Nat} {vw vn vp vl vs : Value} (h : E3 w1 W C tw t vw vn vp vl vs w) (hb : Below w.heap.size w w') : E3 w1 W C tw t vw vn vp vl vs w' := by
  obtain ⟨h1, h2, h3, h4, a, left, sc, g1, g2, g3, g4⟩ := h
  exact ⟨h1.trans (hb.mono h1.size), h2.below hb (Nat.le_refl _), h3.below hb (Nat.le_refl _), h4.below hb (Nat.le_refl _), a, left, sc, g1.below hb (Nat.le_refl _), g2, row_keep g3 fun b e => hb.block b (g3.lt b e).2, g4⟩

theorem E3.scripted {w1 w w7 : World} {W C left sc : List Int} {t gl n cl y bn : Nat} {vw vn vp vs v7 : Value} (h : E3 w1 W C (t + 1) t vw vn vp (.slice (some ⟨gl, 0, none⟩) n cl) vs w) (hleft : OwnI w w1.heap.size (.slice (some ⟨gl, 0, none⟩) n cl) left) (hsc : w.ownsRow w1.heap.size 5 1 vs sc.length (sc.map (Value.int .u8)))
    (hll : left.length = (nums C).length) (hscl : sc.length = t) (hscb : ∀ x ∈ sc, 0 ≤ x ∧ x ≤ 255) (heq : sc ++ scriptOf left ((W.drop t).map (plI C)) = scriptOf (nums C) (W.map (plI C))) (hcnt : Counts left ((W.drop t).map (plI C)))
    (hrng : ∀ x ∈ (W.drop t).map (plI C), 0 ≤ x ∧ x.toNat < left.length) (ht : t < W.length) (hy : (pl C W[t].toNat : Nat) = y) (hbn : belowN left y = bn) (hb4 : bn ≤ 255)
    (hrow : w7.ownsRow w1.heap.size 5 1 v7 (sc.map (Value.int .u8) ++ [Value.int .u8 bn]).length (sc.map (Value.int .u8) ++ [Value.int .u8 bn])) (hkeep : ∀ b, b < w.heap.size → vs.ownBlock ≠ some b → w7.heap[b]? = w.heap[b]?) (hb : Below w1.heap.size w w7) :
    E3 w1 W C (t + 1) (t + 1) vw vn vp (.slice (some ⟨gl, 0, none⟩) n cl) v7 (w7.setCell ⟨gl, y, none⟩ (.int .i64 (left.getD y 0 - 1))) := by
  obtain ⟨h1, h2, h3, h4, ⟨a1, a2, a3, a4, a5⟩, _⟩ := h
  have hd : W.drop t = W[t] :: W.drop (t + 1) := List.drop_eq_getElem_cons ht
  have hpl : plI C W[t] = (y : Int) := by unfold plI; rw [hy]
  rw [hd, List.map_cons, hpl] at heq hcnt hrng
  obtain ⟨hc', _⟩ := counts_cons hcnt hrng
  have hyl : y < left.length := by have := (hrng (y : Int) (by simp)).2; simpa using this
  obtain ⟨gl', cl', curl, hvl, hglB, hrowl, hcll, hclM, hcls, hclu⟩ := hleft.head (by omega)
  obtain ⟨rfl, rfl⟩ : gl = gl' ∧ cl = cl' := by injection hvl with h1 h2 h3; injection h1 with h1; injection h1 with h1; exact ⟨h1, h3⟩
  have hn : n = left.length := by injection hvl
  have hset : ∀ b, b ≠ gl → (w7.setCell ⟨gl, y, none⟩ (.int .i64 (left.getD y 0 - 1))).heap[b]? = w7.heap[b]? := fun b hb => Below.heap_setCell _ _ _ _ hb
  have hk : ∀ {u : Value} {xs : List Int}, OwnI w w1.heap.size u xs → Apart (.slice (some ⟨gl, 0, none⟩) n cl) u → OwnI (w7.setCell ⟨gl, y, none⟩ (.int .i64 (left.getD y 0 - 1))) w1.heap.size u xs := fun {u xs} hu ha =>
    hu.keep fun b e => (hset b (fun e' => ha gl rfl (by rw [e, e']))).trans (hkeep b (hu.lt b e).2 (fun e' => row_row_ne hsc hu (by decide) b e' e))
  have hrowl7 := hrowl.keep (hkeep gl hrowl.lt (fun e => row_ne hsc hrowl (by decide) e))
  refine ⟨(h1.trans hb).setCell hglB _, hk h2 a3.symm, hk h3 a4, hk h4 a5, ⟨a1, a2, a3, a4, a5⟩, dec1 left y, sc ++ [(bn : Int)], ?_, by unfold dec1; rw [List.length_set]; exact hll, ?_, by rw [List.length_append, hscl]; rfl, ?_, ?_, hc', ?_⟩
  · have := row_set (x := left.getD y 0 - 1) hglB hrowl7 hcll hclM hcls hclu hyl
    unfold dec1
    rw [Int.toNat_natCast, hn]
    exact this
  · have : w7.ownsRow w1.heap.size 5 1 v7 (sc ++ [(bn : Int)]).length ((sc ++ [(bn : Int)]).map (Value.int .u8)) := by simpa using hrow
    exact row_keep this fun b e => hset b (fun e' => row_ne this hrowl7 (by decide) (by rw [e, e']))
  · intro x hx
    simp only [List.mem_append, List.mem_singleton] at hx
    rcases hx with hx | rfl
    · exact hscb x hx
    · omega
  · rw [List.append_assoc, ← heq]
    congr 1
    show _ = (belowN left y : Int) :: scriptOf (dec1 left y) _
    rw [hbn]
    rfl
  · intro x hx
    have := hrng x (by simp only [List.mem_cons]; exact .inr hx)
    unfold dec1
    rw [List.length_set]
    exact this

set_option maxRecDepth 100000 in
set_option maxHeartbeats 1000000 in
theorem law_every (A : Option Addr) (n c : Nat) (os : List Int) (w : World) (hn : os.length = n) (hN : n ≤ maxLen) (hs : Sees w w.heap.size A (os.map (Value.int .u8))) (hby : ∀ x ∈ os, 0 ≤ x ∧ x ≤ 255) :
    Calls Try.prog 7 #[.slice A n c] w fun e w' => e = .returned (.bool true) ∧ Below w.heap.size w w' := by
  have HN := Lib.hid hn; clear hn
  have HBY := Lib.hid hby; clear hby
  unfold maxLen at hN
  go_enter Try.func7, Try.ntmps7
  go_wp2_with fail
  refine (awake_any w).mono ?_
  rintro e w1 ⟨rfl, hb1⟩
  have hsa := hs.go hb1
  clear hs
  by_cases h60 : 60 < n
  · have hd : decide (60 < n) = true := by simpa using h60
    go_wp2
    go_ret
    exact ⟨rfl, hb1⟩
  · have hd : decide (60 < (n : Int)) = false := by simp; omega
    have HSA := Lib.hid hsa; clear hsa
    go_wp2
    go_loopw [29, 4] (fun i vw wr => ∃ k : Nat, k ≤ n ∧ i = .int .i64 k ∧ E1 w1 os k vw wr) (fun i _ _ => n - (intOf i).toNat)
    case atStart => exact ⟨0, Nat.zero_le _, rfl, E1.start w1 os⟩
    case round =>
      obtain ⟨k, hk, rfl, hbel, hwant, hcnt⟩ := hrel
      by_cases hlt : k < n
      · have hk1 : k < os.length := by rw [HN.out]; exact hlt
        obtain ⟨ad, rfl, hadb, hcell⟩ := (HSA.out.below hbel).look (k := k) (by simpa using hk1)
        simp only [List.getElem_map] at hcell
        obtain ⟨x, hxe⟩ : ∃ x, os[k] = x := ⟨_, rfl⟩
        have hx0 : 0 ≤ x := by rw [← hxe]; exact (HBY.out _ (List.getElem_mem hk1)).1
        have hx1 : x ≤ 255 := by rw [← hxe]; exact (HBY.out _ (List.getElem_mem hk1)).2
        obtain ⟨q, hq⟩ := Int.eq_ofNat_of_zero_le (show 0 ≤ x % 4 by omega)
        have hq4 : q < 4 := by omega
        have HS : Hid (mod4 os k ++ [(q : Int)] = mod4 os (k + 1)) := by show _ = _; rw [mod4_succ os k hk1, hxe, hq]
        rw [hxe] at hcell
        clear hxe
        have hcq := cnt_cell hcnt hq4
        have hfq := hcnt.frozen q
        have hlen : (mod4 os k).length ≤ 60 := by rw [mod4_len]; omega
        obtain ⟨Aw, cw, rfl, hcw, _⟩ := hwant.form
        have hsz := hcnt.lt
        obtain ⟨cq, hcqe⟩ : ∃ cq : Nat, (mod4 os k).countP (fun x => decide (x = (q : Int))) = cq := ⟨_, rfl⟩
        have hcql : cq ≤ 60 := by rw [← hcqe]; exact Nat.le_trans List.countP_le_length hlen
        rw [hcqe] at hcq
        have HCQ := Lib.hid hcqe; clear hcqe
        have HO : Hid ((wr.setCell ⟨w1.heap.size, q, none⟩ (.int .i64 ((cq : Int) + 1))).ownsRow (w1.heap.size + 1) 3 1 (.slice Aw (mod4 os k).length cw) ((mod4 os k).map (Value.int .i64)).length ((mod4 os k).map (Value.int .i64))) := by
          rw [List.length_map]
          exact ownsRow_setCell_below hwant (by simp) _
        have H3 : Hid ((wr.setCell ⟨w1.heap.size, q, none⟩ (.int .i64 ((cq : Int) + 1))).heap.size = wr.heap.size) := by show _ = _; simp [World.setCell]
        go_wp2_with (at_builtin; refine wpList_app1at (w := wr.setCell ⟨w1.heap.size, q, none⟩ (.int .i64 ((cq : Int) + 1))) Try.ints rfl (.tmp 39) (.tmp 43) rfl (w1.heap.size + 1) (.slice Aw (mod4 os k).length cw) ((mod4 os k).map (Value.int .i64)) (.int .i64 q) wr.heap.size H3.out rfl rfl HO.out rfl (by rw [List.length_map]; unfold maxLen; omega) (by rw [List.length_map]; omega) (by rw [H3.out]; omega) ?_)
        intro v4 w4 hrow4 hkeep4 hob4 hbel4
        have hdone : E1 w1 os (k + 1) v4 w4 := E1.round ⟨hbel, hwant, hcnt⟩ hq4 HS.out HCQ.out (by rw [List.length_append, List.length_map]; exact hrow4) (fun b hb hne => hkeep4 b (by rw [H3.out] at hb; exact hb) hne) (hbel4 0 (Nat.zero_le _) (fun _ _ => Nat.zero_le _))
        clear hrow4 hkeep4 hob4 hbel4 HO H3 hcell hbel hwant hcnt hcq hfq hq HS HCQ
        go_wp2
        go_roundw
        case rel => exact ⟨k + 1, by omega, by go_num, hdone⟩
        case measure => simp [intOf]; omega
      · obtain rfl : k = n := by omega
        have hos : mod4 os k = os.map (fun x => x % 4) := by unfold mod4; rw [List.take_of_length_le (by rw [HN.out]; omega)]
        rw [hos] at hwant hcnt
        have hWlen : (os.map (fun x => x % 4)).length ≤ 60 := by rw [List.length_map, HN.out]; omega
        have hWr : ∀ x ∈ os.map (fun x => x % 4), 0 ≤ x ∧ x.toNat < 4 := by
          intro x hx
          simp only [List.mem_map] at hx
          obtain ⟨y, _, rfl⟩ := hx
          omega
        generalize hW : os.map (fun x => x % 4) = W at *
        clear hW hos
        have HWR := Lib.hid hWr; clear hWr
        obtain ⟨c0, c1, c2, c3, hc4, hcb⟩ := cnt_four W
        have HC4 := Lib.hid hc4; clear hc4
        have hcnt4 : Bk wr w1.heap.size 43 #[.int .i64 c0, .int .i64 c1, .int .i64 c2, .int .i64 c3] := by
          have := hcnt
          unfold cntCells at this
          rw [HC4.out] at this
          exact this
        have g0 : wr.cell? ⟨w1.heap.size, 0, none⟩ = some (.int .i64 c0) := by rw [hcnt4.cell]; rfl
        have g1 : wr.cell? ⟨w1.heap.size, 0 + 1, none⟩ = some (.int .i64 c1) := by rw [hcnt4.cell]; rfl
        have g2 : wr.cell? ⟨w1.heap.size, 0 + 1 + 1, none⟩ = some (.int .i64 c2) := by rw [hcnt4.cell]; rfl
        have g3 : wr.cell? ⟨w1.heap.size, 0 + 1 + 1 + 1, none⟩ = some (.int .i64 c3) := by rw [hcnt4.cell]; rfl
        have hwantB : OwnI wr w1.heap.size u4 W := hwant.down (by omega)
        have hst : E2 w1 W [(c0 : Int), (c1 : Int), (c2 : Int), (c3 : Int)] 0 0 u4 (.slice none 0 0) (.slice none 0 0) wr := E2.start hbel hwantB
        clear hcnt hwant hbel hwantB hcnt4
        go_wp2
        clear g0 g1 g2 g3
        go_loopw [47, 7, 8, 10] (fun i vn vp _ wr2 => ∃ r : Nat, r ≤ 4 ∧ i = .int .i64 r ∧ E2 w1 W [(c0 : Int), (c1 : Int), (c2 : Int), (c3 : Int)] r r u4 vn vp wr2) (fun i _ _ _ _ => 4 - (intOf i).toNat)
        case atStart => exact ⟨0, Nat.zero_le _, rfl, hst⟩
        case round =>
          obtain ⟨r, hr, rfl, hE⟩ := hrel
          clear hst
          have hE' := hE
          obtain ⟨hbel, hwant, hnum, hpla, ha1, ha2, ha3⟩ := hE
          by_cases hlt2 : r < 4
          · obtain ⟨cr, hcr, hcrl⟩ := four_get c0 c1 c2 c3 r hcb hWlen
            have hidx := four_idx c0 c1 c2 c3 r hlt2
            rw [hcr] at hidx
            have HCR := Lib.hid hcr; clear hcr
            have hsz := hbel.size
            have hln : (nums ([(c0 : Int), (c1 : Int), (c2 : Int), (c3 : Int)].take r)).length ≤ 4 := nums_le _ _ (by simp)
            have hlp : (plTo [(c0 : Int), (c1 : Int), (c2 : Int), (c3 : Int)] r).length ≤ 4 := by rw [plTo_len]; omega
            obtain ⟨An, cn, rfl, hcn, _⟩ := hnum.form
            obtain ⟨Ap, cp, rfl, hcp, _⟩ := hpla.form
            have HPL : Hid (((nums ([(c0 : Int), (c1 : Int), (c2 : Int), (c3 : Int)].take r)).length : Nat) = pl [(c0 : Int), (c1 : Int), (c2 : Int), (c3 : Int)] r) := (pl_len _ _).symm
            have HCL : Hid (r < [(c0 : Int), (c1 : Int), (c2 : Int), (c3 : Int)].length) := hlt2
            generalize hC : [(c0 : Int), (c1 : Int), (c2 : Int), (c3 : Int)] = C at *
            clear hC
            have HO : Hid (wr.ownsRow w1.heap.size 3 1 (.slice Ap (plTo C r).length cp) ((plTo C r).map (Value.int .i64)).length ((plTo C r).map (Value.int .i64))) := by rw [List.length_map]; exact hpla
            go_wp2_with (at_builtin; refine wpList_app1at (w := wr) Try.ints rfl (.tmp 50) (.tmp 53) rfl w1.heap.size (.slice Ap (plTo C r).length cp) ((plTo C r).map (Value.int .i64)) (.int .i64 (nums (C.take r)).length) wr.heap.size rfl rfl rfl HO.out rfl (by rw [List.length_map]; unfold maxLen; omega) (by rw [List.length_map]; omega) hsz ?_)
            intro v4 w4 hrow4 hkeep4 hob4 hbel4
            have hE4 := hE'.placed (by rw [HPL.out]) (own_app (xs := plTo C r) (ys := [((nums (C.take r)).length : Int)]) (by rw [List.length_append, List.length_map]; exact hrow4)) hkeep4 hob4 (hbel4 _ hsz (fun b e => (hpla.lt b e).1))
            obtain ⟨hbel', _, hnum', _, _, _, _⟩ := id hE4
            have hsz4 := hbel'.size
            have HO2 : Hid (w4.ownsRow w1.heap.size 3 1 (.slice An (nums (C.take r)).length cn) ((nums (C.take r)).map (Value.int .i64)).length ((nums (C.take r)).map (Value.int .i64))) := by rw [List.length_map]; exact hnum'
            have hwl : Hid (w4.heap.size = w4.heap.size) := rfl
            clear hrow4 hkeep4 hob4 hbel4 HO hbel' hnum' hE' hbel hwant hnum hpla ha1 ha2 ha3
            by_cases hpos : 0 < cr
            · have hpos' : (0 : Int) < (cr : Int) := by omega
              have hdp : decide ((0 : Int) < (cr : Int)) = true := by simpa using hpos'
              go_wp2_with (at_builtin; refine wpList_app1at (w := w4) Try.ints rfl (.tmp 57) (.tmp 59) rfl w1.heap.size (.slice An (nums (C.take r)).length cn) ((nums (C.take r)).map (Value.int .i64)) (.int .i64 cr) w4.heap.size rfl rfl rfl HO2.out rfl (by rw [List.length_map]; unfold maxLen; omega) (by rw [List.length_map]; omega) hsz4 ?_)
              intro v5 w5 hrow5 hkeep5 hob5 hbel5
              have hdone := hE4.numbered HCL.out HCR.out hpos' (own_app (xs := nums (C.take r)) (ys := [(cr : Int)]) (by rw [List.length_append, List.length_map]; exact hrow5)) hkeep5 hob5 (hbel5 _ hsz4 (fun b e => (hE4.num.lt b e).1))
              clear hrow5 hkeep5 hob5 hbel5 HO2 hE4
              go_wp2
              go_roundw
              case rel => exact ⟨r + 1, by omega, by go_num, hdone⟩
              case measure => simp [intOf]; omega
            · have hpos' : ¬ (0 : Int) < (cr : Int) := by omega
              have hdp : decide ((0 : Int) < (cr : Int)) = false := by simpa using hpos'
              have hdone := hE4.skipped HCL.out HCR.out hpos'
              clear HO2 hE4
              go_wp2
              go_roundw
              case rel => exact ⟨r + 1, by omega, by go_num, hdone⟩
              case measure => simp [intOf]; omega
          · obtain rfl : r = 4 := by omega
            have HCT := Lib.hid (every_counts W 4 HWR.out)
            rw [HC4.out] at HCT
            have htk : [(c0 : Int), (c1 : Int), (c2 : Int), (c3 : Int)].take 4 = [(c0 : Int), (c1 : Int), (c2 : Int), (c3 : Int)] := rfl
            rw [htk] at hnum
            have hln : (nums [(c0 : Int), (c1 : Int), (c2 : Int), (c3 : Int)]).length ≤ 4 := by have := nums_le [(c0 : Int), (c1 : Int), (c2 : Int), (c3 : Int)] 4 (by simp); rw [htk] at this; exact this
            have hnb : ∀ x ∈ nums [(c0 : Int), (c1 : Int), (c2 : Int), (c3 : Int)], 1 ≤ x ∧ x ≤ 60 := by
              intro x hx
              unfold nums at hx
              rw [List.mem_filter] at hx
              have h1 := hx.2
              have h2 := hx.1
              simp only [decide_eq_true_eq] at h1
              simp only [List.mem_cons, List.not_mem_nil, or_false] at h2
              rcases h2 with rfl | rfl | rfl | rfl <;> omega
            have HNB := Lib.hid hnb
            have hCl : ([(c0 : Int), (c1 : Int), (c2 : Int), (c3 : Int)] : List Int).length = 4 := rfl
            have HCL := Lib.hid hCl
            generalize hC : [(c0 : Int), (c1 : Int), (c2 : Int), (c3 : Int)] = C at *
            clear hC hnb hCl htk hE' HC4 hcb hd
            obtain ⟨An, cn, rfl, hcn, hsn⟩ := hnum.form
            have hsz := hbel.size
            have HS := Lib.hid (hsn.alloc (Nat.le_refl _) (.cells #[] 3))
            have HO : Hid ((wr.alloc (.cells #[] 3)).ownsRow w1.heap.size 3 1 (.slice (some ⟨wr.heap.size, 0, none⟩) 0 0) ([] : List Value).length []) := World.ownsRow_made wr #[] 0 hsz (by unfold maxLen; omega) rfl
            go_wp2_with (at_builtin; refine wpList_app Try.ints rfl (.tmp 62) (.tmp 63) rfl w1.heap.size (.slice (some ⟨wr.heap.size, 0, none⟩) 0 0) [] rfl HO.out wr.heap.size An (nums C).length cn ((nums C).map (Value.int .i64)) rfl (by rw [List.length_map]) HS.out (ints_one _) (by unfold maxLen; rw [List.length_nil]; omega) (by rw [List.length_nil]; omega) (by rw [World.size_alloc]; omega) ?_)
            intro v5 w5 hrow5 hgrow5 hob5
            have hst3 : E3 w1 W C 0 0 u4 (.slice An (nums C).length cn) u8 v5 (.slice none 0 0) w5 := E3.start ⟨hbel, hwant, by rw [List.take_of_length_le (by rw [HCL.out]; omega)]; exact hnum, hpla, ha1, ha2, ha3⟩ (r := 4) (List.take_of_length_le (by rw [HCL.out]; omega)) (by simpa [OwnI] using hrow5) hgrow5 (by simpa using hob5) HCT.out
            clear hrow5 hgrow5 hob5 HO HS hsn hbel hwant hnum hpla ha1 ha2 ha3
            obtain ⟨Aw, cw, rfl⟩ : ∃ Aw cw, u4 = .slice Aw W.length cw := by
              obtain ⟨Aw, cw, h, _⟩ := hst3.want.form
              rw [wantAt_len] at h
              exact ⟨Aw, cw, h⟩
            obtain ⟨Ap, cp, rfl⟩ : ∃ Ap cp, u8 = .slice Ap 4 cp := by
              obtain ⟨Ap, cp, h, _⟩ := hst3.pla.form
              rw [plTo_len] at h
              exact ⟨Ap, cp, h⟩
            obtain ⟨Al, cl, rfl⟩ : ∃ Al cl, v5 = .slice Al (nums C).length cl := by
              obtain ⟨left, sc, h1, h2, _⟩ := hst3.ex
              obtain ⟨Al, cl, h, _⟩ := h1.form
              rw [h2] at h
              exact ⟨Al, cl, h⟩
            go_wp2
            go_loopw [67, 12] (fun i vs wr3 => ∃ t : Nat, t ≤ W.length ∧ i = .int .i64 t ∧ E3 w1 W C t t (.slice Aw W.length cw) (.slice An (nums C).length cn) (.slice Ap 4 cp) (.slice Al (nums C).length cl) vs wr3) (fun i _ _ => W.length - (intOf i).toNat)
            case atStart => exact ⟨0, Nat.zero_le _, rfl, hst3⟩
            case round =>
              obtain ⟨t, ht, rfl, hE⟩ := hrel
              clear hst3
              have hE' := hE
              obtain ⟨hbel, hwant, hnum, hpla, ⟨ha1, ha2, ha3, ha4, ha5⟩, left, sc, hleft, hll, hsc, hscl, hscb, heq, hcnt, hrng⟩ := hE
              have HSCB := Lib.hid hscb; clear hscb
              have HEQ := Lib.hid heq; clear heq
              have HCNT := Lib.hid hcnt; clear hcnt
              have HRNG := Lib.hid hrng; clear hrng
              have HSCL := Lib.hid hscl; clear hscl
              have HLL := Lib.hid hll; clear hll
              by_cases hlt3 : t < W.length
              · obtain ⟨x, hxe⟩ : ∃ x, W[t] = x := ⟨_, rfl⟩
                have hxr := HWR.out _ (List.getElem_mem hlt3)
                rw [hxe] at hxr
                obtain ⟨q, rfl⟩ := Int.eq_ofNat_of_zero_le hxr.1
                have hq4 : q < 4 := by simpa using hxr.2
                clear hxr
                have HXE := Lib.hid hxe; clear hxe
                -- the row of the wanted steps
                obtain ⟨gw, cw', curw, hvw, hgwB, hroww, hcww, hcwM, hcws, hcwu⟩ := hwant.head (by rw [wantAt_len]; omega)
                obtain ⟨rfl, rfl⟩ : Aw = some ⟨gw, 0, none⟩ ∧ cw = cw' := by injection hvw with h1 h2 h3; exact ⟨h1, h3⟩
                clear hvw
                have hxc : wr.cell? ⟨gw, t, none⟩ = some (.int .i64 q) := by
                  have := row_cell hroww hcwu (k := t) (by rw [wantAt_len]; exact hlt3)
                  rw [wantAt_get W C t hlt3, HXE.out] at this
                  exact this
                have hfw := hroww.frozen t
                -- the row of the places
                obtain ⟨gp, cp', curp, hvp, hgpB, hrowp, hcpp, hcpM, hcps, hcpu⟩ := hpla.head (by rw [plTo_len]; omega)
                obtain ⟨rfl, rfl⟩ : Ap = some ⟨gp, 0, none⟩ ∧ cp = cp' := by injection hvp with h1 h2 h3; exact ⟨h1, h3⟩
                clear hvp
                have hpc : wr.cell? ⟨gp, q, none⟩ = some (.int .i64 (pl C q : Nat)) := by
                  have := row_cell hrowp hcpu (k := q) (by rw [plTo_len]; exact hq4)
                  rw [plTo_get C 4 q hq4] at this
                  exact this
                have hgpw : ¬ gp = gw := fun e => ha2 gw rfl (by rw [← e]; rfl)
                obtain ⟨y, hye⟩ : ∃ y, pl C q = y := ⟨_, rfl⟩
                rw [hye] at hpc
                have HYE := Lib.hid hye; clear hye
                have hyl : y < left.length := by
                  have h1 := HRNG.out (plI C q) (by rw [List.drop_eq_getElem_cons hlt3, HXE.out]; simp)
                  unfold plI at h1
                  rw [Int.toNat_natCast, HYE.out] at h1
                  exact h1.2
                unfold maxLen at hcwM hcpM
                go_wp2_with fail
                have hS := hE'.placed hlt3 rfl (y := y) (by rw [HXE.out, Int.toNat_natCast]; exact HYE.out)
                have hleftS : OwnI (wr.setCell ⟨gw, t, none⟩ (.int .i64 y)) w1.heap.size (.slice Al (nums C).length cl) left := hleft.keep fun b e => Below.heap_setCell _ _ _ _ (fun e' => ha3 gw rfl (by rw [e]; exact congrArg some e'))
                have hsl := hleftS.sees
                refine (unf_any Al (nums C).length cl _ left _ HLL.out (by omega) hsl (Nat.le_refl _)).mono ?_
                rintro e w6 ⟨vu, rfl, hu6, hb6⟩
                have hE6 := hS.below' hb6
                have hleft6 := hleftS.below hb6 (Nat.le_refl _)
                have hrowpS : Bk (wr.setCell ⟨gw, t, none⟩ (.int .i64 y)) gp 3 curp := hrowp.other hgpw _
                have hrowp6 := hrowpS.below hb6 hrowpS.lt
                have hpc6 : w6.cell? ⟨gp, q, none⟩ = some (.int .i64 y) := (World.cell?_of_block (w := wr) ((hrowp6.trans hrowp.symm))).trans hpc
                have hscS := row_keep (w' := wr.setCell ⟨gw, t, none⟩ (.int .i64 y)) hsc (fun b e => Below.heap_setCell _ _ _ _ (fun e' => row_ne hsc hroww (by decide) (by rw [e]; exact congrArg some e')))
                have hsc6 := row_keep hscS fun b e => hb6.block b (hscS.lt b e).2
                clear hS hleftS hsl hb6 hrowpS hscS hsc hrowp6 hxc hpc hfw hroww hrowp hE' hwant hpla hnum hleft hbel
                obtain ⟨Au, cu, rfl, hcu, hsu⟩ := hu6.form
                have hul : (unf left).length ≤ 4 := by have := unfTo_le left left.length; have := HLL.out; unfold unf; omega
                have HSU := Lib.hid hsu; clear hsu hu6
                go_wp2
                go_loop [82, 15, 17] (fun i a _ => ∃ j : Nat, j ≤ (unf left).length ∧ i = .int .i64 j ∧ a = .int .i64 ((((unf left).take j).countP (fun u => decide (u < (y : Int))) : Nat) : Int)) (fun i _ _ => (unf left).length - (intOf i).toNat)
                case atStart => exact ⟨0, Nat.zero_le _, rfl, rfl⟩
                case round =>
                  obtain ⟨j, hj, rfl, rfl⟩ := hrel
                  have hcj : ((unf left).take j).countP (fun u => decide (u < (y : Int))) ≤ 4 := by
                    have := List.countP_le_length (p := fun u => decide (u < (y : Int))) (l := (unf left).take j)
                    rw [List.length_take] at this
                    omega
                  by_cases hlt4 : j < (unf left).length
                  · obtain ⟨adu, rfl, _, hcu4⟩ := HSU.out.look (k := j) (by simpa using hlt4)
                    simp only [List.getElem_map] at hcu4
                    have HTK : Hid (((unf left).take (j + 1)).countP (fun u => decide (u < (y : Int))) = ((unf left).take j).countP (fun u => decide (u < (y : Int))) + if (unf left)[j] < (y : Int) then 1 else 0) := by
                      show _ = _
                      rw [List.take_add_one, List.getElem?_eq_getElem hlt4, List.countP_append]
                      by_cases h : (unf left)[j] < (y : Int) <;> simp [h]
                    generalize ((unf left).take j).countP (fun u => decide (u < (y : Int))) = cj at *
                    by_cases hcmp : (unf left)[j] < (y : Int)
                    · go_wp2
                      go_round
                      case rel => exact ⟨j + 1, by omega, by go_num, by rw [HTK.out, if_pos hcmp]; go_num⟩
                      case measure => simp [intOf]; omega
                    · go_wp2
                      go_round
                      case rel => exact ⟨j + 1, by omega, by go_num, by rw [HTK.out, if_neg hcmp]; go_num⟩
                      case measure => simp [intOf]; omega
                  · have hbn : ((unf left).take j).countP (fun u => decide (u < (y : Int))) = belowN left y := by
                      rw [List.take_of_length_le (by omega)]; rfl
                    rw [hbn] at hcj ⊢
                    have HBN : Hid (belowN left y = belowN left y) := rfl
                    obtain ⟨bn, hbe⟩ : ∃ bn, belowN left y = bn := ⟨_, rfl⟩
                    rw [hbe] at hcj ⊢
                    have HBE := Lib.hid hbe
                    clear hbe hbn HBN
                    obtain ⟨As, cs, rfl⟩ : ∃ As cs, u12 = .slice As sc.length cs := by
                      obtain ⟨_, ⟨rfl, h0⟩ | ⟨g, cap, cur, rfl, _⟩⟩ := hsc6
                      · exact ⟨none, 0, by rw [h0]⟩
                      · exact ⟨_, cap, rfl⟩
                    have hsz6 := hE6.below.size
                    have hscl60 : sc.length ≤ 60 := by rw [HSCL.out]; omega
                    have HO7 : Hid (w6.ownsRow w1.heap.size 5 1 (.slice As sc.length cs) (sc.map (Value.int .u8)).length (sc.map (Value.int .u8))) := by rw [List.length_map]; exact hsc6
                    go_wp2_with (at_builtin; refine wpList_app1at (w := w6) Try.bytes rfl (.tmp 95) (.tmp 98) rfl w1.heap.size (.slice As sc.length cs) (sc.map (Value.int .u8)) (.int .u8 bn) w6.heap.size rfl rfl rfl HO7.out rfl (by rw [List.length_map]; unfold maxLen; omega) (by rw [List.length_map]; omega) hsz6 ?_)
                    intro v7 w7 hrow7 hkeep7 hob7 hbel7
                    have hbw7 := hbel7 w1.heap.size hsz6 (fun b e => (hsc6.lt b e).1)
                    obtain ⟨gl, cl', curl, hvl, hglB, hrowl, hcll, hclM, hcls, hclu⟩ := hleft6.head (by omega)
                    obtain ⟨rfl, rfl⟩ : Al = some ⟨gl, 0, none⟩ ∧ cl = cl' := by injection hvl with h1 h2 h3; exact ⟨h1, h3⟩
                    clear hvl
                    have hdone : E3 w1 W C (t + 1) (t + 1) (.slice (some ⟨gw, 0, none⟩) W.length cw) (.slice An (nums C).length cn) (.slice (some ⟨gp, 0, none⟩) 4 cp) (.slice (some ⟨gl, 0, none⟩) (nums C).length cl) v7 (w7.setCell ⟨gl, y, none⟩ (.int .i64 (left.getD y 0 - 1))) :=
                      hE6.scripted hleft6 hsc6 HLL.out HSCL.out HSCB.out HEQ.out HCNT.out HRNG.out hlt3 (by rw [HXE.out, Int.toNat_natCast]; exact HYE.out) HBE.out (by omega) (by rw [List.length_append, List.length_map]; exact hrow7) hkeep7 hbw7
                    have hrowl7 := hrowl.keep (hkeep7 gl hrowl.lt (fun e => row_ne hsc6 hrowl (by decide) e))
                    have hcl7 := row_cell hrowl7 hclu hyl
                    have hfl7 := hrowl7.frozen y
                    have hpos := HCNT.out
                    have hposy : 0 < left.getD y 0 := by
                      have hh := (counts_cons (by rw [List.drop_eq_getElem_cons hlt3, List.map_cons] at hpos; exact hpos) (by have := HRNG.out; rw [List.drop_eq_getElem_cons hlt3, List.map_cons] at this; exact this)).2
                      unfold plI at hh
                      rw [Int.toNat_natCast, HXE.out, Int.toNat_natCast, HYE.out] at hh
                      exact hh
                    have hleM : left.getD y 0 ≤ 60 := by
                      have h1 := hpos y
                      rw [h1]
                      have := List.countP_le_length (p := fun x => decide (x = (y : Int))) (l := (W.drop t).map (plI C))
                      rw [List.length_map, List.length_drop] at this
                      omega
                    have hylN : y < (nums C).length := by rw [← HLL.out]; exact hyl
                    have hpc7 : w7.cell? ⟨gp, q, none⟩ = some (.int .i64 y) := (World.cell?_of_block (w := w6) (hkeep7 gp (World.block_lt_of_cell? w6 _ hpc6) (fun e => by obtain ⟨g8, c8, cu8, hv8, _, hr8, _⟩ := hE6.pla.head (by rw [plTo_len]; omega); injection hv8 with h1 h2 h3; injection h1 with h1; injection h1 with h1; subst h1; exact row_ne hsc6 hr8 (by decide) e))).trans hpc6
                    clear hpos
                    obtain ⟨ly, hlye⟩ : ∃ ly, left.getD y 0 = ly := ⟨_, rfl⟩
                    rw [hlye] at hcl7 hposy hleM hdone
                    have HDONE := Lib.hid hdone
                    unfold maxLen at hclM
                    clear hlye hdone hrow7 hkeep7 hob7 hbel7 hbw7 hE6 hleft6 hsc6 HO7 hrowl hrowl7 hclu hcls hpc6
                    go_wp2
                    go_roundw
                    case rel => exact ⟨t + 1, by omega, by go_num, HDONE.out⟩
                    case measure => simp [intOf]; omega
              · obtain rfl : t = W.length := by omega
                have hwl : wantAt W C W.length = W.map (plI C) := by simp [wantAt]
                rw [hwl] at hwant
                have hsceq : sc = scriptOf (nums C) (W.map (plI C)) := by
                  have := HEQ.out
                  rw [List.drop_length] at this
                  simpa [scriptOf] using this
                have hR := run_script (W.map (plI C)) (nums C) [] (-1) HCT.out.1 HCT.out.2
                rw [← hsceq, unf_all (nums C) (fun x hx => by have := HNB.out x hx; omega), List.length_map] at hR
                clear hwl hsceq hE'
                have hcsl : ∃ As cs, u12 = .slice As sc.length cs ∧ sc.length ≤ cs ∧ cs ≤ maxLen ∧ Sees wr wr.heap.size As (sc.map (Value.int .u8)) := by
                  obtain ⟨_, ⟨rfl, h0⟩ | ⟨g, cap, cur, rfl, _, _, h1, h2, _⟩⟩ := id hsc
                  · refine ⟨none, 0, by rw [h0], by omega, by unfold maxLen; omega, ?_⟩
                    have : sc = [] := List.eq_nil_of_length_eq_zero h0
                    subst this
                    exact Sees.nil
                  · exact ⟨_, cap, rfl, h1, h2, Sees.own hsc⟩
                obtain ⟨As, cs, rfl, hcs1, hcs2, hss⟩ := hcsl
                have hsn := hnum.sees
                have H1 := Lib.hid (crew_any An (nums C).length cn (nums C) wr rfl (by omega) hsn)
                have hwlen : (W.map (plI C)).length = W.length := List.length_map _
                have HWL := Lib.hid hwlen; clear hwlen
                generalize W.map (plI C) = V at *
                have hb5 := hb1.trans (hbel.mono hb1.size)
                go_wp2_with fail
                refine H1.out.mono ?_
                rintro e w8 ⟨⟨bl, vcw, gcs, rfl, hcr⟩, hb8⟩
                have hb8' := hb5.trans (hb8.mono hb5.size)
                have hw8 := hwant.below hb8 (Nat.le_refl _)
                have H2 := Lib.hid (run_crew As wr.heap.size bl sc.length cs W.length vcw gcs (nums C) sc w8 hcr (by omega) rfl hcs1 hcs2 (hss.below hb8) HSCB.out (by unfold maxLen; omega) (fun x hx => by have := HNB.out x hx; omega))
                generalize hRe : runF actO W.length (upto (nums C).length) sc (-1) ([], nums C) = R at *
                clear hRe
                obtain ⟨hR1, hR2, hR3⟩ := hR
                have HR1 := Lib.hid hR1
                have HR2 := Lib.hid hR2
                have HR3 := Lib.hid hR3
                clear hR1 hR2 hR3 H1 hcr hsn hss hsc hleft hnum hpla ha1 ha2 ha3 ha4 ha5 hbel
                have hszr := hb5.size
                go_wp2_with fail
                refine H2.out.mono ?_
                rintro e w9 ⟨rfl, hcr9, hb9⟩
                rw [HR1.out, HR2.out]
                obtain ⟨vlg, hlg1, hlg2⟩ := hcr9.ex
                rw [HR3.out, List.nil_append] at hlg2
                have hw9 : OwnI w9 w1.heap.size (.slice Aw W.length cw) V := hw8.keep fun b e => hb9.block b (by have := (hwant.lt b e).2; omega)
                have hb9' := hb8'.trans (hb9.mono hszr)
                obtain ⟨Alg, clg, rfl, hclg, hslg⟩ := hlg2.form
                have hcl : w9.cell? ⟨bl, 0, none⟩ = some (.slice Alg V.length clg) := by rw [hlg1.cell]; rfl
                rw [HWL.out] at hcl
                have H5 := Lib.hid (same_any Alg Aw W.length clg W.length cw _ V V w9 HWL.out HWL.out (by unfold maxLen; omega) (by unfold maxLen; omega) hslg hw9.sees)
                clear H2 hcr9 hb9 hb8' hlg1 hlg2 hw9 hw8 hwant hslg hb8
                simp only [if_true]
                go_wp2_with fail
                refine H5.out.mono ?_
                rintro e w10 ⟨rfl, hb10⟩
                have hb11 := hb9'.trans (hb10.mono hb9'.size)
                clear H5 hb9' hb10 hcl
                simp only [decide_true]
                go_wp2
                go_ret
                exact ⟨rfl, hb11⟩

end Go.Proofs.Ytambnijbbnohfaa
