/- finish: an unfinished worker is removed. -/
import Derived.Test.YtambnijbbnohfaaTurn
import Derived.Deep.RegionLaw
import Derived.Laws.CopyOwn
namespace Go.Proofs.Ytambnijbbnohfaa
open Go.RowKit

theorem grownBy_setRow (w : World) (g : Nat) (cs : Array Value) : w.grownBy (w.setRow g cs) (some g) :=
  ⟨rfl, rfl, rfl, by simp [World.setRow], fun k _ hne => setRow_other w g k cs (fun e => hne (by rw [e]))⟩

/-- copy as one step of a region that draws its order: only the block that is written has turned. -/
theorem step_copy_mine {P : Program} {ops : Array Oper} {o : Oper} {a : Act} {w : World} {K : Act → World → Prop} {Q : Exit → Act → World → Prop} {E : Prop} (hgd : o.guard = none) (d s : Operand) (dT sT : TypeId)
    (ho : o.op = .call { callee := .builtin .copy, args := #[d, s], argTypes := #[dT, sT] }) (elem : TypeId) (hu : P.underlying dT = some (.slice elem)) (hsz : (P.info? elem).map (·.size) = some 1)
    (dp sp : Option Addr) (dLen dCap sLen sCap : Nat) (hd : a.eval d = .slice dp dLen dCap) (hs : a.eval s = .slice sp sLen sCap)
    (g off : Nat) (cur : List Value) (t : TypeId) (hg : w.heap[g]? = some (.cells cur.toArray t (0, 0))) (cs : List Value) (hn : cs.length = Nat.min sLen dLen)
    (hpos : 0 < cs.length → dp = some ⟨g, off, none⟩ ∧ ∃ ad, sp = some ad ∧ ∀ j v, cs[j]? = some v → w.cell? (ad.add j) = some v)
    (hfit : off + cs.length ≤ cur.length) (h1 : ∀ v ∈ cs, v.oneCell' = true)
    (h : ∀ w', Hid (w'.heap[g]? = some (.cells (splice cur off cs).toArray t (0, 0))) → w.grownBy w' (some g) → K (a.put o.dst (goInt cs.length)) w') :
    if Region.wanted o (yielded ops a.tmps) = true then Oper.wp P o a w K Q else E := by
  have hw : Region.wanted o (yielded ops a.tmps) = true := by simp [Region.wanted, hgd]
  rw [if_pos hw]
  by_cases h0 : cs.length = 0
  · obtain rfl : cs = [] := List.eq_nil_of_length_eq_zero h0
    have hrun := run_copy_none (P := P) w dT sT o.type elem dp sp dLen dCap sLen sCap hu hsz (by simpa using hn.symm)
    unfold Oper.wp
    simp [execOp, ho, resolve, invoke, builtin, hd, hs, hrun, Result.andThen]
    exact h w (show _ = _ by simpa [splice] using hg) (World.grownBy.refl w _)
  · obtain ⟨rfl, ad, rfl, hsrc⟩ := hpos (by omega)
    have hrun := run_copy_row (P := P) w dT sT o.type elem g off dLen dCap ad sLen sCap cur.toArray t cs hu hsz hg hn hsrc (by simpa using hfit) h1
    unfold Oper.wp
    simp [execOp, ho, resolve, invoke, builtin, hd, hs, hrun, Result.andThen]
    exact h _ (show _ = _ by simpa [splice] using setRow_heap w g _ _ t _ hg) (grownBy_setRow w g _)

theorem Try.size3 : (Try.prog.info? 3).map (·.size) = some 1 := by kernel_rfl

structure FinPost (g gt n c : Nat) (vs : Value) (last : Int) (op : List Int) (w w' : World) : Prop where
  os : w'.os = w.os
  tape : w'.tape = w.tape
  output : w'.output = w.output
  size : w.heap.size ≤ w'.heap.size
  turn : Bk w' gt 61 #[.slice (some ⟨g, 0, none⟩) n c, vs, .int .i64 last]
  row : ∃ cur, Bk w' g 3 cur ∧ cur.toList.take n = op.map (Value.int .i64) ∧ cur.size = c
  block : ∀ b, b < w.heap.size → b ≠ g → b ≠ gt → w'.heap[b]? = w.heap[b]?

theorem splice_erase {α : Type} (L M : List α) (k n : Nat) (hk : k < n) (hn : n ≤ L.length) (hM : L.take n = M) : (splice L k ((L.drop (k + 1)).take (n - (k + 1)))).take (n - 1) = M.eraseIdx k := by
  have hl : ((L.drop (k + 1)).take (n - (k + 1))).length = n - (k + 1) := by rw [List.length_take, List.length_drop]; omega
  rw [splice, ← List.append_assoc, List.take_append_of_le_length (by rw [List.length_append, List.length_take, hl]; omega), List.take_of_length_le (by rw [List.length_append, List.length_take, hl]; omega)]
  rw [← hM, List.eraseIdx_eq_take_drop_succ, List.take_take, List.drop_take]
  congr 2
  omega
theorem splice_len {α : Type} (L cs : List α) (k : Nat) (h : k + cs.length ≤ L.length) : (splice L k cs).length = L.length := by
  simp [splice]; omega

theorem fin_close {g gt k n c m : Nat} {vs : Value} {last : Int} {w w4 : World} {cur : Array Value} {op : List Int} (hm : n - (k + 1) = m) (hk : k < n) (hne : g ≠ gt) (hcs : cur.size = c) (hnc : n ≤ c) (hcur : cur.toList.take n = op.map (Value.int .i64))
    (hb : w.grownBy w4 (some g)) (hgt : Bk w4 gt 61 #[.slice (some ⟨g, 0, none⟩) n c, vs, .int .i64 last])
    (hg : w4.heap[g]? = some (Obj.cells (splice cur.toList k (List.take (n - (k + 1)) (List.drop (k + 1) cur.toList))).toArray 3)) :
    FinPost g gt (n - 1) c vs last (op.eraseIdx k) w (w4.setCell ⟨gt, 0, none⟩ (.slice (some ⟨g, 0, none⟩) (k + m) c)) := by
  have hcl : cur.toList.length = c := by rw [Array.length_toList]; exact hcs
  refine ⟨hb.os, hb.tape, hb.output, Nat.le_trans hb.size (by simp [World.setCell]), ?_, ⟨(splice cur.toList k (List.take (n - (k + 1)) (List.drop (k + 1) cur.toList))).toArray, ?_, ?_, ?_⟩, fun b hb1 hb2 hb3 => ?_⟩
  · rw [show n - 1 = k + m from by omega]
    exact hgt.put 0 _
  · exact (show Bk w4 g 3 _ from hg).other hne _
  · show (splice _ _ _).take _ = _
    rw [splice_erase cur.toList _ k n hk (by omega) hcur, List.eraseIdx_eq_take_drop_succ, List.eraseIdx_eq_take_drop_succ, List.map_append, List.map_take, List.map_drop]
  · rw [List.size_toArray, splice_len _ _ _ (by rw [List.length_take, List.length_drop]; omega)]
    exact hcl
  · exact (Below.heap_setCell _ _ _ _ hb3).trans (hb.block b hb1 (fun e => hb2 (by injection e)))

set_option maxHeartbeats 400000 in
theorem finish_any (g gt k n c : Nat) (vs : Value) (last : Int) (w : World) (cur : Array Value) (op : List Int) (hblk : Bk w gt 61 #[.slice (some ⟨g, 0, none⟩) n c, vs, .int .i64 last]) (hrow : Bk w g 3 cur)
    (hne : g ≠ gt) (hcur : cur.toList.take n = op.map (Value.int .i64)) (hcs : cur.size = c) (hnc : n ≤ c) (hN : c ≤ maxLen) (hk : k < n) :
    Calls Try.prog 33 #[.pointer (some ⟨gt, 0, none⟩), .int .i64 k] w fun e w' => e = .returned (.tuple #[]) ∧ FinPost g gt (n - 1) c vs last (op.eraseIdx k) w w' := by
  have hcell : w.cell? ⟨gt, 0, none⟩ = some (.slice (some ⟨g, 0, none⟩) n c) := by rw [hblk.cell]; rfl
  unfold maxLen at hN
  have HC := Lib.hid hcur; clear hcur
  have HS := Lib.hid hcs; clear hcs
  have hcl : cur.toList.length = c := by rw [Array.length_toList]; exact HS.out
  have hlen : ((cur.toList.drop (k + 1)).take (n - (k + 1))).length = n - (k + 1) := by rw [List.length_take, List.length_drop, hcl]; omega
  have H1 : Hid (w.heap[g]? = some (.cells cur.toList.toArray 3 (0, 0))) := by show _ = _; rw [Array.toArray_toList]; exact hrow
  have H2 : Hid (((cur.toList.drop (k + 1)).take (n - (k + 1))).length = Nat.min (n - (k + 1)) (n - k)) := by
    show _ = _; rw [hlen]; show _ = min _ _; omega
  have H3 : Hid (0 < ((cur.toList.drop (k + 1)).take (n - (k + 1))).length →
      ∃ ad, (if c = k + 1 then some (⟨g, 0, none⟩ : Addr) else some ⟨g, k + 1, none⟩) = some ad ∧ ∀ j v, ((cur.toList.drop (k + 1)).take (n - (k + 1)))[j]? = some v → w.drew.cell? (ad.add j) = some v) := by
    intro hp
    rw [hlen] at hp
    refine ⟨⟨g, k + 1, none⟩, by rw [if_neg (by omega)], fun j v hv => ?_⟩
    rw [add_mk]
    refine (hrow.cell _).trans ?_
    have hj : j < n - (k + 1) := by
      rcases Nat.lt_or_ge j (n - (k + 1)) with h | h
      · exact h
      · rw [List.getElem?_eq_none (by rw [hlen]; exact h)] at hv; cases hv
    rw [List.getElem?_take_of_lt hj, List.getElem?_drop] at hv
    rw [← Array.getElem?_toList]; exact hv
  have H4 : Hid (k + ((cur.toList.drop (k + 1)).take (n - (k + 1))).length ≤ cur.toList.length) := by show _ ≤ _; rw [hlen, hcl]; omega
  have H5 : Hid (∀ v ∈ (cur.toList.drop (k + 1)).take (n - (k + 1)), v.oneCell' = true) := by
    intro v hv
    have e : (cur.toList.drop (k + 1)).take (n - (k + 1)) = (op.map (Value.int .i64)).drop (k + 1) := by rw [← HC.out, List.drop_take]
    rw [e] at hv
    have := List.mem_of_mem_drop hv
    simp only [List.mem_map] at this
    obtain ⟨x, _, rfl⟩ := this
    rfl
  have HL := Lib.hid hlen; clear hlen
  have HL2 := Lib.hid hcl; clear hcl
  have hk1 : k ≤ n := by omega
  have hk2 : k + 1 ≤ n := by omega
  have hck : ¬ c = k := by omega
  have hk3 : (k : Int) + 1 ≤ (n : Int) := by omega
  have hw1 : IntKind.i64.wrap ((k : Int) + 1) = (k : Int) + 1 := IntWalk.i64_in _ (by omega)
  have hw2 : 0 ≤ (k : Int) + 1 := by omega
  have hw3 : ((k : Int) + 1).toNat = k + 1 := by omega
  go_enter Try.func33, Try.ntmps33
  go_wp2
  go_region_law (refine step_copy_mine rfl (.tmp 10) (.tmp 17) 22 22 rfl 3 Try.underlying22 Try.size3 _ _ _ _ _ _ rfl rfl g k cur.toList 3 H1.out ((cur.toList.drop (k + 1)).take (n - (k + 1))) H2.out (fun hp => ⟨rfl, H3.out hp⟩) H4.out H5.out ?_; intro w4 hg4 hb4)
  all_goals
    have hg5 := hg4.out
    have hb5 : w.grownBy w4 (some g) := ⟨hb4.os, hb4.tape, hb4.output, hb4.size, hb4.block⟩
    clear hg4 hb4 H1 H2 H3 H4 H5 hw1 hw2 hw3
    have hgt : Bk w4 gt 61 #[.slice (some ⟨g, 0, none⟩) n c, vs, .int .i64 last] := hblk.keep (hb5.block gt hblk.lt (fun e => hne (by injection e with e; exact e.symm)))
    have hc4 : w4.cell? ⟨gt, 0, none⟩ = some (.slice (some ⟨g, 0, none⟩) n c) := by rw [hgt.cell]; rfl
    have hf4 : w4.frozen? ⟨gt, 0, none⟩ = false := hgt.frozen 0
    have HG := Lib.hid hg5
    clear hg5
    rw [show min (n - (k + 1)) (cur.size - (k + 1)) = n - (k + 1) from by have := HS.out; omega]
    obtain ⟨m, hm⟩ : ∃ m, n - (k + 1) = m := ⟨_, rfl⟩
    rw [hm]
    have hm1 : k + m < n := by omega
    have hm2 : n ≤ k + m + 1 := by omega
    have HM := Lib.hid hm
    clear hm
    generalize (if c = k + 1 then some (⟨g, 0, none⟩ : Addr) else some ⟨g, k + 1, none⟩) = spx
    go_wp2
    go_end0
    exact ⟨rfl, fin_close HM.out hk hne HS.out hnc HC.out hb5 hgt HG.out⟩

end Go.Proofs.Ytambnijbbnohfaa
