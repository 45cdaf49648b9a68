/- begin: a new record of turns, whose open workers are the numbers below n. -/
import Derived.Test.YtambnijbbnohfaaAfter
namespace Go.Proofs.Ytambnijbbnohfaa
open Go.RowKit

/-- The numbers 0 .. k-1. -/
def upto (k : Nat) : List Int := (List.range k).map (fun i : Nat => (i : Int))
theorem upto_zero : upto 0 = [] := rfl
theorem upto_succ (k : Nat) : upto (k + 1) = upto k ++ [(k : Int)] := by simp [upto, List.range_succ]
theorem upto_len (k : Nat) : (upto k).length = k := by simp [upto]

section
variable {w w' : World} {base base' : Nat} {v : Value} {xs : List Int}
theorem OwnI.keep (h : OwnI w base v xs) (hk : ∀ b, v.ownBlock = some b → w'.heap[b]? = w.heap[b]?) : OwnI w' base v xs := by
  refine ⟨h.1, ?_⟩
  rcases h.2 with hn | ⟨g, cap, cur, rfl, hb, hgg, rest⟩
  · exact .inl hn
  · exact .inr ⟨g, cap, cur, rfl, hb, (hk g rfl).trans hgg, rest⟩
theorem OwnI.down (h : OwnI w base v xs) (hb : base' ≤ base) : OwnI w base' v xs := by
  refine ⟨h.1, ?_⟩
  rcases h.2 with hn | ⟨g, cap, cur, rfl, hb', rest⟩
  · exact .inl hn
  · exact .inr ⟨g, cap, cur, rfl, by omega, rest⟩
theorem OwnI.to (h : OwnI w base v xs) (hb : ∀ b, v.ownBlock = some b → base' ≤ b) : OwnI w base' v xs := by
  refine ⟨h.1, ?_⟩
  rcases h.2 with hn | ⟨g, cap, cur, rfl, hb', rest⟩
  · exact .inl hn
  · exact .inr ⟨g, cap, cur, rfl, hb g rfl, rest⟩
theorem OwnI.lt (h : OwnI w base v xs) : ∀ b, v.ownBlock = some b → base ≤ b ∧ b < w.heap.size := World.ownsRow.lt h
theorem OwnI.below {B : Nat} (h : OwnI w base v xs) (hb : Below B w w') (hB : w.heap.size ≤ B) : OwnI w' base v xs :=
  h.keep fun b e => hb.block b (by have := (h.lt b e).2; omega)
end

theorem begin_step {w wr w1 : World} {gt k : Nat} {v v' s l : Value} (hB : w.heap.size = gt) (hb : Below w.heap.size w wr) (hblk : Bk wr gt 61 #[v, s, l])
    (hown : wr.ownsRow (gt + 1) 3 1 v (upto k).length ((upto k).map (Value.int .i64)))
    (hown' : w1.ownsRow (gt + 1) 3 1 v' ((upto k).length + 1) ((upto k).map (Value.int .i64) ++ [.int .i64 k]))
    (hg : (wr.alloc (.cells #[.int .i64 k] 3)).grownBy w1 v.ownBlock) :
    Bk w1 gt 61 #[v, s, l] ∧ OwnI w1 (gt + 1) v' (upto (k + 1)) ∧ Below w.heap.size w w1 := by
  have hlt : ∀ b, v.ownBlock = some b → gt + 1 ≤ b := fun b e => (hown.lt b e).1
  refine ⟨?_, ?_, (hb.alloc hb.size _).grown hg (by have := hb.size; simp; omega) fun b e => by have := hlt b e; omega⟩
  · refine (hblk.alloc _).keep (hg.block gt (by have := hblk.lt; simp; omega) ?_)
    intro e
    have := hlt gt e.symm
    omega
  · unfold OwnI
    rw [upto_succ]
    simpa using hown'

set_option maxHeartbeats 400000 in
theorem begin_any (n : Nat) (A : Option Addr) (m c : Nat) (w : World) (hN : n ≤ 1000000) :
    Calls Try.prog 23 #[.int .i64 n, .slice A m c] w fun e w' => ∃ v, e = .returned (.pointer (some ⟨w.heap.size, 0, none⟩)) ∧ Bk w' w.heap.size 61 #[v, .slice A m c, .int .i64 (-1)] ∧
      OwnI w' (w.heap.size + 1) v (upto n) ∧ Below w.heap.size w w' := by
  obtain ⟨i0, hi, hz0, hz1, hz2⟩ := info_parts Try.info3'
  go_enter Try.func23, Try.ntmps23
  go_wp2
  go_loopw [11] (fun i wr => ∃ k : Nat, k ≤ n ∧ i = .int .i64 k ∧ ∃ v, Bk wr w.heap.size 61 #[v, .slice A m c, .int .i64 (-1)] ∧ OwnI wr (w.heap.size + 1) v (upto k) ∧ Below w.heap.size w wr) (fun i _ => n - (intOf i).toNat)
  case atStart => exact ⟨0, Nat.zero_le _, rfl, _, Bk.made _ _ _, OwnI.nil _ _, (Below.refl _ _).alloc (Nat.le_refl _) _⟩
  case round =>
    obtain ⟨k, hk, rfl, v, hblk, hown, hb⟩ := hrel
    have hle := upto_len k
    have HL := Lib.hid hle; clear hle
    obtain ⟨A', c', rfl, hc', _⟩ := hown.form
    have hcell : wr.cell? ⟨w.heap.size, 0, none⟩ = some (.slice A' (upto k).length c') := by rw [hblk.cell]; rfl
    by_cases hlt : k < n
    · have hlen : (upto k).length < 1000000 := by rw [HL.out]; omega
      have hsz : w.heap.size < wr.heap.size := hblk.lt
      go_wp2_with (at_builtin; refine wpList_append_own _ rfl _ _ 22 rfl (w.heap.size + 1) 3 i0 (.int .i64 0) 1 8 Try.underlying22 hi hz0 hz1 hz2 rfl (by decide) _ _ _ rfl (hown.alloc _) ⟨wr.heap.size, 0, none⟩ 1 1 [.int .i64 k] rfl rfl ?c1 ?c2 ?c3 ?c4 ?c5 ?_)
      case c1 => exact cell_one_new _ _ _
      case c2 => simp [Value.oneCell']
      case c3 => unfold maxLen; omega
      case c4 => omega
      case c5 => simp; omega
      intro v' w1 hown' hgrow _
      obtain ⟨h1, h2, h3⟩ := begin_step rfl hb hblk hown hown' hgrow
      clear hown' hgrow hcell
      obtain ⟨A2, c2, hv2, hc2, _⟩ := h2.form
      have hcell2 : w1.cell? ⟨w.heap.size, 0, none⟩ = some (.slice A' (upto k).length c') := by rw [h1.cell]; rfl
      have hfr : w1.frozen? ⟨w.heap.size, 0, none⟩ = false := h1.frozen 0
      have HV := Lib.hid hv2
      rw [hv2]
      clear hv2
      go_wp2
      go_roundw
      case rel => exact ⟨k + 1, by omega, by go_num, _, h1.put 0 _, by rw [← HV.out]; exact ownsRow_setCell_below h2 (by simp) _, h3.setCell (by simp) _⟩
      case measure => simp [intOf]; omega
    · go_wp2
      go_ret
      obtain rfl : k = n := by omega
      exact ⟨_, rfl, hblk, hown, hb⟩

end Go.Proofs.Ytambnijbbnohfaa
