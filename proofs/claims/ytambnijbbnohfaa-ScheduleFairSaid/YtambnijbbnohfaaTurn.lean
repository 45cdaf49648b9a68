/- next: the place of the next worker. -/
import Derived.Test.YtambnijbbnohfaaNext
import Derived.RegionTactic
import Derived.BigRegion
namespace Go.Proofs.Ytambnijbbnohfaa
open Go.RowKit

/-- The place of the first number that is greater than the last one, or 0. -/
def placeOf (op : List Int) (last : Int) : Nat := if op.findIdx (fun i => decide (last < i)) < op.length then op.findIdx (fun i => decide (last < i)) else 0
theorem placeOf_max (op : List Int) (last : Int) : max 0 (idxOf (fun i => decide (last < i)) op) = (placeOf op last : Int) := by
  unfold idxOf placeOf
  by_cases h : op.findIdx (fun i => decide (last < i)) < op.length
  · simp only [h, if_true]; omega
  · simp only [h, if_false]; omega
theorem placeOf_lt (op : List Int) (last : Int) (h : 0 < op.length) : placeOf op last < op.length := by
  unfold placeOf; split <;> omega

theorem grown_put (w : World) (gt i : Nat) (u : Value) (o : Obj) : w.grownBy ((w.setCell ⟨gt, i, none⟩ u).alloc o).drew (some gt) := by
  have hs : (w.setCell ⟨gt, i, none⟩ u).heap.size = w.heap.size := by simp [World.setCell]
  refine ⟨rfl, rfl, rfl, ?_, fun b hb hne => ?_⟩
  · show w.heap.size ≤ ((w.setCell ⟨gt, i, none⟩ u).alloc o).heap.size
    simp [World.setCell]
  · exact (Below.heap_alloc _ o b (by omega)).trans (Below.heap_setCell w _ u b (fun e => hne (by rw [e])))

set_option maxHeartbeats 400000 in
theorem next_b (A : Option Addr) (v : Value) (c gt : Nat) (last : Int) (w : World) (op : List Int) (hblk : Bk w gt 61 #[v, .slice A 0 c, .int .i64 last]) (hown : OwnI w (gt + 1) v op) (hN : op.length ≤ 1000000) :
    Calls Try.prog 32 #[.pointer (some ⟨gt, 0, none⟩)] w fun e w' => e = .returned (.int .i64 (placeOf op last)) ∧ Below w.heap.size w w' := by
  obtain ⟨A', c', rfl, hc', hs⟩ := hown.form
  have hcell : w.cell? ⟨gt, 0, none⟩ = some (.slice A' op.length c') := by rw [hblk.cell]; rfl
  have hcell1 : w.cell? ⟨gt, 1, none⟩ = some (.slice A 0 c) := by rw [hblk.cell]; rfl
  have hcell2 : w.cell? ⟨gt, 2, none⟩ = some (.int .i64 last) := by rw [hblk.cell]; rfl
  have hlt := hblk.lt
  have hC : ∀ x, Calls Try.prog 35 (#[.int .i64 x] ++ #[.pointer (some ⟨w.heap.size, 0, none⟩)]) (w.alloc (Obj.cells #[Value.pointer (some ⟨gt, 0, none⟩)] 50)) fun e w' => e = .returned (.bool (decide (last < x))) ∧ (w.alloc (Obj.cells #[Value.pointer (some ⟨gt, 0, none⟩)] 50)) = w' := fun x => by
    have h2 : (w.alloc (Obj.cells #[Value.pointer (some ⟨gt, 0, none⟩)] 50)).cell? ⟨gt, 2, none⟩ = some (.int .i64 last) := by rw [(hblk.alloc _).cell]; rfl
    exact next1_any x last _ gt _ (by rw [(Bk.made w 50 #[Value.pointer (some ⟨gt, 0, none⟩)]).cell]; rfl) h2
  have H := Lib.hid (indexFunc_any 35 #[.pointer (some ⟨w.heap.size, 0, none⟩)] (fun i => decide (last < i)) A' op.length c' w.heap.size op _ rfl (by unfold maxLen; omega) (hs.alloc (Nat.le_refl _) _) Try.call35 hC)
  have HP := Lib.hid (placeOf_max op last)
  have hge : -1 ≤ idxOf (fun i => decide (last < i)) op := by unfold idxOf; split <;> omega
  have hle : idxOf (fun i => decide (last < i)) op ≤ op.length := by unfold idxOf; split <;> omega
  clear hC
  go_enter Try.func32, Try.ntmps32
  go_wp2_with fail
  refine H.out.mono ?_
  rintro e w' ⟨rfl, rfl⟩
  generalize idxOf (fun i => decide (last < i)) op = ix at *
  go_wp2
  all_goals go_ret
  all_goals exact ⟨ret_int (by have := HP.out; omega), (Below.refl _ _).alloc (Nat.le_refl _) _⟩

set_option maxHeartbeats 400000 in
theorem next_a (ad : Addr) (v : Value) (m c gt : Nat) (s0 last : Int) (w : World) (op : List Int) (hblk : Bk w gt 61 #[v, .slice (some ad) m c, .int .i64 last]) (hown : OwnI w (gt + 1) v op) (h0 : 0 < op.length) (hN : op.length ≤ 1000000)
    (hm : 0 < m) (_hmc : m ≤ c) (_hcM : c ≤ maxLen) (hs : w.cell? ad = some (.int .u8 s0)) (hs0 : 0 ≤ s0) (hs1 : s0 ≤ 255) :
    Calls Try.prog 32 #[.pointer (some ⟨gt, 0, none⟩)] w fun e w' => e = .returned (.int .i64 (s0 % op.length)) ∧ Bk w' gt 61 #[v, .slice (if c = 1 then some ad else some (ad.add 1)) (m - 1) (c - 1), .int .i64 last] ∧ w.grownBy w' (some gt) := by
  obtain ⟨A', c', rfl, hc', hsee⟩ := hown.form
  have hcell : w.cell? ⟨gt, 0, none⟩ = some (.slice A' op.length c') := by rw [hblk.cell]; rfl
  have hcell1 : w.cell? ⟨gt, 1, none⟩ = some (.slice (some ad) m c) := by rw [hblk.cell]; rfl
  have hfr := hblk.frozen 1
  have hlt := hblk.lt
  unfold maxLen at _hcM
  have hadl : ad.block < w.heap.size := World.block_lt_of_cell? w ad hs
  have hs' : ∀ o, (w.alloc o).cell? ad = some (.int .u8 s0) := fun o => (World.cell?_alloc_lt w o ad hadl).trans hs
  clear hs
  go_enter Try.func32, Try.ntmps32
  go_wp2
  go_region
  go_wp2
  all_goals go_ret
  all_goals exact ⟨rfl, (hblk.put 1 _).alloc _, grown_put w gt 1 _ _⟩

end Go.Proofs.Ytambnijbbnohfaa
