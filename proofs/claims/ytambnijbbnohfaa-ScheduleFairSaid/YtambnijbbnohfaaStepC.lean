/- The closure of Run over counters. -/
import Derived.Test.YtambnijbbnohfaaNil
namespace Go.Proofs.Ytambnijbbnohfaa
open Go.RowKit

theorem Try.method55 (a : Addr) (w : World) : (method 181 55 (.pointer (some a)) "Step").run Try.prog w = .ok (51, .pointer (some a)) w := by kernel_rfl

structure InvC (B bl bw gt g : Nat) (vw : Value) (gcs : List Nat) (A : Option Addr) (ss : List Int) (s : List Int × List Int) (w : World) : Prop where
  crew : Crew B bl vw gcs s.2 s.1 w
  see : Sees w B A (ss.map (Value.int .u8))
  var : Bk w bw 31 #[vw]
  lt : bl < gt ∧ bw < gt ∧ (∀ x ∈ gcs, x < gt) ∧ (∀ b, vw.ownBlock = some b → b < gt)
  hg : B ≤ bw ∧ gt ≤ g ∧ g < w.heap.size ∧ gt < w.heap.size
  off : ∀ vlog, Bk w bl 22 #[vlog] → Off vlog [gt, g]

structure StepC (B bl bw gt g : Nat) (vw : Value) (gcs : List Nat) (A : Option Addr) (ss : List Int) (r : Bool × (List Int × List Int)) (w : World) (e : Ending) (w' : World) : Prop where
  ret : e = .returned (.bool r.1)
  inv : InvC B bl bw gt g vw gcs A ss r.2 w'
  below : Below B w w'
  gt : w'.heap[gt]? = w.heap[gt]?
  g : w'.heap[g]? = w.heap[g]?

theorem Bk.uniq {w : World} {g : Nat} {t : TypeId} {u v : Value} (h : Bk w g t #[u]) (h' : Bk w g t #[v]) : u = v := by
  unfold Bk at h h'
  rw [h] at h'
  injection h' with h'
  injection h' with h'
  simpa using h'

theorem stepC_done {B bl bw gt g k : Nat} {vw vlog : Value} {gcs : List Nat} {A : Option Addr} {ss log left : List Int} {w w' : World} (h : InvC B bl bw gt g vw gcs A ss (log, left) w) (hk : k < gcs.length) (hv : Bk w bl 22 #[vlog])
    (hm : CMid gcs[k] bl B k (left.getD k 0 - 1) log vlog w w') : InvC B bl bw gt g vw gcs A ss (log ++ [(k : Int)], left.set k (left.getD k 0 - 1)) w' ∧ w'.heap[gt]? = w.heap[gt]? ∧ w'.heap[g]? = w.heap[g]? := by
  obtain ⟨⟨c1, c2, c3, c4, c5, c6, c7, vl, c8, c9⟩, h2, h3, h4, h5, h6⟩ := h
  obtain rfl := c8.uniq hv
  obtain ⟨m1, v, m2, m3, m4, m5, m6⟩ := hm
  have hoff := h6 vl c8
  have hoff1 : ∀ b, vl.ownBlock = some b → b ≠ gt ∧ b ≠ g := fun b e => by have := hoff b e; simpa using this
  have hgk : gcs[k] ∈ gcs := List.getElem_mem hk
  have hkk : (left.set k (left.getD k 0 - 1)).length = left.length := by simp
  have c3' : left.length = gcs.length := c3
  refine ⟨⟨⟨Nat.le_trans c1 m1.size, ?_, by rw [hkk]; exact c3, c4, c5, ?_, c7, v, m3, m4⟩, h2.below m1, ?_, h4, ⟨h5.1, h5.2.1, Nat.lt_of_lt_of_le h5.2.2.1 m1.size, Nat.lt_of_lt_of_le h5.2.2.2 m1.size⟩, ?_⟩, ?_, ?_⟩
  · exact row_keep c2 fun b e => m6 b (c2.lt b e).2 (fun e' => row_ne c2 (c6 k hk) (by decide) (by rw [e, e'])) (fun e' => row_ne c2 c8 (by decide) (by rw [e, e'])) (row_row_ne c2 c9 (by decide) b e)
  · intro j hj
    by_cases hjk : j = k
    · subst hjk
      rw [getD_set _ _ _ _ (by omega), if_pos rfl]
      exact m2
    · rw [getD_set _ _ _ _ (by omega), if_neg hjk]
      refine (c6 j hj).keep (m6 _ (c6 j hj).lt ?_ ?_ ?_)
      · intro e
        exact hjk ((List.getElem_inj c4).mp e)
      · exact fun e => (c6 j hj).ne c8 (by decide) e
      · exact c9.ne (c6 j hj) (by decide)
  · exact h3.keep (m6 _ h3.lt (fun e => h3.ne (c6 k hk) (by decide) e) (fun e => h3.ne c8 (by decide) e) (c9.ne h3 (by decide)))
  · intro v2 hv2 b e
    obtain rfl := m3.uniq hv2
    rcases m5 with m5 | m5
    · rw [m5] at e
      exact hoff b e
    · have := m5 b e
      simp
      omega
  · exact m6 gt h5.2.2.2 (fun e => by have := h4.2.2.1 _ hgk; omega) (fun e => by omega) (fun e => (hoff1 gt e).1 rfl)
  · exact m6 g h5.2.2.1 (fun e => by have := h4.2.2.1 _ hgk; omega) (fun e => by omega) (fun e => (hoff1 g e).2 rfl)

set_option maxHeartbeats 400000 in
theorem stepC_any (B bl bw gt g : Nat) (vw : Value) (gcs : List Nat) (A : Option Addr) (ss log left : List Int) (i : Int) (w : World) (h : InvC B bl bw gt g vw gcs A ss (log, left) w) (hi0 : 0 ≤ i) (hi : i.toNat < left.length) (hp : 0 < left.getD i.toNat 0) (hpM : left.getD i.toNat 0 ≤ 1000000) (ho : log.length ≤ 1000000) :
    Calls Try.prog 30 #[.int .i64 i, .pointer (some ⟨bw, 0, none⟩)] w (StepC B bl bw gt g vw gcs A ss (actO (log, left) i) w) := by
  have h' := h
  obtain ⟨⟨c1, c2, c3, c4, c5, c6, c7, vl, c8, c9⟩, h2, h3, h4, h5, h6⟩ := h
  obtain ⟨k, rfl⟩ := Int.eq_ofNat_of_zero_le hi0
  rw [Int.toNat_natCast] at hi hp hpM
  have c3' : left.length = gcs.length := c3
  have hk : k < gcs.length := by omega
  have hr : actO (log, left) k = (decide (left.getD k 0 - 1 ≤ 0), (log ++ [(k : Int)], left.set k (left.getD k 0 - 1))) := by
    have : (left.getD k 0 - 1 == 0) = decide (left.getD k 0 - 1 ≤ 0) := by
      rw [Bool.eq_iff_iff]; simp only [beq_iff_eq, decide_eq_true_eq]; omega
    simp only [actO, Int.toNat_natCast, this]
  rw [hr]
  obtain ⟨_, hn | ⟨gw, cw, cur, rfl, hgw, hrow, hcw, hcwM, hcws, hcwu⟩⟩ := id c2
  · omega
  have hrow : Bk w gw 34 cur := hrow
  have hbw : w.cell? ⟨bw, 0, none⟩ = some (.slice (some ⟨gw, 0, none⟩) gcs.length cw) := by rw [h3.cell]; rfl
  have hcell : w.cell? ⟨gw, k, none⟩ = some (.iface 55 (.pointer (some ⟨gcs[k], 0, none⟩))) := by
    rw [hrow.cell, ← Array.getElem?_toList, ← List.getElem?_take_of_lt (show k < gcs.length * 1 by omega), hcwu, List.getElem?_map, List.getElem?_eq_getElem hk]
    rfl
  have H0 : Calls Try.prog 51 #[.pointer (some ⟨gcs[k], 0, none⟩)] w (StepC B bl bw gt g (.slice (some ⟨gw, 0, none⟩) gcs.length cw) gcs A ss (decide (left.getD k 0 - 1 ≤ 0), (log ++ [(k : Int)], left.set k (left.getD k 0 - 1))) w) :=
    (cstep_any gcs[k] bl B k (left.getD k 0) log vl w (c6 k hk) c8 c9 ⟨c1, c5 _ (List.getElem_mem hk), c7⟩ ho (by omega) hpM).mono fun e w' ⟨he, hm⟩ => by
      obtain ⟨q1, q2, q3⟩ := stepC_done h' hk c8 hm
      exact ⟨he, q1, hm.below, q2, q3⟩
  have H := Lib.hid H0
  clear H0 h' hr c6 h6 h2 c9 c8 hrow hcwu h3 c2 c3 c3' c5 h4
  have hm := Try.method55
  generalize gcs[k] = gc at *
  generalize decide (left.getD k 0 - 1 ≤ 0) = bb at *
  generalize left.set k (left.getD k 0 - 1) = left' at *
  unfold maxLen at hcwM
  go_enter Try.func30, Try.ntmps30
  go_wp2_with fail
  refine H.out.mono ?_
  rintro e w' ⟨rfl, q1, q2, q3, q4⟩
  have HQ := Lib.hid q1
  clear q1
  go_wp2
  go_ret
  exact ⟨rfl, HQ.out, q2, q3, q4⟩

end Go.Proofs.Ytambnijbbnohfaa
