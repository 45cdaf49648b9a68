/- Unfinished: the numbers of the positive entries; after: the first entry greater than a number, or the first one. -/
import Derived.Test.YtambnijbbnohfaaSame
namespace Go.Proofs.Ytambnijbbnohfaa
open Go.RowKit

def unfTo (l : List Int) (k : Nat) : List Int := ((List.range k).filter (fun i : Nat => decide (0 < l.getD i 0))).map (fun i : Nat => (i : Int))
def unf (l : List Int) : List Int := unfTo l l.length
theorem unfTo_zero (l : List Int) : unfTo l 0 = [] := rfl
theorem unfTo_keep (l : List Int) (k : Nat) (h : 0 < l.getD k 0) : unfTo l (k + 1) = unfTo l k ++ [(k : Int)] := by
  have hd : decide (0 < l.getD k 0) = true := by simpa using h
  simp [unfTo, List.range_succ, -List.getD_eq_getElem?_getD, hd]
theorem unfTo_drop (l : List Int) (k : Nat) (h : ¬ 0 < l.getD k 0) : unfTo l (k + 1) = unfTo l k := by
  have hd : decide (0 < l.getD k 0) = false := by simpa using h
  simp [unfTo, List.range_succ, -List.getD_eq_getElem?_getD, hd]
theorem unfTo_le (l : List Int) (k : Nat) : (unfTo l k).length ≤ k := by
  have h := List.length_filter_le (fun i : Nat => decide (0 < l.getD i 0)) (List.range k)
  rw [List.length_range] at h
  simpa [unfTo] using h

theorem Try.info3' : (Try.prog.info? 3).map (fun i => (i.zero, i.size, i.bytes)) = some (some (.int .i64 0), 1, 8) := by kernel_rfl

/-- A slice value that owns the numbers xs, in blocks from base on. -/
def OwnI (w : World) (base : Nat) (v : Value) (xs : List Int) : Prop := w.ownsRow base 3 1 v xs.length (xs.map (Value.int .i64))
theorem OwnI.nil (w : World) (base : Nat) : OwnI w base (.slice none 0 0) [] := World.ownsRow_nil w base 3 1
theorem OwnI.form {w : World} {base : Nat} {v : Value} {xs : List Int} (h : OwnI w base v xs) : ∃ A c, v = .slice A xs.length c ∧ xs.length ≤ c ∧ Sees w w.heap.size A (xs.map (Value.int .i64)) := by
  have h' := h
  obtain ⟨_, ⟨rfl, h0⟩ | ⟨g, cap, cur, rfl, _, _, hc, _⟩⟩ := h
  · refine ⟨none, 0, by rw [h0], by omega, ?_⟩
    unfold OwnI at h'
    rw [h0] at h'
    exact Sees.own h'
  · exact ⟨_, cap, rfl, hc, Sees.own h'⟩

theorem rel_keep {w wr w1 : World} {l : List Int} {k : Nat} {v v' : Value} (hp : 0 < l.getD k 0) (hb : Below w.heap.size w wr)
    (hown : wr.ownsRow w.heap.size 3 1 v (unfTo l k).length ((unfTo l k).map (Value.int .i64)))
    (hown' : w1.ownsRow w.heap.size 3 1 v' ((unfTo l k).length + 1) ((unfTo l k).map (Value.int .i64) ++ [.int .i64 k]))
    (hg : (wr.alloc (.cells #[.int .i64 k] 3)).grownBy w1 v.ownBlock) : OwnI w1 w.heap.size v' (unfTo l (k + 1)) ∧ Below w.heap.size w w1 := by
  refine ⟨?_, (hb.alloc hb.size _).grown hg (by have := hb.size; simp; omega) fun b e => (hown.lt b e).1⟩
  unfold OwnI
  rw [unfTo_keep l k hp]
  simpa using hown'

set_option maxHeartbeats 400000 in
theorem unf_any (A : Option Addr) (n c B : Nat) (zs : List Int) (w : World) (hn : zs.length = n) (hN : n ≤ 1000000) (hs : Sees w B A (zs.map (Value.int .i64))) (hB : B ≤ w.heap.size) :
    Calls Try.prog 19 #[.slice A n c] w fun e w' => ∃ v, e = .returned v ∧ OwnI w' w.heap.size v (unf zs) ∧ Below w.heap.size w w' := by
  have HN := Lib.hid hn; clear hn
  have HS := Lib.hid hs; clear hs
  obtain ⟨i0, hi, hz0, hz1, hz2⟩ := info_parts Try.info3'
  go_enter Try.func19, Try.ntmps19
  go_wp2
  go_loopw [3, 4] (fun v i wr => ∃ k : Nat, k ≤ n ∧ i = .int .i64 k ∧ OwnI wr w.heap.size v (unfTo zs k) ∧ Below w.heap.size w wr) (fun _ i _ => n - (intOf i).toNat)
  case atStart => exact ⟨0, Nat.zero_le _, rfl, OwnI.nil _ _, Below.refl _ _⟩
  case round =>
    obtain ⟨k, hk, rfl, hown, hb⟩ := hrel
    have hle := unfTo_le zs k
    by_cases hlt : k < n
    · have hk1 : k < zs.length := by rw [HN.out]; exact hlt
      obtain ⟨ad, rfl, hadb, hcell⟩ := (HS.out.below (hb.mono hB)).look (k := k) (by simpa using hk1)
      simp only [List.getElem_map] at hcell
      have HG : Hid (zs.getD k 0 = zs[k]) := by show _ = _; simp [hk1]
      have hbs := hb.size
      by_cases hp : 0 < zs[k]
      · go_wp2_with (at_builtin; refine wpList_append_own _ rfl _ _ 22 rfl w.heap.size 3 i0 (.int .i64 0) 1 8 Try.underlying22 hi hz0 hz1 hz2 rfl (by decide) _ _ _ rfl (hown.alloc _) ⟨wr.heap.size, 0, none⟩ 1 1 [.int .i64 k] rfl rfl ?c1 ?c2 ?c3 ?c4 ?c5 ?_)
        case c1 => exact cell_one_new _ _ _
        case c2 => simp [Value.oneCell']
        case c3 => unfold maxLen; omega
        case c4 => omega
        case c5 => simp; omega
        intro v' w1 hown' hgrow _
        obtain ⟨h1, h2⟩ := rel_keep (by rw [HG.out]; exact hp) hb hown hown' hgrow
        clear hown' hgrow hcell
        go_wp2
        go_roundw
        case rel => exact ⟨k + 1, by omega, by go_num, h1, h2⟩
        case measure => simp [intOf]; omega
      · go_wp2
        go_roundw
        case rel => exact ⟨k + 1, by omega, by go_num, by rw [unfTo_drop zs k (by rw [HG.out]; exact hp)]; exact hown, hb⟩
        case measure => simp [intOf]; omega
    · go_wp2
      go_ret
      have : k = zs.length := by rw [HN.out]; omega
      exact ⟨_, rfl, by unfold unf; rw [← this]; exact hown, hb⟩

end Go.Proofs.Ytambnijbbnohfaa
