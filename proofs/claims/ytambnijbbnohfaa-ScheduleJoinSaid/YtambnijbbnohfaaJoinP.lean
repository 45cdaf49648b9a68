/- Plain facts for ScheduleJoin: the steps of functions one after the other. -/
import Derived.Test.YtambnijbbnohfaaJoinC
namespace Go.Proofs.Ytambnijbbnohfaa
open Go.RowKit

/-- How many steps function i performs. -/
def mj (zs : List Int) (i : Nat) : Nat := (max 1 (zs.getD i 0)).toNat
def wantTo (zs : List Int) : Nat → List Int
  | 0 => []
  | k + 1 => wantTo zs k ++ List.replicate (mj zs k) (k : Int)
theorem mj_pos (zs : List Int) (i : Nat) : 1 ≤ mj zs i := by unfold mj; omega
theorem mj_le (zs : List Int) (i : Nat) (h : ∀ x ∈ zs, x ≤ 50) : mj zs i ≤ 50 := by
  unfold mj
  have : zs.getD i 0 ≤ 50 := by
    rw [List.getD_eq_getElem?_getD]
    cases hz : zs[i]? with
    | none => simp
    | some x => exact h x (List.mem_of_getElem? hz)
  omega
theorem wantTo_len (zs : List Int) (k : Nat) : (wantTo zs (k + 1)).length = (wantTo zs k).length + mj zs k := by simp [wantTo]
theorem wantTo_le (zs : List Int) (h : ∀ x ∈ zs, x ≤ 50) : ∀ k, (wantTo zs k).length ≤ 50 * k
  | 0 => by simp [wantTo]
  | k + 1 => by
    have := wantTo_le zs h k
    have := mj_le zs k h
    rw [wantTo_len]
    omega
theorem wantTo_mono (zs : List Int) (j : Nat) : ∀ d, (wantTo zs j).length + d ≤ (wantTo zs (j + d)).length
  | 0 => by simp
  | d + 1 => by
    have := wantTo_mono zs j d
    have := mj_pos zs (j + d)
    show (wantTo zs j).length + (d + 1) ≤ (wantTo zs ((j + d) + 1)).length
    rw [wantTo_len]
    omega

/-- The state of the joined functions behind t steps: j functions are finished, function j has performed k steps. -/
structure At (zs : List Int) (n j k t : Nat) : Prop where
  hj : j ≤ n
  hk : j < n → k < mj zs j
  h0 : j = n → k = 0
  ht : t = (wantTo zs j).length + k

theorem At.start (zs : List Int) (n : Nat) : At zs n 0 0 0 := ⟨Nat.zero_le _, fun _ => by have := mj_pos zs 0; omega, fun _ => rfl, by simp [wantTo]⟩
theorem At.lt {zs : List Int} {n j k t : Nat} (h : At zs n j k t) (ht : t < (wantTo zs n).length) : j < n := by
  rcases Nat.lt_or_ge j n with h1 | h1
  · exact h1
  · have h2 := h.hj
    obtain rfl : j = n := by omega
    have := h.h0 rfl
    have := h.ht
    omega
theorem At.fin {zs : List Int} {n j k t : Nat} (h : At zs n j k t) (hj : j < n) : (zs.getD j 0 ≤ (k : Int) + 1) ↔ k + 1 = mj zs j := by
  have := h.hk hj
  unfold mj at *
  omega
theorem At.next {zs : List Int} {n j k t : Nat} (h : At zs n j k t) (hj : j < n) : At zs n (if zs.getD j 0 ≤ (k : Int) + 1 then j + 1 else j) (if zs.getD j 0 ≤ (k : Int) + 1 then 0 else k + 1) (t + 1) := by
  have hf := h.fin hj
  have h1 := h.hk hj
  have h2 := h.ht
  by_cases hz : zs.getD j 0 ≤ (k : Int) + 1
  · rw [if_pos hz, if_pos hz]
    have h3 := hf.mp hz
    refine ⟨by omega, fun _ => by have := mj_pos zs (j + 1); omega, fun _ => rfl, ?_⟩
    rw [wantTo_len]
    omega
  · rw [if_neg hz, if_neg hz]
    have h3 : k + 1 ≠ mj zs j := fun e => hz (hf.mpr e)
    exact ⟨by omega, fun _ => by omega, fun e => by omega, by omega⟩
theorem At.last {zs : List Int} {n j k t : Nat} (h : At zs n j k t) (hj : j < n) : (decide (zs.getD j 0 ≤ (k : Int) + 1) && decide (j + 1 = n)) = decide (t + 1 = (wantTo zs n).length) := by
  have hf := h.fin hj
  have h1 := h.hk hj
  have h2 := h.ht
  have h3 := wantTo_mono zs (j + 1) (n - (j + 1))
  rw [show j + 1 + (n - (j + 1)) = n from by omega, wantTo_len] at h3
  rw [Bool.eq_iff_iff]
  simp only [Bool.and_eq_true, decide_eq_true_eq]
  constructor
  · rintro ⟨hz, rfl⟩
    have := hf.mp hz
    rw [wantTo_len]
    omega
  · intro e
    have h4 : n = j + 1 := by omega
    subst h4
    rw [wantTo_len] at e
    exact ⟨hf.mpr (by omega), rfl⟩
/-- The log in state j, k. -/
def logAt (zs : List Int) (j k : Nat) : List Int := wantTo zs j ++ List.replicate k (j : Int)
theorem logAt_len (zs : List Int) (j k : Nat) : (logAt zs j k).length = (wantTo zs j).length + k := by simp [logAt]
theorem At.log {zs : List Int} {n j k t : Nat} (h : At zs n j k t) (hj : j < n) : logAt zs j k ++ [(j : Int)] = logAt zs (if zs.getD j 0 ≤ (k : Int) + 1 then j + 1 else j) (if zs.getD j 0 ≤ (k : Int) + 1 then 0 else k + 1) := by
  have hf := h.fin hj
  by_cases hz : zs.getD j 0 ≤ (k : Int) + 1
  · rw [if_pos hz, if_pos hz]
    have h3 := hf.mp hz
    simp only [logAt, wantTo, List.replicate_zero, List.append_nil, List.append_assoc, ← h3]
    congr 1
    exact List.replicate_succ'.symm
  · rw [if_neg hz, if_neg hz]
    simp only [logAt, List.append_assoc]
    congr 1
    exact List.replicate_succ'.symm
theorem At.endlog {zs : List Int} {n j k : Nat} (h : At zs n j k (wantTo zs n).length) : logAt zs j k = wantTo zs n := by
  rcases Nat.lt_or_ge j n with h1 | h1
  · have h2 := h.ht
    have h3 := h.hk h1
    have h4 := wantTo_mono zs (j + 1) (n - (j + 1))
    rw [show j + 1 + (n - (j + 1)) = n from by omega, wantTo_len] at h4
    omega
  · have h2 := h.hj
    obtain rfl : j = n := by omega
    rw [h.h0 rfl]
    simp [logAt]

end Go.Proofs.Ytambnijbbnohfaa
