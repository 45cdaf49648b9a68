/- Literals sorted by their units. -/
import Derived.Test.YtgnlbmamolbcfaaDoorSortW
import Derived.Test.YtgnlbmamolbcfaaDoorMakeP
set_option linter.unusedVariables false
namespace Go.Proofs.YtgnlbmamolbcfaaDoor
open Go.RowKit Go.Sort Go.Shelf

def cfL (a b : Lit) : Int := cfU a.1 b.1
theorem cfL_lt (a b : Lit) : ltOf cfL a b = decide (a.1 < b.1) := by
  show decide (cfU a.1 b.1 < 0) = _
  unfold cfU
  by_cases h : a.1 < b.1
  · rw [if_pos h]
    simp [h]
  · rw [if_neg h]
    split <;> simp [h]
theorem swoL : SWO (ltOf cfL) := by
  refine ⟨fun x => ?_, fun x y z h1 h2 => ?_, fun x y z h1 h2 => ?_⟩ <;> simp only [cfL_lt, decide_eq_true_eq, decide_eq_false_iff_not] at * <;> omega
theorem two_alloc (w : World) (a b : Obj) : ∃ q os, (w.alloc a).alloc b = grow (w.drewN q) os := by
  refine ⟨0, #[a] ++ #[b], ?_⟩
  rw [← grow_grow, alloc_eq_grow, alloc_eq_grow]
  rfl

set_option maxRecDepth 100000 in
set_option maxHeartbeats 1000000 in
theorem ins0 (A : Option Addr) (c : Nat) (fv : Value) (w : World) : Calls Tryd.prog 64 #[.slice A 0 c, .int .i64 0, .int .i64 0, fv] w fun e w' => e = .returned (.tuple #[]) ∧ w = w' := by
  go_enter Tryd.func64, Tryd.ntmps64
  go_wp2
  go_loop [8] (fun v => v = .int .i64 1) (fun _ => 0)
  case atStart => exact rfl
  case round =>
    subst hrel
    go_wp2
    go_end0
    exact ⟨rfl, rfl⟩
set_option maxRecDepth 100000 in
set_option maxHeartbeats 1000000 in
theorem pdq0 (A : Option Addr) (c : Nat) (fv : Value) (w : World) : Calls Tryd.prog 58 #[.slice A 0 c, .int .i64 0, .int .i64 0, .int .i64 0, fv] w fun e w' => e = .returned (.tuple #[]) ∧ w = w' := by
  go_enter Tryd.func58, Tryd.ntmps58
  go_wp2
  go_loop [1, 2] (fun a b => a = .int .i64 0 ∧ b = .int .i64 0) (fun _ _ => 0)
  case atStart => exact ⟨rfl, rfl⟩
  case round =>
    obtain ⟨rfl, rfl⟩ := hrel
    go_wp2_with (go_at_call 64; refine (ins0 _ _ _ _).mono ?_; rintro e w' ⟨rfl, rfl⟩)
    refine bodyPost_ret (results_none rfl _ _ _) rfl ?_
    exact ⟨rfl, rfl⟩
set_option maxRecDepth 100000 in
set_option maxHeartbeats 1000000 in
theorem sort0 (A : Option Addr) (c : Nat) (fv : Value) (w : World) : Calls Tryd.prog 43 #[.slice A 0 c, fv] w fun e w' => e = .returned (.tuple #[]) ∧ w = w' := by
  have hl : Calls Tryd.prog 59 #[.int .u64 0] w fun e w' => e = .returned (.int .i64 0) ∧ w' = w := by
    have h := Any.bits_Len (SlLaysF0.n15.bits (P := Tryd.prog) (ρ := Tryd.sortP_ren) { Tryd.sortP with }) 0 w (by omega) (by omega)
    exact h
  have HL := Lib.hid hl
  clear hl
  go_enter Tryd.func43, Tryd.ntmps43
  go_wp2_with (first | (go_at_call 59; refine HL.out.mono ?_; rintro e w' ⟨rfl, rfl⟩) | (go_at_call 58; refine (pdq0 _ _ _ _).mono ?_; rintro e w' ⟨rfl, rfl⟩))
  go_end0
  exact ⟨rfl, rfl⟩

set_option maxRecDepth 100000 in
theorem sortU (w : World) (B n : Nat) (v : Value) (l : List Lit) (row : w.ownsRow B 38 2 v n (l.flatMap lc)) (hl : l.length = n) (hn : n ≤ 100000) :
    Calls Tryd.prog 43 #[v, .func (.func 44) #[] #[]] w fun e w' => e = .returned (.tuple #[]) ∧ ∃ l', l'.Perm l ∧ Asc l' ∧ w'.ownsRow B 38 2 v n (l'.flatMap lc) ∧ Fr (fun b => v.ownBlock = some b) w w' := by
  by_cases h0 : n = 0
  · subst h0
    have hl0 : l = [] := List.length_eq_zero_iff.1 hl
    subst hl0
    obtain ⟨A, c, rfl⟩ := rw_form row
    exact (sort0 A c _ w).mono fun _ _ ⟨h1, h2⟩ => ⟨h1, [], .refl _, .nil, h2 ▸ row, h2 ▸ Fr.refl _ _⟩
  · obtain ⟨g, cap, rfl⟩ : ∃ g cap, v = .slice (some ⟨g, 0, none⟩) n cap := by
      obtain ⟨_, ⟨_, h9⟩ | ⟨g', cap, cur, rfl, _⟩⟩ := row
      · exact absurd h9 h0
      · exact ⟨g', cap, rfl⟩
    have hds : l.toArray.size = n := by rw [List.size_toArray, hl]
    have row' := row
    rw [show l = l.toArray.toList from rfl] at row'
    have hH := sw_holds (enc := lc) (k := 2) (fun _ => rfl) row' hds
    have hcmp : CmpLays Tryd.prog 44 #[] lc 2 cfL g 0 l.toArray.size w := fun m os dk _ x y => by
      refine (make1_any x y _).mono fun _ _ ⟨h1, h2⟩ => ⟨h1, ?_⟩
      rw [h2]
      exact two_alloc _ _ _
    have hcon := sort43 lc (fun _ => rfl) (fun x v hv => by simp [lc] at hv; rcases hv with rfl | rfl <;> rfl) cfL swoL 44 #[] g 0 cap l.toArray w (enters_of Tryd.func44 (by kernel_rfl) rfl) hcmp hH (rw_lt row g rfl).2 (by omega)
    rw [hds] at hcon
    refine hcon.mono ?_
    rintro e w' ⟨rfl, d', m, os, hpm, hsr, rfl⟩
    have hd' : d'.size = n := hpm.1.trans hds
    refine ⟨rfl, d'.toList, ?_, ?_, sw_row (enc := lc) (k := 2) (m := m) (os := os) (fun _ => rfl) row' hd', (sw_fr w g m d' os).wide fun b _ e => by rw [e]; rfl⟩
    · have hp2 := hpm.2.2
      rw [Array.extract_eq_self_of_le (by omega), Array.extract_eq_self_of_le (by omega), List.toList_toArray] at hp2
      exact hp2
    · refine List.pairwise_iff_getElem.2 fun i j hi hj hij => ?_
      have hi' : i < d'.size := by simpa using hi
      have hj' : j < d'.size := by simpa using hj
      have h1 := hsr i j (Nat.zero_le _) hij (by omega)
      rw [getElem!_pos d' i hi', getElem!_pos d' j hj', cfL_lt] at h1
      simp only [Array.getElem_toList]
      simp at h1
      exact h1
end Go.Proofs.YtgnlbmamolbcfaaDoor
