/- What the walks are told of an argument that is a clause. -/
import Derived.Test.YtgnlbmamolbcfaaDoorClo
import Derived.Test.YtgnlbmamolbcfaaDoorStatus
import Derived.Deep.SlicePairs
import Derived.OpenShut
set_option linter.unusedVariables false
namespace Go.Proofs.YtgnlbmamolbcfaaDoor
open Go.RowKit Go.Shelf

theorem lits_of {w : World} {a : Addr} : ∀ n : Nat, (∀ i, i < n → ∃ (x : Int) (y : Bool), w.cell? (a.add (i * 2)) = some (.int .i64 x) ∧ w.cell? (a.add (i * 2 + 1)) = some (.bool y)) →
    ∃ l : List Lit, l.length = n ∧ Cs w (some a) l
  | 0, _ => ⟨[], rfl, Cs.nil⟩
  | n + 1, h => by
    obtain ⟨l, hl, hs⟩ := lits_of n (fun i hi => h i (by omega))
    obtain ⟨x, y, hx, hy⟩ := h n (by omega)
    refine ⟨l ++ [(x, y)], by simp [hl], fun i u hu => ?_⟩
    rcases Nat.lt_or_ge i l.length with hi | hi
    · rw [List.getElem?_append_left hi] at hu
      exact hs i u hu
    · rw [List.getElem?_append_right hi] at hu
      have hin : i = n := by
        have := (List.getElem?_eq_some_iff.1 hu).1
        simp at this
        omega
      subst hin
      rw [hl, Nat.sub_self] at hu
      obtain rfl : (x, y) = u := by simpa using hu
      have hb := World.block_lt_of_cell? w _ hx
      rw [add_blk] at hb
      rw [add_succ] at hy
      exact ⟨a, rfl, hb, hx, hy⟩
theorem open_cl {t : TypeId} (ht : Tryd.prog.underlying t = some (.slice 38)) {H : Type} {enc : TypeId × Value → H} {w : World} {base : Nat} {spare : Nat → Bool} {held : Bool} {fuel : Nat} {A : Option Addr} {n c : Nat} {x : DataW H × List MemPlace}
    (h : DataW.trod enc Tryd.prog w base spare held fuel t [.slice A n c] = some x) :
    (A = none → n = 0 ∧ c = 0) ∧ n ≤ maxLen ∧ ∃ l : List Lit, l.length = n ∧ Cs w A l := by
  rcases Go.Deep.open_slice_pairs ht Tryd.underlying38 (by kernel_rfl) rfl rfl (by kernel_rfl) (by kernel_rfl) h with ⟨hcs, _⟩ | ⟨a, len, cap, m, k, V0, V1, D0, D1, P0, P1, hcs, _, hl, hmx, hm, _, hi⟩
  · simp at hcs
    obtain ⟨rfl, rfl, rfl⟩ := hcs
    exact ⟨fun _ => ⟨rfl, rfl⟩, Nat.zero_le _, [], rfl, Cs.nil⟩
  · simp at hcs
    obtain ⟨rfl, rfl, rfl⟩ := hcs
    refine ⟨(fun h => by cases h), Nat.le_trans hl hmx, lits_of n fun i hin => ?_⟩
    obtain ⟨h1, h2, h3, h4⟩ := hi i (by rw [hm]; split <;> omega)
    obtain ⟨p, hp, _, _⟩ := DataW.trod_int Tryd.underlying3 h3
    obtain ⟨q, hq, _⟩ := DataW.trod_bool Tryd.underlying4 h4
    simp at hp hq
    rw [hp] at h1
    rw [hq] at h2
    exact ⟨p, q, h1, h2⟩
theorem open_is {H : Type} {enc : TypeId × Value → H} {w : World} {base : Nat} {spare : Nat → Bool} {held : Bool} {fuel : Nat} {A : Option Addr} {n c : Nat} {x : DataW H × List MemPlace}
    (h : DataW.trod enc Tryd.prog w base spare held fuel 33 [.slice A n c] = some x) :
    n ≤ maxLen ∧ ∃ l : List Int, l.length = n ∧ Ps w A l := by
  rcases Go.ChangeShapes.open_ints Tryd.underlying33 Tryd.underlying3 (by kernel_rfl) h with ⟨hcs, _⟩ | ⟨a, len, cap, zs, hcs, _, hl, hm, hz, _, hcell, hwz⟩
  · simp at hcs
    obtain ⟨rfl, rfl, rfl⟩ := hcs
    exact ⟨Nat.zero_le _, [], rfl, Sees.nil⟩
  · simp at hcs
    obtain ⟨rfl, rfl, rfl⟩ := hcs
    refine ⟨Nat.le_trans hl hm, zs.take n, ?_, fun j u hu => ?_⟩
    · rw [List.length_take]
      revert hz
      split <;> omega
    · rw [List.getElem?_map] at hu
      have hj : j < (zs.take n).length := by
        rcases Nat.lt_or_ge j (zs.take n).length with h | h
        · exact h
        · rw [List.getElem?_eq_none h] at hu; cases hu
      rw [List.length_take] at hj
      rw [List.getElem?_take_of_lt (by omega), List.getElem?_eq_getElem (by omega)] at hu
      simp only [Option.map_some, Option.some.injEq] at hu
      have hc := hcell j (by omega)
      rw [List.getD_eq_getElem?_getD, List.getElem?_eq_getElem (by omega), Option.getD_some, hu] at hc
      exact ⟨_, rfl, by have := World.block_lt_of_cell? w _ hc; rwa [add_blk] at this, hc⟩
end Go.Proofs.YtgnlbmamolbcfaaDoor
