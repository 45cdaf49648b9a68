/- slices.Clone of numbers; the closure of Order that performs a step. -/
import Derived.Test.YtambnijbbnohfaaRun
import Derived.Test.YtambnijbbnohfaaApp
namespace Go.Proofs.Ytambnijbbnohfaa
open Go.RowKit

theorem Try.ints : OneCell Try.prog 22 3 8 := by
  refine ⟨Try.underlying22, ?_⟩
  obtain ⟨i0, hi, hz0, hz1, hz2⟩ := info_parts Try.info3'
  exact ⟨i0, _, hi, hz0, hz1, hz2, rfl⟩

theorem Sees.self {w : World} {B : Nat} {A : Option Addr} {xs : List Value} (h : Sees w B A xs) : Sees w w.heap.size A xs := fun j u hu => by
  obtain ⟨ad, e, _, hc⟩ := h j u hu
  exact ⟨ad, e, by have := World.block_lt_of_cell? w _ hc; rwa [add_blk] at this, hc⟩
theorem ints_one (zs : List Int) : ∀ u ∈ zs.map (Value.int .i64), u.oneCell' = true := by
  intro u hu
  simp only [List.mem_map] at hu
  obtain ⟨x, _, rfl⟩ := hu
  rfl

set_option maxHeartbeats 400000 in
theorem clone_any (A : Option Addr) (n c B : Nat) (zs : List Int) (w : World) (hn : zs.length = n) (hN : n ≤ 1000000) (hs : Sees w B A (zs.map (Value.int .i64))) :
    Calls Try.prog 22 #[.slice A n c] w fun e w' => ∃ v, e = .returned v ∧ OwnI w' w.heap.size v zs ∧ Below w.heap.size w w' := by
  have heq := fun (W : World) (A : Option Addr) (n c : Nat) => Lib.run_eql_slice_nil (P := Try.prog) W 22 3 A n c 0 0 Try.underlying22
  rcases A with _ | ad
  · obtain rfl : zs = [] := by
      cases zs with
      | nil => rfl
      | cons y ys => obtain ⟨ad, h, _⟩ := hs 0 _ rfl; cases h
    go_enter Try.func22, Try.ntmps22
    go_wp2
    go_ret
    exact ⟨_, rfl, OwnI.nil _ _, Below.refl _ _⟩
  · have HN := Lib.hid hn; clear hn
    have HS := Lib.hid hs; clear hs
    go_enter Try.func22, Try.ntmps22
    go_wp2_with (at_builtin; refine wpList_app Try.ints rfl _ _ rfl w.heap.size _ [] rfl (World.ownsRow_made w #[] 0 (Nat.le_refl _) (by unfold maxLen; omega) rfl) w.heap.size _ _ _ (zs.map (Value.int .i64)) rfl ?c1 ?c2 ?c3 ?c4 ?c5 ?c6 ?_)
    case c1 => simpa using HN.out
    case c2 => exact HS.out.self.alloc (Nat.le_refl _) _
    case c3 => exact ints_one zs
    case c4 => unfold maxLen; simp; omega
    case c5 => simp; omega
    case c6 => simp
    intro v' w1 hown' hgrow hob
    have h1 : OwnI w1 w.heap.size v' zs := by simpa [OwnI] using hown'
    have h2 : Below w.heap.size w w1 := ((Below.refl _ _).alloc (Nat.le_refl _) _).grown hgrow (by simp) (fun b e => by simp [Value.ownBlock] at e; omega)
    clear hown' hgrow hob
    go_wp2
    go_ret
    exact ⟨_, rfl, h1, h2⟩

end Go.Proofs.Ytambnijbbnohfaa
