/- slices.SortFunc of literals, any comparison. -/
import Derived.Test.YtgnlbmamolbcfaaDoorClo
import Derived.Test.YtgnlbmamolbcfaaDoorSortL
import Derived.Shelf.SlSortCmp.NoneTotal
set_option linter.unusedVariables false
namespace Go.Proofs.YtgnlbmamolbcfaaDoor
open Go.Shelf Go.RowKit Go.Lib Go.Sort

set_option maxHeartbeats 2000000 in
set_option maxRecDepth 100000 in
theorem sort43 {α : Type} [Inhabited α] (enc : α → List Value) (hk : ∀ x, (enc x).length = 2) (h1 : ∀ x, ∀ v ∈ enc x, v.oneCell' = true) (cf : α → α → Int) (hO : SWO (ltOf cf)) (g : Nat) (cb : Array Value) (blk off cap : Nat) (d : Array α) (w : World)
    (eg : ∀ args w, (callFunc g args).run Tryd.prog w = .ok (.enter g args) w) (hcmp : CmpLays Tryd.prog g cb enc 2 cf blk off d.size w) (hH : HoldsK enc 2 w blk off d) (hblk : blk < w.heap.size) (hsz : d.size < 1000000) :
    Calls Tryd.prog 43 #[.slice (some ⟨blk, off, none⟩) d.size cap, .func (.func g) #[] cb] w fun e w' =>
      e = .returned (.tuple #[]) ∧ ∃ d' n os, PermIn 0 d.size d d' ∧ SortedIn (ltOf cf) 0 d.size d' ∧ w' = sortWorldK enc 2 w blk off n d' os := by
  have L := Tryd.sortP
  have hlim : Lib.bitLen d.size < 4611686018427387904 := Nat.lt_of_le_of_lt (Lib.bitLen_le d.size 62 (by omega) (by omega)) (by omega)
  have hp := AnyQ.pdqsortCmpFunc_all (P := Tryd.prog) (ρ := Tryd.sortP_ren) L 2 Tryd.isAgg38 Tryd.sizeOf38 enc cf g cb hO blk off cap d w eg hcmp ⟨hk, h1, hH, hblk⟩ (d.size + 1) 0 d.size (Lib.bitLen d.size) d w (by omega) rfl (SWK.start hH) (Nat.zero_le _) (Nat.le_refl _) (by omega) hlim (Or.inl rfl)
  have hl : Calls Tryd.prog 59 #[.int .u64 (d.size : Int)] w fun e w' => e = .returned (.int .i64 (Lib.bitLen d.size : Nat)) ∧ w' = w := by
    have h := Any.bits_Len (SlLaysF0.n15.bits (P := Tryd.prog) (ρ := Tryd.sortP_ren) { L with }) (d.size : Int) w (by omega) (by omega)
    rwa [Int.toNat_natCast] at h
  change Calls Tryd.prog 58 _ _ _ at hp
  have h9 := pdq_sorts (ltOf cf) hO d 0 d.size (Lib.bitLen d.size) true true (Nat.zero_le _) (Nat.le_refl _) (Or.inl rfl)
  have H9 := Lib.hid h9
  have HP := Lib.hid hp
  have HL := Lib.hid hl
  clear hH hcmp hk h1 hp hl h9 L hlim
  go_enter Tryd.func43, Tryd.ntmps43
  go_wp2_with (first | (go_at_call 59; refine HL.out.mono ?_; rintro e w' ⟨rfl, rfl⟩) | (go_at_call 58; refine HP.out.mono ?_; rintro e w' ⟨rfl, n, os, rfl⟩))
  go_end0
  exact ⟨rfl, _, n, os, H9.out.1, H9.out.2, rfl⟩
end Go.Proofs.YtgnlbmamolbcfaaDoor
