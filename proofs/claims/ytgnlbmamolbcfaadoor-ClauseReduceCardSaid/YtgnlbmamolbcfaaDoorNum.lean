/- The reference's Num and Text. -/
import Derived.Test.YtgnlbmamolbcfaaDoorTxtP
import Derived.Test.YtgnlbmamolbcfaaDoorClo
import Derived.Deep.RegionWith
set_option linter.unusedVariables false
namespace Go.Proofs.YtgnlbmamolbcfaaDoor
open Go.RowKit Go.Shelf

attribute [local go_sem] Oper.semAt_some

theorem u68 : Tryd.prog.underlying 68 = some (.slice 5) := by kernel_rfl
theorem u5 : Tryd.prog.underlying 5 = some (.int .u8) := by kernel_rfl
theorem u9 : Tryd.prog.underlying 9 = some .string := by kernel_rfl
theorem conv1 (W : World) (b v : Nat) (hv : v < 256) (hc : W.cell? ⟨b, 0, none⟩ = some (.int .u8 v)) : (convert 68 9 (.slice (some ⟨b, 0, none⟩) 1 1)).run Tryd.prog W = .ok (.string ⟨#[UInt8.ofNat v]⟩) W := by
  refine run_convert_bytes_back W 68 9 5 ⟨b, 0, none⟩ 1 [UInt8.ofNat v] u68 u5 u9 fun j hj => ?_
  obtain rfl : j = 0 := by simpa using hj
  rw [add_mk]
  rw [show 0 + 0 = 0 from rfl, hc]
  simp only [List.getElem_cons_zero]
  rw [UInt8.toNat_ofNat', Nat.mod_eq_of_lt hv]
theorem dig_len (q : Nat) (h : q < 1000000) : (Lib.decDigits q).length ≤ 7 := by
  rw [Lib.decDigits_length]
  have key : ∀ k q, q < 10 ^ k → Lib.nDigits q ≤ k + 1 := fun k => by
    induction k with
    | zero => intro q hq; rw [Lib.nDigits_small (by omega)]; exact Nat.le_refl _
    | succ k ih =>
      intro q hq
      rw [Lib.nDigits]
      split
      · omega
      · have := ih (q / 10) (by rw [Nat.pow_succ] at hq; omega)
        omega
  exact key 6 q (by omega)
set_option maxRecDepth 100000 in
set_option maxHeartbeats 1000000 in
theorem num_any (u : Nat) (hu : u < 1000000) : ∀ (w : World), Calls Tryd.prog 41 #[.int .i64 u] w fun e w' => e = .returned (.string ⟨(Lib.decDigits u).toArray⟩) ∧ Gr w w' := by
  induction u using Nat.strongRecOn with
  | ind u ih =>
    intro w
    by_cases h : u < 10
    · have hd : Hid (Lib.decDigits u = [UInt8.ofNat (48 + u)]) := Lib.decDigits_one h
      have hcv := conv1 (w.alloc (.cells #[.int .u8 (48 + u)] 5)) w.heap.size (48 + u) (by omega) (((Bk.made w 5 #[.int .u8 (48 + u)]).cell 0).trans (by simp))
      have HG := Lib.hid ((Gr.refl w).alloc (.cells #[.int .u8 (48 + u)] 5))
      have hgl := HG.out.size
      obtain ⟨sb, hsb⟩ : ∃ sb : ByteArray, sb = ⟨#[UInt8.ofNat (48 + u)]⟩ := ⟨_, rfl⟩
      rw [← hsb] at hcv
      rw [hd.out, show (⟨([UInt8.ofNat (48 + u)] : List UInt8).toArray⟩ : ByteArray) = sb from hsb.symm]
      clear ih hsb
      go_enter Tryd.func41, Tryd.ntmps41
      go_wp2
      go_ret
      exact ⟨rfl, HG.out⟩
    · have hd : Hid (Lib.decDigits u = Lib.decDigits (u / 10) ++ [UInt8.ofNat (48 + u % 10)]) := by rw [Lib.decDigits, dif_neg h]; exact rfl
      have HI := Lib.hid (ih (u / 10) (by omega) (by omega))
      obtain ⟨r, hr⟩ : ∃ r, r = u % 10 := ⟨_, rfl⟩
      obtain ⟨q, hq⟩ : ∃ q, q = u / 10 := ⟨_, rfl⟩
      have hr9 : r < 10 := by omega
      have hq9 : q < 1000000 := by omega
      have hq3 : Int.tdiv (u : Int) 10 = q := by rw [Int.tdiv_eq_ediv_of_nonneg (by omega)]; omega
      have hq4 : Int.tmod (u : Int) 10 = r := by rw [Int.tmod_eq_emod_of_nonneg (by omega)]; omega
      rw [← hr, ← hq] at hd
      rw [← hq] at HI
      obtain ⟨sb, hsb⟩ : ∃ sb : ByteArray, sb = ⟨#[UInt8.ofNat (48 + r)]⟩ := ⟨_, rfl⟩
      obtain ⟨sq, hsq⟩ : ∃ sq : ByteArray, sq = ⟨(Lib.decDigits q).toArray⟩ := ⟨_, rfl⟩
      have hcv := conv1 (w.alloc (.cells #[.int .u8 (48 + r)] 5)) w.heap.size (48 + r) (by omega) (((Bk.made w 5 #[.int .u8 (48 + r)]).cell 0).trans (by simp))
      have hcv0 := conv1 ((w.alloc (.cells #[.int .u8 (48 + r)] 5)).drew) w.heap.size (48 + r) (by omega) (((Bk.made w 5 #[.int .u8 (48 + r)]).cell 0).trans (by simp))
      have hcv9 := conv1 (w.drew.alloc (.cells #[.int .u8 (48 + r)] 5)) w.heap.size (48 + r) (by omega) (((Bk.made w.drew 5 #[.int .u8 (48 + r)]).cell 0).trans (by simp))
      have hw1 : IntKind.i64.wrap (q : Int) = q := IntWalk.i64_in _ (by omega)
      have hw2 : IntKind.i64.wrap (48 + (r : Int)) = 48 + r := IntWalk.i64_in _ (by omega)
      have hw3 : IntKind.u8.wrap (48 + (r : Int)) = 48 + r := IntWalk.u8_in _ (by omega)
      have HG := Lib.hid ((Gr.refl w).alloc (.cells #[.int .u8 (48 + r)] 5))
      have HC1 : Hid (∀ w2, Gr (w.alloc (.cells #[.int .u8 (48 + r)] 5)).drew w2 → (convert 68 9 (.slice (some ⟨w.heap.size, 0, none⟩) 1 1)).run Tryd.prog w2 = .ok (.string ⟨#[UInt8.ofNat (48 + r)]⟩) w2) := fun w2 G2 => conv1 w2 w.heap.size (48 + r) (by omega) (((G2.fr.bk (Bk.made w 5 #[.int .u8 (48 + r)]) id).cell 0).trans (by simp))
      have HC2 : Hid (∀ w2 : World, (convert 68 9 (.slice (some ⟨w2.heap.size, 0, none⟩) 1 1)).run Tryd.prog (w2.alloc (.cells #[.int .u8 (48 + r)] 5)) = .ok (.string ⟨#[UInt8.ofNat (48 + r)]⟩) (w2.alloc (.cells #[.int .u8 (48 + r)] 5))) := fun w2 => conv1 (w2.alloc (.cells #[.int .u8 (48 + r)] 5)) w2.heap.size (48 + r) (by omega) (((Bk.made w2 5 #[.int .u8 (48 + r)]).cell 0).trans (by simp))
      have HR : Hid ((⟨(Lib.decDigits u).toArray⟩ : ByteArray) = sq ++ sb) := by
        rw [hd.out, hsq, hsb]
        exact ByteArray.ext (by rw [ByteArray.data_append]; simp)
      have hsz : sq.size + sb.size ≤ 9223372036854775807 := by
        have h1 : sq.size ≤ 7 := by
          rw [hsq]
          exact dig_len q hq9
        have h2 : sb.size = 1 := by rw [hsb]; rfl
        omega
      rw [← hsb] at hcv hcv0 hcv9 HC1 HC2
      rw [← hsq] at HI
      rw [HR.out]
      have HD : Hid (Gr w w.drew) := (Gr.refl w).no (Fr.drew _ _)
      have HD2 : Hid (Gr w (w.alloc (.cells #[.int .u8 (48 + r)] 5)).drew) := HG.out.no (Fr.drew _ _)
      clear ih hr hq hsb hsq hd HR
      go_enter Tryd.func41, Tryd.ntmps41
      go_wp2
      go_region_with (go_at_call 41; refine (HI.out _).mono ?_; rintro e w2 ⟨rfl, G2⟩; have HG2 := Lib.hid G2; (try (have hcv2 := HC1.out w2 G2)); have hcv3 := HC2.out w2; clear G2)
      all_goals go_wp2
      all_goals go_ret
      all_goals first
        | exact ⟨rfl, (HD.out.trans HG2.out).alloc _⟩
        | exact ⟨rfl, HD2.out.trans HG2.out⟩
end Go.Proofs.YtgnlbmamolbcfaaDoor
