/- WorklistSorts: the walk. -/
import Derived.Test.YtnepkpcoglfejaaEnv
import Derived.Test.YtnepkpcoglfejaaSortsP
import Derived.IntWalk
namespace Go.Proofs.Ytnepkpcoglfejaa
open Go.RowKit Go.Sort Go.Shelf

/-- What holds at the head of a round of the second loop. -/
structure So (w0 w : World) (p q : Nat) (hv : Value) (ks : List Int) (n t : Nat) (l1 l2 : Int) : Prop where
  en : EnA w0 w p hv ((ent ks n).drop t) n
  bx : Bk w q 27 #[.int .i64 l1, .int .i64 l2]
  la : 0 < t → ∃ m, (ent ks n)[t - 1]? = some ((l1, l2), m)
  hq : w0.heap.size ≤ q

set_option maxRecDepth 100000 in
set_option maxHeartbeats 1000000 in
theorem law_sorts (A : Option Addr) (n c : Nat) (ks : List Int) (w : World) (hn : ks.length = n) (hc : n ≤ c) (hs : Sees w w.heap.size A (ks.map (Value.int .i64))) :
    Calls Try.prog 3 #[.slice A n c] w fun e w' => e = .returned (.bool true) ∧ Below w.heap.size w w' := by
  have HS := Lib.hid hs
  have HN := Lib.hid hn
  clear hs hn
  go_enter Try.func3, Try.ntmps3
  go_wp2_with fail
  refine (awake_any w).mono ?_
  rintro e w1 ⟨rfl, hb1⟩
  have G1 := Lib.hid (Gr.of hb1)
  clear hb1
  by_cases h100 : 100 < n
  · go_wp2
    go_ret
    exact ⟨rfl, G1.out.below⟩
  go_wp2_with fail
  refine (e_newA G1.out).mono ?_
  rintro e w2 ⟨rfl, E2, F2⟩
  have hw1 := G1.out.size
  replace E2 := Lib.hid E2
  clear F2 G1
  generalize w1.heap.size = p at *
  go_wp2_with fail
  go_loopw [18] (fun i wr => ∃ t hv, i = .int .i64 (t : Nat) ∧ t ≤ n ∧ Hid (EnA w wr p hv (ent ks t) t)) (fun i _ => n - (intOf i).toNat)
  case atStart => exact ⟨0, _, rfl, Nat.zero_le _, E2⟩
  case round =>
    obtain ⟨t, hv, rfl, ht, hE⟩ := hrel
    by_cases htn : t < n
    · obtain ⟨k, hk⟩ : ∃ k, ks[t]? = some k := ⟨_, List.getElem?_eq_getElem (by rw [HN.out]; omega)⟩
      obtain ⟨ad, rfl, hab, hac⟩ := HS.out t (.int .i64 k) (by rw [List.getElem?_map, hk]; rfl)
      have cx : wr.cell? (ad.add t) = some (.int .i64 k) := (World.cell?_of_block (hE.out.gr.below.block _ (by rw [add_blk]; exact hab))).trans hac
      have hP := e_pushA hE.out (k, (t : Int)) (by rw [ent_len]; omega) (by omega)
      have hg : ks.getD t 0 = k := by rw [List.getD_eq_getElem?_getD, hk]; rfl
      have HEN : Hid (ent ks (t + 1) = ins (bfr ltA) ((k, (t : Int)), (t : Int)) (ent ks t)) := by rw [ent, hg]; exact rfl
      have HP := Lib.hid hP
      clear hP hk hac hg
      go_wp2_with fail
      refine HP.out.mono ?_
      rintro e w3 ⟨rfl, hv', E3, _, _⟩
      rw [← HEN.out] at E3
      replace E3 := Lib.hid E3
      go_wp2
      go_roundw
      case rel => exact ⟨t + 1, hv', by go_num, by omega, E3⟩
      case measure => simp [intOf]; omega
    · obtain rfl : t = n := by omega
      have hst : So w (wr.alloc (.cells #[.int .i64 0, .int .i64 0] 27)) p wr.heap.size hv ks t 0 0 0 := ⟨hE.out.alloc _, Bk.made _ _ _, fun h => by omega, hE.out.gr.size⟩
      have HSR : Hid (Srt (bfr ltA) (ent ks t)) := by
        obtain ⟨hs, _, h2⟩ := hE.out.wl
        exact h2.srt
      replace hst := Lib.hid hst
      clear hE htn ht E2
      go_wp2_with fail
      generalize wr.heap.size = q at *
      generalize wr.alloc (.cells #[.int .i64 0, .int .i64 0] 27) = w5 at *
      go_loopw [32] (fun i wx => ∃ i' hv l1 l2, i = .int .i64 (i' : Nat) ∧ i' ≤ t ∧ Hid (So w wx p q hv ks t i' l1 l2)) (fun i _ => t - (intOf i).toNat)
      case atStart => exact ⟨0, _, _, _, rfl, Nat.zero_le _, hst⟩
      case round =>
        obtain ⟨i, hv, l1, l2, rfl, hi, hS⟩ := hrel
        by_cases hit : i < t
        · obtain ⟨x, hx⟩ : ∃ x, (ent ks t)[i]? = some x := ⟨_, List.getElem?_eq_getElem (by rw [ent_len]; omega)⟩
          have hd : (ent ks t).drop i = x :: (ent ks t).drop (i + 1) := by
            obtain ⟨h9, h8⟩ := List.getElem?_eq_some_iff.1 hx
            rw [List.drop_eq_getElem_cons h9, h8]
          have hnx : Hid (0 < i → l1 < x.1.1 ∨ (l1 = x.1.1 ∧ l2 < x.1.2)) := fun h0 => by
            obtain ⟨m, hm⟩ := hS.out.la h0
            have := ent_next HSR.out hm (by rw [Nat.sub_add_cancel h0]; exact hx)
            exact this
          obtain ⟨j, hj, rfl⟩ := ent_at hx
          obtain ⟨k, hk⟩ : ∃ k, ks[j]? = some k := ⟨_, List.getElem?_eq_getElem (by rw [HN.out]; omega)⟩
          have hg : ks.getD j 0 = k := by rw [List.getD_eq_getElem?_getD, hk]; rfl
          rw [hg] at hd hx hnx
          have hP := e_popA hS.out.en (by rw [List.length_drop, ent_len]; omega)
          have hty := hS.out.en
          rw [hd] at hP
          obtain ⟨ad, rfl, hab, hac⟩ := HS.out j (.int .i64 k) (by rw [List.getElem?_map, hk]; rfl)
          have HP : Hid (Calls Try.prog 13 #[.pointer (some ⟨p, 0, none⟩)] wr fun e w' => e = .returned (.tuple #[.agg #[.int .i64 k, .int .i64 j], .bool true]) ∧ ∃ hv', EnA w w' p hv' ((ent ks t).drop (i + 1)) t ∧ Bk w' q 27 #[.int .i64 l1, .int .i64 l2]) := by
            refine hP.mono ?_
            rintro e w' ⟨rfl, hv', h1, h2, h3⟩
            exact ⟨rfl, hv', h1, h3.bk hS.out.bx fun hb => by rcases hS.out.en.ty hb hS.out.bx with h | h <;> cases h⟩
          have HX := Lib.hid hx
          have HQ := Lib.hid hS.out.hq
          have hjt : (j : Int) < t := by omega
          clear hP hty hS hd hx hg hk
          go_wp2_with fail
          refine HP.out.mono ?_
          rintro e w6 ⟨rfl, hv', E6, b6⟩
          have hql : q < w6.heap.size := b6.lt
          have cx : w6.cell? (ad.add j) = some (.int .i64 k) := (World.cell?_of_block (E6.gr.below.block _ (by rw [add_blk]; exact hab))).trans hac
          have hal : ad.block < w6.heap.size := Nat.lt_of_lt_of_le hab E6.gr.size
          have E7 := E6.alloc (.cells #[.int .i64 k, .int .i64 j] 27)
          have b7 := b6.alloc (.cells #[.int .i64 k, .int .i64 j] 27)
          have HLE : Hid (∀ q, Calls Try.prog 14 #[.pointer (some ⟨p, 0, none⟩)] ((w6.alloc (.cells #[.int .i64 k, .int .i64 j] 27)).drewN q) fun e w' => e = .returned (.int .i64 ((t : Int) - 1 - i)) ∧ w' = (w6.alloc (.cells #[.int .i64 k, .int .i64 j] 27)).drewN q) := fun q => by
            have := e_lenQ E7 q
            rw [List.length_drop, ent_len, show ((t - (i + 1) : Nat) : Int) = (t : Int) - 1 - i by omega] at this
            exact this
          have cq1 : w6.cell? ⟨q, 0, none⟩ = some (.int .i64 l1) := (b6.cell 0).trans rfl
          have cq2 : w6.cell? ⟨q, 1, none⟩ = some (.int .i64 l2) := (b6.cell 1).trans rfl
          have fq1 := b6.frozen 0
          have fq2 := b6.frozen 1
          replace E7 := Lib.hid E7
          replace b7 := Lib.hid b7
          clear E6 b6 HP hac
          go_wp2_with fail
          have c8 := Bk.made w6 27 #[.int .i64 k, .int .i64 j]
          have c81 : (w6.alloc (.cells #[.int .i64 k, .int .i64 j] 27)).cell? ⟨w6.heap.size, 0, none⟩ = some (.int .i64 k) := (c8.cell 0).trans rfl
          have c82 : (w6.alloc (.cells #[.int .i64 k, .int .i64 j] 27)).cell? ⟨w6.heap.size, 1, none⟩ = some (.int .i64 j) := (c8.cell 1).trans rfl
          have cx7 : (w6.alloc (.cells #[.int .i64 k, .int .i64 j] 27)).cell? (ad.add j) = some (.int .i64 k) := (World.cell?_of_block (Below.heap_alloc _ _ _ (by rw [add_blk]; exact hal))).trans cx
          have cr1 : (w6.alloc (.cells #[.int .i64 k, .int .i64 j] 27)).cell? ⟨q, 0, none⟩ = some (.int .i64 l1) := (b7.out.cell 0).trans rfl
          have cr2 : (w6.alloc (.cells #[.int .i64 k, .int .i64 j] 27)).cell? ⟨q, 1, none⟩ = some (.int .i64 l2) := (b7.out.cell 1).trans rfl
          have fr1 := b7.out.frozen 0
          have fr2 := b7.out.frozen 1
          have hne8 : q ≠ w6.heap.size := by omega
          clear cq1 cq2 fq1 fq2 cx hal hql c8
          generalize w6.heap.size = g8 at *
          generalize w6.alloc (.cells #[.int .i64 k, .int .i64 j] 27) = w7 at *
          have hw1' : IntKind.i64.wrap ((t : Int) - 1) = (t : Int) - 1 := IntWalk.i64_in _ (by omega)
          have hw2' : IntKind.i64.wrap ((t : Int) - 1 - i) = (t : Int) - 1 - i := IntWalk.i64_in _ (by omega)
          have hj0 : ¬ (j : Int) < 0 := by omega
          have hjt' : ¬ (t : Int) ≤ j := by omega
          go_quiet ((go_at_call 14; exact Calls.quiet_of_same (HLE.out _)))
          clear hw1' hw2' HLE cx7 hj0 hjt'
          have HSo : Hid (So w ((w7.drewN nq).setCell ⟨q, 0, none⟩ (.int .i64 k) |>.setCell ⟨q, 1, none⟩ (.int .i64 j)) p q hv' ks t (i + 1) k j) := by
            have E8 := E7.out.drewN nq
            have b8 : Bk (w7.drewN nq) q 27 #[.int .i64 l1, .int .i64 l2] := b7.out
            have F8 : Fr (fun b => b = q) (w7.drewN nq) ((w7.drewN nq).setCell ⟨q, 0, none⟩ (.int .i64 k) |>.setCell ⟨q, 1, none⟩ (.int .i64 j)) := (Fr.set (X := fun b => b = q) _ _ _ rfl).trans (Fr.set (X := fun b => b = q) _ _ _ rfl)
            refine ⟨E8.fr F8 (fun b _ e => by rw [e]; exact HQ.out) fun b hb e => ?_, (b8.put 0 _).put 1 _, fun _ => ⟨_, HX.out⟩, HQ.out⟩
            subst e
            rcases E8.ty hb b8 with h | h <;> cases h
          have hnx' := hnx.out
          clear E7 b7 HX hnx
          by_cases hi0 : 0 < i
          · rcases hnx' hi0 with h1 | ⟨h1, h2⟩
            · have e1 : ¬ k < l1 := by omega
              have e2 : (k == l1) = false := by simp; omega
              clear hnx'
              go_wp2
              go_roundw
              case rel => exact ⟨i + 1, _, _, _, by go_num, by omega, HSo⟩
              case measure => simp [intOf]; omega
            · subst h1
              have e1 : ¬ l1 < l1 := by omega
              have e2 : ¬ (j : Int) ≤ l2 := by omega
              clear hnx'
              go_wp2
              go_roundw
              case rel => exact ⟨i + 1, _, _, _, by go_num, by omega, HSo⟩
              case measure => simp [intOf]; omega
          · obtain rfl : i = 0 := by omega
            clear hnx'
            go_wp2
            go_roundw
            case rel => exact ⟨0 + 1, _, _, _, by go_num, by omega, HSo⟩
            case measure => simp [intOf]; omega
        · go_wp2
          go_ret
          exact ⟨rfl, hS.out.en.gr.below⟩
end Go.Proofs.Ytnepkpcoglfejaa
