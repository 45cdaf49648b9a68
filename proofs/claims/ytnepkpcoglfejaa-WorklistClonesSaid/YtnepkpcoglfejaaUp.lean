/- up. -/
import Derived.Test.YtnepkpcoglfejaaLs
namespace Go.Proofs.Ytnepkpcoglfejaa
open Go.RowKit

section
variable {ok : (Int × Int) → Prop} {lt : (Int × Int) → (Int × Int) → Bool} {fv : Value} {c : Nat → Prop} {J : Nat → World → Prop} {R : World → World → Prop}
set_option maxRecDepth 100000 in
set_option maxHeartbeats 1600000 in
theorem upA (L : Lc Try.prog encXA ok lt fv c J R) (p B g cp N : Nat) (hs0 : List ((Int × Int) × Int)) (i0 k0 : Nat) (w : World) (hl : LsA w p B fv (.slice (some ⟨g, 0, none⟩) hs0.length cp) N hs0) (hp : ¬ c p) (hg : ¬ c g) (ho : ∀ e ∈ hs0, ok e.1) (hn : hs0.length ≤ 1000000) (hi0 : i0 < hs0.length) (hu : UpI (bfr lt) hs0 i0) (hJ : J k0 w) :
    Calls Try.prog 37 #[.pointer (some ⟨p, 0, none⟩), .int .i64 i0] w fun e w' => e = .returned (.tuple #[]) ∧ ∃ hs, LsA w' p B fv (.slice (some ⟨g, 0, none⟩) hs.length cp) N hs ∧ hs.Perm hs0 ∧ HeapOk (bfr lt) hs ∧ J (k0 + 2 * dg i0) w' ∧ Fr (fun b => c b ∨ b = g) w w' := by
  have HLC := Lib.hid L
  clear L
  go_enter Try.func37, Try.ntmps37
  go_wp2
  go_loopw [1] (fun v wr => ∃ i hs k, v = .int .i64 (i : Nat) ∧ i < hs0.length ∧ hs.length = hs0.length ∧ LsA wr p B fv (.slice (some ⟨g, 0, none⟩) hs0.length cp) N hs ∧ hs.Perm hs0 ∧ UpI (bfr lt) hs i ∧ J k wr ∧ k + 2 * dg i ≤ k0 + 2 * dg i0 ∧ Fr (fun b => c b ∨ b = g) w wr) (fun v _ => (intOf v).toNat)
  case atStart => exact ⟨i0, hs0, k0, rfl, hi0, rfl, hl, .refl _, hu, hJ, Nat.le_refl _, Fr.refl _ _⟩
  case round =>
    obtain ⟨i, hs, k, rfl, hi, hlen, hL, hpm, hU, hj, hk, hF⟩ := hrel
    by_cases h0 : 0 < i
    · obtain ⟨a, ha⟩ : ∃ a, hs[i]? = some a := ⟨_, List.getElem?_eq_getElem (by omega)⟩
      obtain ⟨b, hb⟩ : ∃ b, hs[(i - 1) / 2]? = some b := ⟨_, List.getElem?_eq_getElem (by omega)⟩
      obtain ⟨q, hq⟩ : ∃ q, (i - 1) / 2 = q := ⟨_, rfl⟩
      rw [hq] at hb
      have hqi : q < i := by omega
      have hq1 : ((i : Int) - 1).tdiv 2 = (q : Int) := by rw [Int.tdiv_eq_ediv_of_nonneg (by omega)]; omega
      have oka : ok a.1 := ho a (hpm.mem_iff.1 (List.mem_of_getElem? ha))
      have okb : ok b.1 := ho b (hpm.mem_iff.1 (List.mem_of_getElem? hb))
      have HB := Lib.hid (beforeA HLC.out p _ _ a b k wr.drew hL.hd hp oka okb (HLC.out.jdrew hj))
      have HA := Lib.hid ha
      have HBB := Lib.hid hb
      have HLL := Lib.hid hL
      have h1 := hL.hd
      have h2 := hL.row
      rw [hlen] at h2
      obtain ⟨⟨a1, a2⟩, an⟩ := a
      obtain ⟨⟨b1, b2⟩, bn⟩ := b
      have ch : wr.cell? ⟨p, 1, none⟩ = some (.slice (some ⟨g, 0, none⟩) hs0.length cp) := (h1.cell 1).trans rfl
      have ca1 : wr.cell? ⟨g, i * 3, none⟩ = some (.int .i64 a1) := row_cell (F := encEA) (k := 3) (j := 0) (fun _ => rfl) h2 ha (by decide)
      have ca2 : wr.cell? ⟨g, i * 3 + 1, none⟩ = some (.int .i64 a2) := row_cell (F := encEA) (k := 3) (j := 1) (fun _ => rfl) h2 ha (by decide)
      have ca3 : wr.cell? ⟨g, i * 3 + 2, none⟩ = some (.int .i64 an) := row_cell (F := encEA) (k := 3) (j := 2) (fun _ => rfl) h2 ha (by decide)
      have cb1 : wr.cell? ⟨g, q * 3, none⟩ = some (.int .i64 b1) := row_cell (F := encEA) (k := 3) (j := 0) (fun _ => rfl) h2 hb (by decide)
      have cb2 : wr.cell? ⟨g, q * 3 + 1, none⟩ = some (.int .i64 b2) := row_cell (F := encEA) (k := 3) (j := 1) (fun _ => rfl) h2 hb (by decide)
      have cb3 : wr.cell? ⟨g, q * 3 + 2, none⟩ = some (.int .i64 bn) := row_cell (F := encEA) (k := 3) (j := 2) (fun _ => rfl) h2 hb (by decide)
      have HH : Hid (hs.length = hs0.length) := hlen
      clear h1 h2 hL ha hb hlen hl
      have hq2 : q < hs0.length := by omega
      go_wp2_with fail
      go_still_tail 15, (by kernel_rfl)
      change wpList _ _ _ _ _ wr.drew
      go_wp2_with fail
      refine HB.out.mono ?_
      rintro e w3 ⟨rfl, j3, r3⟩
      have F3 : Fr c wr w3 := (Fr.drew c wr).trans (HLC.out.fr r3)
      have hL3 : LsA w3 p B fv (.slice (some ⟨g, 0, none⟩) hs0.length cp) N hs := ⟨F3.bk HLL.out.hd hp, rw_keep HLL.out.row fun b e => by
        cases e
        exact F3.keep g (rw_lt HLL.out.row g rfl).2 hg⟩
      have hF3 : Fr (fun b => c b ∨ b = g) w w3 := hF.trans (F3.wide fun _ _ h => .inl h)
      clear F3 r3 ch ca1 ca2 ca3 cb1 cb2 cb3 HB HLL hF hj
      generalize hx : bfr lt ((a1, a2), an) ((b1, b2), bn) = x
      have hdg := dg_up h0
      rw [hq] at hdg
      cases x
      · go_wp2
        refine bodyPost_ret (results_none rfl _ _ _) rfl ?_
        refine ⟨rfl, hs, ?_⟩
        rw [HH.out]
        exact ⟨hL3, hpm, hU.stop HA.out (by rw [hq]; exact HBB.out) hx, HLC.out.mono j3 (by omega), hF3⟩
      · have HL3 := Lib.hid hL3
        have h1 := hL3.hd
        have h2 := hL3.row
        rw [HH.out] at h2
        have hgb : ∃ cur, Bk w3 g 73 cur := rw_bk h2 g rfl
        have hfz : ∀ j, w3.frozen? ⟨g, j, none⟩ = false := fun j => by obtain ⟨cur, hh⟩ := hgb; exact hh.frozen j
        have ch : w3.cell? ⟨p, 1, none⟩ = some (.slice (some ⟨g, 0, none⟩) hs0.length cp) := (h1.cell 1).trans rfl
        have ca1 : w3.cell? ⟨g, i * 3, none⟩ = some (.int .i64 a1) := row_cell (F := encEA) (k := 3) (j := 0) (fun _ => rfl) h2 HA.out (by decide)
        have ca2 : w3.cell? ⟨g, i * 3 + 1, none⟩ = some (.int .i64 a2) := row_cell (F := encEA) (k := 3) (j := 1) (fun _ => rfl) h2 HA.out (by decide)
        have ca3 : w3.cell? ⟨g, i * 3 + 2, none⟩ = some (.int .i64 an) := row_cell (F := encEA) (k := 3) (j := 2) (fun _ => rfl) h2 HA.out (by decide)
        have cb1 : w3.cell? ⟨g, q * 3, none⟩ = some (.int .i64 b1) := row_cell (F := encEA) (k := 3) (j := 0) (fun _ => rfl) h2 HBB.out (by decide)
        have cb2 : w3.cell? ⟨g, q * 3 + 1, none⟩ = some (.int .i64 b2) := row_cell (F := encEA) (k := 3) (j := 1) (fun _ => rfl) h2 HBB.out (by decide)
        have cb3 : w3.cell? ⟨g, q * 3 + 2, none⟩ = some (.int .i64 bn) := row_cell (F := encEA) (k := 3) (j := 2) (fun _ => rfl) h2 HBB.out (by decide)
        have fa1 := hfz (i * 3)
        have fa2 := hfz (i * 3 + 1)
        have fa3 := hfz (i * 3 + 2)
        have fb1 := hfz (q * 3)
        have fb2 := hfz (q * 3 + 1)
        have fb3 := hfz (q * 3 + 2)
        clear hgb hfz h1 h2 hL3
        go_wp2_with fail
        go_region
        change Exit.then _ _ _ _ (putA (putA w3 g i ((b1, b2), bn)) g q ((a1, a2), an)).drew
        have hS := HL3.out.swap HH.out HA.out HBB.out (by omega)
        have hSF : Fr (fun b => c b ∨ b = g) w3 (putA (putA w3 g i ((b1, b2), bn)) g q ((a1, a2), an)).drew := ((putA_fr (X := fun b => c b ∨ b = g) _ _ _ _ (.inr rfl)).trans (putA_fr (X := fun b => c b ∨ b = g) _ _ _ _ (.inr rfl))).trans (Fr.drew _ _)
        have hSJ : J (k + 2) (putA (putA w3 g i ((b1, b2), bn)) g q ((a1, a2), an)).drew := HLC.out.stay j3 fun b hb => by
          have hF : Fr (fun b => b = g) w3 (putA (putA w3 g i ((b1, b2), bn)) g q ((a1, a2), an)).drew := ((putA_fr (X := fun b => b = g) _ _ _ _ rfl).trans (putA_fr (X := fun b => b = g) _ _ _ _ rfl)).trans (Fr.drew _ _)
          exact hF.keep b (HLC.out.bnd j3 hb) (fun e => hg (e ▸ hb))
        clear ch ca1 ca2 ca3 cb1 cb2 cb3 fa1 fa2 fa3 fb1 fb2 fb3
        generalize (putA (putA w3 g i ((b1, b2), bn)) g q ((a1, a2), an)).drew = w4 at *
        go_wp2
        go_roundw
        case rel =>
          have hU2 := hU.step (bfr_ord HLC.out.ord) h0 HA.out (by rw [hq]; exact HBB.out) hx
          rw [hq] at hU2
          exact ⟨q, _, k + 2, rfl, hq2, by rw [List.length_set, List.length_set]; exact HH.out, hS, (sw_perm HA.out HBB.out).trans hpm, hU2, hSJ, by omega, hF3.trans hSF⟩
        case measure => simp [intOf]; omega
    · go_wp2
      go_end0
      obtain rfl : i = 0 := by omega
      refine ⟨rfl, hs, ?_⟩
      rw [hlen]
      exact ⟨hL, hpm, hU.stop0, HLC.out.mono hj (by omega), hF⟩
end
section
variable {ok : Int → Prop} {lt : Int → Int → Bool} {fv : Value} {c : Nat → Prop} {J : Nat → World → Prop} {R : World → World → Prop}
set_option maxRecDepth 100000 in
set_option maxHeartbeats 1600000 in
theorem upI (L : Lc Try.prog encXI ok lt fv c J R) (p B g cp N : Nat) (hs0 : List (Int × Int)) (i0 k0 : Nat) (w : World) (hl : LsI w p B fv (.slice (some ⟨g, 0, none⟩) hs0.length cp) N hs0) (hp : ¬ c p) (hg : ¬ c g) (ho : ∀ e ∈ hs0, ok e.1) (hn : hs0.length ≤ 1000000) (hi0 : i0 < hs0.length) (hu : UpI (bfr lt) hs0 i0) (hJ : J k0 w) :
    Calls Try.prog 41 #[.pointer (some ⟨p, 0, none⟩), .int .i64 i0] w fun e w' => e = .returned (.tuple #[]) ∧ ∃ hs, LsI w' p B fv (.slice (some ⟨g, 0, none⟩) hs.length cp) N hs ∧ hs.Perm hs0 ∧ HeapOk (bfr lt) hs ∧ J (k0 + 2 * dg i0) w' ∧ Fr (fun b => c b ∨ b = g) w w' := by
  have HLC := Lib.hid L
  clear L
  go_enter Try.func41, Try.ntmps41
  go_wp2
  go_loopw [1] (fun v wr => ∃ i hs k, v = .int .i64 (i : Nat) ∧ i < hs0.length ∧ hs.length = hs0.length ∧ LsI wr p B fv (.slice (some ⟨g, 0, none⟩) hs0.length cp) N hs ∧ hs.Perm hs0 ∧ UpI (bfr lt) hs i ∧ J k wr ∧ k + 2 * dg i ≤ k0 + 2 * dg i0 ∧ Fr (fun b => c b ∨ b = g) w wr) (fun v _ => (intOf v).toNat)
  case atStart => exact ⟨i0, hs0, k0, rfl, hi0, rfl, hl, .refl _, hu, hJ, Nat.le_refl _, Fr.refl _ _⟩
  case round =>
    obtain ⟨i, hs, k, rfl, hi, hlen, hL, hpm, hU, hj, hk, hF⟩ := hrel
    by_cases h0 : 0 < i
    · obtain ⟨a, ha⟩ : ∃ a, hs[i]? = some a := ⟨_, List.getElem?_eq_getElem (by omega)⟩
      obtain ⟨b, hb⟩ : ∃ b, hs[(i - 1) / 2]? = some b := ⟨_, List.getElem?_eq_getElem (by omega)⟩
      obtain ⟨q, hq⟩ : ∃ q, (i - 1) / 2 = q := ⟨_, rfl⟩
      rw [hq] at hb
      have hqi : q < i := by omega
      have hq1 : ((i : Int) - 1).tdiv 2 = (q : Int) := by rw [Int.tdiv_eq_ediv_of_nonneg (by omega)]; omega
      have oka : ok a.1 := ho a (hpm.mem_iff.1 (List.mem_of_getElem? ha))
      have okb : ok b.1 := ho b (hpm.mem_iff.1 (List.mem_of_getElem? hb))
      have HB := Lib.hid (beforeI HLC.out p _ _ a b k wr.drew hL.hd hp oka okb (HLC.out.jdrew hj))
      have HA := Lib.hid ha
      have HBB := Lib.hid hb
      have HLL := Lib.hid hL
      have h1 := hL.hd
      have h2 := hL.row
      rw [hlen] at h2
      obtain ⟨a1, an⟩ := a
      obtain ⟨b1, bn⟩ := b
      have ch : wr.cell? ⟨p, 1, none⟩ = some (.slice (some ⟨g, 0, none⟩) hs0.length cp) := (h1.cell 1).trans rfl
      have ca1 : wr.cell? ⟨g, i * 2, none⟩ = some (.int .i64 a1) := row_cell (F := encEI) (k := 2) (j := 0) (fun _ => rfl) h2 ha (by decide)
      have ca2 : wr.cell? ⟨g, i * 2 + 1, none⟩ = some (.int .i64 an) := row_cell (F := encEI) (k := 2) (j := 1) (fun _ => rfl) h2 ha (by decide)
      have cb1 : wr.cell? ⟨g, q * 2, none⟩ = some (.int .i64 b1) := row_cell (F := encEI) (k := 2) (j := 0) (fun _ => rfl) h2 hb (by decide)
      have cb2 : wr.cell? ⟨g, q * 2 + 1, none⟩ = some (.int .i64 bn) := row_cell (F := encEI) (k := 2) (j := 1) (fun _ => rfl) h2 hb (by decide)
      have HH : Hid (hs.length = hs0.length) := hlen
      clear h1 h2 hL ha hb hlen hl
      have hq2 : q < hs0.length := by omega
      go_wp2_with fail
      go_still_tail 15, (by kernel_rfl)
      change wpList _ _ _ _ _ wr.drew
      go_wp2_with fail
      refine HB.out.mono ?_
      rintro e w3 ⟨rfl, j3, r3⟩
      have F3 : Fr c wr w3 := (Fr.drew c wr).trans (HLC.out.fr r3)
      have hL3 : LsI w3 p B fv (.slice (some ⟨g, 0, none⟩) hs0.length cp) N hs := ⟨F3.bk HLL.out.hd hp, rw_keep HLL.out.row fun b e => by
        cases e
        exact F3.keep g (rw_lt HLL.out.row g rfl).2 hg⟩
      have hF3 : Fr (fun b => c b ∨ b = g) w w3 := hF.trans (F3.wide fun _ _ h => .inl h)
      clear F3 r3 ch ca1 ca2 cb1 cb2 HB HLL hF hj
      generalize hx : bfr lt (a1, an) (b1, bn) = x
      have hdg := dg_up h0
      rw [hq] at hdg
      cases x
      · go_wp2
        refine bodyPost_ret (results_none rfl _ _ _) rfl ?_
        refine ⟨rfl, hs, ?_⟩
        rw [HH.out]
        exact ⟨hL3, hpm, hU.stop HA.out (by rw [hq]; exact HBB.out) hx, HLC.out.mono j3 (by omega), hF3⟩
      · have HL3 := Lib.hid hL3
        have h1 := hL3.hd
        have h2 := hL3.row
        rw [HH.out] at h2
        have hgb : ∃ cur, Bk w3 g 79 cur := rw_bk h2 g rfl
        have hfz : ∀ j, w3.frozen? ⟨g, j, none⟩ = false := fun j => by obtain ⟨cur, hh⟩ := hgb; exact hh.frozen j
        have ch : w3.cell? ⟨p, 1, none⟩ = some (.slice (some ⟨g, 0, none⟩) hs0.length cp) := (h1.cell 1).trans rfl
        have ca1 : w3.cell? ⟨g, i * 2, none⟩ = some (.int .i64 a1) := row_cell (F := encEI) (k := 2) (j := 0) (fun _ => rfl) h2 HA.out (by decide)
        have ca2 : w3.cell? ⟨g, i * 2 + 1, none⟩ = some (.int .i64 an) := row_cell (F := encEI) (k := 2) (j := 1) (fun _ => rfl) h2 HA.out (by decide)
        have cb1 : w3.cell? ⟨g, q * 2, none⟩ = some (.int .i64 b1) := row_cell (F := encEI) (k := 2) (j := 0) (fun _ => rfl) h2 HBB.out (by decide)
        have cb2 : w3.cell? ⟨g, q * 2 + 1, none⟩ = some (.int .i64 bn) := row_cell (F := encEI) (k := 2) (j := 1) (fun _ => rfl) h2 HBB.out (by decide)
        have fa1 := hfz (i * 2)
        have fa2 := hfz (i * 2 + 1)
        have fb1 := hfz (q * 2)
        have fb2 := hfz (q * 2 + 1)
        clear hgb hfz h1 h2 hL3
        go_wp2_with fail
        go_region
        change Exit.then _ _ _ _ (putI (putI w3 g i (b1, bn)) g q (a1, an)).drew
        have hS := HL3.out.swap HH.out HA.out HBB.out (by omega)
        have hSF : Fr (fun b => c b ∨ b = g) w3 (putI (putI w3 g i (b1, bn)) g q (a1, an)).drew := ((putI_fr (X := fun b => c b ∨ b = g) _ _ _ _ (.inr rfl)).trans (putI_fr (X := fun b => c b ∨ b = g) _ _ _ _ (.inr rfl))).trans (Fr.drew _ _)
        have hSJ : J (k + 2) (putI (putI w3 g i (b1, bn)) g q (a1, an)).drew := HLC.out.stay j3 fun b hb => by
          have hF : Fr (fun b => b = g) w3 (putI (putI w3 g i (b1, bn)) g q (a1, an)).drew := ((putI_fr (X := fun b => b = g) _ _ _ _ rfl).trans (putI_fr (X := fun b => b = g) _ _ _ _ rfl)).trans (Fr.drew _ _)
          exact hF.keep b (HLC.out.bnd j3 hb) (fun e => hg (e ▸ hb))
        clear ch ca1 ca2 cb1 cb2 fa1 fa2 fb1 fb2
        generalize (putI (putI w3 g i (b1, bn)) g q (a1, an)).drew = w4 at *
        go_wp2
        go_roundw
        case rel =>
          have hU2 := hU.step (bfr_ord HLC.out.ord) h0 HA.out (by rw [hq]; exact HBB.out) hx
          rw [hq] at hU2
          exact ⟨q, _, k + 2, rfl, hq2, by rw [List.length_set, List.length_set]; exact HH.out, hS, (sw_perm HA.out HBB.out).trans hpm, hU2, hSJ, by omega, hF3.trans hSF⟩
        case measure => simp [intOf]; omega
    · go_wp2
      go_end0
      obtain rfl : i = 0 := by omega
      refine ⟨rfl, hs, ?_⟩
      rw [hlen]
      exact ⟨hL, hpm, hU.stop0, HLC.out.mono hj (by omega), hF⟩
end
section
variable {ok : ByteArray → Prop} {lt : ByteArray → ByteArray → Bool} {fv : Value} {c : Nat → Prop} {J : Nat → World → Prop} {R : World → World → Prop}
set_option maxRecDepth 100000 in
set_option maxHeartbeats 1600000 in
theorem upS (L : Lc Try.prog encXS ok lt fv c J R) (p B g cp N : Nat) (hs0 : List (ByteArray × Int)) (i0 k0 : Nat) (w : World) (hl : LsS w p B fv (.slice (some ⟨g, 0, none⟩) hs0.length cp) N hs0) (hp : ¬ c p) (hg : ¬ c g) (ho : ∀ e ∈ hs0, ok e.1) (hn : hs0.length ≤ 1000000) (hi0 : i0 < hs0.length) (hu : UpI (bfr lt) hs0 i0) (hJ : J k0 w) :
    Calls Try.prog 53 #[.pointer (some ⟨p, 0, none⟩), .int .i64 i0] w fun e w' => e = .returned (.tuple #[]) ∧ ∃ hs, LsS w' p B fv (.slice (some ⟨g, 0, none⟩) hs.length cp) N hs ∧ hs.Perm hs0 ∧ HeapOk (bfr lt) hs ∧ J (k0 + 2 * dg i0) w' ∧ Fr (fun b => c b ∨ b = g) w w' := by
  have HLC := Lib.hid L
  clear L
  go_enter Try.func53, Try.ntmps53
  go_wp2
  go_loopw [1] (fun v wr => ∃ i hs k, v = .int .i64 (i : Nat) ∧ i < hs0.length ∧ hs.length = hs0.length ∧ LsS wr p B fv (.slice (some ⟨g, 0, none⟩) hs0.length cp) N hs ∧ hs.Perm hs0 ∧ UpI (bfr lt) hs i ∧ J k wr ∧ k + 2 * dg i ≤ k0 + 2 * dg i0 ∧ Fr (fun b => c b ∨ b = g) w wr) (fun v _ => (intOf v).toNat)
  case atStart => exact ⟨i0, hs0, k0, rfl, hi0, rfl, hl, .refl _, hu, hJ, Nat.le_refl _, Fr.refl _ _⟩
  case round =>
    obtain ⟨i, hs, k, rfl, hi, hlen, hL, hpm, hU, hj, hk, hF⟩ := hrel
    by_cases h0 : 0 < i
    · obtain ⟨a, ha⟩ : ∃ a, hs[i]? = some a := ⟨_, List.getElem?_eq_getElem (by omega)⟩
      obtain ⟨b, hb⟩ : ∃ b, hs[(i - 1) / 2]? = some b := ⟨_, List.getElem?_eq_getElem (by omega)⟩
      obtain ⟨q, hq⟩ : ∃ q, (i - 1) / 2 = q := ⟨_, rfl⟩
      rw [hq] at hb
      have hqi : q < i := by omega
      have hq1 : ((i : Int) - 1).tdiv 2 = (q : Int) := by rw [Int.tdiv_eq_ediv_of_nonneg (by omega)]; omega
      have oka : ok a.1 := ho a (hpm.mem_iff.1 (List.mem_of_getElem? ha))
      have okb : ok b.1 := ho b (hpm.mem_iff.1 (List.mem_of_getElem? hb))
      have HB := Lib.hid (beforeS HLC.out p _ _ a b k wr.drew hL.hd hp oka okb (HLC.out.jdrew hj))
      have HA := Lib.hid ha
      have HBB := Lib.hid hb
      have HLL := Lib.hid hL
      have h1 := hL.hd
      have h2 := hL.row
      rw [hlen] at h2
      obtain ⟨a1, an⟩ := a
      obtain ⟨b1, bn⟩ := b
      have ch : wr.cell? ⟨p, 1, none⟩ = some (.slice (some ⟨g, 0, none⟩) hs0.length cp) := (h1.cell 1).trans rfl
      have ca1 : wr.cell? ⟨g, i * 2, none⟩ = some (.string a1) := row_cell (F := encES) (k := 2) (j := 0) (fun _ => rfl) h2 ha (by decide)
      have ca2 : wr.cell? ⟨g, i * 2 + 1, none⟩ = some (.int .i64 an) := row_cell (F := encES) (k := 2) (j := 1) (fun _ => rfl) h2 ha (by decide)
      have cb1 : wr.cell? ⟨g, q * 2, none⟩ = some (.string b1) := row_cell (F := encES) (k := 2) (j := 0) (fun _ => rfl) h2 hb (by decide)
      have cb2 : wr.cell? ⟨g, q * 2 + 1, none⟩ = some (.int .i64 bn) := row_cell (F := encES) (k := 2) (j := 1) (fun _ => rfl) h2 hb (by decide)
      have HH : Hid (hs.length = hs0.length) := hlen
      clear h1 h2 hL ha hb hlen hl
      have hq2 : q < hs0.length := by omega
      go_wp2_with fail
      go_still_tail 15, (by kernel_rfl)
      change wpList _ _ _ _ _ wr.drew
      go_wp2_with fail
      refine HB.out.mono ?_
      rintro e w3 ⟨rfl, j3, r3⟩
      have F3 : Fr c wr w3 := (Fr.drew c wr).trans (HLC.out.fr r3)
      have hL3 : LsS w3 p B fv (.slice (some ⟨g, 0, none⟩) hs0.length cp) N hs := ⟨F3.bk HLL.out.hd hp, rw_keep HLL.out.row fun b e => by
        cases e
        exact F3.keep g (rw_lt HLL.out.row g rfl).2 hg⟩
      have hF3 : Fr (fun b => c b ∨ b = g) w w3 := hF.trans (F3.wide fun _ _ h => .inl h)
      clear F3 r3 ch ca1 ca2 cb1 cb2 HB HLL hF hj
      generalize hx : bfr lt (a1, an) (b1, bn) = x
      have hdg := dg_up h0
      rw [hq] at hdg
      cases x
      · go_wp2
        refine bodyPost_ret (results_none rfl _ _ _) rfl ?_
        refine ⟨rfl, hs, ?_⟩
        rw [HH.out]
        exact ⟨hL3, hpm, hU.stop HA.out (by rw [hq]; exact HBB.out) hx, HLC.out.mono j3 (by omega), hF3⟩
      · have HL3 := Lib.hid hL3
        have h1 := hL3.hd
        have h2 := hL3.row
        rw [HH.out] at h2
        have hgb : ∃ cur, Bk w3 g 92 cur := rw_bk h2 g rfl
        have hfz : ∀ j, w3.frozen? ⟨g, j, none⟩ = false := fun j => by obtain ⟨cur, hh⟩ := hgb; exact hh.frozen j
        have ch : w3.cell? ⟨p, 1, none⟩ = some (.slice (some ⟨g, 0, none⟩) hs0.length cp) := (h1.cell 1).trans rfl
        have ca1 : w3.cell? ⟨g, i * 2, none⟩ = some (.string a1) := row_cell (F := encES) (k := 2) (j := 0) (fun _ => rfl) h2 HA.out (by decide)
        have ca2 : w3.cell? ⟨g, i * 2 + 1, none⟩ = some (.int .i64 an) := row_cell (F := encES) (k := 2) (j := 1) (fun _ => rfl) h2 HA.out (by decide)
        have cb1 : w3.cell? ⟨g, q * 2, none⟩ = some (.string b1) := row_cell (F := encES) (k := 2) (j := 0) (fun _ => rfl) h2 HBB.out (by decide)
        have cb2 : w3.cell? ⟨g, q * 2 + 1, none⟩ = some (.int .i64 bn) := row_cell (F := encES) (k := 2) (j := 1) (fun _ => rfl) h2 HBB.out (by decide)
        have fa1 := hfz (i * 2)
        have fa2 := hfz (i * 2 + 1)
        have fb1 := hfz (q * 2)
        have fb2 := hfz (q * 2 + 1)
        clear hgb hfz h1 h2 hL3
        go_wp2_with fail
        go_region
        change Exit.then _ _ _ _ (putS (putS w3 g i (b1, bn)) g q (a1, an)).drew
        have hS := HL3.out.swap HH.out HA.out HBB.out (by omega)
        have hSF : Fr (fun b => c b ∨ b = g) w3 (putS (putS w3 g i (b1, bn)) g q (a1, an)).drew := ((putS_fr (X := fun b => c b ∨ b = g) _ _ _ _ (.inr rfl)).trans (putS_fr (X := fun b => c b ∨ b = g) _ _ _ _ (.inr rfl))).trans (Fr.drew _ _)
        have hSJ : J (k + 2) (putS (putS w3 g i (b1, bn)) g q (a1, an)).drew := HLC.out.stay j3 fun b hb => by
          have hF : Fr (fun b => b = g) w3 (putS (putS w3 g i (b1, bn)) g q (a1, an)).drew := ((putS_fr (X := fun b => b = g) _ _ _ _ rfl).trans (putS_fr (X := fun b => b = g) _ _ _ _ rfl)).trans (Fr.drew _ _)
          exact hF.keep b (HLC.out.bnd j3 hb) (fun e => hg (e ▸ hb))
        clear ch ca1 ca2 cb1 cb2 fa1 fa2 fb1 fb2
        generalize (putS (putS w3 g i (b1, bn)) g q (a1, an)).drew = w4 at *
        go_wp2
        go_roundw
        case rel =>
          have hU2 := hU.step (bfr_ord HLC.out.ord) h0 HA.out (by rw [hq]; exact HBB.out) hx
          rw [hq] at hU2
          exact ⟨q, _, k + 2, rfl, hq2, by rw [List.length_set, List.length_set]; exact HH.out, hS, (sw_perm HA.out HBB.out).trans hpm, hU2, hSJ, by omega, hF3.trans hSF⟩
        case measure => simp [intOf]; omega
    · go_wp2
      go_end0
      obtain rfl : i = 0 := by omega
      refine ⟨rfl, hs, ?_⟩
      rw [hlen]
      exact ⟨hL, hpm, hU.stop0, HLC.out.mono hj (by omega), hF⟩
end

end Go.Proofs.Ytnepkpcoglfejaa
