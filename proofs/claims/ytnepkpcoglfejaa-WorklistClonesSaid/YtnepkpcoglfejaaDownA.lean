/- down. -/
import Derived.Test.YtnepkpcoglfejaaLs
namespace Go.Proofs.Ytnepkpcoglfejaa
open Go.RowKit

section
variable {ok : (Int × Int) → Prop} {lt : (Int × Int) → (Int × Int) → Bool} {fv : Value} {c : Nat → Prop} {J : Nat → World → Prop} {R : World → World → Prop}
set_option maxRecDepth 100000 in
set_option maxHeartbeats 3200000 in
theorem downA (L : Lc Try.prog encXA ok lt fv c J R) (p B g cp N : Nat) (hs0 : List ((Int × Int) × Int)) (k0 : Nat) (w : World) (hl : LsA w p B fv (.slice (some ⟨g, 0, none⟩) hs0.length cp) N hs0) (hp : ¬ c p) (hg : ¬ c g) (ho : ∀ e ∈ hs0, ok e.1) (hn : hs0.length ≤ 1000000) (hu : DownI (bfr lt) hs0 0) (hJ : J k0 w) :
    Calls Try.prog 39 #[.pointer (some ⟨p, 0, none⟩), .int .i64 0] w fun e w' => e = .returned (.tuple #[]) ∧ ∃ hs, LsA w' p B fv (.slice (some ⟨g, 0, none⟩) hs.length cp) N hs ∧ hs.Perm hs0 ∧ HeapOk (bfr lt) hs ∧ J (k0 + 4 * dg hs0.length) w' ∧ Fr (fun b => c b ∨ b = g) w w' := by
  have HLC := Lib.hid L
  clear L
  go_enter Try.func39, Try.ntmps39
  go_wp2
  go_loopw [1] (fun v wr => ∃ i hs k, v = .int .i64 (i : Nat) ∧ i ≤ hs0.length ∧ hs.length = hs0.length ∧ LsA wr p B fv (.slice (some ⟨g, 0, none⟩) hs0.length cp) N hs ∧ hs.Perm hs0 ∧ DownI (bfr lt) hs i ∧ J k wr ∧ k + 4 * dg (hs0.length / (i + 1)) ≤ k0 + 4 * dg hs0.length ∧ Fr (fun b => c b ∨ b = g) w wr) (fun v _ => hs0.length - (intOf v).toNat)
  case atStart => exact ⟨0, hs0, k0, rfl, Nat.zero_le _, rfl, hl, .refl _, hu, hJ, by simp, Fr.refl _ _⟩
  case round =>
    obtain ⟨i, hs, k, rfl, hi, hlen, hL, hpm, hU, hj, hk, hF⟩ := hrel
    have HH : Hid (hs.length = hs0.length) := hlen
    clear hlen
    have h1 := hL.hd
    have ch : wr.cell? ⟨p, 1, none⟩ = some (.slice (some ⟨g, 0, none⟩) hs0.length cp) := (h1.cell 1).trans rfl
    clear h1 hl
    obtain ⟨m1, hm1⟩ : ∃ m1 : Nat, 2 * (i : Int) + 1 = (m1 : Int) := ⟨2 * i + 1, by omega⟩
    by_cases hm1n : m1 < hs0.length
    · have hm1i : ¬ (hs0.length : Int) ≤ (m1 : Int) := by omega
      obtain ⟨a, ha⟩ : ∃ a, hs[i]? = some a := ⟨_, List.getElem?_eq_getElem (by rw [HH.out]; omega)⟩
      obtain ⟨b1, hb1⟩ : ∃ b, hs[m1]? = some b := ⟨_, List.getElem?_eq_getElem (by rw [HH.out]; omega)⟩
      have oka : ok a.1 := ho a (hpm.mem_iff.1 (List.mem_of_getElem? ha))
      have HA := Lib.hid ha
      clear ha
      obtain ⟨⟨a1, a2⟩, an⟩ := a
      obtain ⟨m2, hm2⟩ : ∃ m2 : Nat, (m1 : Int) + 1 = (m2 : Int) := ⟨m1 + 1, by omega⟩
      by_cases hm2n : m2 < hs0.length
      · obtain ⟨d, hd⟩ : ∃ d, hs[m2]? = some d := ⟨_, List.getElem?_eq_getElem (by rw [HH.out]; omega)⟩
        have okd : ok d.1 := ho d (hpm.mem_iff.1 (List.mem_of_getElem? hd))
        have oke : ok b1.1 := ho b1 (hpm.mem_iff.1 (List.mem_of_getElem? hb1))
        have HB := Lib.hid (beforeA HLC.out p _ _ d b1 k wr.drew hL.hd hp okd oke (HLC.out.jdrew hj))
        have HD := Lib.hid hd
        have HE := Lib.hid hb1
        have HLL := Lib.hid hL
        have h2 := hL.row
        rw [HH.out] at h2
        obtain ⟨⟨d1, d2⟩, dn⟩ := d
        obtain ⟨e, he⟩ : ∃ e, b1 = e := ⟨_, rfl⟩
        rw [he] at hb1 HE HB oke
        clear he
        obtain ⟨⟨e1, e2⟩, en⟩ := e
        have cd1 : wr.cell? ⟨g, m2 * 3, none⟩ = some (.int .i64 d1) := row_cell (F := encEA) (k := 3) (j := 0) (fun _ => rfl) h2 hd (by decide)
        have cd2 : wr.cell? ⟨g, m2 * 3 + 1, none⟩ = some (.int .i64 d2) := row_cell (F := encEA) (k := 3) (j := 1) (fun _ => rfl) h2 hd (by decide)
        have cd3 : wr.cell? ⟨g, m2 * 3 + 2, none⟩ = some (.int .i64 dn) := row_cell (F := encEA) (k := 3) (j := 2) (fun _ => rfl) h2 hd (by decide)
        have ce1 : wr.cell? ⟨g, m1 * 3, none⟩ = some (.int .i64 e1) := row_cell (F := encEA) (k := 3) (j := 0) (fun _ => rfl) h2 hb1 (by decide)
        have ce2 : wr.cell? ⟨g, m1 * 3 + 1, none⟩ = some (.int .i64 e2) := row_cell (F := encEA) (k := 3) (j := 1) (fun _ => rfl) h2 hb1 (by decide)
        have ce3 : wr.cell? ⟨g, m1 * 3 + 2, none⟩ = some (.int .i64 en) := row_cell (F := encEA) (k := 3) (j := 2) (fun _ => rfl) h2 hb1 (by decide)
        clear h2 hL hd hb1
        have hm2i : (m2 : Int) < (hs0.length : Int) := by omega
        have hwm : IntKind.i64.wrap (m2 : Int) = (m2 : Int) := by rw [IntKind.wrap_i64]; omega
        have hm1j : (m1 : Int) < (hs0.length : Int) := by omega
        go_wp2_with fail
        go_still_tail 25, (by kernel_rfl)
        change wpList _ _ _ _ _ wr.drew
        go_wp2_with fail
        refine HB.out.mono ?_
        rintro _ w3 ⟨rfl, j3, r3⟩
        have F3 : Fr c wr w3 := (Fr.drew c wr).trans (HLC.out.fr r3)
        have hL3 : LsA w3 p B fv (.slice (some ⟨g, 0, none⟩) hs0.length cp) N hs := HLL.out.fr F3 hp fun b e => by cases e; exact hg
        have hF3 : Fr (fun b => c b ∨ b = g) w w3 := hF.trans (F3.wide fun _ _ h => .inl h)
        clear F3 r3 ch cd1 cd2 cd3 ce1 ce2 ce3 HB HLL hF hj
        generalize hxd : bfr lt ((d1, d2), dn) ((e1, e2), en) = xd
        cases xd
        · have HMIN : Hid (∀ j x, (j - 1) / 2 = i → 0 < j → hs[j]? = some x → bfr lt x ((e1, e2), en) = false) := fun j x hj hj0 hxj => by
            rcases (show j = m1 ∨ j = m2 by omega) with rfl | rfl
            · have := Eq.trans (Eq.symm hxj) HE.out
              injection this with this
              subst this
              exact (bfr_ord HLC.out.ord).irr _
            · have := Eq.trans (Eq.symm hxj) HD.out
              injection this with this
              subst this
              exact hxd
          obtain ⟨b, hb⟩ : ∃ b, ((e1, e2), en) = b := ⟨_, rfl⟩
          rw [hb] at HE HMIN
          clear hb
          have hb := HE.out
          clear HE
          have hmp : (m1 - 1) / 2 = i := by omega
          have hmn : m1 < hs0.length := hm1n
          have okb : ok b.1 := ho b (hpm.mem_iff.1 (List.mem_of_getElem? hb))
          have hdg : dg (hs0.length / (m1 + 1)) + 1 ≤ dg (hs0.length / (i + 1)) := dg_down (by omega) hmn
          have HB := Lib.hid (beforeA HLC.out p _ _ b ((a1, a2), an) (k + 2) w3.drew hL3.hd hp okb oka (HLC.out.jdrew j3))
          have HBB := Lib.hid hb
          have HLL := Lib.hid hL3
          have h1 := hL3.hd
          have h2 := hL3.row
          rw [HH.out] at h2
          obtain ⟨⟨b1, b2⟩, bn⟩ := b
          have ch : w3.cell? ⟨p, 1, none⟩ = some (.slice (some ⟨g, 0, none⟩) hs0.length cp) := (h1.cell 1).trans rfl
          have ca1 : w3.cell? ⟨g, i * 3, none⟩ = some (.int .i64 a1) := row_cell (F := encEA) (k := 3) (j := 0) (fun _ => rfl) h2 HA.out (by decide)
          have ca2 : w3.cell? ⟨g, i * 3 + 1, none⟩ = some (.int .i64 a2) := row_cell (F := encEA) (k := 3) (j := 1) (fun _ => rfl) h2 HA.out (by decide)
          have ca3 : w3.cell? ⟨g, i * 3 + 2, none⟩ = some (.int .i64 an) := row_cell (F := encEA) (k := 3) (j := 2) (fun _ => rfl) h2 HA.out (by decide)
          have cb1 : w3.cell? ⟨g, m1 * 3, none⟩ = some (.int .i64 b1) := row_cell (F := encEA) (k := 3) (j := 0) (fun _ => rfl) h2 hb (by decide)
          have cb2 : w3.cell? ⟨g, m1 * 3 + 1, none⟩ = some (.int .i64 b2) := row_cell (F := encEA) (k := 3) (j := 1) (fun _ => rfl) h2 hb (by decide)
          have cb3 : w3.cell? ⟨g, m1 * 3 + 2, none⟩ = some (.int .i64 bn) := row_cell (F := encEA) (k := 3) (j := 2) (fun _ => rfl) h2 hb (by decide)
          clear h1 h2 hL3 hb
          have hmi : (m1 : Int) < (hs0.length : Int) := by omega
          have hi2 : i < hs0.length := by omega
          go_wp2_with fail
          go_still_tail 15, (by kernel_rfl)
          change wpList _ _ _ _ _ w3.drew
          go_wp2_with fail
          refine HB.out.mono ?_
          rintro e w5 ⟨rfl, j5, r5⟩
          have F5 : Fr c w3 w5 := (Fr.drew c w3).trans (HLC.out.fr r5)
          have hL5 : LsA w5 p B fv (.slice (some ⟨g, 0, none⟩) hs0.length cp) N hs := HLL.out.fr F5 hp fun b e => by cases e; exact hg
          have hF5 : Fr (fun b => c b ∨ b = g) w w5 := hF3.trans (F5.wide fun _ _ h => .inl h)
          clear F5 r5 ch ca1 ca2 ca3 cb1 cb2 cb3 HB HLL hF3 j3
          generalize hx : bfr lt ((b1, b2), bn) ((a1, a2), an) = x
          cases x
          · go_wp2
            refine bodyPost_ret (results_none rfl _ _ _) rfl ?_
            refine ⟨rfl, hs, ?_⟩
            rw [HH.out]
            refine ⟨hL5, hpm, hU.stop fun j x y hj hj0 hxj hyi => ?_, HLC.out.mono j5 (by omega), hF5⟩
            have hya : some y = some ((a1, a2), an) := Eq.trans (Eq.symm hyi) HA.out
            injection hya with hya
            subst hya
            exact (bfr_ord HLC.out.ord).nt _ _ _ (HMIN.out j x hj hj0 hxj) hx
          · have HL3 := Lib.hid hL5
            have h1 := hL5.hd
            have h2 := hL5.row
            rw [HH.out] at h2
            have hgb : ∃ cur, Bk w5 g 73 cur := rw_bk h2 g rfl
            have hfz : ∀ j, w5.frozen? ⟨g, j, none⟩ = false := fun j => by obtain ⟨cur, hh⟩ := hgb; exact hh.frozen j
            have ch : w5.cell? ⟨p, 1, none⟩ = some (.slice (some ⟨g, 0, none⟩) hs0.length cp) := (h1.cell 1).trans rfl
            have ca1 : w5.cell? ⟨g, i * 3, none⟩ = some (.int .i64 a1) := row_cell (F := encEA) (k := 3) (j := 0) (fun _ => rfl) h2 HA.out (by decide)
            have ca2 : w5.cell? ⟨g, i * 3 + 1, none⟩ = some (.int .i64 a2) := row_cell (F := encEA) (k := 3) (j := 1) (fun _ => rfl) h2 HA.out (by decide)
            have ca3 : w5.cell? ⟨g, i * 3 + 2, none⟩ = some (.int .i64 an) := row_cell (F := encEA) (k := 3) (j := 2) (fun _ => rfl) h2 HA.out (by decide)
            have cb1 : w5.cell? ⟨g, m1 * 3, none⟩ = some (.int .i64 b1) := row_cell (F := encEA) (k := 3) (j := 0) (fun _ => rfl) h2 HBB.out (by decide)
            have cb2 : w5.cell? ⟨g, m1 * 3 + 1, none⟩ = some (.int .i64 b2) := row_cell (F := encEA) (k := 3) (j := 1) (fun _ => rfl) h2 HBB.out (by decide)
            have cb3 : w5.cell? ⟨g, m1 * 3 + 2, none⟩ = some (.int .i64 bn) := row_cell (F := encEA) (k := 3) (j := 2) (fun _ => rfl) h2 HBB.out (by decide)
            have fa1 := hfz (i * 3)
            have fa2 := hfz (i * 3 + 1)
            have fa3 := hfz (i * 3 + 2)
            have fb1 := hfz (m1 * 3)
            have fb2 := hfz (m1 * 3 + 1)
            have fb3 := hfz (m1 * 3 + 2)
            clear hgb hfz h1 h2 hL5
            go_wp2_with fail
            go_region
            change Exit.then _ _ _ _ (putA (putA w5 g i ((b1, b2), bn)) g m1 ((a1, a2), an)).drew
            have hS := HL3.out.swap HH.out HA.out HBB.out (by omega)
            have hSF : Fr (fun b => c b ∨ b = g) w5 (putA (putA w5 g i ((b1, b2), bn)) g m1 ((a1, a2), an)).drew := ((putA_fr (X := fun b => c b ∨ b = g) _ _ _ _ (.inr rfl)).trans (putA_fr (X := fun b => c b ∨ b = g) _ _ _ _ (.inr rfl))).trans (Fr.drew _ _)
            have hSJ : J (k + 2 + 2) (putA (putA w5 g i ((b1, b2), bn)) g m1 ((a1, a2), an)).drew := HLC.out.stay j5 fun b hb => by
              have hF : Fr (fun b => b = g) w5 (putA (putA w5 g i ((b1, b2), bn)) g m1 ((a1, a2), an)).drew := ((putA_fr (X := fun b => b = g) _ _ _ _ rfl).trans (putA_fr (X := fun b => b = g) _ _ _ _ rfl)).trans (Fr.drew _ _)
              exact hF.keep b (HLC.out.bnd j5 hb) (fun e => hg (e ▸ hb))
            clear ch ca1 ca2 ca3 cb1 cb2 cb3 fa1 fa2 fa3 fb1 fb2 fb3
            generalize (putA (putA w5 g i ((b1, b2), bn)) g m1 ((a1, a2), an)).drew = w6 at *
            go_wp2
            go_roundw
            case rel =>
              exact ⟨m1, _, k + 2 + 2, rfl, by omega, by rw [List.length_set, List.length_set]; exact HH.out, hS, (sw_perm HA.out HBB.out).trans hpm, hU.step (bfr_ord HLC.out.ord) hmp (by omega) HA.out HBB.out hx HMIN.out, hSJ, by omega, hF5.trans hSF⟩
            case measure => simp [intOf]; omega
        · have HMIN : Hid (∀ j x, (j - 1) / 2 = i → 0 < j → hs[j]? = some x → bfr lt x ((d1, d2), dn) = false) := fun j x hj hj0 hxj => by
            rcases (show j = m1 ∨ j = m2 by omega) with rfl | rfl
            · have := Eq.trans (Eq.symm hxj) HE.out
              injection this with this
              subst this
              exact (bfr_ord HLC.out.ord).asym hxd
            · have := Eq.trans (Eq.symm hxj) HD.out
              injection this with this
              subst this
              exact (bfr_ord HLC.out.ord).irr _
          obtain ⟨b, hb⟩ : ∃ b, ((d1, d2), dn) = b := ⟨_, rfl⟩
          rw [hb] at HD HMIN
          clear hb
          have hb := HD.out
          clear HD
          have hmp : (m2 - 1) / 2 = i := by omega
          have hmn : m2 < hs0.length := hm2n
          have okb : ok b.1 := ho b (hpm.mem_iff.1 (List.mem_of_getElem? hb))
          have hdg : dg (hs0.length / (m2 + 1)) + 1 ≤ dg (hs0.length / (i + 1)) := dg_down (by omega) hmn
          have HB := Lib.hid (beforeA HLC.out p _ _ b ((a1, a2), an) (k + 2) w3.drew hL3.hd hp okb oka (HLC.out.jdrew j3))
          have HBB := Lib.hid hb
          have HLL := Lib.hid hL3
          have h1 := hL3.hd
          have h2 := hL3.row
          rw [HH.out] at h2
          obtain ⟨⟨b1, b2⟩, bn⟩ := b
          have ch : w3.cell? ⟨p, 1, none⟩ = some (.slice (some ⟨g, 0, none⟩) hs0.length cp) := (h1.cell 1).trans rfl
          have ca1 : w3.cell? ⟨g, i * 3, none⟩ = some (.int .i64 a1) := row_cell (F := encEA) (k := 3) (j := 0) (fun _ => rfl) h2 HA.out (by decide)
          have ca2 : w3.cell? ⟨g, i * 3 + 1, none⟩ = some (.int .i64 a2) := row_cell (F := encEA) (k := 3) (j := 1) (fun _ => rfl) h2 HA.out (by decide)
          have ca3 : w3.cell? ⟨g, i * 3 + 2, none⟩ = some (.int .i64 an) := row_cell (F := encEA) (k := 3) (j := 2) (fun _ => rfl) h2 HA.out (by decide)
          have cb1 : w3.cell? ⟨g, m2 * 3, none⟩ = some (.int .i64 b1) := row_cell (F := encEA) (k := 3) (j := 0) (fun _ => rfl) h2 hb (by decide)
          have cb2 : w3.cell? ⟨g, m2 * 3 + 1, none⟩ = some (.int .i64 b2) := row_cell (F := encEA) (k := 3) (j := 1) (fun _ => rfl) h2 hb (by decide)
          have cb3 : w3.cell? ⟨g, m2 * 3 + 2, none⟩ = some (.int .i64 bn) := row_cell (F := encEA) (k := 3) (j := 2) (fun _ => rfl) h2 hb (by decide)
          clear h1 h2 hL3 hb
          have hmi : (m2 : Int) < (hs0.length : Int) := by omega
          have hi2 : i < hs0.length := by omega
          go_wp2_with fail
          go_still_tail 15, (by kernel_rfl)
          change wpList _ _ _ _ _ w3.drew
          go_wp2_with fail
          refine HB.out.mono ?_
          rintro e w5 ⟨rfl, j5, r5⟩
          have F5 : Fr c w3 w5 := (Fr.drew c w3).trans (HLC.out.fr r5)
          have hL5 : LsA w5 p B fv (.slice (some ⟨g, 0, none⟩) hs0.length cp) N hs := HLL.out.fr F5 hp fun b e => by cases e; exact hg
          have hF5 : Fr (fun b => c b ∨ b = g) w w5 := hF3.trans (F5.wide fun _ _ h => .inl h)
          clear F5 r5 ch ca1 ca2 ca3 cb1 cb2 cb3 HB HLL hF3 j3
          generalize hx : bfr lt ((b1, b2), bn) ((a1, a2), an) = x
          cases x
          · go_wp2
            refine bodyPost_ret (results_none rfl _ _ _) rfl ?_
            refine ⟨rfl, hs, ?_⟩
            rw [HH.out]
            refine ⟨hL5, hpm, hU.stop fun j x y hj hj0 hxj hyi => ?_, HLC.out.mono j5 (by omega), hF5⟩
            have hya : some y = some ((a1, a2), an) := Eq.trans (Eq.symm hyi) HA.out
            injection hya with hya
            subst hya
            exact (bfr_ord HLC.out.ord).nt _ _ _ (HMIN.out j x hj hj0 hxj) hx
          · have HL3 := Lib.hid hL5
            have h1 := hL5.hd
            have h2 := hL5.row
            rw [HH.out] at h2
            have hgb : ∃ cur, Bk w5 g 73 cur := rw_bk h2 g rfl
            have hfz : ∀ j, w5.frozen? ⟨g, j, none⟩ = false := fun j => by obtain ⟨cur, hh⟩ := hgb; exact hh.frozen j
            have ch : w5.cell? ⟨p, 1, none⟩ = some (.slice (some ⟨g, 0, none⟩) hs0.length cp) := (h1.cell 1).trans rfl
            have ca1 : w5.cell? ⟨g, i * 3, none⟩ = some (.int .i64 a1) := row_cell (F := encEA) (k := 3) (j := 0) (fun _ => rfl) h2 HA.out (by decide)
            have ca2 : w5.cell? ⟨g, i * 3 + 1, none⟩ = some (.int .i64 a2) := row_cell (F := encEA) (k := 3) (j := 1) (fun _ => rfl) h2 HA.out (by decide)
            have ca3 : w5.cell? ⟨g, i * 3 + 2, none⟩ = some (.int .i64 an) := row_cell (F := encEA) (k := 3) (j := 2) (fun _ => rfl) h2 HA.out (by decide)
            have cb1 : w5.cell? ⟨g, m2 * 3, none⟩ = some (.int .i64 b1) := row_cell (F := encEA) (k := 3) (j := 0) (fun _ => rfl) h2 HBB.out (by decide)
            have cb2 : w5.cell? ⟨g, m2 * 3 + 1, none⟩ = some (.int .i64 b2) := row_cell (F := encEA) (k := 3) (j := 1) (fun _ => rfl) h2 HBB.out (by decide)
            have cb3 : w5.cell? ⟨g, m2 * 3 + 2, none⟩ = some (.int .i64 bn) := row_cell (F := encEA) (k := 3) (j := 2) (fun _ => rfl) h2 HBB.out (by decide)
            have fa1 := hfz (i * 3)
            have fa2 := hfz (i * 3 + 1)
            have fa3 := hfz (i * 3 + 2)
            have fb1 := hfz (m2 * 3)
            have fb2 := hfz (m2 * 3 + 1)
            have fb3 := hfz (m2 * 3 + 2)
            clear hgb hfz h1 h2 hL5
            go_wp2_with fail
            go_region
            change Exit.then _ _ _ _ (putA (putA w5 g i ((b1, b2), bn)) g m2 ((a1, a2), an)).drew
            have hS := HL3.out.swap HH.out HA.out HBB.out (by omega)
            have hSF : Fr (fun b => c b ∨ b = g) w5 (putA (putA w5 g i ((b1, b2), bn)) g m2 ((a1, a2), an)).drew := ((putA_fr (X := fun b => c b ∨ b = g) _ _ _ _ (.inr rfl)).trans (putA_fr (X := fun b => c b ∨ b = g) _ _ _ _ (.inr rfl))).trans (Fr.drew _ _)
            have hSJ : J (k + 2 + 2) (putA (putA w5 g i ((b1, b2), bn)) g m2 ((a1, a2), an)).drew := HLC.out.stay j5 fun b hb => by
              have hF : Fr (fun b => b = g) w5 (putA (putA w5 g i ((b1, b2), bn)) g m2 ((a1, a2), an)).drew := ((putA_fr (X := fun b => b = g) _ _ _ _ rfl).trans (putA_fr (X := fun b => b = g) _ _ _ _ rfl)).trans (Fr.drew _ _)
              exact hF.keep b (HLC.out.bnd j5 hb) (fun e => hg (e ▸ hb))
            clear ch ca1 ca2 ca3 cb1 cb2 cb3 fa1 fa2 fa3 fb1 fb2 fb3
            generalize (putA (putA w5 g i ((b1, b2), bn)) g m2 ((a1, a2), an)).drew = w6 at *
            go_wp2
            go_roundw
            case rel =>
              exact ⟨m2, _, k + 2 + 2, rfl, by omega, by rw [List.length_set, List.length_set]; exact HH.out, hS, (sw_perm HA.out HBB.out).trans hpm, hU.step (bfr_ord HLC.out.ord) hmp (by omega) HA.out HBB.out hx HMIN.out, hSJ, by omega, hF5.trans hSF⟩
            case measure => simp [intOf]; omega
      · have hm2i : decide ((m2 : Int) < (hs0.length : Int)) = false := decide_eq_false (by omega)
        go_wp2_with fail
        go_quiet (fail)
        have hL3 : LsA (wr.drewN nq) p B fv (.slice (some ⟨g, 0, none⟩) hs0.length cp) N hs := hL.fr (Fr.drewN (fun _ => False) _ _) (fun h => h) (fun _ _ h => h)
        have hF3 : Fr (fun b => c b ∨ b = g) w (wr.drewN nq) := hF.trans (Fr.drewN _ _ _)
        have j3 : J (k + 2) (wr.drewN nq) := HLC.out.mono (HLC.out.stay hj fun _ _ => rfl) (by omega)
        clear ch hL hF hj
        generalize wr.drewN nq = w3 at *
        have HMIN : Hid (∀ j x, (j - 1) / 2 = i → 0 < j → hs[j]? = some x → bfr lt x b1 = false) := fun j x hj hj0 hxj => by
          have hjl := (List.getElem?_eq_some_iff.1 hxj).1
          rw [HH.out] at hjl
          obtain rfl : j = m1 := by omega
          have := Eq.trans (Eq.symm hxj) hb1
          injection this with this
          subst this
          exact (bfr_ord HLC.out.ord).irr _
        obtain ⟨b, hb⟩ : ∃ b, b1 = b := ⟨_, rfl⟩
        rw [hb] at hb1 HMIN
        clear hb
        have hb := hb1
        clear hb1
        have hmp : (m1 - 1) / 2 = i := by omega
        have hmn : m1 < hs0.length := hm1n
        have okb : ok b.1 := ho b (hpm.mem_iff.1 (List.mem_of_getElem? hb))
        have hdg : dg (hs0.length / (m1 + 1)) + 1 ≤ dg (hs0.length / (i + 1)) := dg_down (by omega) hmn
        have HB := Lib.hid (beforeA HLC.out p _ _ b ((a1, a2), an) (k + 2) w3.drew hL3.hd hp okb oka (HLC.out.jdrew j3))
        have HBB := Lib.hid hb
        have HLL := Lib.hid hL3
        have h1 := hL3.hd
        have h2 := hL3.row
        rw [HH.out] at h2
        obtain ⟨⟨b1, b2⟩, bn⟩ := b
        have ch : w3.cell? ⟨p, 1, none⟩ = some (.slice (some ⟨g, 0, none⟩) hs0.length cp) := (h1.cell 1).trans rfl
        have ca1 : w3.cell? ⟨g, i * 3, none⟩ = some (.int .i64 a1) := row_cell (F := encEA) (k := 3) (j := 0) (fun _ => rfl) h2 HA.out (by decide)
        have ca2 : w3.cell? ⟨g, i * 3 + 1, none⟩ = some (.int .i64 a2) := row_cell (F := encEA) (k := 3) (j := 1) (fun _ => rfl) h2 HA.out (by decide)
        have ca3 : w3.cell? ⟨g, i * 3 + 2, none⟩ = some (.int .i64 an) := row_cell (F := encEA) (k := 3) (j := 2) (fun _ => rfl) h2 HA.out (by decide)
        have cb1 : w3.cell? ⟨g, m1 * 3, none⟩ = some (.int .i64 b1) := row_cell (F := encEA) (k := 3) (j := 0) (fun _ => rfl) h2 hb (by decide)
        have cb2 : w3.cell? ⟨g, m1 * 3 + 1, none⟩ = some (.int .i64 b2) := row_cell (F := encEA) (k := 3) (j := 1) (fun _ => rfl) h2 hb (by decide)
        have cb3 : w3.cell? ⟨g, m1 * 3 + 2, none⟩ = some (.int .i64 bn) := row_cell (F := encEA) (k := 3) (j := 2) (fun _ => rfl) h2 hb (by decide)
        clear h1 h2 hL3 hb
        have hmi : (m1 : Int) < (hs0.length : Int) := by omega
        have hi2 : i < hs0.length := by omega
        go_wp2_with fail
        go_still_tail 15, (by kernel_rfl)
        change wpList _ _ _ _ _ w3.drew
        go_wp2_with fail
        refine HB.out.mono ?_
        rintro e w5 ⟨rfl, j5, r5⟩
        have F5 : Fr c w3 w5 := (Fr.drew c w3).trans (HLC.out.fr r5)
        have hL5 : LsA w5 p B fv (.slice (some ⟨g, 0, none⟩) hs0.length cp) N hs := HLL.out.fr F5 hp fun b e => by cases e; exact hg
        have hF5 : Fr (fun b => c b ∨ b = g) w w5 := hF3.trans (F5.wide fun _ _ h => .inl h)
        clear F5 r5 ch ca1 ca2 ca3 cb1 cb2 cb3 HB HLL hF3 j3
        generalize hx : bfr lt ((b1, b2), bn) ((a1, a2), an) = x
        cases x
        · go_wp2
          refine bodyPost_ret (results_none rfl _ _ _) rfl ?_
          refine ⟨rfl, hs, ?_⟩
          rw [HH.out]
          refine ⟨hL5, hpm, hU.stop fun j x y hj hj0 hxj hyi => ?_, HLC.out.mono j5 (by omega), hF5⟩
          have hya : some y = some ((a1, a2), an) := Eq.trans (Eq.symm hyi) HA.out
          injection hya with hya
          subst hya
          exact (bfr_ord HLC.out.ord).nt _ _ _ (HMIN.out j x hj hj0 hxj) hx
        · have HL3 := Lib.hid hL5
          have h1 := hL5.hd
          have h2 := hL5.row
          rw [HH.out] at h2
          have hgb : ∃ cur, Bk w5 g 73 cur := rw_bk h2 g rfl
          have hfz : ∀ j, w5.frozen? ⟨g, j, none⟩ = false := fun j => by obtain ⟨cur, hh⟩ := hgb; exact hh.frozen j
          have ch : w5.cell? ⟨p, 1, none⟩ = some (.slice (some ⟨g, 0, none⟩) hs0.length cp) := (h1.cell 1).trans rfl
          have ca1 : w5.cell? ⟨g, i * 3, none⟩ = some (.int .i64 a1) := row_cell (F := encEA) (k := 3) (j := 0) (fun _ => rfl) h2 HA.out (by decide)
          have ca2 : w5.cell? ⟨g, i * 3 + 1, none⟩ = some (.int .i64 a2) := row_cell (F := encEA) (k := 3) (j := 1) (fun _ => rfl) h2 HA.out (by decide)
          have ca3 : w5.cell? ⟨g, i * 3 + 2, none⟩ = some (.int .i64 an) := row_cell (F := encEA) (k := 3) (j := 2) (fun _ => rfl) h2 HA.out (by decide)
          have cb1 : w5.cell? ⟨g, m1 * 3, none⟩ = some (.int .i64 b1) := row_cell (F := encEA) (k := 3) (j := 0) (fun _ => rfl) h2 HBB.out (by decide)
          have cb2 : w5.cell? ⟨g, m1 * 3 + 1, none⟩ = some (.int .i64 b2) := row_cell (F := encEA) (k := 3) (j := 1) (fun _ => rfl) h2 HBB.out (by decide)
          have cb3 : w5.cell? ⟨g, m1 * 3 + 2, none⟩ = some (.int .i64 bn) := row_cell (F := encEA) (k := 3) (j := 2) (fun _ => rfl) h2 HBB.out (by decide)
          have fa1 := hfz (i * 3)
          have fa2 := hfz (i * 3 + 1)
          have fa3 := hfz (i * 3 + 2)
          have fb1 := hfz (m1 * 3)
          have fb2 := hfz (m1 * 3 + 1)
          have fb3 := hfz (m1 * 3 + 2)
          clear hgb hfz h1 h2 hL5
          go_wp2_with fail
          go_region
          change Exit.then _ _ _ _ (putA (putA w5 g i ((b1, b2), bn)) g m1 ((a1, a2), an)).drew
          have hS := HL3.out.swap HH.out HA.out HBB.out (by omega)
          have hSF : Fr (fun b => c b ∨ b = g) w5 (putA (putA w5 g i ((b1, b2), bn)) g m1 ((a1, a2), an)).drew := ((putA_fr (X := fun b => c b ∨ b = g) _ _ _ _ (.inr rfl)).trans (putA_fr (X := fun b => c b ∨ b = g) _ _ _ _ (.inr rfl))).trans (Fr.drew _ _)
          have hSJ : J (k + 2 + 2) (putA (putA w5 g i ((b1, b2), bn)) g m1 ((a1, a2), an)).drew := HLC.out.stay j5 fun b hb => by
            have hF : Fr (fun b => b = g) w5 (putA (putA w5 g i ((b1, b2), bn)) g m1 ((a1, a2), an)).drew := ((putA_fr (X := fun b => b = g) _ _ _ _ rfl).trans (putA_fr (X := fun b => b = g) _ _ _ _ rfl)).trans (Fr.drew _ _)
            exact hF.keep b (HLC.out.bnd j5 hb) (fun e => hg (e ▸ hb))
          clear ch ca1 ca2 ca3 cb1 cb2 cb3 fa1 fa2 fa3 fb1 fb2 fb3
          generalize (putA (putA w5 g i ((b1, b2), bn)) g m1 ((a1, a2), an)).drew = w6 at *
          go_wp2
          go_roundw
          case rel =>
            exact ⟨m1, _, k + 2 + 2, rfl, by omega, by rw [List.length_set, List.length_set]; exact HH.out, hS, (sw_perm HA.out HBB.out).trans hpm, hU.step (bfr_ord HLC.out.ord) hmp (by omega) HA.out HBB.out hx HMIN.out, hSJ, by omega, hF5.trans hSF⟩
          case measure => simp [intOf]; omega
    · have hm1i : (hs0.length : Int) ≤ (m1 : Int) := by omega
      go_wp2
      refine bodyPost_ret (results_none rfl _ _ _) rfl ?_
      refine ⟨rfl, hs, ?_⟩
      rw [HH.out]
      refine ⟨hL, hpm, hU.stop fun j x y hj hj0 hxj _ => ?_, HLC.out.mono hj (by omega), hF⟩
      have := (List.getElem?_eq_some_iff.1 hxj).1
      rw [HH.out] at this
      omega
end

end Go.Proofs.Ytnepkpcoglfejaa
