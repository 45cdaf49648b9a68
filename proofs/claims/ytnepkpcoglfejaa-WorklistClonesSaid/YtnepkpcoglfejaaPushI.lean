/- Push. -/
import Derived.Test.YtnepkpcoglfejaaUp
import Derived.Test.YtnepkpcoglfejaaWl
import Derived.Test.YtnepkpcoglfejaaHeap2
import Derived.Test.YtnepkpcoglfejaaApp2
import Derived.Handy
import Derived.Deep.RegionHeld3
import Derived.Deep.DeepCutAuto
import Derived.Deep.RegionLaw
namespace Go.Proofs.Ytnepkpcoglfejaa
open Go.RowKit

attribute [local go_sem] Oper.semAt_some

theorem LsI.grow {w w' : World} {p B N : Nat} {fv hv hv' : Value} {hs : List (Int × Int)} {e : Int × Int} (h : LsI w p B fv hv N hs) (hown : w'.ownsRow B 79 2 hv' (hs.length + 1) (hs.flatMap encEI ++ encEI e)) (hF : Fr (fun b => hv.ownBlock = some b) w w') :
    Bk w' p 77 #[fv, hv, .int .i64 N] ∧ LsI (w'.setCell ⟨p, 1, none⟩ hv') p B fv hv' N (hs ++ [e]) := by
  have hb := hF.bk h.hd (rw_ne h.row h.hd (by decide))
  refine ⟨hb, Bk.put hb 1 _, ?_⟩
  have : w'.ownsRow B 79 2 hv' (hs ++ [e]).length ((hs ++ [e]).flatMap encEI) := by
    rw [List.length_append, List.flatMap_append]
    simpa using hown
  exact rw_keep this fun b e => Below.heap_setCell _ _ _ _ fun e' => rw_ne this hb (by decide) (by rw [e]; exact congrArg some e')
theorem LsI.inc {w : World} {p B N : Nat} {fv hv : Value} {hs : List (Int × Int)} (h : LsI w p B fv hv N hs) (M : Nat) : LsI (w.setCell ⟨p, 2, none⟩ (.int .i64 M)) p B fv hv M hs :=
  ⟨Bk.put h.hd 2 _, rw_keep h.row fun b e => Below.heap_setCell _ _ _ _ fun e' => rw_ne h.row h.hd (by decide) (by rw [e]; exact congrArg some e')⟩
theorem elemI : ElemS Try.prog 75 79 2 16 := by
  refine ⟨by kernel_rfl, ?_, by decide⟩
  obtain ⟨i, hi, hz⟩ := Option.map_eq_some_iff.1 (show (Try.prog.info? 79).map (fun i => (i.zero, i.size, i.bytes)) = some (some (.agg #[.int .i64 0, .int .i64 0]), 2, 16) by kernel_rfl)
  simp only [Prod.mk.injEq] at hz
  exact ⟨i, _, hi, hz.1, hz.2.1, hz.2.2, rfl⟩

section
variable {ok : Int → Prop} {lt : Int → Int → Bool} {fv : Value} {c : Nat → Prop} {J : Nat → World → Prop} {R : World → World → Prop}
set_option maxRecDepth 100000 in
set_option maxHeartbeats 1600000 in
theorem pushI (L : Lc Try.prog encXI ok lt fv c J R) (w : World) (p B N k m cx : Nat) (hv : Value) (A : Option Addr) (xs : List Int) (E : List (Int × Int)) (h : WlI w p B fv hv lt E N) (hp : ¬ c p) (hg : ∀ b, hv.ownBlock = some b → ¬ c b) (hB : B ≤ p) (ho : ∀ e ∈ E, ok e.1) (hox : ∀ x ∈ xs, ok x) (hm : xs.length = m)
    (hn : E.length + m ≤ 1000000) (hN : N + m ≤ 1000000) (hJ : J k w) (hsee : Sees w w.heap.size A (xs.map fun x => .int .i64 x)) (hA : ∀ ad, A = some ad → ad.block ≠ p ∧ ¬ c ad.block ∧ hv.ownBlock ≠ some ad.block) :
    Calls Try.prog 17 #[.pointer (some ⟨p, 0, none⟩), .slice A m cx] w fun e w' => e = .returned (.tuple #[]) ∧ ∃ hv', WlI w' p B fv hv' lt (pushAll lt xs E N) (N + m) ∧ (hv'.ownBlock = hv.ownBlock ∨ ∀ b, hv'.ownBlock = some b → w.heap.size ≤ b) ∧ J (k + m * (2 * dg (E.length + m))) w' ∧ Fr (fun b => c b ∨ hv.ownBlock = some b ∨ b = p) w w' := by
  have HLC := Lib.hid L
  clear L
  have HSEE := Lib.hid hsee
  clear hsee
  go_enter Try.func17, Try.ntmps17
  go_wp2
  go_loopw [10] (fun v wr => ∃ t hv', v = .int .i64 (t : Nat) ∧ t ≤ m ∧ WlI wr p B fv hv' lt (pushAll lt (xs.take t) E N) (N + t) ∧ (hv'.ownBlock = hv.ownBlock ∨ ∀ b, hv'.ownBlock = some b → w.heap.size ≤ b) ∧ J (k + t * (2 * dg (E.length + m))) wr ∧ Fr (fun b => c b ∨ hv.ownBlock = some b ∨ b = p) w wr) (fun v _ => m - (intOf v).toNat)
  case atStart => exact ⟨0, hv, rfl, Nat.zero_le _, h, .inl rfl, by rw [Nat.zero_mul]; exact hJ, Fr.refl _ _⟩
  case round =>
    obtain ⟨t, hv', rfl, ht, hW, hown, hj, hF⟩ := hrel
    by_cases htm : t < m
    · obtain ⟨x, hx⟩ : ∃ x, xs[t]? = some x := ⟨_, List.getElem?_eq_getElem (by omega)⟩
      have okx : ok x := hox x (List.mem_of_getElem? hx)
      obtain ⟨ad, rfl, hab, hac⟩ : ∃ ad, A = some ad ∧ ad.block < w.heap.size ∧ w.cell? (ad.add t) = some (encXI x) := HSEE.out t _ (by rw [List.getElem?_map, hx]; rfl)
      obtain ⟨hA1, hA2, hA3⟩ := hA ad rfl
      have cx : wr.cell? (ad.add t) = some (encXI x) := (World.cell?_of_block (hF.keep _ (by rw [add_blk]; exact hab) (by rw [add_blk]; exact fun h => h.elim hA2 fun h => h.elim hA3 hA1))).trans hac
      simp only [encXI] at cx
      have hcg : ∀ b, hv'.ownBlock = some b → ¬ c b := fun b e hc => hown.elim (fun h => hg b (h ▸ e) hc) fun h => by have := h b e; have := HLC.out.bnd hJ hc; omega
      obtain ⟨hs, hL, hK⟩ := hW
      have hlen : hs.length = E.length + t := by rw [hK.len, pushAll_len, List.length_take, Nat.min_eq_left (by omega)]
      have hoks : ∀ e ∈ hs, ok e.1 := fun e he => (pushAll_mem lt _ _ _ e (hK.perm.mem_iff.1 he)).elim (ho e) fun h => hox _ (List.mem_of_mem_take h)
      obtain ⟨l, hl⟩ : ∃ l, hs.length = l := ⟨_, rfl⟩
      obtain ⟨M, hM⟩ : ∃ M, N + t = M := ⟨_, rfl⟩
      rw [hM] at hL hK
      have hl6 : l ≤ 1000000 := by omega
      have hM6 : M ≤ 1000000 := by omega
      have hrow := hL.row
      rw [hl] at hrow
      obtain ⟨A', c', hvf⟩ := rw_form hrow
      subst hvf
      have c1 : wr.cell? ⟨p, 1, none⟩ = some (.slice A' l c') := (hL.hd.cell 1).trans rfl
      have c2 : wr.cell? ⟨p, 2, none⟩ = some (.int .i64 M) := (hL.hd.cell 2).trans rfl
      have hpl : p < wr.heap.size := hL.hd.lt
      have hBl : B ≤ wr.heap.size := by omega
      have hcs : Hid (∀ o : Obj, ((wr.alloc o).drew).ownsRow B 79 2 (.slice A' l c') l (hs.flatMap encEI)) := Lib.hid fun o => (World.ownsRow.alloc hrow o).drew
      have HGR : Hid (∀ w2 v2, w2.ownsRow B 79 2 v2 (l + 1) (hs.flatMap encEI ++ encEI (x, (M : Int))) → Fr (fun b => (Value.slice A' l c').ownBlock = some b) wr w2 → Bk w2 p 77 #[fv, .slice A' l c', .int .i64 M] ∧ LsI (w2.setCell ⟨p, 1, none⟩ v2) p B fv v2 M (hs ++ [(x, (M : Int))])) := fun w2 v2 h1 h2 => hL.grow (by rw [hl]; exact h1) h2
      have HL := Lib.hid hL
      have HKK := Lib.hid hK
      have HHL := Lib.hid hl
      have HM := Lib.hid hM
      have HLEN := Lib.hid hlen
      have HOKS := Lib.hid hoks
      clear hL hK hl hM hlen hoks hrow hac hab
      go_wp2_with fail
      go_cut [] from 14 to 28 (fun wx => ∃ A2 c2, Hid (LsI wx p B fv (.slice A2 (l + 1) c2) M (hs ++ [(x, (M : Int))])) ∧ Hid ((Value.slice A2 (l + 1) c2).ownBlock = (Value.slice A' l c').ownBlock ∨ ∀ b, (Value.slice A2 (l + 1) c2).ownBlock = some b → wr.heap.size ≤ b) ∧ Hid (Fr (fun b => (Value.slice A' l c').ownBlock = some b ∨ b = p) wr wx))
      case first =>
        go_region_law (refine step_appS elemI (by rfl) _ _ (by rfl) B (.slice A' l c') l (hs.flatMap encEI) (by rfl) (hcs.out _) ⟨wr.heap.size, 0, none⟩ 1 1 (encEI (x, (M : Int))) (by rfl) (by rfl) (made_cells wr 79 (encEI (x, (M : Int))).toArray) (by simp [encEI, Value.oneCell']) (by unfold maxLen; omega) (by omega) (by simp; omega) ?_; intro v2 w2 hown2 hgrow h5; have hG := fr_of hgrow; obtain ⟨hb2, hx2⟩ := HGR.out w2 v2 hown2 hG; have e0 : w2.cell? ⟨p, 1, none⟩ = some (.slice A' l c') := (hb2.cell 1).trans rfl; have e1 := hb2.frozen 1; have HX := Lib.hid hx2; have HG := Lib.hid hG; have H5 := Lib.hid h5; obtain ⟨A2, c2, hv2⟩ := rw_form hown2; subst hv2; clear hx2 hG h5 hb2 hgrow hown2)
        all_goals (go_wp2_with fail; go_meet; exact ⟨A2, c2, HX, H5.out.elim .inl (fun h => .inr fun b e => by rw [e] at h; injection h with h; rw [h]; exact Nat.le_of_lt (by simp)), (HG.out.wide fun _ _ h => .inl h).trans (Fr.set (X := fun b => (Value.slice A' l c').ownBlock = some b ∨ b = p) _ _ _ (.inr rfl))⟩)
      case rest =>
        obtain ⟨A2, c2, HX, H5, HG⟩ := hcut
        have hrow2 := HX.out.row
        rw [List.length_append, HHL.out, List.length_singleton] at hrow2
        obtain ⟨g2, rfl⟩ : ∃ g2, A2 = some ⟨g2, 0, none⟩ := by
          obtain ⟨_, ⟨_, h0⟩ | ⟨g', cap, cur, hv2, _⟩⟩ := hrow2
          · omega
          · injection hv2 with hv2
            exact ⟨g', hv2⟩
        have hold : ∀ b, (Value.slice A' l c').ownBlock = some b → hv.ownBlock = some b ∨ w.heap.size ≤ b := fun b e => hown.elim (fun h => .inl (h ▸ e)) fun h => .inr (h b e)
        have hg2 : (Value.slice A' l c').ownBlock = some g2 ∨ wr.heap.size ≤ g2 := H5.out.elim (fun h => .inl (h ▸ rfl)) fun h => .inr (h g2 rfl)
        have ncg2 : ¬ c g2 := fun hc => hg2.elim (fun h => hcg g2 h hc) fun h => by have := HLC.out.bnd hj hc; omega
        have hl1 : ((l + 1 : Nat) : Int) - 1 = (l : Int) := by omega
        have HX5 := Lib.hid (HX.out.inc (M + 1))
        have HF5 : Hid (Fr (fun b => (Value.slice A' l c').ownBlock = some b ∨ b = p) wr (wc.setCell ⟨p, 2, none⟩ (.int .i64 ((M + 1 : Nat) : Int)))) := HG.out.trans (Fr.set (X := fun b => (Value.slice A' l c').ownBlock = some b ∨ b = p) _ _ _ (.inr rfl))
        have c1' : wc.cell? ⟨p, 1, none⟩ = some (.slice (some ⟨g2, 0, none⟩) (l + 1) c2) := (HX.out.hd.cell 1).trans rfl
        have c2' : wc.cell? ⟨p, 2, none⟩ = some (.int .i64 M) := (HX.out.hd.cell 2).trans rfl
        have f2' : wc.frozen? ⟨p, 2, none⟩ = false := HX.out.hd.frozen 2
        have hM1 : (M : Int) + 1 = ((M + 1 : Nat) : Int) := by omega
        obtain ⟨M1, hM1'⟩ : ∃ M1, M + 1 = M1 := ⟨_, rfl⟩
        obtain ⟨l1, hl1'⟩ : ∃ l1, l + 1 = l1 := ⟨_, rfl⟩
        have HM1 := Lib.hid hM1'
        have HL1 := Lib.hid hl1'
        rw [hM1'] at hM1 HX5 HF5
        rw [hl1'] at hl1 HX5 c1'
        clear hM1' hl1' hrow2 HX HG H5 hcs HGR c1 cx
        have hl16 : l1 ≤ 1000001 := by have := HL1.out; omega
        have hM16 : M1 ≤ 1000001 := by have := HM1.out; omega
        go_wp2_with fail
        clear c1' c2' f2'
        have hlen1 : (hs ++ [(x, (M : Int))]).length = l1 := by rw [List.length_append, HHL.out, List.length_singleton, HL1.out]
        have hj5 : J (k + t * (2 * dg (E.length + m))) (wc.setCell ⟨p, 2, none⟩ (.int .i64 M1)) := HLC.out.stay hj fun b hb => HF5.out.keep b (HLC.out.bnd hj hb) fun h => h.elim (fun e => hcg b e hb) fun e => hp (e ▸ hb)
        generalize wc.setCell ⟨p, 2, none⟩ (.int .i64 M1) = w5 at *
        have hU : UpI (bfr lt) (hs ++ [(x, (M : Int))]) l := by have := HKK.out.toHp.push (x, (M : Int)); rw [HHL.out] at this; exact this
        have hok5 : ∀ e ∈ hs ++ [(x, (M : Int))], ok e.1 := fun e he => (List.mem_append.1 he).elim (HOKS.out e) fun h => by rw [List.mem_singleton.1 h]; exact okx
        have hX5 := HX5.out
        rw [← hlen1] at hX5
        refine (upI HLC.out p B g2 c2 M1 _ l _ w5 hX5 hp ncg2 hok5 (by rw [hlen1]; have := HL1.out; have := HLEN.out; have := HHL.out; omega) (by rw [hlen1]; have := HL1.out; omega) hU hj5).mono ?_
        rintro e w6 ⟨rfl, hs6, hL6, hpm6, hok6, j6, hF6⟩
        go_wp2
        go_roundw
        case rel =>
          have hW6 := HKK.out.pushed HLC.out.ord x hpm6 hok6
          have htk : xs.take (t + 1) = xs.take t ++ [x] := by rw [List.take_add_one, hx]; rfl
          have hpa : pushAll lt (xs.take (t + 1)) E N = ins (bfr lt) (x, (M : Int)) (pushAll lt (xs.take t) E N) := by rw [htk, pushAll_snoc, List.length_take, Nat.min_eq_left (by omega), HM.out]
          have hd := dg_mono (show l ≤ E.length + m by have := HLEN.out; have := HHL.out; omega)
          have hM9 : N + (t + 1) = M + 1 := by have := HM.out; omega
          refine ⟨t + 1, .slice (some ⟨g2, 0, none⟩) hs6.length c2, by go_num, by omega, ?_, ?_, HLC.out.mono j6 (by rw [Nat.add_mul]; omega), ?_⟩
          · rw [hpa, hM9, HM1.out]
            rw [HM1.out] at hW6
            exact ⟨hs6, hL6, hW6⟩
          · have hsz := hF.size
            rcases hg2 with h9 | h9
            · rcases hown with h8 | h8
              · exact .inl (h8 ▸ h9.symm ▸ rfl)
              · exact .inr fun b e => by cases e; exact h8 g2 h9
            · exact .inr fun b e => by cases e; show w.heap.size ≤ g2; omega
          · have hsz := hF.size
            have h1 : Fr (fun b => (c b ∨ hv.ownBlock = some b ∨ b = p) ∨ w.heap.size ≤ b) w wr := hF.wide fun _ _ h => .inl h
            have h2 : Fr (fun b => (c b ∨ hv.ownBlock = some b ∨ b = p) ∨ w.heap.size ≤ b) wr w5 := HF5.out.wide fun b _ h => h.elim (fun e => (hold b e).elim (fun h => .inl (.inr (.inl h))) .inr) fun e => .inl (.inr (.inr e))
            have h3 : Fr (fun b => (c b ∨ hv.ownBlock = some b ∨ b = p) ∨ w.heap.size ≤ b) w5 w6 := hF6.wide fun b _ h => h.elim (fun h => .inl (.inl h)) fun e => by
              subst e
              exact hg2.elim (fun h => (hold b h).elim (fun h => .inl (.inr (.inl h))) .inr) fun h => .inr (by omega)
            exact ((h1.trans h2).trans h3).wide fun b hb h => h.elim id fun h => by omega
        case measure => simp [intOf]; omega
    · go_wp2
      go_end0
      obtain rfl : t = m := by omega
      rw [List.take_of_length_le (by omega)] at hW
      exact ⟨rfl, hv', hW, hown, hj, hF⟩
end

end Go.Proofs.Ytnepkpcoglfejaa
