/- relucertref41.Order. -/
import Derived.Test.YtambnijbbnohfaaOrder
namespace Go.Proofs.Ytambnijbbnohfaa
open Go.RowKit

theorem aft_place (l : List Int) (n : Int) (h0 : 0 < l.length) : aft l n = l.getD (placeOf l n) 0 := by
  unfold placeOf
  by_cases h : l.findIdx (fun i => decide (n < i)) < l.length
  · rw [if_pos h, List.getD_eq_getElem?_getD, List.getElem?_eq_getElem h]
    refine aft_hit h (by simpa using List.findIdx_getElem (w := h)) fun j hj hlt => ?_
    have := List.not_of_lt_findIdx hlt
    simpa using this
  · rw [if_neg h, List.getD_eq_getElem?_getD, List.getElem?_eq_getElem h0]
    refine aft_miss h0 fun j hj => ?_
    have := List.not_of_lt_findIdx (p := fun i => decide (n < i)) (xs := l) (i := j) (by omega)
    simpa using this

set_option maxHeartbeats 400000 in
theorem ref_arg1 (A A1 : Option Addr) (n c m c1 B : Nat) (most : Int) (zs ss : List Int) (w : World) (hn : zs.length = n) (hN : n ≤ maxLen) (hs : Sees w B A (zs.map (Value.int .i64))) (h : most < 0 ∨ zs.any (fun n => decide (n < 1)) = true) :
    Calls Try.prog 12 #[.slice A n c, .slice A1 m c1, .int .i64 most] w (OrdPost (ordR zs ss most) w) := by
  have hr : ordR zs ss most = ([], 1) := if_pos h
  rw [hr]
  clear hr
  unfold maxLen at hN
  have HN := Lib.hid hn; clear hn
  have HS := Lib.hid hs; clear hs
  have HH := Lib.hid h; clear h
  go_enter Try.func12, Try.ntmps12
  go_wp2
  go_loop [8] (fun i => ∃ k : Nat, k ≤ n ∧ i = .int .i64 k ∧ Hid (∀ j (hj : j < zs.length), j < k → 1 ≤ zs[j])) (fun i => n - (intOf i).toNat)
  case atStart => exact ⟨0, Nat.zero_le _, rfl, fun j _ h => by omega⟩
  case round =>
    obtain ⟨k, hk, rfl, hall⟩ := hrel
    by_cases hlt : k < n
    · have hk1 : k < zs.length := by rw [HN.out]; exact hlt
      obtain ⟨ad, rfl, hadb, hcell⟩ := HS.out.look (k := k) (by simpa using hk1)
      simp only [List.getElem_map] at hcell
      by_cases hp : zs[k] < 1
      · go_wp2
        go_ret2
        exact ⟨⟨_, rfl, OwnI.nil _ _⟩, Below.refl _ _⟩
      · go_wp2
        go_round
        case rel => exact ⟨k + 1, by omega, by go_num, fun j hj h => by
              by_cases e : j = k
              · subst e; omega
              · exact hall.out j hj (by omega)⟩
        case measure => simp [intOf]; omega
    · have hm : most < 0 := by
        refine HH.out.resolve_right fun h => ?_
        rw [List.any_eq_true] at h
        obtain ⟨x, hx, hx1⟩ := h
        obtain ⟨j, hj, rfl⟩ := List.getElem_of_mem hx
        have := hall.out j hj (by have := HN.out; omega)
        simp at hx1
        omega
      go_wp2
      go_ret2
      exact ⟨⟨_, rfl, OwnI.nil _ _⟩, Below.refl _ _⟩

def lenOf : Value → Nat | .slice _ n _ => n | _ => 0

/-- What holds at the head of a round of the reference. -/
structure RefRel (zs ss : List Int) (M : Nat) (vl : Value) (w0 : World) (vo : Value) (last : Int) (w : World) : Prop where
  below : Below w0.heap.size w0 w
  ex : ∃ out left, OwnI w w0.heap.size vo out ∧ OwnI w w0.heap.size vl left ∧ (∀ b, vo.ownBlock = some b → vl.ownBlock ≠ some b) ∧ OkO 1000000 (out, left) (unf left) ∧ left.length = zs.length ∧ out.length ≤ M ∧
    runF actO M (upto zs.length) ss (-1) ([], zs) = (out.length + (runF actO (M - out.length) (unf left) (ss.drop out.length) last (out, left)).1, (runF actO (M - out.length) (unf left) (ss.drop out.length) last (out, left)).2)

theorem ok_len {T : Int} (hT : T ≤ 1000000) {out left op : List Int} (h : OkO T (out, left) op) : out.length ≤ 1000000 := by
  have h1 := h.sum
  have h0 : 0 ≤ left.sum := sum_nonneg left fun x hx => (h.range x hx).1
  simp only at h1
  omega

theorem ref_start {zs ss : List Int} {M : Nat} {vl : Value} {w w1 : World} (h1 : OwnI w1 w.heap.size vl zs) (h2 : Below w.heap.size w w1) (hz : ∀ x ∈ zs, 1 ≤ x ∧ x ≤ 1000) (hl : zs.length ≤ 1000) : RefRel zs ss M vl w (.slice none 0 0) (-1) w1 := by
  refine ⟨h2, [], zs, OwnI.nil _ _, h1, (fun b e => by cases e), ⟨rfl, fun x hx => by have := hz x hx; omega, ?_⟩, rfl, Nat.zero_le _, ?_⟩
  · have := sum_le 1000 zs (fun x hx => (hz x hx).2)
    simp only [List.length_nil]
    omega
  · rw [unf_all zs (fun x hx => by have := hz x hx; omega)]
    simp

theorem ref_end0 {zs ss out left : List Int} {M : Nat} {v : Value} {w w' : World} {last : Int}
    (hr : ordR zs ss M = ((runF actO M (upto zs.length) ss (-1) ([], zs)).2.2.1, if (runF actO M (upto zs.length) ss (-1) ([], zs)).2.1 then 0 else 8))
    (hR : runF actO M (upto zs.length) ss (-1) ([], zs) = (out.length + (runF actO (M - out.length) (unf left) (ss.drop out.length) last (out, left)).1, (runF actO (M - out.length) (unf left) (ss.drop out.length) last (out, left)).2))
    (hu : unf left = []) (ho : OwnI w' w.heap.size v out) (hb : Below w.heap.size w w') : OrdPost (ordR zs ss M) w (.returned (.tuple #[v, .int .i64 0])) w' := by
  rw [hr, hR, hu, runF_nil]
  exact ⟨⟨_, rfl, ho⟩, hb⟩
theorem ref_endM {zs ss out left : List Int} {M : Nat} {v : Value} {w w' : World} {last : Int}
    (hr : ordR zs ss M = ((runF actO M (upto zs.length) ss (-1) ([], zs)).2.2.1, if (runF actO M (upto zs.length) ss (-1) ([], zs)).2.1 then 0 else 8))
    (hR : runF actO M (upto zs.length) ss (-1) ([], zs) = (out.length + (runF actO (M - out.length) (unf left) (ss.drop out.length) last (out, left)).1, (runF actO (M - out.length) (unf left) (ss.drop out.length) last (out, left)).2))
    (hm : out.length = M) (hu : 0 < (unf left).length) (ho : OwnI w' w.heap.size v out) (hb : Below w.heap.size w w') : OrdPost (ordR zs ss M) w (.returned (.tuple #[v, .int .i64 8])) w' := by
  rw [hr, hR, ← hm, Nat.sub_self, runF_zero _ _ _ _ _ hu]
  exact ⟨⟨_, rfl, ho⟩, hb⟩

theorem ref_round {zs ss out left : List Int} {M q gl c : Nat} {cur : Array Value} {v v' : Value} {w w3 w5 : World} {last : Int}
    (hR : runF actO M (upto zs.length) ss (-1) ([], zs) = (out.length + (runF actO (M - out.length) (unf left) (ss.drop out.length) last (out, left)).1, (runF actO (M - out.length) (unf left) (ss.drop out.length) last (out, left)).2))
    (hi : (unf left).getD (place (unf left) (ss.drop out.length) last) 0 = (q : Int)) (hP : place (unf left) (ss.drop out.length) last < (unf left).length) (hle : out.length ≤ M) (hm : ¬ out.length = M) (hu : 0 < (unf left).length) (hq : q < left.length)
    (hg : w.heap.size ≤ gl) (hrow : Bk w5 gl 3 cur) (hc : left.length ≤ c) (hcM : c ≤ maxLen) (hcs : cur.size = c) (hcu : cur.toList.take left.length = left.map (Value.int .i64))
    (hD : ∀ b, v.ownBlock = some b → (Value.slice (some ⟨gl, 0, none⟩) left.length c).ownBlock ≠ some b) (hob : v'.ownBlock = v.ownBlock ∨ ∀ b, v'.ownBlock = some b → w3.heap.size < b)
    (hown : OwnI w5 w.heap.size v' (out ++ [(q : Int)])) (hb3 : Below w.heap.size w w3) (hb5 : Below w.heap.size w3 w5) (hglt : gl < w3.heap.size) (hok : OkO 1000000 (out, left) (unf left)) (hlen : left.length = zs.length) :
    RefRel zs ss M (.slice (some ⟨gl, 0, none⟩) left.length c) w v' q (w5.setCell ⟨gl, q, none⟩ (.int .i64 (left.getD q 0 - 1))) := by
  have hd' : ∀ b, v'.ownBlock = some b → b ≠ gl := fun b e e' => by
    subst e'
    rcases hob with h | h
    · rw [h] at e
      exact hD b e rfl
    · have := h b e
      omega
  have hok' := hok.next hP
  rw [hi] at hok'
  have e2 : (actO (out, left) q).2 = (out ++ [(q : Int)], left.set q (left.getD q 0 - 1)) := by simp [actO]
  obtain ⟨k, hk⟩ : ∃ k, M - out.length = k + 1 := ⟨M - out.length - 1, by omega⟩
  rw [hk, runF_succ _ _ _ _ _ _ hu, hi] at hR
  have hopen : (if (actO (out, left) q).1 then (unf left).eraseIdx (place (unf left) (ss.drop out.length) last) else unf left) = unf (left.set q (left.getD q 0 - 1)) := by
    have := hok'.open_
    rw [e2] at this
    exact this
  rw [hopen, e2] at hok'
  rw [hopen, e2, List.tail_drop] at hR
  have hl2 : (out ++ [(q : Int)]).length = out.length + 1 := by simp
  refine ⟨(hb3.trans hb5).setCell hg _, out ++ [(q : Int)], left.set q (left.getD q 0 - 1), hown.keep fun b e => Below.heap_setCell _ _ _ _ (hd' b e), ?_, fun b e e' => ?_, hok', by simpa using hlen, by omega, ?_⟩
  · have := row_set (x := left.getD q 0 - 1) hg hrow hc hcM hcs hcu hq
    exact this
  · injection e' with e'
    exact hd' b e e'.symm
  · rw [hl2, show M - (out.length + 1) = k from by omega, hR]
    congr 1
    omega

set_option maxHeartbeats 400000 in
theorem ref_run (A A1 : Option Addr) (n c m c1 B B1 M : Nat) (zs ss : List Int) (w : World) (hn : zs.length = n) (hN : n ≤ 1000) (hs : Sees w B A (zs.map (Value.int .i64))) (hm : ss.length = m) (_hmM : m ≤ maxLen)
    (hs1 : Sees w B1 A1 (ss.map (Value.int .u8))) (hby : ∀ x ∈ ss, 0 ≤ x ∧ x ≤ 255) (hM : M ≤ maxLen) (hz : ∀ x ∈ zs, 1 ≤ x ∧ x ≤ 1000) :
    Calls Try.prog 12 #[.slice A n c, .slice A1 m c1, .int .i64 M] w (OrdPost (ordR zs ss M) w) := by
  have h2 : zs.any (fun n => decide (n < 1)) = false := by
    rw [List.any_eq_false]
    intro x hx
    have := (hz x hx).1
    simp; omega
  have hr : ordR zs ss M = ((runF actO M (upto zs.length) ss (-1) ([], zs)).2.2.1, if (runF actO M (upto zs.length) ss (-1) ([], zs)).2.1 then 0 else 8) := by
    unfold ordR
    rw [if_neg (by rw [h2]; simp), Int.toNat_natCast]
  have HR := Lib.hid hr
  unfold maxLen at hM _hmM
  clear hr h2
  have HM := Lib.hid hm; clear hm
  have HN := Lib.hid hn; clear hn
  have HZ := Lib.hid hz; clear hz
  have HBY := Lib.hid hby; clear hby
  have HS := Lib.hid hs.self; clear hs
  have HS1 := Lib.hid hs1.self; clear hs1
  have hM0 : decide ((M : Int) < 0) = false := by simp
  have hM1 : (0 : Int) ≤ (M : Int) := by omega
  go_enter Try.func12, Try.ntmps12
  go_wp2
  go_loop [8] (fun i => ∃ k : Nat, k ≤ n ∧ i = .int .i64 k) (fun i => n - (intOf i).toNat)
  case atStart => exact ⟨0, Nat.zero_le _, rfl⟩
  case round =>
    obtain ⟨k, hk, rfl⟩ := hrel
    by_cases hlt : k < n
    · have hk1 : k < zs.length := by rw [HN.out]; exact hlt
      obtain ⟨ad, rfl, hadb, hcell⟩ := HS.out.look (k := k) (by simpa using hk1)
      simp only [List.getElem_map] at hcell
      have hp : 1 ≤ zs[k] := (HZ.out _ (List.getElem_mem hk1)).1
      go_wp2
      go_round
      case rel => exact ⟨k + 1, by omega, by go_num⟩
      case measure => simp [intOf]; omega
    · go_wp2_with (at_builtin; refine wpList_app Try.ints rfl _ _ rfl w.heap.size _ [] rfl (World.ownsRow_made w #[] 0 (Nat.le_refl _) (by unfold maxLen; omega) rfl) w.heap.size _ _ _ (zs.map (Value.int .i64)) rfl (by rw [List.length_map]; exact HN.out) (HS.out.alloc (Nat.le_refl _) _) (ints_one zs) (by unfold maxLen; rw [List.length_nil]; omega) (by rw [List.length_nil]; omega) (by rw [World.size_alloc]; omega) ?_)
      intro vl w1 hown' hgrow hob
      have h1 : OwnI w1 w.heap.size vl zs := by simpa [OwnI] using hown'
      have h2 : Below w.heap.size w w1 := ((Below.refl _ _).alloc (Nat.le_refl _) _).grown hgrow (by simp) (fun b e => by simp [Value.ownBlock] at e; omega)
      clear hown' hgrow hob
      have hst : RefRel zs ss M vl w (.slice none 0 0) (-1) w1 := ref_start h1 h2 HZ.out (by have := HN.out; omega)
      clear h1 h2
      go_wp2
      go_loopw [10, 11] (fun vo la wr => ∃ last, la = .int .i64 last ∧ RefRel zs ss M vl w vo last wr) (fun vo _ _ => M - lenOf vo)
      case atStart => exact ⟨-1, rfl, hst⟩
      case round =>
        obtain ⟨last, rfl, hbel, out, left, hvo, hvl, hdis, hok, hlen, hle, hR⟩ := hrel
        clear hst
        have HRR := Lib.hid hR; clear hR
        have HD := Lib.hid hdis; clear hdis
        have hosum : out.length ≤ 1000000 := ok_len (Int.le_refl _) hok
        have HLEN := Lib.hid hlen; clear hlen
        have hll : left.length ≤ 1000 := by rw [HLEN.out, HN.out]; exact hN
        obtain ⟨Al, cl, rfl, hcl, hsl⟩ := hvl.form
        obtain ⟨Ao, co, rfl, hco, _⟩ := hvo.form
        go_wp2_with fail
        refine (unf_any Al left.length cl wr.heap.size left wr rfl (by omega) hsl (Nat.le_refl _)).mono ?_
        rintro e w2 ⟨v1, rfl, hu1, hb2⟩
        obtain ⟨A3, c3, rfl, hc3, hs3⟩ := hu1.form
        have hvl2 := hvl.below hb2 (Nat.le_refl _)
        have hvo2 := hvo.below hb2 (Nat.le_refl _)
        have hsl2 := hsl.go hb2
        have hbel2 := hbel.trans (hb2.mono hbel.size)
        clear hvl hvo hsl hbel hu1 hs3 hb2
        by_cases hu : (unf left).length = 0
        · have hu0 : unf left = [] := List.eq_nil_of_length_eq_zero hu
          rw [hu] at *
          have hfin := ref_end0 HR.out HRR.out hu0 hvo2 hbel2
          have HF := Lib.hid hfin
          clear hfin hu0 hu
          go_wp2
          go_ret2
          exact HF.out
        · have hu' : 0 < (unf left).length := by omega
          by_cases hm : out.length = M
          · have hfin := ref_endM HR.out HRR.out hm hu' hvo2 hbel2
            have HF := Lib.hid hfin
            subst hm
            clear hfin
            go_wp2
            go_ret2
            exact HF.out
          · have hm' : ((out.length : Int) == (M : Int)) = false := by rw [beq_eq_false_iff_ne]; omega
            go_wp2_with fail
            refine (unf_any Al left.length cl w2.heap.size left w2 rfl (by omega) hsl2 (Nat.le_refl _)).mono ?_
            rintro e w3 ⟨v3, rfl, hu3, hb3⟩
            obtain ⟨A4, c4, rfl, hc4, hs4⟩ := hu3.form
            have hvl3 := hvl2.below hb3 (Nat.le_refl _)
            have hvo3 := hvo2.below hb3 (Nat.le_refl _)
            have hbel3 := hbel2.trans (hb3.mono hbel2.size)
            clear hvl2 hvo2 hsl2 hbel2 hb3
            go_wp2_with fail
            refine (after_any A4 (unf left).length c4 w3.heap.size (unf left) last w3 rfl hu' (by have := unfTo_le left left.length; unfold unf; omega) hs4).mono ?_
            rintro e w4 ⟨rfl, rfl⟩
            obtain ⟨g4, c4', cur4, hv4, _, hrow4, _, _, _, hcur4⟩ := hu3.head hu'
            obtain ⟨rfl, rfl⟩ : A4 = some ⟨g4, 0, none⟩ ∧ c4 = c4' := by injection hv4 with h1 h2 h3; exact ⟨h1, h3⟩
            obtain ⟨i, hi⟩ : ∃ i, (unf left).getD (place (unf left) (ss.drop out.length) last) 0 = i := ⟨_, rfl⟩
            have hPL := place_lt (unf left) (ss.drop out.length) last hu'
            have hmem : i ∈ unf left := by rw [← hi, List.getD_eq_getElem?_getD, List.getElem?_eq_getElem hPL]; exact List.getElem_mem hPL
            have HPL := Lib.hid hPL; clear hPL
            obtain ⟨q, HQ, rfl, hpos⟩ := mem_unf.mp hmem
            have HI := Lib.hid hi
            obtain ⟨gl, cl', curl, hvle, hglB, hrowl, hclc, hclM, hcls, hclu⟩ := hvl3.head (by omega)
            obtain ⟨rfl, rfl⟩ : Al = some ⟨gl, 0, none⟩ ∧ cl = cl' := by injection hvle with h1 h2 h3; exact ⟨h1, h3⟩
            clear hvle hmem
            have HCS := Lib.hid hcls; clear hcls
            have HCU := Lib.hid hclu; clear hclu
            obtain ⟨x, hxe⟩ : ∃ x, left.getD q 0 = x := ⟨_, rfl⟩
            have HXE := Lib.hid hxe
            have HX : Hid (some (Value.int .i64 (left.getD q 0)) = some (.int .i64 x)) := by show _ = _; rw [hxe]
            have hx0 : 0 < x := by rw [← hxe]; exact hpos
            have hxM : x ≤ 1000000 := by
              rw [← hxe, List.getD_eq_getElem?_getD, List.getElem?_eq_getElem HQ]
              exact (hok.range _ (List.getElem_mem HQ)).2
            clear hxe hpos
            unfold maxLen at hclM
            by_cases hsc : out.length < ss.length
            · obtain ⟨ad1, rfl, _, hsc1⟩ := (HS1.out.below hbel3).look (k := out.length) (by simpa using hsc)
              simp only [List.getElem_map] at hsc1
              have hsb := HBY.out _ (List.getElem_mem hsc)
              have hpl : place (unf left) (ss.drop out.length) last = (ss[out.length] % ((unf left).length : Int)).toNat := by rw [List.drop_eq_getElem_cons hsc]; rfl
              obtain ⟨P, hP⟩ := Int.eq_ofNat_of_zero_le (Int.emod_nonneg ss[out.length] (show ((unf left).length : Int) ≠ 0 by omega))
              have hPl := Int.emod_lt_of_pos ss[out.length] (show (0 : Int) < (unf left).length by omega)
              rw [hP] at hpl hPl
              rw [hpl, Int.toNat_natCast] at hi
              have hPn : P < (unf left).length := by omega
              have hx := row_cell hrow4 hcur4 hPn
              rw [hi] at hx
              have hmlt : out.length < m := by rw [← HM.out]; exact hsc
              obtain ⟨sb, hsbe⟩ : ∃ sb, ss[out.length] = sb := ⟨_, rfl⟩
              rw [hsbe] at hsc1 hsb hP
              have hsb1 := hsb.1
              have hsb2 := hsb.2
              clear hsbe hpl hsb hi hPl
              go_wp2_with (at_builtin; refine wpList_app1 Try.ints rfl _ _ rfl w.heap.size _ (out.map (Value.int .i64)) (.int .i64 q) rfl rfl (by rw [List.length_map]; exact hvo3) rfl (by rw [List.length_map]; unfold maxLen; omega) (by rw [List.length_map]; omega) hbel3.size ?_)
              intro v' w5 hown' hkeep hob hbel5
              have hrow5 := hrowl.keep (hkeep gl hrowl.lt (fun e => HD.out gl e rfl))
              have hown5 : OwnI w5 w.heap.size v' (out ++ [(q : Int)]) := by simpa [OwnI] using hown'
              have hdone := ref_round HRR.out HI.out HPL.out hle hm hu' HQ hglB hrow5 hclc hclM HCS.out HCU.out HD.out hob hown5 hbel3 (hbel5 _ hbel3.size (fun b e => (hvo3.lt b e).1)) hrowl.lt hok HLEN.out
              have hc5 : w5.cell? ⟨gl, q, none⟩ = some (.int .i64 x) := (row_cell hrow5 HCU.out HQ).trans HX.out
              have hf5 : w5.frozen? ⟨gl, q, none⟩ = false := hrow5.frozen q
              have HDD := Lib.hid hdone
              obtain ⟨A6, c6, rfl, hc6, _⟩ := hown5.form
              have HX2 : Hid (left.getD q 0 = x) := HXE
              clear hkeep hob hbel5 hown' hown5 hdone hrow5
              go_wp2
              go_roundw
              case rel => exact ⟨q, rfl, by have := HDD.out; rw [HX2.out] at this; simpa using this⟩
              case measure => simp [lenOf]; omega
            · have hmge : ¬ out.length < m := by rw [← HM.out]; exact hsc
              have hpl : place (unf left) (ss.drop out.length) last = placeOf (unf left) last := by rw [List.drop_of_length_le (by omega)]; rfl
              rw [hpl, ← aft_place _ _ hu'] at hi
              rw [hi]
              clear hpl hi
              go_wp2_with (at_builtin; refine wpList_app1 Try.ints rfl _ _ rfl w.heap.size _ (out.map (Value.int .i64)) (.int .i64 q) rfl rfl (by rw [List.length_map]; exact hvo3) rfl (by rw [List.length_map]; unfold maxLen; omega) (by rw [List.length_map]; omega) hbel3.size ?_)
              intro v' w5 hown' hkeep hob hbel5
              have hrow5 := hrowl.keep (hkeep gl hrowl.lt (fun e => HD.out gl e rfl))
              have hown5 : OwnI w5 w.heap.size v' (out ++ [(q : Int)]) := by simpa [OwnI] using hown'
              have hdone := ref_round HRR.out HI.out HPL.out hle hm hu' HQ hglB hrow5 hclc hclM HCS.out HCU.out HD.out hob hown5 hbel3 (hbel5 _ hbel3.size (fun b e => (hvo3.lt b e).1)) hrowl.lt hok HLEN.out
              have hc5 : w5.cell? ⟨gl, q, none⟩ = some (.int .i64 x) := (row_cell hrow5 HCU.out HQ).trans HX.out
              have hf5 : w5.frozen? ⟨gl, q, none⟩ = false := hrow5.frozen q
              have HDD := Lib.hid hdone
              obtain ⟨A6, c6, rfl, hc6, _⟩ := hown5.form
              have HX2 : Hid (left.getD q 0 = x) := HXE
              clear hkeep hob hbel5 hown' hown5 hdone hrow5
              go_wp2
              go_roundw
              case rel => exact ⟨q, rfl, by have := HDD.out; rw [HX2.out] at this; simpa using this⟩
              case measure => simp [lenOf]; omega

end Go.Proofs.Ytambnijbbnohfaa
