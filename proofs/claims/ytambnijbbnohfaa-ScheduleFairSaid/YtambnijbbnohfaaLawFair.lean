/- The walk of ScheduleFair. -/
import Derived.Test.YtambnijbbnohfaaFairM
namespace Go.Proofs.Ytambnijbbnohfaa
open Go.RowKit

/-- What holds at the head of a round of the loop over the log. -/
structure F2 (B gs n : Nat) (ss V : List Int) (vlog vl : Value) (i : Nat) (w0 w : World) : Prop where
  below : Below w0.heap.size w0 w
  log : OwnI w B vlog V
  ap : Apart vl vlog
  hB : w0.heap.size ≤ B
  ex : ∃ left last S, OwnI w B vl left ∧ left.length = n ∧ (∀ x ∈ left, 0 ≤ x ∧ x ≤ 50) ∧ SM B gs n S w ∧ Tr left (ss.drop i) last (V.drop i) ∧ Fair left last (lists S) ∧ (i ≤ ss.length → S = List.replicate n none)

theorem sum_take_succ (zs : List Int) (k : Nat) (hk : k < zs.length) : (zs.take (k + 1)).sum = (zs.take k).sum + zs[k] := by
  rw [List.take_add_one, List.getElem?_eq_getElem hk, List.sum_append]
  simp
theorem sum_take_le (zs : List Int) (k : Nat) (h : ∀ x ∈ zs, x ≤ 50) : (zs.take k).sum ≤ 50 * zs.length ∨ (zs.take k).sum ≤ 50 * zs.length := by
  have h1 := sum_le 50 (zs.take k) (fun x hx => h x (List.mem_of_mem_take hx))
  have h2 : (zs.take k).length ≤ zs.length := by rw [List.length_take]; omega
  left
  have : ((zs.take k).length : Int) * 50 ≤ 50 * zs.length := by omega
  omega

theorem F2.done {B gs n gl cl q t : Nat} {ss V left : List Int} {lq : Int} {S : List (Option (Nat × List Bool))} {vlog : Value} {w0 w : World} (hbel : Below w0.heap.size w0 w) (hlog : OwnI w B vlog V) (hap : Apart (.slice (some ⟨gl, 0, none⟩) n cl) vlog) (hB : w0.heap.size ≤ B)
    (hleft : OwnI w B (.slice (some ⟨gl, 0, none⟩) n cl) left) (hll : left.length = n) (hlr : ∀ x ∈ left, 0 ≤ x ∧ x ≤ 50) (hSM : SM B gs n S w) (hql : q < left.length) (hpos : 0 < left.getD q 0) (hlq : left.getD q 0 = lq) (htr : Tr (dec1 left q) (ss.drop t).tail q (V.drop (t + 1)))
    (hfair : Fair (dec1 left q) q (lists S)) (hS : t + 1 ≤ ss.length → S = List.replicate n none) : F2 B gs n ss V vlog (.slice (some ⟨gl, 0, none⟩) n cl) (t + 1) w0 (w.setCell ⟨gl, q, none⟩ (.int .i64 (lq - 1))) := by
  obtain ⟨gl', cl', curl, hvl, hglB, hrowl, hcll, hclM, hcls, hclu⟩ := hleft.head (by omega)
  obtain ⟨rfl, rfl⟩ : gl = gl' ∧ cl = cl' := by injection hvl with h1 h2 h3; injection h1 with h1; injection h1 with h1; exact ⟨h1, h3⟩
  subst hlq
  have hset : ∀ b, b ≠ gl → (w.setCell ⟨gl, q, none⟩ (.int .i64 (left.getD q 0 - 1))).heap[b]? = w.heap[b]? := fun b hb => Below.heap_setCell _ _ _ _ hb
  refine ⟨hbel.setCell (Nat.le_trans hB hglB) _, hlog.keep fun b e => hset b (fun e' => hap gl rfl (by rw [e, e'])), hap, hB, dec1 left q, q, S, ?_, by unfold dec1; rw [List.length_set]; exact hll, ?_, hSM.keep fun b t cs hb ht => hset b (fun e => ?_), by rw [← List.tail_drop]; exact htr, hfair, hS⟩
  · have := row_set (x := left.getD q 0 - 1) hglB hrowl hcll hclM hcls hclu hql
    unfold dec1
    rw [Int.toNat_natCast, ← hll]
    exact this
  · intro x hx
    unfold dec1 at hx
    rcases List.mem_or_eq_of_mem_set hx with hx | rfl
    · exact hlr x hx
    · rw [Int.toNat_natCast]
      rw [List.getD_eq_getElem?_getD, List.getElem?_eq_getElem hql, Option.getD_some] at hpos ⊢
      have := (hlr _ (List.getElem_mem hql)).2
      omega
  · subst e
    exact hb.ne hrowl (by rcases ht with rfl | rfl <;> decide) rfl

structure F4 (B gs n : Nat) (S : List (Option (Nat × List Bool))) (q k : Nat) (vlog vl : Value) (left V : List Int) (w0 w : World) : Prop where
  below : Below w0.heap.size w0 w
  log : OwnI w B vlog V
  left : OwnI w B vl left
  sm : SM B gs n (markTo S q k) w
theorem F4.skip {B gs n : Nat} {S : List (Option (Nat × List Bool))} {q k : Nat} {vlog vl : Value} {left V : List Int} {w0 w : World} (h : F4 B gs n S q k vlog vl left V w0 w) (hk : k < S.length) (hs : S[k] = none) : F4 B gs n S q (k + 1) vlog vl left V w0 w := by
  obtain ⟨h1, h2, h3, h4⟩ := h
  refine ⟨h1, h2, h3, ?_⟩
  rw [markTo_succ S q k hk, hs]
  rw [set_same]
  · exact h4
  · rw [markTo_get S q k hk, List.getElem?_eq_getElem hk, hs]
    rfl
theorem F4.mark {B gs n : Nat} {S : List (Option (Nat × List Bool))} {q k : Nat} {vlog vl : Value} {left V : List Int} {w0 w : World} {s : Nat × List Bool} (h : F4 B gs n S q k vlog vl left V w0 w) (hB : w0.heap.size ≤ B) (hk : k < S.length) (hs : S[k] = some s) :
    F4 B gs n S q (k + 1) vlog vl left V w0 (w.setCell ⟨s.1, q, none⟩ (.bool true)) := by
  obtain ⟨h1, h2, h3, h4⟩ := h
  have hget : (markTo S q k)[k]? = some (some s) := by rw [markTo_get S q k hk, List.getElem?_eq_getElem hk, hs]
  obtain ⟨g1, g2, g3⟩ := h4.cell k s hget
  refine ⟨h1.setCell (Nat.le_trans hB g3) _, h2.keep fun b e => Below.heap_setCell _ _ _ _ (fun e' => h2.ne g1 (by decide) (by rw [e]; exact congrArg some e')), h3.keep fun b e => Below.heap_setCell _ _ _ _ (fun e' => h3.ne g1 (by decide) (by rw [e]; exact congrArg some e')), ?_⟩
  rw [markTo_succ S q k hk, hs]
  exact h4.mark hget

set_option maxRecDepth 100000 in
set_option maxHeartbeats 1000000 in
theorem law_fair (A A1 : Option Addr) (n c m c1 : Nat) (zs ss : List Int) (w : World) (hn : zs.length = n) (hN : n ≤ maxLen) (hs : Sees w w.heap.size A (zs.map (Value.int .i64))) (hm : ss.length = m) (hmc : m ≤ c1) (hcM : c1 ≤ maxLen)
    (hs1 : Sees w w.heap.size A1 (ss.map (Value.int .u8))) (hby : ∀ x ∈ ss, 0 ≤ x ∧ x ≤ 255) :
    Calls Try.prog 8 #[.slice A n c, .slice A1 m c1] w fun e w' => e = .returned (.bool true) ∧ Below w.heap.size w w' := by
  have HN := Lib.hid hn; clear hn
  have HM := Lib.hid hm; clear hm
  have HBY := Lib.hid hby; clear hby
  go_enter Try.func8, Try.ntmps8
  go_wp2_with fail
  refine (awake_any w).mono ?_
  rintro e w1 ⟨rfl, hb1⟩
  have hsa := hs.go hb1
  have hsb := hs1.go hb1
  clear hs hs1
  go_wp2_with fail
  refine (large_any A A1 n c m c1 w1.heap.size zs w1 HN.out hN (by omega) hsa).mono ?_
  rintro e w1 ⟨rfl, rfl⟩
  by_cases hbig : bigB zs m = true
  · rw [hbig]
    go_wp2
    go_ret
    exact ⟨rfl, hb1⟩
  · have hbig' : bigB zs m = false := by simpa using hbig
    obtain ⟨hl1, hl2, hl3⟩ := big_out hbig'
    have HL3 := Lib.hid hl3
    have hn12 : n ≤ 12 := by rw [← HN.out]; exact hl1
    rw [hbig']
    clear hbig hbig' hl3 hl1
    have HSA := Lib.hid hsa; clear hsa
    have HSB := Lib.hid hsb; clear hsb
    go_wp2
    go_loop [26, 5, 7] (fun i s _ => ∃ k : Nat, k ≤ n ∧ i = .int .i64 k ∧ s = .int .i64 (zs.take k).sum ∧ Hid (∀ j (hj : j < zs.length), j < k → 1 ≤ zs[j])) (fun i _ _ => n - (intOf i).toNat)
    case atStart => exact ⟨0, Nat.zero_le _, rfl, rfl, fun j _ h => by omega⟩
    case round =>
      obtain ⟨k, hk, rfl, rfl, hall⟩ := hrel
      have hsum0 : 0 ≤ (zs.take k).sum := sum_nonneg _ fun x hx => by
        obtain ⟨j, hj, rfl⟩ := List.getElem_of_mem hx
        rw [List.length_take] at hj
        rw [List.getElem_take]
        have := hall.out j (by omega) (by omega)
        omega
      have hsum1 : (zs.take k).sum ≤ 600 := by
        have := sum_take_le zs k HL3.out
        have := HN.out
        omega
      by_cases hlt : k < n
      · have hk1 : k < zs.length := by rw [HN.out]; exact hlt
        obtain ⟨ad, rfl, hadb, hcell⟩ := HSA.out.look (k := k) (by simpa using hk1)
        simp only [List.getElem_map] at hcell
        have HSU := Lib.hid (sum_take_succ zs k hk1)
        have hz50 := HL3.out _ (List.getElem_mem hk1)
        by_cases hp : zs[k] < 1
        · go_wp2
          go_ret
          exact ⟨rfl, hb1⟩
        · generalize (zs.take k).sum = sm at *
          go_wp2
          go_round
          case rel => exact ⟨k + 1, by omega, by go_num, by rw [HSU.out], fun j hj h => by
                by_cases e : j = k
                · subst e; omega
                · exact hall.out j hj (by omega)⟩
          case measure => simp [intOf]; omega
      · have hz : ∀ x ∈ zs, 1 ≤ x ∧ x ≤ 50 := fun x hx => by
          obtain ⟨j, hj, rfl⟩ := List.getElem_of_mem hx
          exact ⟨hall.out j hj (by have := HN.out; omega), HL3.out _ (List.getElem_mem hj)⟩
        have HZ := Lib.hid hz
        have htk : zs.take k = zs := List.take_of_length_le (by have := HN.out; omega)
        rw [htk] at hsum0 hsum1 ⊢
        obtain ⟨M, hM⟩ := Int.eq_ofNat_of_zero_le hsum0
        rw [hM] at hsum1 ⊢
        have HMS := Lib.hid hM
        clear hz hall htk hM hsum0
        obtain ⟨V, hV1, hV2, hV3, hV4, hV5⟩ := run_trace M ss (-1) [] zs (fun x hx => by have := HZ.out x hx; omega) HMS.out
        rw [unf_all zs (fun x hx => by have := HZ.out x hx; omega), List.nil_append] at hV1
        rw [unf_all zs (fun x hx => by have := HZ.out x hx; omega)] at hV3 hV4
        have HTR := Lib.hid hV5; clear hV5
        go_wp2_with fail
        refine (crew_any A n c zs w1 HN.out (by omega) HSA.out).mono ?_
        rintro e w2 ⟨⟨bl, vw, gcs, rfl, hcr⟩, hb2⟩
        have hb2' := hb1.trans (hb2.mono hb1.size)
        have hsb2 := HSB.out.below hb2
        have hsa2 := HSA.out.below hb2
        have H3 := Lib.hid (run_crew A1 w1.heap.size bl m c1 M vw gcs zs ss w2 hcr (by rw [HN.out]; omega) HM.out hmc hcM hsb2 HBY.out (by unfold maxLen; omega) (fun x hx => by have := HZ.out x hx; omega))
        generalize hRe : runF actO M (upto zs.length) ss (-1) ([], zs) = R at *
        have HV1 := Lib.hid hV1
        have HV2 := Lib.hid hV2
        have HV3 := Lib.hid hV3
        have HV4 := Lib.hid hV4
        clear hV1 hV2 hV3 hV4 hRe
        go_wp2_with fail
        refine H3.out.mono ?_
        rintro e w3 ⟨rfl, hcr3, hb3⟩
        rw [HV3.out, HV4.out]
        have hb3' := hb2'.trans (hb3.mono hb1.size)
        have hsa3 := hsa2.below hb3
        obtain ⟨vlg, hlg1, hlg2⟩ := hcr3.ex
        rw [HV1.out] at hlg2
        obtain ⟨Alg, clg, rfl, hclg, hslg⟩ := hlg2.form
        have hcl : w3.cell? ⟨bl, 0, none⟩ = some (.slice Alg V.length clg) := by rw [hlg1.cell]; rfl
        rw [HV2.out] at hcl
        clear H3 hb2 hb2' hsb2 hsa2 hcr hb3
        simp only [if_true]
        have hMM : ((M : Int) != (M : Int)) = false := by simp
        have hsz3 := hb3'.size
        have hBsz : w1.heap.size ≤ w3.heap.size := hcr3.size
        have HO : Hid ((w3.alloc (.cells #[] 3)).ownsRow w3.heap.size 3 1 (.slice (some ⟨w3.heap.size, 0, none⟩) 0 0) ([] : List Value).length []) := World.ownsRow_made w3 #[] 0 (Nat.le_refl _) (by unfold maxLen; omega) rfl
        have HS3 := Lib.hid (hsa3.self.alloc (Nat.le_refl _) (.cells #[] 3))
        have HZL : Hid ((zs.map (Value.int .i64)).length = n) := by show _ = _; rw [List.length_map]; exact HN.out
        go_wp2_with (at_builtin; refine wpList_app Try.ints rfl (.tmp 63) (.tmp 64) rfl w3.heap.size (.slice (some ⟨w3.heap.size, 0, none⟩) 0 0) [] rfl HO.out w3.heap.size A n c (zs.map (Value.int .i64)) rfl HZL.out HS3.out (ints_one _) (by unfold maxLen; rw [List.length_nil]; omega) (by rw [List.length_nil]; omega) (by rw [World.size_alloc]; omega) ?_)
        intro v5 w5 hrow5 hgrow5 hob5
        have hown5 : OwnI w5 w3.heap.size v5 zs := by
          unfold OwnI
          rw [HN.out]
          simpa [HN.out] using hrow5
        have hb5 : Below w3.heap.size w3 w5 := ((Below.refl _ _).alloc (Nat.le_refl _) _).grown hgrow5 (by simp) (fun b e => by simp [Value.ownBlock] at e; omega)
        clear hrow5 hgrow5 hob5 HO HS3 hsa3
        obtain ⟨Al, cl, rfl⟩ : ∃ Al cl, v5 = .slice Al n cl := by
          obtain ⟨Al, cl, h, _⟩ := hown5.form
          rw [HN.out] at h
          exact ⟨Al, cl, h⟩
        have hlg5 := hlg2.below hb5 (Nat.le_refl _)
        have hcl5 : w5.cell? ⟨bl, 0, none⟩ = some (.slice Alg M clg) := (hb5.cell (p := ⟨bl, 0, none⟩) hlg1.lt).trans hcl
        have hmk := make46 n (by omega)
        have hst : F2 w1.heap.size w5.heap.size n ss V (.slice Alg V.length clg) (.slice Al n cl) 0 w (w5.alloc (.cells (Array.replicate n (sv n none)) 47)) := by
          have hrep : ((List.replicate n (none : Option (Nat × List Bool))).map (sv n)).toArray = Array.replicate n (sv n none) := by simp
          have hb6 : Below w.heap.size w w5 := hb3'.trans (hb5.mono hsz3)
          refine ⟨hb6.alloc hb6.size _, World.ownsRow.alloc hlg5 _, fun b e e' => ?_, hb1.size, zs, -1, List.replicate n none, ?_, HN.out, fun x hx => by have := HZ.out x hx; omega, ⟨by rw [hrep]; exact Bk.made _ _ _, by simp, by have := hb5.size; omega, fun k s hs => ?_, fun k l s t hs => ?_⟩, by simpa using HTR.out, ?_, fun _ => rfl⟩
          · have h1 := (hown5.lt b e).1
            have h2 := (hlg2.lt b e').2
            omega
          · exact World.ownsRow.alloc (OwnI.down hown5 hBsz) _
          · rw [List.getElem?_replicate] at hs; split at hs <;> simp at hs
          · rw [List.getElem?_replicate] at hs; split at hs <;> simp at hs
          · have : lists (List.replicate n (none : Option (Nat × List Bool))) = List.replicate n none := by unfold lists; rw [List.map_replicate]; rfl
            rw [this]
            exact Fair.none _ _ _
        clear hcl hlg1 hlg2 hlg5 hown5 hslg hcr3 hb5
        rw [HV2.out] at hst
        have hl5 := World.block_lt_of_cell? w5 _ hcl5
        have hcl5 : ∀ o : Obj, (w5.alloc o).cell? ⟨bl, 0, none⟩ = some (.slice Alg M clg) := fun o => (World.cell?_alloc_lt w5 o _ hl5).trans hcl5
        go_wp2
        clear hcl5 hmk
        have hmk := make47 n (by omega)
        have hneq := fun (W : World) (a : Option Addr) (l d : Nat) => run_neq_slice_nil_any (P := Try.prog) W 47 4 a l d 0 0 Try.underlying47
        generalize w5.heap.size = gs at *
        go_loopw [73] (fun i wr => ∃ t : Nat, t ≤ M ∧ i = .int .i64 t ∧ F2 w1.heap.size gs n ss V (.slice Alg M clg) (.slice Al n cl) t w wr) (fun i _ => M - (intOf i).toNat)
        case atStart => exact ⟨0, Nat.zero_le _, rfl, hst⟩
        case round =>
          obtain ⟨t, ht, rfl, hbel, hlog, hap, hB0, left, last, S, hleft, hll, hlr, hSM, htr, hfair, hSn⟩ := hrel
          clear hst
          have HFAIR := Lib.hid hfair; clear hfair
          have HTR2 := Lib.hid htr; clear htr
          have HSN := Lib.hid hSn; clear hSn
          have HLR := Lib.hid hlr; clear hlr
          have HLL := Lib.hid hll; clear hll
          by_cases hlt2 : t < M
          · have htV : t < V.length := by rw [HV2.out]; exact hlt2
            have htr2 := HTR2.out
            rw [List.drop_eq_getElem_cons htV] at htr2
            obtain ⟨hul, hxe, htr3⟩ := htr2
            obtain ⟨_, hx0, hxl, hxp⟩ := step_open (out := []) (place_lt (unf left) (ss.drop t) last hul) hxe
            obtain ⟨q, hq⟩ := Int.eq_ofNat_of_zero_le hx0
            have HXE := Lib.hid hxe
            have HTR3 := Lib.hid htr3
            have HVQ := Lib.hid hq
            clear hxe htr3
            rw [hq, Int.toNat_natCast] at hxl hxp
            clear hx0 hq
            -- the log's row
            obtain ⟨g6, c6, cur6, hv6, _, hrow6, _, _, _, hcur6⟩ := hlog.head (by omega)
            obtain ⟨rfl, rfl⟩ : Alg = some ⟨g6, 0, none⟩ ∧ clg = c6 := by injection hv6 with h1 h2 h3; exact ⟨h1, h3⟩
            clear hv6
            have hc6 : wr.cell? ⟨g6, t, none⟩ = some (.int .i64 q) := by
              have := row_cell hrow6 hcur6 htV
              rw [List.getD_eq_getElem?_getD, List.getElem?_eq_getElem htV, Option.getD_some, HVQ.out] at this
              exact this
            -- the row of what is left
            obtain ⟨gl, cl', curl, hvl, hglB, hrowl, hcll, hclM, hcls, hclu⟩ := hleft.head (by omega)
            obtain ⟨rfl, rfl⟩ : Al = some ⟨gl, 0, none⟩ ∧ cl = cl' := by injection hvl with h1 h2 h3; exact ⟨h1, h3⟩
            clear hvl
            have hqn : q < n := by rw [← HLL.out]; exact hxl
            have hcq := row_cell hrowl hclu hxl
            obtain ⟨lq, hlqe⟩ : ∃ lq, left.getD q 0 = lq := ⟨_, rfl⟩
            have hlqM : lq ≤ 50 := by
              rw [← hlqe, List.getD_eq_getElem?_getD, List.getElem?_eq_getElem hxl]
              exact (HLR.out _ (List.getElem_mem hxl)).2
            rw [hlqe] at hcq hxp
            have HLQ := Lib.hid hlqe; clear hlqe
            have hlq0 : (lq == 0) = false := by rw [beq_eq_false_iff_ne]; omega
            have hq0 : decide ((q : Int) < 0) = false := by simp
            have hqn' : decide (n ≤ q) = false := by simp; omega
            have hfq := hrowl.frozen q
            unfold maxLen at hclM
            by_cases hsc : m ≤ t
            · have HCYC : Hid (Cyc left last (q : Int)) := by
                have h1 := HXE.out
                rw [List.drop_of_length_le (by rw [HM.out]; exact hsc)] at h1
                have h2 := cyc_place left last hul
                have h3 : (unf left).getD (placeOf (unf left) last) 0 = (q : Int) := by rw [← HVQ.out]; exact h1.symm
                rw [h3] at h2
                exact h2
              have hSl : q < S.length := by rw [hSM.len]; exact hqn
              go_wp2
              -- each unfinished worker is marked
              go_loop [99, 16, 17] (fun i _ _ => ∃ o : Nat, o ≤ n ∧ i = .int .i64 o) (fun i _ _ => n - (intOf i).toNat)
              case atStart => exact ⟨0, Nat.zero_le _, rfl⟩
              case round =>
                obtain ⟨o, ho, rfl⟩ := hrel
                by_cases hlt3 : o < n
                · have hol : o < left.length := by rw [HLL.out]; exact hlt3
                  have hco := row_cell hrowl hclu hol
                  have hlo : 0 ≤ left.getD o 0 ∧ left.getD o 0 ≤ 50 := by
                    rw [List.getD_eq_getElem?_getD, List.getElem?_eq_getElem hol]
                    exact HLR.out _ (List.getElem_mem hol)
                  obtain ⟨lo, hloe⟩ : ∃ lo, left.getD o 0 = lo := ⟨_, rfl⟩
                  rw [hloe] at hco hlo
                  obtain ⟨hlo0, hlo1⟩ := hlo
                  have HLO := Lib.hid hloe; clear hloe
                  cases hsq : S[q] with
                  | none =>
                    have hcs := hSM.at (k := q) (s := none) (by rw [List.getElem?_eq_getElem hSl, hsq])
                    unfold sv at hcs
                    clear hsq
                    go_wp2
                    go_round
                    case rel => exact ⟨o + 1, by omega, by go_num⟩
                    case measure => simp [intOf]; omega
                  | some sf =>
                    have hsq' : S[q]? = some (some sf) := by rw [List.getElem?_eq_getElem hSl, hsq]
                    have hcs := hSM.at hsq'
                    have hbit := hSM.bit hsq' hlt3
                    unfold sv at hcs
                    have HSQ := Lib.hid hsq'
                    clear hsq hsq'
                    by_cases hoq : o = q
                    · have hne1 : ((o : Int) != (q : Int)) = false := by rw [bne_eq_false_iff_eq]; omega
                      have hoq1 : o ≤ q := by omega
                      have hoq2 : q ≤ o := by omega
                      clear hoq
                      generalize sf.2.getD o false = bt at *
                      go_wp2
                      go_round
                      case rel => exact ⟨o + 1, by omega, by go_num⟩
                      case measure => simp [intOf]; omega
                    · have hne1 : ((o : Int) != (q : Int)) = true := by rw [bne_iff_ne]; omega
                      by_cases hlp : 0 < lo
                      · have hbt : sf.2.getD o false = true := by
                          have ho1 : (o : Int) ∈ unf left := mem_unf.mpr ⟨o, hol, rfl, by rw [HLO.out]; exact hlp⟩
                          refine HFAIR.out q sf.2 ?_ o ho1 hoq (cyc_check HCYC.out ho1 (by omega))
                          unfold lists
                          rw [List.getElem?_map, HSQ.out]
                          rfl
                        rw [hbt] at hbit
                        clear hbt
                        go_wp2
                        go_round
                        case rel => exact ⟨o + 1, by omega, by go_num⟩
                        case measure => simp [intOf]; omega
                      · generalize sf.2.getD o false = bt at *
                        go_wp2
                        go_round
                        case rel => exact ⟨o + 1, by omega, by go_num⟩
                        case measure => simp [intOf]; omega
                · have hF0 : F4 w1.heap.size gs n S q 0 (.slice (some ⟨g6, 0, none⟩) M clg) (.slice (some ⟨gl, 0, none⟩) n cl) left V w wr := ⟨hbel, hlog, hleft, by rw [markTo_zero]; exact hSM⟩
                  have hSlen := hSM.len
                  have HSLEN := Lib.hid hSlen
                  have HSZ : Hid (∀ (kk : Nat) (sf : Nat × List Bool), S[kk]? = some (some sf) → sf.2.length = n) := fun kk sf hkk => (hSM.cell kk sf hkk).2.1
                  have hSln : n ≤ S.length := by omega
                  clear hSlen
                  clear hcq hc6 hfq hbel hlog hleft hSM hrow6 hrowl hcur6 hclu hcls
                  obtain ⟨wo, rfl⟩ : ∃ wo : World, wo = wr := ⟨_, rfl⟩
                  go_wp2
                  go_loopw [131, 18] (fun i _ wr2 => ∃ k4 : Nat, k4 ≤ n ∧ i = .int .i64 k4 ∧ F4 w1.heap.size gs n S q k4 (.slice (some ⟨g6, 0, none⟩) M clg) (.slice (some ⟨gl, 0, none⟩) n cl) left V w wr2) (fun i _ _ => n - (intOf i).toNat)
                  case atStart => exact ⟨0, Nat.zero_le _, rfl, hF0⟩
                  case round =>
                    obtain ⟨k4, hk4, rfl, hF⟩ := hrel
                    clear hF0
                    have hF' := hF
                    obtain ⟨hbel, hlog, hleft, hSM⟩ := hF
                    by_cases hlt4 : k4 < n
                    · have hkS : k4 < S.length := by omega
                      have hget := markTo_get S q k4 hkS
                      rw [List.getElem?_eq_getElem hkS] at hget
                      cases hsq : S[k4] with
                      | none =>
                        rw [hsq] at hget
                        have hcs := hSM.at hget
                        have hdone := hF'.skip hkS hsq
                        unfold sv at hcs
                        clear hsq hget hF' hbel hlog hleft hSM
                        go_wp2
                        go_roundw
                        case rel => exact ⟨k4 + 1, by omega, by go_num, hdone⟩
                        case measure => simp [intOf]; omega
                      | some sf =>
                        rw [hsq] at hget
                        have hcs := hSM.at hget
                        have hbit := hSM.bit hget hqn
                        have hfz := (hSM.cell k4 sf hget).1.frozen q
                        have hdone := hF'.mark hB0 hkS hsq
                        unfold sv at hcs
                        clear hsq hget hF' hbel hlog hleft hSM
                        generalize sf.2.getD q false = bt at *
                        go_wp2
                        go_roundw
                        case rel => exact ⟨k4 + 1, by omega, by go_num, hdone⟩
                        case measure => simp [intOf]; omega
                    · obtain rfl : n = k4 := by omega
                      clear hF'
                      have hmq : q < (markTo S q n).length := by rw [hSM.len]; exact hqn
                      have hcs0 := (hSM.at (k := q) (s := (markTo S q n)[q]) (List.getElem?_eq_getElem hmq))
                      have hgsl := hSM.row.lt
                      have hcs1 : ∀ o : Obj, (wr.alloc o).cell? ⟨gs, q, none⟩ = some (sv n (markTo S q n)[q]) := fun o => (World.cell?_alloc_lt wr o _ hgsl).trans hcs0
                      have hfs1 : ∀ o : Obj, (wr.alloc o).frozen? ⟨gs, q, none⟩ = false := fun o => (hSM.row.alloc o).frozen q
                      obtain ⟨gl', cl', curl', hvl, hglB', hrowl, hcll', hclM', hcls, hclu⟩ := hleft.head (by omega)
                      obtain ⟨rfl, rfl⟩ : gl = gl' ∧ cl = cl' := by injection hvl with h1 h2 h3; injection h1 with h1; injection h1 with h1; exact ⟨h1, h3⟩
                      clear hvl
                      have hcq := row_cell hrowl hclu hxl
                      rw [HLQ.out] at hcq
                      have hgll := hrowl.lt
                      have hgg : ¬ gl = gs := fun e => hrowl.ne hSM.row (by decide) e
                      have hfl : wr.frozen? ⟨gl, q, none⟩ = false := hrowl.frozen q
                      have hw1 : w1.heap.size ≤ wr.heap.size := by omega
                      have hSMf := hSM.fresh hqn hw1
                      have hnewb : Below w.heap.size w ((wr.alloc (.cells (bools (List.replicate n false)) 4)).setCell ⟨gs, q, none⟩ (.slice (some ⟨wr.heap.size, 0, none⟩) n n)) := (hbel.alloc hbel.size _).setCell (Nat.le_trans hB0 hSM.hgs) _
                      have hkp : ∀ {u : Value} {xs : List Int}, OwnI wr w1.heap.size u xs → OwnI ((wr.alloc (.cells (bools (List.replicate n false)) 4)).setCell ⟨gs, q, none⟩ (.slice (some ⟨wr.heap.size, 0, none⟩) n n)) w1.heap.size u xs := fun {u xs} hu =>
                        hu.keep fun b e => (Below.heap_setCell _ _ _ _ (fun e' => hu.ne hSM.row (by decide) (by rw [e]; exact congrArg some e'))).trans (Below.heap_alloc _ _ _ (hu.lt b e).2)
                      have hdone : F2 w1.heap.size gs n ss V (.slice (some ⟨g6, 0, none⟩) M clg) (.slice (some ⟨gl, 0, none⟩) n cl) (t + 1) w (((wr.alloc (.cells (bools (List.replicate n false)) 4)).setCell ⟨gs, q, none⟩ (.slice (some ⟨wr.heap.size, 0, none⟩) n n)).setCell ⟨gl, q, none⟩ (.int .i64 (lq - 1))) := by
                        refine F2.done hnewb (hkp hlog) hap hB0 (hkp hleft) HLL.out HLR.out hSMf hxl (by rw [HLQ.out]; exact hxp) HLQ.out (by have := HTR3.out; rw [HVQ.out] at this; exact this) ?_ (fun h => by rw [HM.out] at h; omega)
                        have e1 : lists ((markTo S q n).set q (some (wr.heap.size, List.replicate n false))) = (marked (lists S) q).set q (some (List.replicate n false)) := by
                          rw [← lists_markTo, HSLEN.out]
                          unfold lists
                          rw [List.map_set]
                          rfl
                        rw [e1]
                        refine HFAIR.out.next HCYC.out hxl (by rw [HLQ.out]; exact hxp) fun kk f hf => ?_
                        obtain ⟨bb, hbb⟩ := lists_get hf
                        have := HSZ.out kk _ hbb
                        rw [HLL.out]
                        exact this
                      rw [World.setCell_alloc_past _ _ _ _ hgsl, World.setCell_alloc_past _ _ _ _ (by simpa [World.setCell] using hgll)] at hdone
                      have HDONE := Lib.hid hdone
                      generalize sv n (markTo S q n)[q] = sold at *
                      clear hdone hSMf hnewb hkp hSM hlog hleft hbel hcs0 hrowl hclu hcls
                      unfold maxLen at hclM'
                      go_wp2
                      go_roundw
                      case rel => exact ⟨t + 1, by omega, by go_num, HDONE.out⟩
                      case measure => simp [intOf]; omega
            · have hdone : F2 w1.heap.size gs n ss V (.slice (some ⟨g6, 0, none⟩) M clg) (.slice (some ⟨gl, 0, none⟩) n cl) (t + 1) w (wr.setCell ⟨gl, q, none⟩ (.int .i64 (lq - 1))) := by
                have hS0 := HSN.out (by rw [HM.out]; omega)
                refine F2.done hbel hlog hap hB0 hleft HLL.out HLR.out hSM hxl (by rw [HLQ.out]; exact hxp) HLQ.out (by have := HTR3.out; rw [HVQ.out] at this; exact this) ?_ (fun _ => hS0)
                rw [hS0]
                have : lists (List.replicate n (none : Option (Nat × List Bool))) = List.replicate n none := by unfold lists; rw [List.map_replicate]; rfl
                rw [this]
                exact Fair.none _ _ _
              clear hSM hlog hleft hrow6 hrowl hbel
              go_wp2
              go_roundw
              case rel => exact ⟨t + 1, by omega, by go_num, hdone⟩
              case measure => simp [intOf]; omega
          · go_wp2
            go_ret
            exact ⟨rfl, hbel⟩

end Go.Proofs.Ytambnijbbnohfaa
