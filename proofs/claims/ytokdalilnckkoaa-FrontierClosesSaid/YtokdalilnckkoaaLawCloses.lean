/- The walk of FrontierCloses. -/
import Derived.Test.YtokdalilnckkoaaCloQ
namespace Go.Proofs.Ytokdalilnckkoaa
open Go.RowKit Go.Shelf

attribute [local go_sem] Oper.semAt_some

set_option maxRecDepth 100000 in
set_option maxHeartbeats 1000000 in
theorem law_closes (sz wk : Int) (A : Option Addr) (N cap : Nat) (sc : List Int) (w : World) (hz : 0 ≤ sz ∧ sz ≤ 255) (hwk : 0 ≤ wk ∧ wk ≤ 255) (hN : sc.length = N) (hs : Sees w w.heap.size A (sc.map (Value.int .u8))) (hx : ∀ x ∈ sc, 0 ≤ x ∧ x ≤ 255) :
    Calls Try.prog 4 #[.int .u8 sz, .int .u8 wk, .slice A N cap] w fun e w' => e = .returned (.bool true) ∧ Below w.heap.size w w' := by
  have HS := Lib.hid hs
  have HX := Lib.hid hx
  have HN := Lib.hid hN
  clear hs hx hN
  go_enter Try.func4, Try.ntmps4
  go_wp2_with fail
  refine (awake_any _).mono ?_
  rintro e w1 ⟨rfl, hB1⟩
  replace hB1 := Lib.hid hB1
  by_cases hbig : 400 < N
  · have hbig' : (400 : Int) < (N : Int) := by omega
    go_wp2
    go_ret
    exact ⟨rfl, hB1.out⟩
  · have hbig' : ¬ (400 : Int) < (N : Int) := by omega
    have hn1 : 1 ≤ 1 + sz % 12 := by omega
    have hn2 : 1 + sz % 12 ≤ 12 := by omega
    have hW1 : 1 ≤ 1 + wk % 4 := by omega
    have hW2 : 1 + wk % 4 ≤ 4 := by omega
    go_wp2_with fail
    refine (e_newI w w1 hB1.out).mono ?_
    rintro e w2 ⟨rfl, E2, F2⟩
    replace E2 := Lib.hid E2
    clear F2
    generalize w1.heap.size = g at *
    generalize hnn : 1 + sz % 12 = n at *
    generalize hww : 1 + wk % 4 = WI at *
    obtain ⟨W, rfl⟩ := Int.eq_ofNat_of_zero_le (show 0 ≤ WI by omega)
    replace hnn := Lib.hid hnn
    go_wp2_with fail
    refine (e_pushI w w2 _ _ _ E2.out n).mono ?_
    rintro e w3 ⟨rfl, E3, F3⟩
    replace E3 := Lib.hid E3
    clear F3
    go_wp2_with fail
    refine (e_runI w w3 _ _ _ E3.out 0 _ _ rfl (by simp [addCell, mem0I]) (by simp [addCell, mem0I]) rfl).mono ?_
    rintro e w4 ⟨rfl, E4, F4⟩
    have hI := fun k => inv0 w2.heap.size (w2.heap.size + 1) n hn1 k
    have E4' : EnI w w4 g (allSteps 5 (addCell mem0I w2.heap.size n) (opPush w2.heap.size)).1 [(w2.heap.size + 1, (allSteps 5 (addCell mem0I w2.heap.size n) (opPush w2.heap.size)).2)] := E4
    generalize evI _ = rv1 at *
    generalize Value.int .i64 (resOf _) = rv2 at *
    have st : C1 w g w4.heap.size [] _ _ (List.replicate 0 idle0) [] (.slice none 0 0) (w4.alloc (.cells #[.slice none 0 0] 34)) := ⟨E4'.grow ((Below.refl _ _).alloc (Nat.le_refl _) _), Boxed.new w4 34 _, Ow.nil _ _ _, E4'.bel.size, (fun k q cw hk => by simp at hk), List.nodup_nil, rfl⟩
    generalize (allSteps 5 (addCell mem0I w2.heap.size n) (opPush w2.heap.size)).1 = m0 at *
    generalize [(w2.heap.size + 1, (allSteps 5 (addCell mem0I w2.heap.size n) (opPush w2.heap.size)).2)] = ops0 at *
    replace hI := Lib.hid hI
    have ST := Lib.hid st
    clear st E4 E4' F4 E3 E2
    go_wp2_with fail
    generalize w4.heap.size = b9 at *
    go_loopw [36, 10] (fun i v10 wr => ∃ (k : Nat) (qs : List Nat), k ≤ W ∧ i = .int .i64 k ∧ Hid (C1 w g b9 qs m0 ops0 (List.replicate k idle0) [] (.slice none 0 0) wr) ∧ Hid (Row wr w.heap.size v10 qs)) (fun i _ _ => W - (intOf i).toNat)
    case atStart => exact ⟨0, [], Nat.zero_le _, rfl, ST, Lib.hid (Ow.nil _ _ _)⟩
    case round =>
      clear ST
      obtain ⟨k, qs, hkW, rfl, hC, hR⟩ := hrel
      by_cases hk : k = W
      · have hk' : ¬ (k : Int) < W := by omega
        subst hk
        have hlen : qs.length = k := by rw [hC.out.len, List.length_replicate]
        obtain ⟨Al, cl, hv, _⟩ := Ow.form hR.out
        rw [List.length_map, hlen] at hv
        subst hv
        have st : C2 w g b9 qs n (8 * n - 6) m0 ops0 (List.replicate k idle0) [] (.slice none 0 0) (.slice Al k cl) N 0 wr := by
          refine ⟨hI.out k, hC.out, hR.out, by omega, fun _ => ?_⟩
          refine ((hI.out k).live (by simp; omega) 0).mono ?_
          rw [List.length_replicate]
          have h1 : 4 * k * (8 * n - 6).toNat ≤ 16 * 90 := Nat.mul_le_mul (by omega) (by omega)
          omega
        have ST := Lib.hid st
        have HQL := Lib.hid hlen
        clear st hC hR hlen hI
        go_wp2_with fail
        go_loopw [45] (fun i wr => ∃ (t : Nat) (p : Int) (m : Mem Int) (ops : List (Nat × OpS)) (ws : List CW) (seen : List Int) (vs : Value), t ≤ 3000 ∧ i = .int .i64 t ∧ Hid (ws.length = k) ∧ Hid (C2 w g b9 qs n p m ops ws seen vs (.slice Al k cl) N t wr)) (fun i _ => 3000 - (intOf i).toNat)
        case atStart => exact ⟨0, _, _, _, _, _, _, Nat.zero_le _, rfl, Lib.hid (by simp), ST⟩
        case round =>
          clear ST
          obtain ⟨t, p, m, ops, ws, seen, vs, ht, rfl, hwl, hC⟩ := hrel
          by_cases hte : t = 3000
          · subst hte
            obtain ⟨hp0, hend⟩ := (hC.out.live (by omega)).done
            obtain ⟨_, _, _, z1, z2⟩ := hC.out.inv.zero hp0
            obtain ⟨As, cs, hvs, k9⟩ := hC.out.box
            have hsees : Sees wr wr.heap.size As (seen.map (Value.int .i64)) := Sees.own (c := cs) (n := (seen.map (Value.int .i64)).length) (by have := hC.out.c1.own; rw [hvs] at this; rw [List.length_map] at *; unfold Ow at this; rw [List.length_map] at this; exact this)
            have HSE := Lib.hid hsees
            have HEND := Lib.hid hend
            have HZ1 := Lib.hid z1
            have HZ2 := Lib.hid z2
            have HBEL := Lib.hid hC.out.c1.en.bel
            clear hsees hend z1 z2 hvs hp0
            have hSL : seen.length ≤ 100 := by have := HZ1.out; omega
            generalize hsl : seen.length = SL at *
            replace hsl := Lib.hid hsl
            go_wp2_with fail
            go_loop [97, 13] (fun i v => ∃ j : Nat, j ≤ SL ∧ i = .int .i64 j ∧ v = .int .i64 ((seen.take j).count 1 : Nat)) (fun i _ => SL - (intOf i).toNat)
            case atStart => exact ⟨0, Nat.zero_le _, rfl, rfl⟩
            case round =>
              obtain ⟨j, hj, rfl, rfl⟩ := hrel
              by_cases hje : j = SL
              · have hj' : ¬ (j : Int) < SL := by omega
                subst hje
                have hcnt : (seen.take j).count 1 = seen.count 1 := by rw [List.take_of_length_le (by rw [hsl.out]; omega)]
                rw [hcnt]
                clear hcnt
                generalize hct : seen.count 1 = CT at *
                have HCT : (CT : Int) = n := HZ2.out
                replace hct := Lib.hid hct
                go_wp2_with fail
                go_loop [108] (fun i => ∃ r : Nat, r ≤ k ∧ i = .int .i64 r) (fun i => k - (intOf i).toNat)
                case atStart => exact ⟨0, Nat.zero_le _, rfl⟩
                case round =>
                  obtain ⟨r, hr, rfl⟩ := hrel
                  by_cases hre : r = k
                  · have hr' : ¬ (r : Int) < k := by omega
                    have hz : ((j : Int) == 2 * n - 1) = true := by simpa using HZ1.out
                    go_wp2
                    go_ret
                    exact ⟨rfl, HBEL.out⟩
                  · have hr' : (r : Int) < k := by omega
                    obtain ⟨q, hq⟩ : ∃ q, qs[r]? = some q := ⟨_, List.getElem?_eq_getElem (by rw [HQL.out]; omega)⟩
                    obtain ⟨hkq, adl, hAl, hc0⟩ := hC.out.row.at hq
                    clear hkq
                    subst hAl
                    obtain ⟨cw, hcw, k6⟩ := hC.out.at hq
                    rw [HEND.out cw (List.mem_of_getElem? hcw)] at k6
                    replace hq := Lib.hid hq
                    replace hcw := Lib.hid hcw
                    go_wp2
                    go_round
                    case rel => exact ⟨r + 1, by omega, by go_num⟩
                    case measure => simp [intOf]; omega
              · have hj' : (j : Int) < SL := by omega
                have hjl : j < seen.length := by rw [hsl.out]; omega
                obtain ⟨x, hx⟩ : ∃ x, seen[j]? = some x := ⟨_, List.getElem?_eq_getElem hjl⟩
                obtain ⟨ad, hA, _, hcell⟩ := HSE.out j (.int .i64 x) (by rw [List.getElem?_map, hx]; rfl)
                subst hA
                have hcl : (seen.take j).count 1 ≤ 100 := by
                  have h1 := List.count_le_length (a := (1 : Int)) (l := seen.take j)
                  have h2 := List.length_take_le j seen
                  omega
                have hsn : (seen.take (j + 1)).count 1 = (seen.take j).count 1 + if x = 1 then 1 else 0 := by
                  obtain ⟨hl, e⟩ := List.getElem?_eq_some_iff.1 hx
                  rw [List.take_succ_eq_append_getElem hl, e, List.count_append]
                  by_cases h1 : x = 1 <;> simp [h1]
                replace hsn := Lib.hid hsn
                replace hx := Lib.hid hx
                generalize (seen.take j).count 1 = C0 at *
                by_cases h1 : x = 1
                · subst h1
                  go_wp2
                  go_round
                  case rel => exact ⟨j + 1, by omega, by go_num, by rw [hsn.out]; simp⟩
                  case measure => simp [intOf]; omega
                · have h1' : (x == 1) = false := by simpa using h1
                  go_wp2
                  go_round
                  case rel => exact ⟨j + 1, by omega, by go_num, by rw [hsn.out]; simp [h1]⟩
                  case measure => simp [intOf]; omega
          · have ht' : (t : Int) < 3000 := by omega
            -- the worker of this round
            have hk0 : 0 < k := by omega
            have hr0 : t % k < k := Nat.mod_lt _ hk0
            have hrem0 : (t : Int).tmod (k : Int) = ((t % k : Nat) : Int) := by rw [Int.tmod_eq_emod_of_nonneg (by omega)]; rfl
            have hql : qs.length = k := HQL.out
            obtain ⟨q0, hq0⟩ : ∃ q, qs[t % k]? = some q := ⟨_, List.getElem?_eq_getElem (by omega)⟩
            obtain ⟨hkq, adl, hAl, hc0⟩ := hC.out.row.at hq0
            clear hkq
            subst hAl
            replace hql := Lib.hid hql
            generalize hrr : t % k = r0 at *
            replace hrr := Lib.hid hrr
            have hr0' : (r0 : Int) < k := by omega
            by_cases hsc : t < N
            · have hsc' : (t : Int) < N := by omega
              obtain ⟨x, hx⟩ : ∃ x, sc[t]? = some x := ⟨_, List.getElem?_eq_getElem (by rw [HN.out]; exact hsc)⟩
              have hxb := HX.out x (List.mem_of_getElem? hx)
              obtain ⟨ads, hAs, _, hcs⟩ := (HS.out.below hC.out.c1.en.bel) t (.int .u8 x) (by rw [List.getElem?_map, hx]; rfl)
              subst hAs
              obtain ⟨xn, rfl⟩ := Int.eq_ofNat_of_zero_le hxb.1
              have hr1 : xn % k < k := Nat.mod_lt _ hk0
              have hrem1 : (xn : Int).tmod (k : Int) = ((xn % k : Nat) : Int) := by rw [Int.tmod_eq_emod_of_nonneg (by omega)]; rfl
              obtain ⟨q1, hq1⟩ : ∃ q, qs[xn % k]? = some q := ⟨_, List.getElem?_eq_getElem (by rw [hql.out]; omega)⟩
              obtain ⟨hkq, ad1, hA1, hc1⟩ := hC.out.row.at hq1
              clear hkq
              injection hA1 with hA1
              subst hA1
              generalize xn % k = r1 at *
              have hr1' : (r1 : Int) < k := by omega
              have hw1 : ws[r1]? = some (ws[r1]'(by rw [hwl.out]; exact hr1)) := List.getElem?_eq_getElem _
              generalize ws[r1]'(by rw [hwl.out]; exact hr1) = cw at hw1
              replace hq1 := Lib.hid hq1
              replace hw1 := Lib.hid hw1
              replace hx := Lib.hid hx
              go_wp2_with fail
              refine (wstep_any w wr g b9 q1 r1 qs n p m ops ws seen vs cw hC.out.inv hC.out.c1 hq1.out hw1.out (by omega) (by have := hC.out.p90; omega)).mono ?_
              rintro e w3 ⟨⟨v3, rfl⟩, m', ops', ws', seen', vs', hs', hC', hf'⟩
              obtain ⟨hl', p', hC2⟩ := hC.out.next (r := r1) (q := q1) (by omega) (by rw [hwl.out]; omega) (by omega) (fun e => by omega) hq1.out hs' hC' hf'
              replace hwl := Lib.hid (hl'.trans hwl.out)
              obtain ⟨cw', hcw', k6⟩ := hC2.at hq1.out
              obtain ⟨As, cs, hvs, k9⟩ := hC2.box
              replace hvs := Lib.hid hvs
              replace hcw' := Lib.hid hcw'
              cases hend : cw'.ended with
              | false =>
                rw [hend] at k6
                have HC := Lib.hid hC2
                clear hs' hC' hf' hl' hC2 hC hc0 hc1 hcs
                go_wp2
                go_roundw
                case rel => exact ⟨t + 1, _, _, _, _, _, _, by omega, by go_num, hwl, HC⟩
                case measure => simp [intOf]; omega
              | true =>
                rw [hend] at k6
                obtain ⟨z1, z2, z3⟩ := hC2.ended (List.mem_of_getElem? hcw'.out) hend
                have HP15 := Lib.hid (pendingI g m'.top m'.pd w3 hC2.c1.en.rel.fr)
                rw [z2] at HP15
                have HL17 : Hid (Calls Try.prog 17 #[.pointer (some ⟨g, 0, none⟩)] w3 fun e w' => e = .returned (.int .i64 0) ∧ Below w3.heap.size w3 w') := Lib.hid (by
                  have h1 : IterI w3 (some ⟨g, 0, none⟩) ([].map m'.item) := hC2.c1.en.rel.iter z3
                  exact lenI _ _ w3 h1 (by simp))
                have HC := Lib.hid hC2
                have z1' : Hid ((seen'.length : Int) = 2 * n - 1) := Lib.hid z1
                generalize hsl : seen'.length = SL at *
                have z1'' : (SL : Int) = 2 * n - 1 := z1'.out
                have hneq : ((SL : Int) != 2 * n - 1) = false := by simpa using z1''
                replace hsl := Lib.hid hsl
                replace z1'' := Lib.hid z1''
                clear hs' hC' hf' hl' hC2 hC hc0 hc1 hcs z1 z2 z3
                go_wp2_with fail
                refine HP15.out.mono ?_
                rintro e w' ⟨rfl, rfl⟩
                go_wp2_with fail
                refine HL17.out.mono ?_
                rintro e w4 ⟨rfl, hb4⟩
                have HC4 := Lib.hid (HC.out.grow hb4)
                clear hb4 HC HP15 HL17 k6 k9
                go_wp2
                go_roundw
                case rel => exact ⟨t + 1, _, _, _, _, _, _, by omega, by go_num, hwl, HC4⟩
                case measure => simp [intOf]; omega
            · have hsc' : ¬ (t : Int) < N := by omega
              have hw0 : ws[r0]? = some (ws[r0]'(by rw [hwl.out]; exact hr0)) := List.getElem?_eq_getElem _
              generalize ws[r0]'(by rw [hwl.out]; exact hr0) = cw at hw0
              replace hq0 := Lib.hid hq0
              replace hw0 := Lib.hid hw0
              go_wp2_with fail
              refine (wstep_any w wr g b9 q0 r0 qs n p m ops ws seen vs cw hC.out.inv hC.out.c1 hq0.out hw0.out (by omega) (by have := hC.out.p90; omega)).mono ?_
              rintro e w3 ⟨⟨v3, rfl⟩, m', ops', ws', seen', vs', hs', hC', hf'⟩
              obtain ⟨hl', p', hC2⟩ := hC.out.next (r := r0) (q := q0) (by omega) (by rw [hwl.out]; omega) (by omega) (fun _ => by rw [hwl.out]; exact hrr.out.symm) hq0.out hs' hC' hf'
              replace hwl := Lib.hid (hl'.trans hwl.out)
              obtain ⟨cw', hcw', k6⟩ := hC2.at hq0.out
              obtain ⟨As, cs, hvs, k9⟩ := hC2.box
              replace hvs := Lib.hid hvs
              replace hcw' := Lib.hid hcw'
              cases hend : cw'.ended with
              | false =>
                rw [hend] at k6
                have HC := Lib.hid hC2
                clear hs' hC' hf' hl' hC2 hC hc0
                go_wp2
                go_roundw
                case rel => exact ⟨t + 1, _, _, _, _, _, _, by omega, by go_num, hwl, HC⟩
                case measure => simp [intOf]; omega
              | true =>
                rw [hend] at k6
                obtain ⟨z1, z2, z3⟩ := hC2.ended (List.mem_of_getElem? hcw'.out) hend
                have HP15 := Lib.hid (pendingI g m'.top m'.pd w3 hC2.c1.en.rel.fr)
                rw [z2] at HP15
                have HL17 : Hid (Calls Try.prog 17 #[.pointer (some ⟨g, 0, none⟩)] w3 fun e w' => e = .returned (.int .i64 0) ∧ Below w3.heap.size w3 w') := Lib.hid (by
                  have h1 : IterI w3 (some ⟨g, 0, none⟩) ([].map m'.item) := hC2.c1.en.rel.iter z3
                  exact lenI _ _ w3 h1 (by simp))
                have HC := Lib.hid hC2
                have z1' : Hid ((seen'.length : Int) = 2 * n - 1) := Lib.hid z1
                generalize hsl : seen'.length = SL at *
                have z1'' : (SL : Int) = 2 * n - 1 := z1'.out
                have hneq : ((SL : Int) != 2 * n - 1) = false := by simpa using z1''
                replace hsl := Lib.hid hsl
                replace z1'' := Lib.hid z1''
                clear hs' hC' hf' hl' hC2 hC hc0 z1 z2 z3
                go_wp2_with fail
                refine HP15.out.mono ?_
                rintro e w' ⟨rfl, rfl⟩
                go_wp2_with fail
                refine HL17.out.mono ?_
                rintro e w4 ⟨rfl, hb4⟩
                have HC4 := Lib.hid (HC.out.grow hb4)
                clear hb4 HC HP15 HL17 k6 k9
                go_wp2
                go_roundw
                case rel => exact ⟨t + 1, _, _, _, _, _, _, by omega, by go_num, hwl, HC4⟩
                case measure => simp [intOf]; omega
      · have hk' : (k : Int) < W := by omega
        have hlen : qs.length = k := by rw [hC.out.len, List.length_replicate]
        replace hlen := Lib.hid hlen
        have hsz : w.heap.size ≤ wr.heap.size := hC.out.en.bel.size
        have HRA : Hid (∀ o : Obj, Ow (wr.alloc o) w.heap.size 42 u10 (qs.map pt)) := Lib.hid fun o => Ow.alloc hR.out o
        have hsa : Hid (∀ o : Obj, (wr.alloc o).heap.size = wr.heap.size + 1) := Lib.hid fun o => World.size_alloc ..
        go_wp2_with (at_builtin; refine wpList_app1at (w := wr.alloc (.cells (wcells g b9 (.pointer none) none 0 0 false false) 45)) Try.wksz rfl (.tmp 38) (.tmp 42) rfl w.heap.size u10 (qs.map pt) (pt wr.heap.size) (wr.heap.size + 1) (hsa.out _) rfl rfl (HRA.out _) rfl (by rw [List.length_map, hlen.out]; unfold maxLen; omega) (by rw [List.length_map, hlen.out]; omega) (by rw [hsa.out]; omega) ?_)
        intro v' w5 h1 h2 h3 h4
        have G : Gw (wr.alloc (.cells (wcells g b9 (.pointer none) none 0 0 false false) 45)) w5 u10 := ⟨fun b hb hne => h2 b (by rw [hsa.out] at hb; exact hb) hne, fun B hB hr => h4 B (by rw [hsa.out] at hB; exact hB) hr⟩
        have h1' : w5.ownsRow w.heap.size 42 1 v' (qs.map pt ++ [pt wr.heap.size]).length (qs.map pt ++ [pt wr.heap.size]) := by simpa using h1
        obtain ⟨q1, q2⟩ := hC.out.more hR.out h1' G
        have HQ1 : Hid (C1 w g b9 (qs ++ [wr.heap.size]) m0 ops0 (List.replicate (k + 1) idle0) [] (.slice none 0 0) w5) := Lib.hid (by rw [List.replicate_succ']; exact q1)
        have HQ2 := Lib.hid q2
        clear h1 h2 h3 h4 G h1' q1 q2 HRA hsa hC hR
        go_wp2
        go_roundw
        case rel => exact ⟨k + 1, _, by omega, by go_num, HQ1, HQ2⟩
        case measure => simp [intOf]; omega

end Go.Proofs.Ytokdalilnckkoaa
