/- The walk of FrontierOnce. -/
import Derived.Test.YtokdalilnckkoaaOnceR
import Derived.Test.YtokdalilnckkoaaAwake
namespace Go.Proofs.Ytokdalilnckkoaa
open Go.RowKit Go.Shelf

attribute [local go_sem] Oper.semAt_some

set_option maxRecDepth 100000 in
set_option maxHeartbeats 1000000 in
theorem law_once (A : Option Addr) (n cap : Nat) (l : List (Int × Int)) (w : World) (hn : l.length = n) (hc : n ≤ cap) (hs : Sees w w.heap.size A (actCells l)) (hx : ∀ p ∈ l, (0 ≤ p.1 ∧ p.1 ≤ 255) ∧ 0 ≤ p.2 ∧ p.2 ≤ 255) :
    Calls Try.prog 3 #[.slice A n cap] w fun e w' => e = .returned (.bool true) ∧ Below w.heap.size w w' := by
  have HS := Lib.hid hs
  have HX := Lib.hid hx
  have HN := Lib.hid hn
  clear hs hx hn
  refine calls_of_wp_marks Try.func3 rfl ?_
  simp only [Try.ntmps3, List.size_toArray, List.length_cons, List.length_nil, Nat.reduceAdd, Nat.reduceSub, Array.replicate_succ, Array.replicate_zero, List.push_toArray, List.append_toArray, List.nil_append, List.cons_append]
  go_wp2_with fail
  refine (awake_any _).mono ?_
  rintro e w1 ⟨rfl, hB1⟩
  have hX1 : Boxed w1 w.heap.size 4 (.bool false) := Bk.below (Boxed.new w 4 (.bool false)) hB1 (by simp)
  have hB1' : Below w.heap.size w w1 := ((Below.refl _ w).alloc (Nat.le_refl _) _).trans (hB1.mono (by simp))
  have hs1 : w.heap.size + 1 ≤ w1.heap.size := by have := hB1.size; simpa using this
  have hc1 := hX1.cell
  have hf1 := hX1.frozen
  clear hB1
  replace hX1 := Lib.hid hX1
  replace hB1' := Lib.hid hB1'
  replace hs1 := Lib.hid hs1
  by_cases hbig : 150 < n
  · have hbig' : (150 : Int) < (n : Int) := by omega
    go_wp2
    have hc5 := World.cell?_setCell_same' w1 ⟨w.heap.size, 0, none⟩ (.bool true) (by rw [hc1]; rfl)
    refine ⟨.bool true, ?_, rfl, hB1'.out.setCell (p := ⟨w.heap.size, 0, none⟩) (Nat.le_refl _) _⟩
    simp [results, go_sem, hc5]
  · have hbig' : ¬ (150 : Int) < (n : Int) := by omega
    clear hc1 hf1
    go_wp2_with fail
    refine (e_newI w w1 hB1'.out).mono ?_
    rintro e w2 ⟨rfl, E2, F2⟩
    have X2 : Boxed w2 w.heap.size 4 (.bool false) := F2.bk hX1.out (by decide)
    have hs2 := F2.size
    have hs1' := hs1.out
    have st : O1 w w1.heap.size w.heap.size w2.heap.size mem0I [] (.slice none 0 0) (.slice none 0 0) (w2.alloc (.cells #[.int .i64 0] 3)) :=
      ⟨E2.grow ((Below.refl _ _).alloc (Nat.le_refl _) _), once0, X2.alloc _, Boxed.new w2 3 (.int .i64 0), Ow.nil _ _ _, Ow.nil _ _ _, Apart.nil _ _ _, Nat.le_refl _, by omega⟩
    have ST := Lib.hid st
    clear E2 F2 X2 hs2 hs1' hX1 hB1' hs1 st
    go_wp2_with fail
    generalize w1.heap.size = g at *
    generalize w2.heap.size = b6 at *
    go_loopw [28, 4, 5] (fun i v4 v5 wr => ∃ (k : Nat) (m : Mem Int) (ops : List (Nat × OpS)), k ≤ n ∧ i = .int .i64 k ∧ Hid (ops.length ≤ k) ∧ Hid (O1 w g w.heap.size b6 m ops v4 v5 wr)) (fun i _ _ _ => n - (intOf i).toNat)
    case atStart => exact ⟨0, mem0I, [], Nat.zero_le _, rfl, Nat.le_refl _, ST.out⟩
    case round =>
      obtain ⟨k, m, ops, hkn, rfl, hok, hO⟩ := hrel
      by_cases hk : k = n
      · have hk' : ¬ (k : Int) < n := by omega
        subst hk
        obtain ⟨A4, c4, hu4, _⟩ := hO.out.o4.form
        subst hu4
        rw [List.length_map] at *
        have hok' : ops.length ≤ 150 := by have := hok.out; omega
        have HN1 := Lib.hid (rfl : ops.length = ops.length)
        go_wp2_with fail
        generalize hN : ops.length = N at *
        go_loopw [74] (fun i wr => ∃ (j : Nat) (m : Mem Int) (ops : List (Nat × OpS)), j ≤ N ∧ i = .int .i64 j ∧ Hid (ops.length = N) ∧ Hid (∀ p ∈ ops.take j, p.2.fin = true) ∧ Hid (O1 w g w.heap.size b6 m ops (.slice A4 N c4) u5 wr)) (fun i _ => N - (intOf i).toNat)
        case atStart => exact ⟨0, m, ops, Nat.zero_le _, rfl, Lib.hid hN, Lib.hid (by simp), hO⟩
        case round =>
          clear hO hok
          obtain ⟨j, m', ops', hjN, rfl, hlen, hfin, hO⟩ := hrel
          by_cases hj : j = N
          · have hj' : ¬ (j : Int) < N := by omega
            subst hj
            clear hN
            have hfin' : ∀ p ∈ ops', p.2.fin = true := by
              have := hfin.out
              rw [List.take_of_length_le (by rw [hlen.out]; omega)] at this
              exact this
            have HF := Lib.hid hfin'
            have hcl : (m'.cells.length : Int) ≤ 150 := by have := hO.out.cells; have := hlen.out; omega
            have hc6 := hO.out.x6.cell
            clear hfin hfin'
            have hmk := make34 m'.cells.length (by omega)
            obtain ⟨A5, c5, hu5, h5⟩ := hO.out.o5.form
            subst hu5
            rw [List.length_map] at *
            have ht5 : (tks ops').length ≤ 150 := by have : (tks ops').length ≤ ops'.length := List.length_filter_le _ _; have := hlen.out; omega
            have ST3 := Lib.hid hO.out.start
            have HOn := Lib.hid hO.out.once
            clear h5
            go_wp2_with fail
            clear hmk hc6 hO
            generalize hT : (tks ops').length = T at *
            generalize hbs : wr.heap.size = bs at *
            go_loopw [85] (fun i wr => ∃ (q : Nat), q ≤ T ∧ i = .int .i64 q ∧ Hid (O2 w g w.heap.size b6 (bs + 1) bs m'.cells.length m' ops' (.slice A5 T c5) (won m' ((tks ops').take q)) wr)) (fun i _ => T - (intOf i).toNat)
            case atStart => exact ⟨0, Nat.zero_le _, rfl, ST3⟩
            case round =>
              clear ST3 hbs
              obtain ⟨q, hq, rfl, hO⟩ := hrel
              by_cases hqT : q = T
              · have hq' : ¬ (q : Int) < T := by omega
                subst hqT
                have hO' := hO.out
                rw [List.take_of_length_le (by omega)] at hO'
                replace hT := Lib.hid hT
                obtain ⟨C, hC, hCl, hCi, hP, hpd⟩ := HOn.out.parts HF.out
                have hwl : (won m' (tks ops')).length ≤ 150 := by have := won_le m' (tks ops'); have := hT.out; omega
                replace hC := Lib.hid hC
                replace hCi := Lib.hid hCi
                replace hP := Lib.hid hP
                replace hpd := Lib.hid hpd
                replace hO' := Lib.hid hO'
                clear hO
                go_wp2_with fail
                refine (allI _ _).mono ?_
                rintro e w3 ⟨rfl, rfl⟩
                go_wp2_with fail
                have hsz : w.heap.size ≤ wr.heap.size := hO'.out.en.bel.size
                have hbs1 : bs < wr.heap.size := Bk.lt hO'.out.row
                have hA : O2 w g w.heap.size b6 (bs + 1) bs m'.cells.length m' ops' (.slice A5 q c5) (won m' (tks ops') ++ []) (wr.alloc (.cells #[.pointer (some ⟨g, 0, none⟩)] 24)) := by
                  rw [List.append_nil]
                  exact hO'.out.fm (hO'.out.en.grow ((Below.refl _ _).alloc (Nat.le_refl _) _)) (.below ((Below.refl _ _).alloc (Nat.le_refl _) _))
                have hS := all_stopsI 8 (by decide) wr.heap.size bs g m'.top m'.pd (C.map m'.item) (wr.alloc (.cells #[.pointer (some ⟨g, 0, none⟩)] 24)) (by simp) (by simp; omega) (cell_new_l wr (.pointer (some ⟨g, 0, none⟩)) 24).1 (Bk.lt hA.en.rel.fr) hA.en.rel.fr (hA.st hC.out)
                refine wpIn_wide.1 (wpIn_rangeFunc_ownF (F := Fence.wide) (n := 9) rfl (by decide) (gf := 35) (lb := #[.pointer (some ⟨wr.heap.size, 0, none⟩)]) rfl trivial (enters_of Try.func35 (by kernel_rfl) rfl)
                  hS belowK_t (belowK_b (by simp; omega)) (Below.refl _ _) (fun _ => rfl)
                  (fun pre W => Good m'.cells.length pre ∧ O2 w g w.heap.size b6 (bs + 1) bs m'.cells.length m' ops' (.slice A5 q c5) (won m' (tks ops') ++ pre) W)
                  (fun _ pre _ => ¬ Good m'.cells.length pre)
                  (fun s W W' row hs hg hr => ⟨hs.1, hs.2.grown (by simp; omega) hg hr⟩)
                  (fun _ _ _ _ _ hs _ _ => hs)
                  ⟨good_nil _, hA⟩
                  ?a1 ?assign ?body ?done ?stop)
                case assign =>
                  intro l x W K hK
                  gi_wp2
                  simpa using hK
                case body =>
                  rintro l pre x W ⟨hg, hJ⟩ hlt
                  have hc6 := hJ.x6.cell
                  have hc12 := hJ.x12.cell
                  have hc2 := hJ.x2.cell
                  have hf2 := hJ.x2.frozen
                  rw [List.length_map] at hlt
                  by_cases hx : 0 ≤ x ∧ x < m'.cells.length
                  · obtain ⟨j, rfl⟩ := Int.eq_ofNat_of_zero_le hx.1
                    have hjn : j < m'.cells.length := by omega
                    have hcj := hJ.cell hjn
                    have hfj := hJ.row.frozen j
                    have hcount : (List.count (j : Int) (won m' (tks ops') ++ pre) : Int) ≤ 1000 := by
                      have h1 := List.count_le_length (a := (j : Int)) (l := won m' (tks ops') ++ pre)
                      rw [List.length_append] at h1
                      omega
                    have HG := Lib.hid (good_snoc hg hjn)
                    have HO := Lib.hid (hJ.see j)
                    rw [List.append_assoc] at HO
                    replace hg := Lib.hid hg
                    generalize List.count (j : Int) (won m' (tks ops') ++ pre) = cj at *
                    clear hJ hlt hS hA
                    gi_wp2
                    exact ⟨KeepsOthers.setCell _ _ _, (Below.refl bs W).setCell (p := ⟨bs, j, none⟩) (Nat.le_refl _) _, HG.out, HO.out⟩
                  · have HB := Lib.hid (not_good hx (pre := pre))
                    clear hJ hlt hS hA
                    by_cases hx0 : x < 0
                    · gi_wp2
                      exact ⟨KeepsOthers.setCell _ _ _, HB.out⟩
                    · have hx1 : (m'.cells.length : Int) ≤ x := by omega
                      gi_wp2
                      exact ⟨KeepsOthers.setCell _ _ _, HB.out⟩
                case done =>
                  rintro D ys W hD rfl ⟨_, hJ⟩ hK
                  have hwD : w.heap.size ≤ D := by
                    simp only [World.size_alloc] at hD
                    omega
                  replace hwD := Lib.hid hwD
                  have hc12 := hJ.x12.cell
                  have HONE : Hid (∀ t, t < m'.cells.length → W.cell? ⟨bs, t, none⟩ = some (.int .i64 1)) := Lib.hid fun t ht => by
                    rw [Bk.cell hJ.row, ints_at (cnt_one hP.out ht)]
                  replace hJ := Lib.hid hJ
                  replace hK := Lib.hid hK
                  clear hD hS hA hO'
                  go_wp2_with fail
                  generalize hNN : m'.cells.length = NN at *
                  go_loop [138] (fun i => ∃ t : Nat, t ≤ NN ∧ i = .int .i64 t) (fun i => NN - (intOf i).toNat)
                  case atStart => exact ⟨0, Nat.zero_le _, rfl⟩
                  case round =>
                    obtain ⟨t, ht, rfl⟩ := hrel
                    replace hNN := Lib.hid hNN
                    by_cases htn : t = NN
                    · have ht' : ¬ (t : Int) < NN := by omega
                      subst htn
                      have hc2 := hJ.out.x2.cell
                      have hf2 := hJ.out.x2.frozen
                      have hc6 := hJ.out.x6.cell
                      clear hc12 HONE
                      go_wp2_with fail
                      have HP15 := Lib.hid (pendingI g m'.top m'.pd W.drew hJ.out.en.rel.fr)
                      rw [hpd.out] at HP15
                      go_still_tail 4, (by kernel_rfl)
                      still_call (HP15.out.mono (fun e w'' h => ⟨h.1, h.2.symm⟩))
                      repeat still_step
                      refine wpStill_nil ?_
                      change wpList _ _ _ _ _ W.drew
                      clear HP15
                      go_wp2
                      have hK' := (KeepsOthers.setCell W ⟨w.heap.size, 0, none⟩ (.bool true)).same D _ hK.out rfl
                      have hK2 : ((W.setCell ⟨w.heap.size, 0, none⟩ (.bool true)).drew).heap[D]? = some (.deferred (some [])) := hK'
                      have hc4 : ((W.setCell ⟨w.heap.size, 0, none⟩ (.bool true)).drew).cell? ⟨w.heap.size, 0, none⟩ = some (.bool true) := World.cell?_setCell_same' W ⟨w.heap.size, 0, none⟩ (.bool true) (by rw [hc2]; rfl)
                      have hc5 := cell_kept hc4 (grownBy_putObj' _ D (.deferred none)) (fun r e => by cases e; exact ⟨_, hK2, rfl⟩)
                      have hbl := hJ.out.en.bel.setCell (p := ⟨w.heap.size, 0, none⟩) (Nat.le_refl _) (.bool true)
                      have hbl2 : Below w.heap.size w ((W.setCell ⟨w.heap.size, 0, none⟩ (.bool true)).drew) := ⟨hbl.os, hbl.tape, hbl.output, hbl.size, hbl.block⟩
                      refine ⟨by simp, .inl ⟨_, _, rfl, run_takeDeferred hK2, ?_⟩⟩
                      refine ⟨.bool true, ?_, rfl, hbl2.trans (belowK_b (w := w) (Nat.le_refl _) _ D _ _ hwD.out hK2 rfl rfl)⟩
                      simp [results, go_sem, hc5]
                    · have ht' : (t : Int) < NN := by omega
                      have hcell := HONE.out t (by omega)
                      go_wp2
                      go_round
                      case rel => exact ⟨t + 1, by omega, by go_num⟩
                      case measure => simp [intOf]; omega
                case stop =>
                  rintro D c pre W _ hp h _
                  exact (h (good_of hCi.out hp)).elim
              · have hq' : (q : Int) < T := by omega
                have hql : q < (tks ops').length := by omega
                have hi : (tks ops')[q]? = some (tks ops')[q] := List.getElem?_eq_getElem _
                generalize (tks ops')[q] = p at hi
                obtain ⟨o, s⟩ := p
                obtain ⟨ad, rfl, _, hcell⟩ := (Sees.own (show wr.ownsRow w.heap.size 29 1 (.slice A5 T c5) T ((tks ops').map fun p => pt p.1) from by have := hO.out.o5; unfold Ow at this; rw [List.length_map, hT] at this; exact this)) q (pt o) (by rw [List.getElem?_map, hi]; rfl)
                unfold pt at hcell
                obtain ⟨⟨i, hi'⟩, hres, hsh⟩ := take_shows HOn.out HF.out hi
                replace hT := Lib.hid hT
                replace hi := Lib.hid hi
                replace hi' := Lib.hid hi'
                replace hres := Lib.hid hres
                replace hsh := Lib.hid hsh
                go_wp2_with fail
                refine (e_showI w _ _ _ _ hO.out.en _ _ _ hi'.out).mono ?_
                rintro e w3 ⟨rfl, E, F⟩
                have HO := Lib.hid (hO.out.fm E F)
                clear E F hO hcell
                rw [hres.out]
                rcases hsh.out with ⟨j, hjn, hr1, hgot, hwon⟩ | ⟨hr1, hgot, hwon⟩
                · rw [hr1, hgot]
                  have hc6 := HO.out.x6.cell
                  have hc12 := HO.out.x12.cell
                  have hcj := HO.out.cell hjn
                  have hfj := HO.out.row.frozen j
                  have hcount : (List.count (j : Int) (won m' ((tks ops').take q)) : Int) ≤ 150 := by
                    have h1 := List.count_le_length (a := (j : Int)) (l := won m' ((tks ops').take q))
                    have h2 := won_le m' ((tks ops').take q)
                    have h3 := List.length_take_le q (tks ops')
                    omega
                  have HO' := Lib.hid (HO.out.see j)
                  rw [← hwon] at HO'
                  generalize List.count (j : Int) (won m' ((tks ops').take q)) = cj at *
                  clear hwon hgot hr1 hsh HO
                  unfold evI
                  go_wp2
                  go_roundw
                  case rel => exact ⟨q + 1, by omega, by go_num, HO'⟩
                  case measure => simp [intOf]; omega
                · rw [hgot]
                  rw [← hwon] at HO
                  clear hwon hgot hsh
                  unfold evI
                  rcases hr1 with hr1 | hr1
                  all_goals
                    rw [hr1]
                    clear hr1
                    go_wp2
                    go_roundw
                    case rel => exact ⟨q + 1, by omega, by go_num, HO⟩
                    case measure => simp [intOf]; omega
          · have hj' : (j : Int) < N := by omega
            have hjl : j < ops'.length := by rw [hlen.out]; omega
            have hi : ops'[j]? = some ops'[j] := List.getElem?_eq_getElem _
            generalize ops'[j] = p at hi
            obtain ⟨o, s⟩ := p
            obtain ⟨ad, rfl, _, hcell⟩ := (Sees.own (show wr.ownsRow w.heap.size 29 1 (.slice A4 N c4) N (ops'.map fun p => pt p.1) from by have := hO.out.o4; unfold Ow at this; rw [List.length_map, hlen.out] at this; exact this)) j (pt o) (by rw [List.getElem?_map, hi]; rfl)
            unfold pt at hcell
            have hpd := hO.out.pd (by rw [hlen.out]; omega)
            replace hi := Lib.hid hi
            go_wp2_with fail
            refine (e_runI w _ _ _ _ hO.out.en _ _ _ hi.out (by omega) (by omega) rfl).mono ?_
            rintro e w3 ⟨rfl, E, F⟩
            have HO := Lib.hid (hO.out.run hi.out E F)
            have hl : (ops'.set j (o, (allSteps 5 m' s).2)).length = N := by rw [List.length_set, hlen.out]
            have hf : ∀ p ∈ (ops'.set j (o, (allSteps 5 m' s).2)).take (j + 1), p.2.fin = true := by
              intro p hp
              rw [List.take_succ_eq_append_getElem (by rw [List.length_set]; exact hjl), List.take_set_of_le (Nat.le_refl _)] at hp
              rcases List.mem_append.1 hp with hp | hp
              · exact hfin.out p hp
              · rw [List.mem_singleton, List.getElem_set_self] at hp
                subst hp
                exact allSteps_fin 5 m' s (mu_le m' s)
            replace hl := Lib.hid hl
            replace hf := Lib.hid hf
            clear E F hcell
            generalize evI _ = v3 at *
            generalize resOf _ = r3 at *
            go_wp2
            go_roundw
            case rel => exact ⟨j + 1, _, _, by omega, by go_num, hl, hf, HO⟩
            case measure => simp [intOf]; omega
      · have hk' : (k : Int) < n := by omega
        obtain ⟨kd, it, ad, rfl, hkd, hit, hc0, hc1, hck, hci⟩ : ∃ (kd it : Int) (ad : Addr), A = some ad ∧ (0 ≤ kd ∧ kd ≤ 255) ∧ (0 ≤ it ∧ it ≤ 255) ∧ wr.cell? (ad.add (k * 2)) = some (.int .u8 kd) ∧ wr.cell? ⟨(ad.add (k * 2)).block, (ad.add (k * 2)).off + 1, none⟩ = some (.int .u8 it) ∧ ad.block < w.heap.size ∧ (l[k]? = some (kd, it)) := act_at HS.out HX.out hO.out.en.bel (by rw [HN.out]; omega)
        clear hci hck
        by_cases h0 : kd = 0
        · subst h0
          have hA := hO.out.alloc (.cells #[.int .u8 0, .int .u8 it] 28)
          have hc6 := hA.x6.cell
          have HA := Lib.hid hA
          have hsz : w.heap.size ≤ wr.heap.size := hO.out.en.bel.size
          clear hO hA
          go_wp2_with fail
          refine (e_pushI w _ _ _ _ HA.out.en m.cells.length).mono ?_
          rintro e w3 ⟨rfl, E, F⟩
          replace E := Lib.hid E
          replace F := Lib.hid F
          clear hc6 hc0 hc1
          have hq : (wr.alloc (.cells #[.int .u8 0, .int .u8 it] 28)).heap.size = wr.heap.size + 1 := World.size_alloc ..
          have hsz3 := F.out.size
          have O4 : Hid (Ow w3 w.heap.size 29 u4 (ops.map fun p => pt p.1)) := Lib.hid (HA.out.mid E.out F.out).2.2.2.1
          have hok' := hok.out
          go_wp2_with (at_builtin; refine wpList_app1 (w := w3) Try.opsz rfl (.tmp 49) (.tmp 53) rfl w.heap.size u4 (ops.map fun p => pt p.1) (pt (wr.heap.size + 1 + 1)) rfl rfl O4.out rfl (by rw [List.length_map]; unfold maxLen; omega) (by rw [List.length_map]; omega) (by omega) ?_)
          intro v' w4 h1 h2 h3 h4
          have h1' : Ow w4 w.heap.size 29 v' ((ops.map fun p => pt p.1) ++ [pt (wr.heap.size + 1 + 1)]) := by
            unfold Ow
            simpa using h1
          have hE := E.out
          have hA := HA.out
          obtain ⟨x6, hO'⟩ := hA.push (o := wr.heap.size + 1 + 1) (by rw [hq] at hE ⊢; exact hE) F.out h1' ⟨h2, h4⟩ h3
          rw [hq] at hO'
          have hcl : (m.cells.length : Int) ≤ 150 := by have := hA.cells; omega
          have hc6 := x6.cell
          have hf6 := x6.frozen
          have HO := Lib.hid hO'
          clear h1 h2 h3 h4 h1' hE hA x6 hO' hq hsz3 hsz E F HA O4
          go_wp2
          go_roundw
          case rel => exact ⟨k + 1, _, _, by omega, by go_num, Lib.hid (by rw [List.length_append]; simp; omega), HO⟩
          case measure => simp [intOf]; omega
        by_cases h1 : kd = 1
        · subst h1
          have hA := hO.out.alloc (.cells #[.int .u8 1, .int .u8 it] 28)
          have HA := Lib.hid hA
          have hsz : w.heap.size ≤ wr.heap.size := hO.out.en.bel.size
          clear hO hA
          go_wp2_with fail
          refine (e_takeI w _ _ _ _ HA.out.en).mono ?_
          rintro e w3 ⟨rfl, E, F⟩
          replace E := Lib.hid E
          replace F := Lib.hid F
          clear hc0 hc1
          have hq : (wr.alloc (.cells #[.int .u8 1, .int .u8 it] 28)).heap.size = wr.heap.size + 1 := World.size_alloc ..
          have hsz3 := F.out.size
          have O4 : Hid (Ow w3 w.heap.size 29 u4 (ops.map fun p => pt p.1)) := Lib.hid (HA.out.mid E.out F.out).2.2.2.1
          have hok' := hok.out
          go_wp2_with (at_builtin; refine wpList_app1 (w := w3) Try.opsz rfl (.tmp 61) (.tmp 63) rfl w.heap.size u4 (ops.map fun p => pt p.1) (pt (wr.heap.size + 1)) rfl rfl O4.out rfl (by rw [List.length_map]; unfold maxLen; omega) (by rw [List.length_map]; omega) (by omega) ?_)
          intro v' w4 h1 h2 h3 h4
          have h1' : Ow w4 w.heap.size 29 v' ((ops.map fun p => pt p.1) ++ [pt (wr.heap.size + 1)]) := by
            unfold Ow
            simpa using h1
          have hE := E.out
          have G : Gw w3 w4 u4 := ⟨h2, h4⟩
          obtain ⟨o5, hO'⟩ := HA.out.take (o := wr.heap.size + 1) (by rw [hq] at hE; exact hE) F.out h1' G h3
          have HO := Lib.hid hO'
          have O5 := Lib.hid o5
          have hsz4 := G.size
          have hsz5 : w.heap.size ≤ w4.heap.size := by omega
          have htl : (tks ops).length ≤ k := Nat.le_trans (List.length_filter_le _ _) hok'
          clear h1 h2 h3 h4 h1' hE hO' hq E F HA O4 o5 G
          go_wp2_with (at_builtin; refine wpList_app1 (w := w4) Try.opsz rfl (.tmp 65) (.tmp 67) rfl w.heap.size u5 ((tks ops).map fun p => pt p.1) (pt (wr.heap.size + 1)) rfl rfl O5.out rfl (by rw [List.length_map]; unfold maxLen; omega) (by rw [List.length_map]; omega) (by omega) ?_)
          intro v'' w5 h1 h2 h3 h4
          have h1' : Ow w5 w.heap.size 29 v'' (((tks ops).map fun p => pt p.1) ++ [pt (wr.heap.size + 1)]) := by
            unfold Ow
            simpa using h1
          have HO2 := Lib.hid (HO.out w5 v'' h1' ⟨h2, h4⟩ h3)
          clear h1 h2 h3 h4 h1' HO O5
          go_wp2
          go_roundw
          case rel => exact ⟨k + 1, _, _, by omega, by go_num, Lib.hid (by rw [List.length_append]; simp; omega), HO2⟩
          case measure => simp [intOf]; omega
        by_cases h2 : kd = 2
        · subst h2
          have HA := Lib.hid (hO.out.alloc (.cells #[.int .u8 2, .int .u8 it] 28))
          have hok' := hok.out
          go_wp2
          go_roundw
          case rel => exact ⟨k + 1, _, _, by omega, by go_num, Lib.hid (by omega), HA⟩
          case measure => simp [intOf]; omega
        have e0 : (kd == 0) = false := by simpa using h0
        have e1 : (kd == 1) = false := by simpa using h1
        have e2 : (kd == 2) = false := by simpa using h2
        have hA := hO.out.alloc (.cells #[.int .u8 kd, .int .u8 it] 28)
        have hok' := hok.out
        by_cases hz : ops.length = 0
        · obtain rfl : ops = [] := List.length_eq_zero_iff.1 hz
          obtain ⟨A4, c4, hu4, _⟩ := hA.o4.form
          subst hu4
          have HA := Lib.hid hA
          clear hA hO
          go_wp2
          go_roundw
          case rel => exact ⟨k + 1, _, _, by omega, by go_num, Lib.hid (by simp), HA⟩
          case measure => simp [intOf]; omega
        · obtain ⟨g4, c4, cur, hu4, hg4, hrow, hlc, hcM, hcs, hcur⟩ := hA.o4.head (by rw [List.length_map]; omega)
          subst hu4
          rw [List.length_map] at *
          have HA := Lib.hid hA
          clear hA hO
          unfold maxLen at hcM
          have hr1 : 0 ≤ it % (ops.length : Int) := Int.emod_nonneg _ (by omega)
          have hr2 : it % (ops.length : Int) < ops.length := Int.emod_lt_of_pos _ (by omega)
          have hi : ops[(it % (ops.length : Int)).toNat]? = some (ops[(it % (ops.length : Int)).toNat]'(by omega)) := List.getElem?_eq_getElem _
          generalize ops[(it % (ops.length : Int)).toNat]'(by omega) = p at hi
          obtain ⟨o, s⟩ := p
          have hcell : (wr.alloc (.cells #[.int .u8 kd, .int .u8 it] 28)).cell? ⟨g4, (it % (ops.length : Int)).toNat, none⟩ = some (.pointer (some ⟨o, 0, none⟩)) :=
            ow_cell (us := ops.map fun p => pt p.1) hrow (by rw [List.length_map]; exact hcur) (by rw [List.getElem?_map, hi]; rfl)
          have hpd := HA.out.pd (by omega)
          replace hi := Lib.hid hi
          replace hcur := Lib.hid hcur
          replace hrow := Lib.hid hrow
          generalize hN : ops.length = N at *
          replace hN := Lib.hid hN
          have hN1 : (0 : Int) < N := by omega
          have hN2 : (N : Int) ≤ 150 := by omega
          go_wp2_with fail
          refine (e_stepI w _ _ _ _ HA.out.en _ _ _ hi.out (by omega) (by omega)).mono ?_
          rintro e w3 ⟨rfl, E, F⟩
          have HO := Lib.hid (HA.out.step hi.out E F)
          have hl : (ops.set (it % (N : Int)).toNat (o, (stp m s).2.1)).length ≤ k + 1 := by rw [List.length_set, hN.out]; omega
          replace hl := Lib.hid hl
          clear E F
          generalize (stp m s).2.2 = b3 at *
          go_wp2
          go_roundw
          case rel => exact ⟨k + 1, _, _, by omega, by go_num, hl, HO⟩
          case measure => simp [intOf]; omega

end Go.Proofs.Ytokdalilnckkoaa
