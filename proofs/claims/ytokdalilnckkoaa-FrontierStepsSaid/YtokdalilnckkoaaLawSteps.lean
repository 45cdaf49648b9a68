/- The walk of FrontierSteps. -/
import Derived.Test.YtokdalilnckkoaaStepsQ
import Derived.Test.YtokdalilnckkoaaAwake
import Derived.Deep.CutRange
namespace Go.Proofs.Ytokdalilnckkoaa
open Go.RowKit Go.Shelf

attribute [local go_sem] Oper.semAt_some

set_option maxRecDepth 100000 in
set_option maxHeartbeats 1000000 in
theorem law_steps (A : Option Addr) (n cap : Nat) (l : List (Int × Int)) (w : World) (hn : l.length = n) (hs : Sees w w.heap.size A (actCells l)) (hx : ∀ p ∈ l, (0 ≤ p.1 ∧ p.1 ≤ 255) ∧ 0 ≤ p.2 ∧ p.2 ≤ 255) :
    Calls Try.prog 5 #[.slice A n cap] w fun e w' => e = .returned (.bool true) ∧ Below w.heap.size w w' := by
  have HS := Lib.hid hs
  have HX := Lib.hid hx
  have HN := Lib.hid hn
  clear hs hx hn
  go_enter Try.func5, Try.ntmps5
  go_wp2_with fail
  refine (awake_any _).mono ?_
  rintro e w1 ⟨rfl, hB1⟩
  replace hB1 := Lib.hid hB1
  by_cases hbig : 150 < n
  · have hbig' : (150 : Int) < (n : Int) := by omega
    go_wp2
    go_ret
    exact ⟨rfl, hB1.out⟩
  · have hbig' : ¬ (150 : Int) < (n : Int) := by omega
    go_wp2_with fail
    refine (e_newI w w1 hB1.out).mono ?_
    rintro e w2 ⟨rfl, E2, F2⟩
    have hs2 := F2.size
    replace E2 := Lib.hid E2
    clear F2
    go_wp2_with fail
    refine (rnew_any w2).mono ?_
    rintro e w3 ⟨rfl, R3, hb3⟩
    have st : S1 w w1.heap.size w2.heap.size mem0I [] ⟨[], -1, 0, []⟩ (.slice none 0 0) (.slice none 0 0) [] (.slice none 0 0) 0 w3 :=
      ⟨E2.out.grow hb3, ⟨R3.fr, World.ownsRow_nil _ _ _ _, World.ownsRow_nil _ _ _ _, E2.out.bel.size⟩, Ow.nil _ _ _, stk0, sim0, by simp [mem0I], by simp [mem0I], Nat.le_refl _⟩
    have ST := Lib.hid st
    clear st R3 hb3 E2 hs2
    generalize w1.heap.size = g at *
    generalize w2.heap.size = r at *
    go_wp2_with fail
    go_loopw [20, 5] (fun i v5 wr => ∃ (k : Nat) (m : Mem Int) (ops : List (Nat × OpS)) (f : RF) (vc vo : Value) (idx : List Nat), k ≤ n ∧ i = .int .i64 k ∧ Hid (S1 w g r m ops f vc vo idx v5 k wr)) (fun i _ _ => n - (intOf i).toNat)
    case atStart => exact ⟨0, _, _, _, _, _, _, Nat.zero_le _, rfl, ST⟩
    case round =>
      clear ST hB1
      obtain ⟨k, m, ops, f, vc, vo, idx, hkn, rfl, hO⟩ := hrel
      by_cases hk : k = n
      · have hk' : ¬ (k : Int) < n := by omega
        go_wp2
        go_ret
        exact ⟨rfl, hO.out.en.bel⟩
      · have hk' : (k : Int) < n := by omega
        obtain ⟨kd, it, ad, rfl, hkd, hit, hc0, hc1, hck, hci⟩ : ∃ (kd it : Int) (ad : Addr), A = some ad ∧ (0 ≤ kd ∧ kd ≤ 255) ∧ (0 ≤ it ∧ it ≤ 255) ∧ wr.cell? (ad.add (k * 2)) = some (.int .u8 kd) ∧ wr.cell? ⟨(ad.add (k * 2)).block, (ad.add (k * 2)).off + 1, none⟩ = some (.int .u8 it) ∧ ad.block < w.heap.size ∧ (l[k]? = some (kd, it)) := act_at HS.out HX.out hO.out.en.bel (by rw [HN.out]; omega)
        clear hci hck
        by_cases h0 : kd = 0
        · subst h0
          have hA := hO.out.alloc (.cells #[.int .u8 0, .int .u8 it] 28)
          have hbk := Bk.made wr 28 #[.int .u8 0, .int .u8 it]
          have HA := Lib.hid hA
          have hsz : w.heap.size ≤ wr.heap.size := hO.out.en.bel.size
          have hol := hO.out.olen
          have HBK := Lib.hid hbk
          clear hO hA hbk
          go_wp2_with fail
          refine (e_pushI w _ _ _ _ HA.out.en it).mono ?_
          rintro e w3 ⟨rfl, E, F⟩
          replace E := Lib.hid E
          replace F := Lib.hid F
          clear hc0 hc1
          have hq : (wr.alloc (.cells #[.int .u8 0, .int .u8 it] 28)).heap.size = wr.heap.size + 1 := World.size_alloc ..
          have hsz3 := F.out.size
          have O4 : Hid (Ow w3 w.heap.size 29 u5 (ops.map fun p => pt p.1)) := Lib.hid (HA.out.mid E.out F.out).1
          go_wp2_with (at_builtin; refine wpList_app1 (w := w3) Try.opsz rfl (.tmp 93) (.tmp 99) rfl w.heap.size u5 (ops.map fun p => pt p.1) (pt (wr.heap.size + 1 + 1)) rfl rfl O4.out rfl (by rw [List.length_map]; unfold maxLen; omega) (by rw [List.length_map]; omega) (by omega) ?_)
          intro v' w4 h1 h2 h3 h4
          have h1' : Ow w4 w.heap.size 29 v' ((ops.map fun p => pt p.1) ++ [pt (wr.heap.size + 1 + 1)]) := by
            unfold Ow
            simpa using h1
          have hE := E.out
          have hA := HA.out
          have G : Gw w3 w4 u5 := ⟨h2, h4⟩
          have hcn : (wr.alloc (.cells #[.int .u8 0, .int .u8 it] 28)).heap.size ∉ m.cells := fun hc => Nat.lt_irrefl _ (hA.lt _ hc)
          obtain ⟨rf4, hO'⟩ := hA.add (ro := ⟨1, it, 1, -1, -1, 0, 0⟩) hE F.out (by rw [hq]; exact h1') G (hA.stk.push _ _ it hcn) ((hA.sim.grow hA.stk it hcn).more _ (sim_push hcn hA.sim.sub)) rfl
          have HBK4 : Bk w4 wr.heap.size 28 #[.int .u8 0, .int .u8 it] := G.bk O4.out (F.out.bk HBK.out (by decide)) (by decide)
          have c7 := (HBK4.cell 1 : w4.cell? ⟨wr.heap.size, 1, none⟩ = some (.int .u8 it))
          replace rf4 := Lib.hid rf4
          replace hO' := Lib.hid hO'
          have hfl : f.ops.length ≤ 1000 := by rw [hA.sim.olen]; omega
          clear h1 h2 h3 h4 h1' hE hA hq hsz3 E F HA O4 G hcn HBK4 HBK
          go_wp2_with fail
          refine (rbegin_any w4 _ r f vc vo 1 it rf4.out hfl).mono ?_
          rintro e w5 ⟨⟨v5, rfl⟩, ⟨vo', R5⟩, F5⟩
          have HO5 := Lib.hid (hO'.out w5 vo' R5 F5)
          clear R5 F5 hO' rf4 c7 hfl
          go_wp2_with fail
          obtain ⟨L, q1, q2, q3, q4⟩ := HO5.out.same
          refine (same_any w w5 _ g r _ _ _ _ _ L HO5.out.en HO5.out.rf q1 q2 (by omega) q4).mono ?_
          rintro e w6 ⟨rfl, hb6⟩
          have HO6 := Lib.hid (HO5.out.grow hb6)
          clear hb6 q1 q2 q3 q4 HO5
          go_wp2
          go_roundw
          case rel => exact ⟨k + 1, _, _, _, _, _, _, by omega, by go_num, HO6⟩
          case measure => simp [intOf]; omega
        by_cases h1 : kd = 1
        · subst h1
          have hA := hO.out.alloc (.cells #[.int .u8 1, .int .u8 it] 28)
          have HA := Lib.hid hA
          have hsz : w.heap.size ≤ wr.heap.size := hO.out.en.bel.size
          have hol := hO.out.olen
          clear hO hA
          go_wp2_with fail
          refine (e_takeI w _ _ _ _ HA.out.en).mono ?_
          rintro e w3 ⟨rfl, E, F⟩
          replace E := Lib.hid E
          replace F := Lib.hid F
          clear hc0 hc1
          have hq : (wr.alloc (.cells #[.int .u8 1, .int .u8 it] 28)).heap.size = wr.heap.size + 1 := World.size_alloc ..
          have hsz3 := F.out.size
          have O4 : Hid (Ow w3 w.heap.size 29 u5 (ops.map fun p => pt p.1)) := Lib.hid (HA.out.mid E.out F.out).1
          go_wp2_with (at_builtin; refine wpList_app1 (w := w3) Try.opsz rfl (.tmp 108) (.tmp 111) rfl w.heap.size u5 (ops.map fun p => pt p.1) (pt (wr.heap.size + 1)) rfl rfl O4.out rfl (by rw [List.length_map]; unfold maxLen; omega) (by rw [List.length_map]; omega) (by omega) ?_)
          intro v' w4 h1 h2 h3 h4
          have h1' : Ow w4 w.heap.size 29 v' ((ops.map fun p => pt p.1) ++ [pt (wr.heap.size + 1)]) := by
            unfold Ow
            simpa using h1
          have hE := E.out
          have hA := HA.out
          have G : Gw w3 w4 u5 := ⟨h2, h4⟩
          obtain ⟨rf4, hO'⟩ := hA.add (ro := ⟨2, 0, 1, -1, -1, 0, 0⟩) hE F.out (by rw [hq]; exact h1') G (hA.stk.more _ (by simp)) (hA.sim.more _ sim_take) rfl
          replace rf4 := Lib.hid rf4
          replace hO' := Lib.hid hO'
          have hfl : f.ops.length ≤ 1000 := by rw [hA.sim.olen]; omega
          clear h1 h2 h3 h4 h1' hE hA hq hsz3 E F HA O4 G
          go_wp2_with fail
          refine (rbegin_any w4 _ r f vc vo 2 0 rf4.out hfl).mono ?_
          rintro e w5 ⟨⟨v5, rfl⟩, ⟨vo', R5⟩, F5⟩
          have HO5 := Lib.hid (hO'.out w5 vo' R5 F5)
          clear R5 F5 hO' rf4 hfl
          go_wp2_with fail
          obtain ⟨L, q1, q2, q3, q4⟩ := HO5.out.same
          refine (same_any w w5 _ g r _ _ _ _ _ L HO5.out.en HO5.out.rf q1 q2 (by omega) q4).mono ?_
          rintro e w6 ⟨rfl, hb6⟩
          have HO6 := Lib.hid (HO5.out.grow hb6)
          clear hb6 q1 q2 q3 q4 HO5
          go_wp2
          go_roundw
          case rel => exact ⟨k + 1, _, _, _, _, _, _, by omega, by go_num, HO6⟩
          case measure => simp [intOf]; omega
        by_cases h2 : kd = 2
        · subst h2
          have hA := hO.out.alloc (.cells #[.int .u8 2, .int .u8 it] 28)
          have HA := Lib.hid hA
          have hsz : w.heap.size ≤ wr.heap.size := hO.out.en.bel.size
          have hol := hO.out.olen
          clear hO hA
          go_wp2_with fail
          refine (e_doneI w _ _ _ _ HA.out.en).mono ?_
          rintro e w3 ⟨rfl, E, F⟩
          replace E := Lib.hid E
          replace F := Lib.hid F
          clear hc0 hc1
          have hq : (wr.alloc (.cells #[.int .u8 2, .int .u8 it] 28)).heap.size = wr.heap.size + 1 := World.size_alloc ..
          have hsz3 := F.out.size
          have O4 : Hid (Ow w3 w.heap.size 29 u5 (ops.map fun p => pt p.1)) := Lib.hid (HA.out.mid E.out F.out).1
          go_wp2_with (at_builtin; refine wpList_app1 (w := w3) Try.opsz rfl (.tmp 117) (.tmp 120) rfl w.heap.size u5 (ops.map fun p => pt p.1) (pt (wr.heap.size + 1)) rfl rfl O4.out rfl (by rw [List.length_map]; unfold maxLen; omega) (by rw [List.length_map]; omega) (by omega) ?_)
          intro v' w4 h1 h2 h3 h4
          have h1' : Ow w4 w.heap.size 29 v' ((ops.map fun p => pt p.1) ++ [pt (wr.heap.size + 1)]) := by
            unfold Ow
            simpa using h1
          have hE := E.out
          have hA := HA.out
          have G : Gw w3 w4 u5 := ⟨h2, h4⟩
          obtain ⟨rf4, hO'⟩ := hA.add (ro := ⟨3, 0, 1, -1, -1, 0, 0⟩) hE F.out (by rw [hq]; exact h1') G (hA.stk.more _ (by simp)) (hA.sim.more _ sim_done) rfl
          replace rf4 := Lib.hid rf4
          replace hO' := Lib.hid hO'
          have hfl : f.ops.length ≤ 1000 := by rw [hA.sim.olen]; omega
          clear h1 h2 h3 h4 h1' hE hA hq hsz3 E F HA O4 G
          go_wp2_with fail
          refine (rbegin_any w4 _ r f vc vo 3 0 rf4.out hfl).mono ?_
          rintro e w5 ⟨⟨v5, rfl⟩, ⟨vo', R5⟩, F5⟩
          have HO5 := Lib.hid (hO'.out w5 vo' R5 F5)
          clear R5 F5 hO' rf4 hfl
          go_wp2_with fail
          obtain ⟨L, q1, q2, q3, q4⟩ := HO5.out.same
          refine (same_any w w5 _ g r _ _ _ _ _ L HO5.out.en HO5.out.rf q1 q2 (by omega) q4).mono ?_
          rintro e w6 ⟨rfl, hb6⟩
          have HO6 := Lib.hid (HO5.out.grow hb6)
          clear hb6 q1 q2 q3 q4 HO5
          go_wp2
          go_roundw
          case rel => exact ⟨k + 1, _, _, _, _, _, _, by omega, by go_num, HO6⟩
          case measure => simp [intOf]; omega
        have e0 : (kd == 0) = false := by simpa using h0
        have e1 : (kd == 1) = false := by simpa using h1
        have e2 : (kd == 2) = false := by simpa using h2
        have hA := hO.out.alloc (.cells #[.int .u8 kd, .int .u8 it] 28)
        have hol := hO.out.olen
        by_cases hz : ops.length = 0
        · obtain rfl : ops = [] := List.length_eq_zero_iff.1 hz
          obtain ⟨A4, c4, hu4, _⟩ := hA.o5.form
          subst hu4
          have HA := Lib.hid hA.up
          clear hA hO
          go_wp2
          go_roundw
          case rel => exact ⟨k + 1, _, _, _, _, _, _, by omega, by go_num, HA⟩
          case measure => simp [intOf]; omega
        · obtain ⟨g4, c4, cur, hu4, hg4, hrow, hlc, hcM, hcs, hcur⟩ := hA.o5.head (by rw [List.length_map]; omega)
          subst hu4
          rw [List.length_map] at *
          have HA := Lib.hid hA
          have hsz : w.heap.size ≤ wr.heap.size := hO.out.en.bel.size
          clear hA hO
          have hr1 : 0 ≤ it % (ops.length : Int) := Int.emod_nonneg _ (by omega)
          have hr2 : it % (ops.length : Int) < ops.length := Int.emod_lt_of_pos _ (by omega)
          obtain ⟨i, hir⟩ := Int.eq_ofNat_of_zero_le hr1
          have hil : i < ops.length := by omega
          have hi : ops[i]? = some ops[i] := List.getElem?_eq_getElem _
          generalize ops[i] = p at hi
          obtain ⟨o, s⟩ := p
          obtain ⟨ro, hro⟩ : ∃ ro, f.ops[i]? = some ro := ⟨_, List.getElem?_eq_getElem (by rw [HA.out.sim.olen]; exact hil)⟩
          have hcell : (wr.alloc (.cells #[.int .u8 kd, .int .u8 it] 28)).cell? ⟨g4, i, none⟩ = some (.pointer (some ⟨o, 0, none⟩)) :=
            ow_cell (us := ops.map fun p => pt p.1) hrow (by rw [List.length_map]; exact hcur) (by rw [List.getElem?_map, hi]; rfl)
          have hp1 := HA.out.pd1
          have hp2 := HA.out.pd2
          have hfc := HA.out.cells
          have hfp := HA.out.sim.pd
          have hFP := Lib.hid hfp
          replace hi := Lib.hid hi
          replace hro := Lib.hid hro
          replace hcur := Lib.hid hcur
          replace hrow := Lib.hid hrow
          replace hir := Lib.hid hir
          clear hfp
          generalize hN : ops.length = N at *
          have hN' := Lib.hid hN
          clear hN
          have hN1 : (0 : Int) < N := by omega
          have hN2 : (N : Int) ≤ 150 := by omega
          have hrem : it.tmod N = i := by rw [Int.tmod_eq_emod_of_nonneg hit.1]; exact hir.out
          have hi0 : (i : Int) < N := by omega
          go_wp2_with fail
          refine (e_stepI w _ _ _ _ HA.out.en i o s hi.out (by omega) (by omega)).mono ?_
          rintro e w3 ⟨rfl, E, F⟩
          have rf3 := Lib.hid (HA.out.mid E F).2
          replace E := Lib.hid E
          replace F := Lib.hid F
          have hb := (HA.out.sim.step HA.out.stk hi.out hro.out).1
          rw [hb]
          clear hb hcell
          go_wp2_with fail
          refine (rstep_any w3 _ r i f vc vo ro rf3.out hro.out (HA.out.sim.ok HA.out.stk hi.out hro.out) (HA.out.kind hi.out hro.out) (by omega) (by rw [hFP.out]; omega) (by rw [hFP.out]; omega)).mono ?_
          rintro e w4 ⟨rfl, ⟨vc', R4⟩, F4⟩
          obtain ⟨m', ops', f', idx', s', ro', HS4, hi', hro', hfl⟩ := HA.out.step hi.out hro.out E.out F.out R4 F4
          generalize decide ((rstp f ro).2.pc = 0) = b4 at *
          have hcell := HS4.at hi'
          replace HS4 := Lib.hid HS4
          replace hi' := Lib.hid hi'
          replace hro' := Lib.hid hro'
          have hfN : Hid (f.ops.length = N) := Lib.hid (HA.out.sim.olen.trans hN'.out)
          clear R4 F4 E F rf3 HA
          go_wp2_with fail
          refine (e_showI w _ _ _ _ HS4.out.en i o s' hi'.out).mono ?_
          rintro e w5 ⟨rfl, E5, F5⟩
          have HS5 := HS4.out.show_ E5 F5
          clear E5 F5 hcell
          have hcell := HS5.at hi'.out
          obtain ⟨q1, q2, q3⟩ := HS5.shows hi'.out hro'.out
          obtain ⟨go, co, rfl, d3, d2, d5, d6⟩ := HS5.ref hro'.out
          rw [q2] at d5
          rw [q3] at d6
          rw [hfl] at d3
          rw [hfN.out] at d3
          have hob : Hid (ObI w5 o g (fnI s'.pc) s'.at_ s'.fin s'.res) := Lib.hid (HS5.en.rel.op_at hi'.out)
          replace HS5 := Lib.hid HS5
          clear q2 q3 HS4
          unfold evI
          generalize gotOfI m' s' = gx at *
          generalize resOf s' = ry at *
          generalize ro'.pc = pp at *
          have HFC : Hid (∀ q, Calls Try.prog 22 #[.pointer (some ⟨o, 0, none⟩)] (w5.drewN q) fun e w' => e = .returned (.bool s'.fin) ∧ w' = w5.drewN q) := Lib.hid fun q => (finishedI o g _ _ _ _ (w5.drewN q) hob.out).mono (fun e w' h => ⟨h.1, h.2.symm⟩)
          generalize s'.fin = bf at *
          go_wp2
          go_quiet ((go_at_call 22; exact Calls.quiet_of_same (HFC.out _)))
          go_wp2_with fail
          have HO5 := Lib.hid (HS5.out.grow (below_drewN (Below.refl _ _) nq))
          clear HS5 HFC q1 d2 d3 d5 d6 hob hcell
          obtain ⟨L, q1, q2, q3, q4⟩ := HO5.out.same
          refine (same_any w (w5.drewN nq) _ g r _ _ _ _ _ L HO5.out.en HO5.out.rf q1 q2 (by omega) q4).mono ?_
          rintro e w6 ⟨rfl, hb6⟩
          have HO6 := Lib.hid (HO5.out.grow hb6)
          clear hb6 q1 q2 q3 q4 HO5
          go_wp2
          go_roundw
          case rel => exact ⟨k + 1, _, _, _, _, _, _, by omega, by go_num, HO6⟩
          case measure => simp [intOf]; omega

end Go.Proofs.Ytokdalilnckkoaa
