/- slices.Grow of nothing, append of literals, slices.Concat of two clauses. -/
import Derived.Test.YtgnlbmamolbcfaaDoorMake
import Derived.Lib.AppendZeros
import Derived.Deep.Upon
set_option linter.unusedVariables false
namespace Go.Proofs.YtgnlbmamolbcfaaDoor
open Go.RowKit Go.Shelf

attribute [local go_sem] Oper.semAt_some

theorem info38 : ∃ i z, Tryd.prog.info? 38 = some i ∧ i.zero = some z ∧ i.size = 2 ∧ i.bytes = 16 ∧ z.cells.size = 2 := elemL.hi
theorem u23 : Tryd.prog.underlying 23 = some (.slice 38) := by kernel_rfl
theorem u3 : Tryd.prog.underlying 3 = some (.int .i64) := by kernel_rfl
/-- append(v, x...), x a clause, perhaps nil. -/
theorem app_any (w : World) (base n : Nat) (v : Value) (xs l : List Lit) (own : w.ownsRow base 38 2 v n (xs.flatMap lc)) (A : Option Addr) (m c : Nat) (hA : A = none → m = 0) (hl : l.length = m) (hc : Cs w A l) (hn : n + m ≤ 100000) (hb : base ≤ w.heap.size) :
    ∃ v' w', (∀ ty, (Builtin.append_ #[23, 23] ty #[v, .slice A m c]).run Tryd.prog w = .ok v' w') ∧ w'.ownsRow base 38 2 v' (n + m) ((xs ++ l).flatMap lc) ∧ Fr (fun b => v.ownBlock = some b) w w' := by
  obtain ⟨i, z, hi, hz, hsz, hby, hzs⟩ := info38
  cases A with
  | none =>
    obtain rfl := hA rfl
    obtain rfl := List.length_eq_zero_iff.1 hl
    obtain ⟨A', c', hv⟩ := rw_form own
    subst hv
    have hcap : n ≤ c' := by
      obtain ⟨_, ⟨h0, h1⟩ | ⟨g', cap', cur, hv, hB, hh, hc, _⟩⟩ := own
      · omega
      · injection hv with _ _ hv3
        omega
    refine ⟨_, w, fun ty => run_append_nothing w 23 23 ty 38 i u23 hi A' n c' hcap (.slice none 0 c) ⟨.inl ⟨38, u23⟩, fun _ => rfl, ?_, ?_, by simp, fun u hu => by cases hu⟩, by simpa using own, Fr.refl _ _⟩
    · exact run_firstCells_none w i.size 0 0 c
    · exact run_firstCells_none w.drew i.size 0 0 c
  | some ad =>
    have h := fun ty => run_append_own_at (P := Tryd.prog) w base 23 ty 38 i z 2 16 u23 hi hz hsz hby hzs (by decide) v n _ own ad m c (l.flatMap lc) (by rw [flat_len (k := 2) (fun _ => rfl), hl]) hc.cells (lc_one l) (by unfold maxLen; omega) (by omega) hb
    obtain ⟨v', w', hr, h2, h3, _, _⟩ := h 0
    refine ⟨v', w', fun ty => ?_, by rw [List.flatMap_append]; exact h2, ?_⟩
    · exact hr
    · exact ⟨(Below.refl 0 w).grown h3 (Nat.zero_le _) (fun _ _ => Nat.zero_le _), fun b hb hne => h3.block b hb fun e => hne e.symm⟩

set_option maxRecDepth 100000 in
set_option maxHeartbeats 1000000 in
theorem grow_any (w : World) (n : Nat) (hn : n ≤ 100000) :
    Calls Tryd.prog 53 #[.slice none 0 0, .int .i64 n] w fun e w' => ∃ v', e = .returned v' ∧ w'.ownsRow w.heap.size 38 2 v' 0 [] ∧ Gr w w' := by
  by_cases h0 : n = 0
  · subst h0
    go_enter Tryd.func53, Tryd.ntmps53
    go_wp2
    go_ret
    exact ⟨_, rfl, ⟨rfl, .inl ⟨rfl, rfl⟩⟩, Gr.refl _⟩
  · obtain ⟨i, z, hi, hz, hsz, hby, hzs⟩ := info38
    have hr := fun ty => Lib.run_append_nil_zeros (P := Tryd.prog) w 23 3 ty 38 i z .i64 .i64 u23 u3 hi hz n (by omega) (by omega) (by omega) (by rw [hby]; omega)
    have hge := grownCap_ge w n 0 38
    have hle := grownCap_le_maxLen w n 0 38 (by unfold maxLen; omega)
    generalize hG : grownCap w n 0 38 = G at *
    have hcells : Hid ((w.drew.alloc (.cells (Builtin.zeroCells z.cells n ++ Builtin.zeroCells z.cells (G - n)) 38)).ownsRow w.heap.size 38 2 (.slice (some ⟨w.heap.size, 0, none⟩) 0 G) 0 []) :=
      ⟨rfl, .inr ⟨w.heap.size, G, _, rfl, Nat.le_refl _, Bk.made w.drew 38 _, Nat.zero_le _, hle, by rw [Array.size_append, size_zeroCells, size_zeroCells, hzs]; omega, by simp⟩⟩
    have hgr : Hid (Gr w (w.drew.alloc (.cells (Builtin.zeroCells z.cells n ++ Builtin.zeroCells z.cells (G - n)) 38))) := ((Gr.refl w).no (Fr.drew _ w)).alloc _
    generalize w.drew.alloc (.cells (Builtin.zeroCells z.cells n ++ Builtin.zeroCells z.cells (G - n)) 38) = W1 at *
    have hG63 : G ≤ 9223372036854775807 := by unfold maxLen at hle; omega
    have h1 : ¬ (n : Int) < 0 := by omega
    have h2 : (n : Int) > 0 := by omega
    have HR := Lib.hid hr
    clear hr hi hz hsz hby hzs hG hle
    go_enter Tryd.func53, Tryd.ntmps53
    go_wp2_with (at_builtin; refine Lib.wpList_append_run _ rfl _ _ _ _ rfl _ _ rfl rfl _ _ (HR.out _) ?_)
    go_ret
    exact ⟨_, rfl, hcells.out, hgr.out⟩

/-- The first t of two clauses, one behind the other. -/
def catT (a b : List Lit) : Nat → List Lit
  | 0 => []
  | 1 => a
  | _ => a ++ b
set_option maxRecDepth 100000 in
set_option maxHeartbeats 1000000 in
theorem concat_any (w : World) (q : Nat) (A B : Option Addr) (n c m cb : Nat) (a b : List Lit) (hA : A = none → n = 0) (hB : B = none → m = 0) (hl : a.length = n) (hl2 : b.length = m) (hnm : n + m ≤ 100000) (hc : Cs w A a) (hc2 : Cs w B b) (hq : Bk w q 23 #[.slice A n c, .slice B m cb]) :
    Calls Tryd.prog 37 #[.slice (some ⟨q, 0, none⟩) 2 2] w fun e w' => ∃ v' k, e = .returned v' ∧ w'.ownsRow w.heap.size 38 2 v' k ((a ++ b).flatMap lc) ∧ Gr w w' := by
  have H1 := Lib.hid (grow_any w (n + m) hnm)
  have HC := Lib.hid hc
  have HC2 := Lib.hid hc2
  have HQ := Lib.hid hq
  have HL := Lib.hid hl
  have HL2 := Lib.hid hl2
  have HA := Lib.hid hA
  have HB := Lib.hid hB
  have q1 : w.cell? ⟨q, 0, none⟩ = some (.slice A n c) := (hq.cell 0).trans rfl
  have q2 : w.cell? ⟨q, 1, none⟩ = some (.slice B m cb) := (hq.cell 1).trans rfl
  have hql := hq.lt
  clear hc hc2 hq hl hl2 hA hB
  go_enter Tryd.func37, Tryd.ntmps37
  go_wp2
  go_loopw [3, 11] (fun s3 i wr => ∃ t s : Nat, i = .int .i64 t ∧ s3 = .int .i64 s ∧ t ≤ 2 ∧ s = (if t = 0 then 0 else if t = 1 then n else n + m) ∧ w = wr) (fun _ i _ => 2 - (intOf i).toNat)
  case atStart => exact ⟨0, 0, rfl, rfl, by omega, rfl, rfl⟩
  case round =>
    obtain ⟨t, s, rfl, rfl, ht, hs, rfl⟩ := hrel
    rcases (show t = 0 ∨ t = 1 ∨ t = 2 by omega) with rfl | rfl | rfl
    · obtain rfl : s = 0 := hs
      go_wp2
      go_roundw
      case rel => exact ⟨1, n, by go_num, by go_num, by omega, by simp⟩
      case measure => simp [intOf]
    · obtain rfl : s = n := by simpa using hs
      clear hs
      go_wp2
      go_roundw
      case rel => exact ⟨2, s + m, by go_num, by go_num, by omega, by simp⟩
      case measure => simp [intOf]
    · obtain rfl : s = n + m := by simpa using hs
      clear hs
      go_wp2_with fail
      refine H1.out.mono ?_
      rintro e w1 ⟨v1, rfl, r1, G1⟩
      have HG1 := Lib.hid G1
      have HR1 := Lib.hid r1
      have hb1 := G1.fr.bk HQ.out id
      have HQ1 := Lib.hid hb1
      clear r1 G1 H1 hb1 q1 q2
      go_wp2_with fail
      go_loopw [6, 27] (fun s6 i W => ∃ (t : Nat) (k : Nat), i = .int .i64 t ∧ t ≤ 2 ∧ k = (if t = 0 then 0 else if t = 1 then n else n + m) ∧ Hid (W.ownsRow w.heap.size 38 2 s6 k ((catT a b t).flatMap lc)) ∧ Hid (Gr w W)) (fun _ i _ => 2 - (intOf i).toNat)
      case atStart => exact ⟨0, 0, rfl, by omega, rfl, HR1, HG1⟩
      case round =>
        obtain ⟨t, k, rfl, ht, hk, hR, hG⟩ := hrel
        have hb9 := hG.out.fr.bk HQ.out id
        have q1 := (hb9.cell 0).trans (show _ = some (Value.slice A n c) from rfl)
        have q2 := (hb9.cell 1).trans (show _ = some (Value.slice B m cb) from rfl)
        clear hb9
        rcases (show t = 0 ∨ t = 1 ∨ t = 2 by omega) with rfl | rfl | rfl
        · obtain rfl : k = 0 := hk
          have ap := app_any wr w.heap.size 0 u6 (catT a b 0) a hR.out A n c HA.out HL.out (HC.out.gr hG.out) (by omega) hG.out.size
          obtain ⟨v2, w2, hr, r2, F2⟩ := ap
          have HR2 := Lib.hid r2
          have HG2 := Lib.hid (gr_own hG.out hR.out (Nat.le_refl _) F2)
          have HRUN := Lib.hid hr
          clear hr r2 F2
          go_wp2_with (at_builtin; refine Lib.wpList_append_run _ rfl _ _ _ _ rfl _ _ rfl rfl _ _ (HRUN.out _) ?_)
          go_roundw
          case rel => exact ⟨1, 0 + n, by go_num, by omega, by simp, HR2, HG2⟩
          case measure => simp [intOf]
        · obtain rfl : k = n := by simpa using hk
          clear hk
          have ap := app_any wr w.heap.size k u6 (catT a b 1) b hR.out B m cb HB.out HL2.out (HC2.out.gr hG.out) (by omega) hG.out.size
          obtain ⟨v2, w2, hr, r2, F2⟩ := ap
          have HR2 := Lib.hid r2
          have HG2 := Lib.hid (gr_own hG.out hR.out (Nat.le_refl _) F2)
          have HRUN := Lib.hid hr
          clear hr r2 F2
          go_wp2_with (at_builtin; refine Lib.wpList_append_run _ rfl _ _ _ _ rfl _ _ rfl rfl _ _ (HRUN.out _) ?_)
          go_roundw
          case rel => exact ⟨2, k + m, by go_num, by omega, by simp, HR2, HG2⟩
          case measure => simp [intOf]
        · obtain rfl : k = n + m := by simpa using hk
          clear hk
          go_wp2
          go_ret
          exact ⟨u6, n + m, rfl, hR.out, hG.out⟩
end Go.Proofs.YtgnlbmamolbcfaaDoor
