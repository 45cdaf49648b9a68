/-
  For every small tree that proves its query, all leaves are kept, and the outcome is Proved, with all options, for every input; the package variables that the row lists are as the program's text lays them (the card ties them).
  The frame follows the kit's worked rows; the walk is that of YtbhbainhmfjpdaaGreatDoorMr.
-/
import Derived.Test.YtbhbainhmfjpdaaGreatDoorRows
import Derived.Test.YtbhbainhmfjpdaaGreatDoorCards
import Derived.Test.YtbhbainhmfjpdaaGreatDoorTie
import Derived.Test.YtbhbainhmfjpdaaGreatDoorMr
import Derived.Test.YtbhbainhmfjpdaaGreatDoorReuseSameFacts
import Derived.WalkKit
import Derived.ProofKit
import Derived.OpenShut
import Derived.ShutString
import Derived.ChangeOld
import Derived.Below
import Derived.LaidMore
import Derived.Lay
import Derived.SevenTiedAt
import Derived.Handed
import Derived.Lib.LaidTab
namespace Go.Proofs.YtbhbainhmfjpdaaGreatDoor.reuseSame
open Go.ChangeShapes Go.WideShapes Go.ChangeAt Go.RowKit
open Go.ChangeMaps (open_string shut_string)
set_option linter.unusedVariables false

theorem own : ownKnob Tryz.prog.godebug = none := by kernel_rfl
theorem laidOut : laidOutB Tryz.prog = true := by kernel_rfl
/-- The table of opposites lies in its block. -/
theorem shape0 : (((begin Tryz.prog (fun _ _ => 0) default).world.heap[0]?).bind Obj.row?).map (·.2) = some 224 := by kernel_rfl
set_option maxRecDepth 100000 in
theorem laid_of {W : World} (hs : W.ShapedOpen Tryz.prog) (h : laidMetH Tryz.prog Rows.reuseSameRow.laid W) : LaidG W := by
  rw [MakeChecks.laidMetH_plain _ _ _ (by kernel_rfl)] at h
  obtain ⟨ps, hv, _, _⟩ := h
  obtain ⟨g1, t1, c1, f1, p1, q1, _, _, _, _, hv, _⟩ := hv
  obtain ⟨g2, t2, c2, f2, p2, q2, _, _, _, _, hv, _⟩ := hv
  obtain ⟨g3, t3, c3, f3, p3, q3, _, _, _, _, hv, _⟩ := hv
  obtain ⟨g, t, cs, f, p, q, hg, ht, hvar, hd, _, _⟩ := hv
  have h0 : Tryz.prog.globalNamed "relucert/phase.opposites" = some 0 := by kernel_rfl
  obtain rfl := Option.some.inj (h0.symm.trans hg)
  obtain rfl := Option.some.inj ((show (Tryz.prog.globals[0]?).map (·.type) = some 224 by kernel_rfl).symm.trans ht)
  have hcs := Lib.cells_of_tab (k := .i64) (zs := [0, 2, 1, 4, 3]) Tryz.underlying224 Tryz.underlying3 (by kernel_rfl) (by kernel_rfl) (hd.trans (by rfl))
  refine ⟨?_, fun i hi => ?_⟩
  · obtain ⟨⟨z, t⟩, e1, e2⟩ := Option.map_eq_some_iff.1 shape0
    obtain ⟨cs', hc, _⟩ := hs.1 0 z t (of_decide_eq_true (by kernel_rfl)) e1
    simp only at e2
    subst e2
    exact ⟨cs', _, hc⟩
  · rw [World.var?_cell h0 hvar i, ← Array.getElem?_toList, hcs]
    match i, hi with
    | 0, _ => rfl
    | 1, _ => rfl
    | 2, _ => rfl
    | 3, _ => rfl
    | 4, _ => rfl
set_option maxRecDepth 100000 in
theorem lifted (os : Os) (started : os.Started) (H : Type) (enc : TypeId × Value → H) :
    ReturnsInHanded {} Tryz.checked os 4 .any (fun w args => (Rows.reuseSameSpec.pre enc Tryz.prog Tryz.f4 Rows.reuseSameRow.domain false w args ∧ laidMetH Tryz.prog Rows.reuseSameRow.laid w) ∧ sizedMet enc Tryz.prog Tryz.f4 (OpenSpec.ofChange Rows.reuseSameSpec) false w args)
      (Rows.reuseSameSpec.post enc Tryz.prog Tryz.f4 false true false false) := by
  refine returnsInHanded_of_calls own started (by kernel_rfl) (ChangeSpec.witness_at (enc := enc) (C := Tryz.checked) (os := os) (X := fun w _ => laidMetH Tryz.prog Rows.reuseSameRow.laid w) false (World.laidAll Tryz.prog os Rows.reuseSameRow.laid) #[.slice none 0 0, .int .u16 0] 8 (World.laidAll_os _ _ _) (by kernel_rfl) (by kernel_rfl) (by kernel_rfl) (by kernel_rfl) (by kernel_rfl)
      (by rw [MakeChecks.laidMetH_plain _ _ _ (by kernel_rfl)]; exact laidMet_laidAll _ (by kernel_rfl) (by kernel_rfl))) ?_
  intro w tape i _ hsh _ ok told _
  obtain ⟨_, _, _, fn, hfn, _, _, _, _, hv⟩ := ok
  obtain rfl : fn = Tryz.f4 := Option.some.inj (hfn.symm.trans Tryz.func4)
  obtain ⟨⟨⟨ds, gs, before, hin, _⟩, hL⟩, _⟩ := told
  have hW : DataW.Whole enc Tryz.prog Tryz.f4.params.toList Rows.reuseSameSpec.vars false (w.forCall tape i) i.args.toList ds gs before := DataW.Whole.of_heap (by rfl) hin
  have hG := laid_of hsh (laidMetH.of_heap (w' := w.forCall tape i) (by rfl) hL)
  have hval : ∀ (j : Nat) t v, Tryz.f4.params[j]? = some t → i.args[j]? = some v → Value.okWide Tryz.prog (w.forCall tape i) .any w.heap.size t v := hv
  refine Calls.mono (R := fun (e : Ending) (W' : World) => ∃ v : Value, e = .returned v ∧ Rows.reuseSameSpec.post enc Tryz.prog Tryz.f4 false true false false (w.forCall tape i) i.args v W') ?_ fun e W' ⟨v, he, hp⟩ => by subst he; exact ChangeSpec.post_blind hp
  generalize w.forCall tape i = W at *
  generalize i.args = args at *
  have hW' := hW
  obtain ⟨p, q, hA0, hV, rfl, hfz, hnd⟩ := hW
  have hA : DataW.TrodAll enc Tryz.prog W 0 (fun _ => true) true Tryz.f4.params.toList args.toList ds p := hA0
  rw [Tryz.params4] at hA hval
  obtain ⟨v0, vs0, d0, ds0, p0, q0, hargs, rfl, rfl, h0, r0⟩ := trodAll_cons hA
  obtain ⟨v1, vs1, d1, ds1, p1, q1, e1, f1, g1, h1, r1⟩ := trodAll_cons r0
  subst e1 f1 g1
  obtain ⟨rfl, rfl, rfl⟩ := trodAll_nil r1
  obtain rfl : args = #[v0, v1] := by cases args; simp_all
  obtain ⟨rfl, rfl⟩ := trodVars_none hV
  obtain ⟨a0, len0, cap0, rfl⟩ := okWide_slice Tryz.underlying22 (hval 0 22 v0 rfl rfl)
  have k0 := h0
  have lt0 : ∀ x ∈ p0, x.block < W.heap.size := by obtain ⟨m, hm⟩ := k0; exact DataW.trod_lt m _ _ _ hm
  obtain ⟨z0, w0⟩ : ∃ zs, IsRow .u8 W a0 len0 cap0 zs := by
    obtain ⟨fuel, hf⟩ := h0
    rcases open_ints Tryz.underlying22 Tryz.underlying5 (by kernel_rfl) hf with ⟨hcs, _⟩ | ⟨x, l, c, zs, hcs, _, hl, hm, hz, _, hcell, hwz⟩
    · simp [Value.cells] at hcs
      obtain ⟨rfl, rfl, rfl⟩ := hcs
      exact ⟨[], .inl ⟨rfl, rfl, rfl, rfl⟩⟩
    · simp [Value.cells] at hcs
      obtain ⟨rfl, rfl, rfl⟩ := hcs
      exact ⟨zs, .inr ⟨_, rfl, hl, hm, by simpa using hz, hcell, hwz⟩⟩
  obtain ⟨n1, rfl, rfl, rfl, w1⟩ := open_int Tryz.underlying23 (hval 1 23 v1 rfl rfl) h1
  clear hA0
  refine (law_same_in W hG a0 len0 cap0 z0 n1 w0 w1).mono fun e W' ⟨he, bel⟩ => ?_
  subst he
  exact ⟨_, rfl, _, _, _, [], _, [], hW', trodAll_mk1 (shut_bool Tryz.underlying4 _), (trodAll_cons_mk (Below.trod laidOut (by kernel_rfl) (of_decide_eq_true (by kernel_rfl)) k0 bel lt0) (trodAll_cons_mk (shut_int Tryz.underlying23 w1) trodAll_mk0)), rfl, bel.frame _, fun h => by cases h⟩

theorem over : Rows.reuseSameRow.holds Tryz.pinned (OpenSpec.ofChange Rows.reuseSameSpec) :=
  OpenClaim.holds_of_wide 4 Tryz.f4 rfl rfl rfl rfl rfl rfl rfl ⟨rfl, rfl, rfl, rfl, rfl⟩ rfl rfl rfl rfl rfl named Tryz.func4 closed inst wrap
    (fun os started H enc _ => lifted os started H enc)

/-- The statement. -/
theorem proved : Rows.ReuseSameCardSaid :=
  Claim7.holds_tied_plain_at .later [] [.data, .data, .data, .data] true (true, "f282be5d1a9894797039ad68e4565d76ae19d68fd165289ca15da9929e8a91aa") false
    over (fun _ h => by cases h) byText (fun _ h => by cases h) reuseSame_row_tie rfl ⟨rfl, rfl⟩ mainIs rfl
    (fun f fn hf hfn => by
      obtain rfl : f = 4 := Option.some.inj (named.symm.trans hf) |>.symm
      obtain rfl : fn = Tryz.f4 := (Option.some.inj (Tryz.func4.symm.trans hfn)).symm
      exact ⟨looksNone, fun j t ht => by
        rw [Tryz.params4] at ht
        have hm : t ∈ [22, 23] := by simpa using Array.mem_of_getElem? ht
        exact (show Tryz.prog.wantsStandIn t = false by simpa using List.all_eq_true.1 noStand t hm)⟩)
    (goesBy_none noGo _ rfl)
#print axioms proved
end Go.Proofs.YtbhbainhmfjpdaaGreatDoor.reuseSame
