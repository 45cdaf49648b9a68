/-
  For every small tree, also after changes, the program returns the specified entries, for every input; the package variables that the row lists are as the program's text lays them (the card ties them).
  The frame follows the kit's worked rows; the walk is that of YtbhbainhmfjpdaaGreatDoorMq.
-/
import Derived.Test.YtbhbainhmfjpdaaGreatDoorRows
import Derived.Test.YtbhbainhmfjpdaaGreatDoorCards
import Derived.Test.YtbhbainhmfjpdaaGreatDoorTie
import Derived.Test.YtbhbainhmfjpdaaGreatDoorMq
import Derived.WalkKit
import Derived.ProofKit
import Derived.OpenShut
import Derived.ShutString
import Derived.ChangeOld
import Derived.Below
import Derived.LaidMore
import Derived.Lay
import Derived.SevenTiedAt
import Derived.Handed
import Derived.Lib.LaidTab
namespace Go.Proofs.YtbhbainhmfjpdaaGreatDoor.reuseEntries
open Go.ChangeShapes Go.WideShapes Go.ChangeAt Go.RowKit
open Go.ChangeMaps (open_string shut_string)
set_option linter.unusedVariables false

theorem own : ownKnob Tryz.prog.godebug = none := by kernel_rfl
theorem laidOut : laidOutB Tryz.prog = true := by kernel_rfl
/-- The table of opposites lies in its block. -/
theorem shape0 : (((begin Tryz.prog (fun _ _ => 0) default).world.heap[0]?).bind Obj.row?).map (·.2) = some 224 := by kernel_rfl
set_option maxRecDepth 100000 in
theorem laid_of {W : World} (hs : W.ShapedOpen Tryz.prog) (h : laidMetH Tryz.prog Rows.reuseEntriesRow.laid W) : LaidG W := by
  rw [MakeChecks.laidMetH_plain _ _ _ (by kernel_rfl)] at h
  obtain ⟨ps, hv, _, _⟩ := h
  obtain ⟨g1, t1, c1, f1, p1, q1, _, _, _, _, hv, _⟩ := hv
  obtain ⟨g2, t2, c2, f2, p2, q2, _, _, _, _, hv, _⟩ := hv
  obtain ⟨g3, t3, c3, f3, p3, q3, _, _, _, _, hv, _⟩ := hv
  obtain ⟨g, t, cs, f, p, q, hg, ht, hvar, hd, _, _⟩ := hv
  have h0 : Tryz.prog.globalNamed "relucert/phase.opposites" = some 0 := by kernel_rfl
  obtain rfl := Option.some.inj (h0.symm.trans hg)
  obtain rfl := Option.some.inj ((show (Tryz.prog.globals[0]?).map (·.type) = some 224 by kernel_rfl).symm.trans ht)
  have hcs := Lib.cells_of_tab (k := .i64) (zs := [0, 2, 1, 4, 3]) Tryz.underlying224 Tryz.underlying3 (by kernel_rfl) (by kernel_rfl) (hd.trans (by rfl))
  refine ⟨?_, fun i hi => ?_⟩
  · obtain ⟨⟨z, t⟩, e1, e2⟩ := Option.map_eq_some_iff.1 shape0
    obtain ⟨cs', hc, _⟩ := hs.1 0 z t (of_decide_eq_true (by kernel_rfl)) e1
    simp only at e2
    subst e2
    exact ⟨cs', _, hc⟩
  · rw [World.var?_cell h0 hvar i, ← Array.getElem?_toList, hcs]
    match i, hi with
    | 0, _ => rfl
    | 1, _ => rfl
    | 2, _ => rfl
    | 3, _ => rfl
    | 4, _ => rfl
set_option maxRecDepth 100000 in
theorem lifted (os : Os) (started : os.Started) (H : Type) (enc : TypeId × Value → H) :
    ReturnsInHanded {} Tryz.checked os 3 .any (fun w args => (Rows.reuseEntriesSpec.pre enc Tryz.prog Tryz.f3 Rows.reuseEntriesRow.domain false w args ∧ laidMetH Tryz.prog Rows.reuseEntriesRow.laid w) ∧ sizedMet enc Tryz.prog Tryz.f3 (OpenSpec.ofChange Rows.reuseEntriesSpec) false w args)
      (Rows.reuseEntriesSpec.post enc Tryz.prog Tryz.f3 false true false false) := by
  refine returnsInHanded_of_calls own started (by kernel_rfl) (ChangeSpec.witness_at (enc := enc) (C := Tryz.checked) (os := os) (X := fun w _ => laidMetH Tryz.prog Rows.reuseEntriesRow.laid w) false (World.laidAll Tryz.prog os Rows.reuseEntriesRow.laid) #[.slice none 0 0, .slice none 0 0, .int .u16 0] 8 (World.laidAll_os _ _ _) (by kernel_rfl) (by kernel_rfl) (by kernel_rfl) (by kernel_rfl) (by kernel_rfl)
      (by rw [MakeChecks.laidMetH_plain _ _ _ (by kernel_rfl)]; exact laidMet_laidAll _ (by kernel_rfl) (by kernel_rfl))) ?_
  intro w tape i _ hsh _ ok told _
  obtain ⟨_, _, _, fn, hfn, _, _, _, _, hv⟩ := ok
  obtain rfl : fn = Tryz.f3 := Option.some.inj (hfn.symm.trans Tryz.func3)
  obtain ⟨⟨⟨ds, gs, before, hin, _⟩, hL⟩, _⟩ := told
  have hW : DataW.Whole enc Tryz.prog Tryz.f3.params.toList Rows.reuseEntriesSpec.vars false (w.forCall tape i) i.args.toList ds gs before := DataW.Whole.of_heap (by rfl) hin
  have hG := laid_of hsh (laidMetH.of_heap (w' := w.forCall tape i) (by rfl) hL)
  have hval : ∀ (j : Nat) t v, Tryz.f3.params[j]? = some t → i.args[j]? = some v → Value.okWide Tryz.prog (w.forCall tape i) .any w.heap.size t v := hv
  refine Calls.mono (R := fun (e : Ending) (W' : World) => ∃ v : Value, e = .returned v ∧ Rows.reuseEntriesSpec.post enc Tryz.prog Tryz.f3 false true false false (w.forCall tape i) i.args v W') ?_ fun e W' ⟨v, he, hp⟩ => by subst he; exact ChangeSpec.post_blind hp
  generalize w.forCall tape i = W at *
  generalize i.args = args at *
  have hW' := hW
  obtain ⟨p, q, hA0, hV, rfl, hfz, hnd⟩ := hW
  have hA : DataW.TrodAll enc Tryz.prog W 0 (fun _ => true) true Tryz.f3.params.toList args.toList ds p := hA0
  rw [Tryz.params3] at hA hval
  obtain ⟨v0, vs0, d0, ds0, p0, q0, hargs, rfl, rfl, h0, r0⟩ := trodAll_cons hA
  obtain ⟨v1, vs1, d1, ds1, p1, q1, e1, f1, g1, h1, r1⟩ := trodAll_cons r0
  subst e1 f1 g1
  obtain ⟨v2, vs2, d2, ds2, p2, q2, e2, f2, g2, h2, r2⟩ := trodAll_cons r1
  subst e2 f2 g2
  obtain ⟨rfl, rfl, rfl⟩ := trodAll_nil r2
  obtain rfl : args = #[v0, v1, v2] := by cases args; simp_all
  obtain ⟨rfl, rfl⟩ := trodVars_none hV
  obtain ⟨a0, len0, cap0, rfl⟩ := okWide_slice Tryz.underlying22 (hval 0 22 v0 rfl rfl)
  have k0 := h0
  have lt0 : ∀ x ∈ p0, x.block < W.heap.size := by obtain ⟨m, hm⟩ := k0; exact DataW.trod_lt m _ _ _ hm
  obtain ⟨z0, w0⟩ : ∃ zs, IsRow .u8 W a0 len0 cap0 zs := by
    obtain ⟨fuel, hf⟩ := h0
    rcases open_ints Tryz.underlying22 Tryz.underlying5 (by kernel_rfl) hf with ⟨hcs, _⟩ | ⟨x, l, c, zs, hcs, _, hl, hm, hz, _, hcell, hwz⟩
    · simp [Value.cells] at hcs
      obtain ⟨rfl, rfl, rfl⟩ := hcs
      exact ⟨[], .inl ⟨rfl, rfl, rfl, rfl⟩⟩
    · simp [Value.cells] at hcs
      obtain ⟨rfl, rfl, rfl⟩ := hcs
      exact ⟨zs, .inr ⟨_, rfl, hl, hm, by simpa using hz, hcell, hwz⟩⟩
  obtain ⟨a1, len1, cap1, rfl⟩ := okWide_slice Tryz.underlying22 (hval 1 22 v1 rfl rfl)
  have k1 := h1
  have lt1 : ∀ x ∈ p1, x.block < W.heap.size := by obtain ⟨m, hm⟩ := k1; exact DataW.trod_lt m _ _ _ hm
  obtain ⟨z1, w1⟩ : ∃ zs, IsRow .u8 W a1 len1 cap1 zs := by
    obtain ⟨fuel, hf⟩ := h1
    rcases open_ints Tryz.underlying22 Tryz.underlying5 (by kernel_rfl) hf with ⟨hcs, _⟩ | ⟨x, l, c, zs, hcs, _, hl, hm, hz, _, hcell, hwz⟩
    · simp [Value.cells] at hcs
      obtain ⟨rfl, rfl, rfl⟩ := hcs
      exact ⟨[], .inl ⟨rfl, rfl, rfl, rfl⟩⟩
    · simp [Value.cells] at hcs
      obtain ⟨rfl, rfl, rfl⟩ := hcs
      exact ⟨zs, .inr ⟨_, rfl, hl, hm, by simpa using hz, hcell, hwz⟩⟩
  obtain ⟨n2, rfl, rfl, rfl, w2⟩ := open_int Tryz.underlying23 (hval 2 23 v2 rfl rfl) h2
  clear hA0
  refine (law_ents_in W hG a0 len0 cap0 z0 a1 len1 cap1 z1 n2 w0 w1 w2).mono fun e W' ⟨he, bel⟩ => ?_
  subst he
  exact ⟨_, rfl, _, _, _, [], _, [], hW', trodAll_mk1 (shut_bool Tryz.underlying4 _), (trodAll_cons_mk (Below.trod laidOut (by kernel_rfl) (of_decide_eq_true (by kernel_rfl)) k0 bel lt0) (trodAll_cons_mk (Below.trod laidOut (by kernel_rfl) (of_decide_eq_true (by kernel_rfl)) k1 bel lt1) (trodAll_cons_mk (shut_int Tryz.underlying23 w2) trodAll_mk0))), rfl, bel.frame _, fun h => by cases h⟩

/-- No function of the program has a go statement. -/
theorem noGo : Tryz.prog.funcs.any Func.goes = false := by kernel_rfl
theorem goes_none {P : Program} (h : P.funcs.any Func.goes = false) (f : FuncId) : P.goes f = false := by
  unfold Program.goes
  rw [h, Bool.and_false, Bool.or_false]
  rw [Bool.eq_false_iff]
  intro hc
  obtain ⟨g, _, hg⟩ := List.any_eq_true.1 hc
  cases hf : P.funcs[g]? with
  | none => rw [hf] at hg; cases hg
  | some fn =>
    rw [hf] at hg
    have : P.funcs.any Func.goes = true := Array.any_eq_true'.2 ⟨fn, Array.mem_of_getElem? hf, hg⟩
    rw [h] at this
    cases this
theorem goesBy_none {P : Program} (h : P.funcs.any Func.goes = false) (c : OpenClaim) (hs : c.start = .entering) : false = c.goesBy P := by
  unfold OpenClaim.goesBy Program.goesAt Program.goesFrom
  rw [hs]
  cases P.funcNamed c.func with
  | none => rfl
  | some f => simp [goes_none h f]

/-! The closed facts, each by itself: together they outgrow the kernel's memory. -/
set_option maxHeartbeats 8000000 in
theorem closed : joinedFacts Tryz.pinned.checked.prog 3 Tryz.f3 Rows.reuseEntriesSpec Rows.reuseEntriesRow = true := by
  unfold joinedFacts
  simp only [Bool.and_eq_true]
  repeat' refine And.intro ?_ ?_
  all_goals (as_aux_lemma => kernel_rfl)
theorem named : Tryz.pinned.checked.prog.funcNamed Rows.reuseEntriesRow.func = some 3 := by kernel_rfl
theorem inst : Tryz.f3.isInstance Tryz.pinned.checked.prog Rows.reuseEntriesRow.origin Rows.reuseEntriesRow.targs := of_decide_eq_true (by kernel_rfl)
theorem wrap : Tryz.f3.isWrapper Tryz.pinned.checked.prog Rows.reuseEntriesRow.wrapper Rows.reuseEntriesRow.mainSum := by
  unfold Func.isWrapper; first | (rw [if_pos (by decide +kernel)]; kernel_rfl) | (rw [if_neg (by decide +kernel)]; exact ⟨rfl, rfl⟩)

theorem over : Rows.reuseEntriesRow.holds Tryz.pinned (OpenSpec.ofChange Rows.reuseEntriesSpec) :=
  OpenClaim.holds_of_wide 3 Tryz.f3 rfl rfl rfl rfl rfl rfl rfl ⟨rfl, rfl, rfl, rfl, rfl⟩ rfl rfl rfl rfl rfl named Tryz.func3 closed inst wrap
    (fun os started H enc _ => lifted os started H enc)

theorem byText : Rows.reuseEntriesRow.wfByText (OpenSpec.ofChange Rows.reuseEntriesSpec) = true := by kernel_rfl
theorem mainIs : Tryz.pinned.checked.prog.mainIs = some (((true, "f282be5d1a9894797039ad68e4565d76ae19d68fd165289ca15da9929e8a91aa") : Bool × String).1, (((true, "f282be5d1a9894797039ad68e4565d76ae19d68fd165289ca15da9929e8a91aa") : Bool × String).2).toList) := by kernel_rfl
theorem looksNone : false = Tryz.pinned.checked.prog.looks [] := by kernel_rfl
theorem noStand : ([22, 22, 23].all fun u => !Tryz.prog.wantsStandIn u) = true := by kernel_rfl

/-- The statement. -/
theorem proved : Rows.ReuseEntriesCardSaid :=
  Claim7.holds_tied_plain_at .later [] [.data, .data, .data, .data] true (true, "f282be5d1a9894797039ad68e4565d76ae19d68fd165289ca15da9929e8a91aa") false
    over (fun _ h => by cases h) byText (fun _ h => by cases h) reuseEntries_row_tie rfl ⟨rfl, rfl⟩ mainIs rfl
    (fun f fn hf hfn => by
      obtain rfl : f = 3 := Option.some.inj (named.symm.trans hf) |>.symm
      obtain rfl : fn = Tryz.f3 := (Option.some.inj (Tryz.func3.symm.trans hfn)).symm
      exact ⟨looksNone, fun j t ht => by
        rw [Tryz.params3] at ht
        have hm : t ∈ [22, 22, 23] := by simpa using Array.mem_of_getElem? ht
        exact (show Tryz.prog.wantsStandIn t = false by simpa using List.all_eq_true.1 noStand t hm)⟩)
    (goesBy_none noGo _ rfl)
#print axioms proved
end Go.Proofs.YtbhbainhmfjpdaaGreatDoor.reuseEntries
