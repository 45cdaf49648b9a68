/- Closed facts of the program and the row of ReuseSame. -/
import Derived.Test.YtbhbainhmfjpdaaGreatDoorRows
import Derived.Test.YtbhbainhmfjpdaaGreatDoorCards
import Derived.Test.YtbhbainhmfjpdaaGreatDoorTie
import Derived.WalkKit
import Derived.ProofKit
import Derived.OpenShut
import Derived.ShutString
import Derived.ChangeOld
import Derived.Below
import Derived.LaidMore
import Derived.Lay
import Derived.SevenTiedAt
import Derived.Handed
import Derived.Lib.LaidTab
namespace Go.Proofs.YtbhbainhmfjpdaaGreatDoor.reuseSame
open Go.ChangeShapes Go.WideShapes Go.ChangeAt Go.RowKit
open Go.ChangeMaps (open_string shut_string)
set_option linter.unusedVariables false

/-- No function of the program has a go statement. -/
theorem noGo : Tryz.prog.funcs.any Func.goes = false := by kernel_rfl
theorem goes_none {P : Program} (h : P.funcs.any Func.goes = false) (f : FuncId) : P.goes f = false := by
  unfold Program.goes
  rw [h, Bool.and_false, Bool.or_false]
  rw [Bool.eq_false_iff]
  intro hc
  obtain ⟨g, _, hg⟩ := List.any_eq_true.1 hc
  cases hf : P.funcs[g]? with
  | none => rw [hf] at hg; cases hg
  | some fn =>
    rw [hf] at hg
    have : P.funcs.any Func.goes = true := Array.any_eq_true'.2 ⟨fn, Array.mem_of_getElem? hf, hg⟩
    rw [h] at this
    cases this
theorem goesBy_none {P : Program} (h : P.funcs.any Func.goes = false) (c : OpenClaim) (hs : c.start = .entering) : false = c.goesBy P := by
  unfold OpenClaim.goesBy Program.goesAt Program.goesFrom
  rw [hs]
  cases P.funcNamed c.func with
  | none => rfl
  | some f => simp [goes_none h f]

/-! The closed facts, each by itself: together they outgrow the kernel's memory. -/
set_option maxHeartbeats 8000000 in
theorem closed : joinedFacts Tryz.pinned.checked.prog 4 Tryz.f4 Rows.reuseSameSpec Rows.reuseSameRow = true := by
  unfold joinedFacts
  simp only [Bool.and_eq_true]
  repeat' refine And.intro ?_ ?_
  all_goals (as_aux_lemma => kernel_rfl)
theorem named : Tryz.pinned.checked.prog.funcNamed Rows.reuseSameRow.func = some 4 := by kernel_rfl
theorem inst : Tryz.f4.isInstance Tryz.pinned.checked.prog Rows.reuseSameRow.origin Rows.reuseSameRow.targs := of_decide_eq_true (by kernel_rfl)
theorem wrap : Tryz.f4.isWrapper Tryz.pinned.checked.prog Rows.reuseSameRow.wrapper Rows.reuseSameRow.mainSum := by
  unfold Func.isWrapper; first | (rw [if_pos (by decide +kernel)]; kernel_rfl) | (rw [if_neg (by decide +kernel)]; exact ⟨rfl, rfl⟩)

theorem byText : Rows.reuseSameRow.wfByText (OpenSpec.ofChange Rows.reuseSameSpec) = true := by kernel_rfl
theorem mainIs : Tryz.pinned.checked.prog.mainIs = some (((true, "f282be5d1a9894797039ad68e4565d76ae19d68fd165289ca15da9929e8a91aa") : Bool × String).1, (((true, "f282be5d1a9894797039ad68e4565d76ae19d68fd165289ca15da9929e8a91aa") : Bool × String).2).toList) := by kernel_rfl
theorem looksNone : false = Tryz.pinned.checked.prog.looks [] := by kernel_rfl
theorem noStand : ([22, 23].all fun u => !Tryz.prog.wantsStandIn u) = true := by kernel_rfl

end Go.Proofs.YtbhbainhmfjpdaaGreatDoor.reuseSame
