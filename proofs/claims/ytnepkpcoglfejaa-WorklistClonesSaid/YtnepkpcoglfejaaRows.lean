/-
  No cell of these rows narrows 'for every input' (looked for: loops, veiled, ifaces, maps, wideKeys, modest, calm, conditions, laid).
  DERIVED. THE GIVEN ROWS OF THIS SEAT. 6 by the template 'for every input the law returns true; each argument reads behind the call as it read before'; 0 by the template 'total and deterministic' (their statements: YtnepkpcoglfejaaTotals.lean).
  GIVEN WITH THE SEED: the statements are not yours to turn. If you find one false, say at which input.
  Laid BY PROGRAM, IN A SANDBOX (cutbox-rows.mjs): the forced cells as the released guide's own fill.sh prints them over the translation d7ade7fbdeccfc2e… (all of the seat's roots in one cut). By AI agents, Wed Nov 11 2026. No macro, syntax, notation, axiom, sorry.
-/
import Derived.Test.YtnepkpcoglfejaaChecked
import GoSem.Claim
import GoSem.ClaimJoined
import GoSem.ClaimMapViews
import Derived.JoinedTies
import Derived.KernelRfl
namespace Go.Proofs.Ytnepkpcoglfejaa
/- THE CELL 'sum', in the pinned program and in every row, IS THE sha256 OF THE DUMP (.gsa) THAT YtnepkpcoglfejaaProg.lean LOADS. Nothing in Lean hashes anything: it is a label: what it is worth is what the hold of that sum in a sandbox is worth. -/
noncomputable def Try.pinned : Pinned := { name := "ytnepkpcoglfejaa", sum := "d7ade7fbdeccfc2e949848f0d1c4481a1fb0259c9f3bba3978df65330a82f368", checked := Try.checked }
namespace Rows
def none {H : Type} : Left H := { results := [], args := [] }

/-- 'relucertlaw39.WorklistSorts': WHATEVER THE INPUT: true; the input reads as it did. -/
def worklistSortsSpec : ChangeSpec := { name := "worklistSorts", fn := fun _ => fun
  | [d] => { results := [.lit (.bool true)], args := [d] }
  | _ => none }
def worklistSortsRow : OpenClaim := { program := "ytnepkpcoglfejaa", sum := "d7ade7fbdeccfc2e949848f0d1c4481a1fb0259c9f3bba3978df65330a82f368", func := "relucert/relucertlaw39.WorklistSorts", spec := "worklistSorts", unfollowed := true, recurses := true, apart := false }
def WorklistSortsSaid : Prop := worklistSortsRow.holds Try.pinned (OpenSpec.ofChange worklistSortsSpec)

/-- ITS FALSE NEIGHBOUR: 'it returns false'. Refute it at one input. -/
def worklistSortsWrong : ChangeSpec := { name := "worklistSorts", fn := fun _ => fun
  | [d] => { results := [.lit (.bool false)], args := [d] }
  | _ => none }
def WorklistSortsWrongFalsely : Prop := worklistSortsRow.holds Try.pinned (OpenSpec.ofChange worklistSortsWrong)

/-- 'relucertlaw39.WorklistCost': WHATEVER THE INPUT: true; the input reads as it did. -/
def worklistCostSpec : ChangeSpec := { name := "worklistCost", fn := fun _ => fun
  | [d] => { results := [.lit (.bool true)], args := [d] }
  | _ => none }
def worklistCostRow : OpenClaim := { program := "ytnepkpcoglfejaa", sum := "d7ade7fbdeccfc2e949848f0d1c4481a1fb0259c9f3bba3978df65330a82f368", func := "relucert/relucertlaw39.WorklistCost", spec := "worklistCost", unfollowed := true, recurses := true, apart := false }
def WorklistCostSaid : Prop := worklistCostRow.holds Try.pinned (OpenSpec.ofChange worklistCostSpec)

/-- ITS FALSE NEIGHBOUR: 'it returns false'. Refute it at one input. -/
def worklistCostWrong : ChangeSpec := { name := "worklistCost", fn := fun _ => fun
  | [d] => { results := [.lit (.bool false)], args := [d] }
  | _ => none }
def WorklistCostWrongFalsely : Prop := worklistCostRow.holds Try.pinned (OpenSpec.ofChange worklistCostWrong)

/-- 'relucertlaw39.WorklistEarly': WHATEVER THE INPUT: true; the input reads as it did. -/
def worklistEarlySpec : ChangeSpec := { name := "worklistEarly", fn := fun _ => fun
  | [d1, d2] => { results := [.lit (.bool true)], args := [d1, d2] }
  | _ => none }
def worklistEarlyRow : OpenClaim := { program := "ytnepkpcoglfejaa", sum := "d7ade7fbdeccfc2e949848f0d1c4481a1fb0259c9f3bba3978df65330a82f368", func := "relucert/relucertlaw39.WorklistEarly", spec := "worklistEarly", unfollowed := true, recurses := true, apart := false }
def WorklistEarlySaid : Prop := worklistEarlyRow.holds Try.pinned (OpenSpec.ofChange worklistEarlySpec)

/-- ITS FALSE NEIGHBOUR: 'it returns false'. Refute it at one input. -/
def worklistEarlyWrong : ChangeSpec := { name := "worklistEarly", fn := fun _ => fun
  | [d1, d2] => { results := [.lit (.bool false)], args := [d1, d2] }
  | _ => none }
def WorklistEarlyWrongFalsely : Prop := worklistEarlyRow.holds Try.pinned (OpenSpec.ofChange worklistEarlyWrong)

/-- 'relucertlaw39.WorklistOps': WHATEVER THE INPUT: true; the input reads as it did. -/
def worklistOpsSpec : ChangeSpec := { name := "worklistOps", fn := fun _ => fun
  | [d] => { results := [.lit (.bool true)], args := [d] }
  | _ => none }
def worklistOpsRow : OpenClaim := { program := "ytnepkpcoglfejaa", sum := "d7ade7fbdeccfc2e949848f0d1c4481a1fb0259c9f3bba3978df65330a82f368", func := "relucert/relucertlaw39.WorklistOps", spec := "worklistOps", unfollowed := true, recurses := true, apart := false }
def WorklistOpsSaid : Prop := worklistOpsRow.holds Try.pinned (OpenSpec.ofChange worklistOpsSpec)

/-- ITS FALSE NEIGHBOUR: 'it returns false'. Refute it at one input. -/
def worklistOpsWrong : ChangeSpec := { name := "worklistOps", fn := fun _ => fun
  | [d] => { results := [.lit (.bool false)], args := [d] }
  | _ => none }
def WorklistOpsWrongFalsely : Prop := worklistOpsRow.holds Try.pinned (OpenSpec.ofChange worklistOpsWrong)

/-- 'relucertlaw39.WorklistClones': WHATEVER THE INPUT: true; the input reads as it did. -/
def worklistClonesSpec : ChangeSpec := { name := "worklistClones", fn := fun _ => fun
  | [d1, d2] => { results := [.lit (.bool true)], args := [d1, d2] }
  | _ => none }
def worklistClonesRow : OpenClaim := { program := "ytnepkpcoglfejaa", sum := "d7ade7fbdeccfc2e949848f0d1c4481a1fb0259c9f3bba3978df65330a82f368", func := "relucert/relucertlaw39.WorklistClones", spec := "worklistClones", unfollowed := true, recurses := true, apart := false }
def WorklistClonesSaid : Prop := worklistClonesRow.holds Try.pinned (OpenSpec.ofChange worklistClonesSpec)

/-- ITS FALSE NEIGHBOUR: 'it returns false'. Refute it at one input. -/
def worklistClonesWrong : ChangeSpec := { name := "worklistClones", fn := fun _ => fun
  | [d1, d2] => { results := [.lit (.bool false)], args := [d1, d2] }
  | _ => none }
def WorklistClonesWrongFalsely : Prop := worklistClonesRow.holds Try.pinned (OpenSpec.ofChange worklistClonesWrong)

/-- 'relucertlaw39.WorklistNil': WHATEVER THE INPUT: true; the input reads as it did. -/
def worklistNilSpec : ChangeSpec := { name := "worklistNil", fn := fun _ => fun
  | [d] => { results := [.lit (.bool true)], args := [d] }
  | _ => none }
def worklistNilRow : OpenClaim := { program := "ytnepkpcoglfejaa", sum := "d7ade7fbdeccfc2e949848f0d1c4481a1fb0259c9f3bba3978df65330a82f368", func := "relucert/relucertlaw39.WorklistNil", spec := "worklistNil", unfollowed := true, recurses := true, apart := false }
def WorklistNilSaid : Prop := worklistNilRow.holds Try.pinned (OpenSpec.ofChange worklistNilSpec)

/-- ITS FALSE NEIGHBOUR: 'it returns false'. Refute it at one input. -/
def worklistNilWrong : ChangeSpec := { name := "worklistNil", fn := fun _ => fun
  | [d] => { results := [.lit (.bool false)], args := [d] }
  | _ => none }
def WorklistNilWrongFalsely : Prop := worklistNilRow.holds Try.pinned (OpenSpec.ofChange worklistNilWrong)

/- THE SECOND FORM. 'bulk': how many values and letters a reading holds, each counted each time it is reached (what is shared counts as often as it is met; a slice's spare places count too). A statement '..UptoSaid' is the law's where the arguments, and the package variables that the reading takes, are together of bulk at most 1048576: NARROWER than '..Said'. Prove '..Said' where nothing that the law and all that it calls make is longer than what came in: it says more and counts as full. Else prove '..UptoSaid'. A law counts once. -/
mutual
def uptoBulk {H : Type} : DataW H → Nat
  | .lit (.string bytes) => bytes.length + 1
  | .lit _ => 1
  | .nil => 1
  | .ptr d => uptoBulk d + 1
  | .slice elems spare => uptoBulkAll elems + uptoBulkAll spare + 1
  | .agg parts => uptoBulkAll parts + 1
  | .iface _ d => uptoBulk d + 1
  | .map entries => uptoBulkEntries entries + 1
  | .held _ => 1
def uptoBulkAll {H : Type} : List (DataW H) → Nat
  | [] => 0
  | d :: r => uptoBulk d + uptoBulkAll r
def uptoBulkEntries {H : Type} : List (Lit × DataW H) → Nat
  | [] => 0
  | x :: r => uptoBulkEntry x + uptoBulkEntries r
def uptoBulkEntry {H : Type} : Lit × DataW H → Nat
  | (.string bytes, d) => bytes.length + uptoBulk d + 1
  | (_, d) => uptoBulk d + 1
 end
def uptoSmall : (H : Type) → List (DataW H) → Bool := fun _ ds => decide (uptoBulkAll ds ≤ 1048576)
def OpenSpec.upto (s : _root_.Go.ChangeSpec) : _root_.Go.OpenSpec := { _root_.Go.OpenSpec.ofChange s with cond := some uptoSmall }

/-- 'relucertlaw39.WorklistSorts', WHERE WHAT IT READS IS OF BULK AT MOST 1048576: true; the input reads as it did. -/
def worklistSortsUptoRow : OpenClaim := { program := "ytnepkpcoglfejaa", sum := "d7ade7fbdeccfc2e949848f0d1c4481a1fb0259c9f3bba3978df65330a82f368", func := "relucert/relucertlaw39.WorklistSorts", spec := "worklistSorts", unfollowed := true, recurses := true, apart := false, narrowed := true }
def WorklistSortsUptoSaid : Prop := worklistSortsUptoRow.holds Try.pinned (OpenSpec.upto worklistSortsSpec)

/-- 'relucertlaw39.WorklistCost', WHERE WHAT IT READS IS OF BULK AT MOST 1048576: true; the input reads as it did. -/
def worklistCostUptoRow : OpenClaim := { program := "ytnepkpcoglfejaa", sum := "d7ade7fbdeccfc2e949848f0d1c4481a1fb0259c9f3bba3978df65330a82f368", func := "relucert/relucertlaw39.WorklistCost", spec := "worklistCost", unfollowed := true, recurses := true, apart := false, narrowed := true }
def WorklistCostUptoSaid : Prop := worklistCostUptoRow.holds Try.pinned (OpenSpec.upto worklistCostSpec)

/-- 'relucertlaw39.WorklistEarly', WHERE WHAT IT READS IS OF BULK AT MOST 1048576: true; the input reads as it did. -/
def worklistEarlyUptoRow : OpenClaim := { program := "ytnepkpcoglfejaa", sum := "d7ade7fbdeccfc2e949848f0d1c4481a1fb0259c9f3bba3978df65330a82f368", func := "relucert/relucertlaw39.WorklistEarly", spec := "worklistEarly", unfollowed := true, recurses := true, apart := false, narrowed := true }
def WorklistEarlyUptoSaid : Prop := worklistEarlyUptoRow.holds Try.pinned (OpenSpec.upto worklistEarlySpec)

/-- 'relucertlaw39.WorklistOps', WHERE WHAT IT READS IS OF BULK AT MOST 1048576: true; the input reads as it did. -/
def worklistOpsUptoRow : OpenClaim := { program := "ytnepkpcoglfejaa", sum := "d7ade7fbdeccfc2e949848f0d1c4481a1fb0259c9f3bba3978df65330a82f368", func := "relucert/relucertlaw39.WorklistOps", spec := "worklistOps", unfollowed := true, recurses := true, apart := false, narrowed := true }
def WorklistOpsUptoSaid : Prop := worklistOpsUptoRow.holds Try.pinned (OpenSpec.upto worklistOpsSpec)

/-- 'relucertlaw39.WorklistClones', WHERE WHAT IT READS IS OF BULK AT MOST 1048576: true; the input reads as it did. -/
def worklistClonesUptoRow : OpenClaim := { program := "ytnepkpcoglfejaa", sum := "d7ade7fbdeccfc2e949848f0d1c4481a1fb0259c9f3bba3978df65330a82f368", func := "relucert/relucertlaw39.WorklistClones", spec := "worklistClones", unfollowed := true, recurses := true, apart := false, narrowed := true }
def WorklistClonesUptoSaid : Prop := worklistClonesUptoRow.holds Try.pinned (OpenSpec.upto worklistClonesSpec)

/-- 'relucertlaw39.WorklistNil', WHERE WHAT IT READS IS OF BULK AT MOST 1048576: true; the input reads as it did. -/
def worklistNilUptoRow : OpenClaim := { program := "ytnepkpcoglfejaa", sum := "d7ade7fbdeccfc2e949848f0d1c4481a1fb0259c9f3bba3978df65330a82f368", func := "relucert/relucertlaw39.WorklistNil", spec := "worklistNil", unfollowed := true, recurses := true, apart := false, narrowed := true }
def WorklistNilUptoSaid : Prop := worklistNilUptoRow.holds Try.pinned (OpenSpec.upto worklistNilSpec)

end Rows
end Go.Proofs.Ytnepkpcoglfejaa
