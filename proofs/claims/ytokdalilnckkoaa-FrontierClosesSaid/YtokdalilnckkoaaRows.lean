/-
  No cell of these rows narrows 'for every input' (looked for: loops, veiled, ifaces, maps, wideKeys, modest, calm, conditions, laid).
  DERIVED. THE GIVEN ROWS OF THIS SEAT. 4 by the template 'for every input the law returns true; each argument reads behind the call as it read before'; 0 by the template 'total and deterministic' (their statements: YtokdalilnckkoaaTotals.lean).
  GIVEN WITH THE SEED: the statements are not yours to turn. If you find one false, say at which input.
  Laid BY PROGRAM, IN A SANDBOX (cutbox-rows.mjs): the forced cells as the released guide's own fill.sh prints them over the translation b4de7c5d914f57e9… (all of the seat's roots in one cut). By AI agents, Wed Nov 11 2026. No macro, syntax, notation, axiom, sorry.
-/
import Derived.Test.YtokdalilnckkoaaChecked
import GoSem.Claim
import GoSem.ClaimJoined
import GoSem.ClaimMapViews
import Derived.JoinedTies
import Derived.KernelRfl
namespace Go.Proofs.Ytokdalilnckkoaa
/- THE CELL 'sum', in the pinned program and in every row, IS THE sha256 OF THE DUMP (.gsa) THAT YtokdalilnckkoaaProg.lean LOADS. Nothing in Lean hashes anything: it is a label: what it is worth is what the hold of that sum in a sandbox is worth. -/
noncomputable def Try.pinned : Pinned := { name := "ytokdalilnckkoaa", sum := "b4de7c5d914f57e903ca59fba1aa6a7f1bbedd77dadb604b8b3047be3cdfb4dd", checked := Try.checked }
namespace Rows
def none {H : Type} : Left H := { results := [], args := [] }

/-- 'relucertlaw40.FrontierOnce': WHATEVER THE INPUT: true; the input reads as it did. -/
def frontierOnceSpec : ChangeSpec := { name := "frontierOnce", fn := fun _ => fun
  | [d] => { results := [.lit (.bool true)], args := [d] }
  | _ => none }
def frontierOnceRow : OpenClaim := { program := "ytokdalilnckkoaa", sum := "b4de7c5d914f57e903ca59fba1aa6a7f1bbedd77dadb604b8b3047be3cdfb4dd", func := "relucert/relucertlaw40.FrontierOnce", spec := "frontierOnce", inPlace := ["sync/atomic.AddInt64", "sync/atomic.LoadPointer", "sync/atomic.CompareAndSwapPointer", "sync/atomic.LoadInt64"], unfollowed := true, recurses := true, apart := false }
def FrontierOnceSaid : Prop := frontierOnceRow.holds Try.pinned (OpenSpec.ofChange frontierOnceSpec)

/-- ITS FALSE NEIGHBOUR: 'it returns false'. Refute it at one input. -/
def frontierOnceWrong : ChangeSpec := { name := "frontierOnce", fn := fun _ => fun
  | [d] => { results := [.lit (.bool false)], args := [d] }
  | _ => none }
def FrontierOnceWrongFalsely : Prop := frontierOnceRow.holds Try.pinned (OpenSpec.ofChange frontierOnceWrong)

/-- 'relucertlaw40.FrontierCloses': WHATEVER THE INPUT: true; the input reads as it did. -/
def frontierClosesSpec : ChangeSpec := { name := "frontierCloses", fn := fun _ => fun
  | [d1, d2, d3] => { results := [.lit (.bool true)], args := [d1, d2, d3] }
  | _ => none }
def frontierClosesRow : OpenClaim := { program := "ytokdalilnckkoaa", sum := "b4de7c5d914f57e903ca59fba1aa6a7f1bbedd77dadb604b8b3047be3cdfb4dd", func := "relucert/relucertlaw40.FrontierCloses", spec := "frontierCloses", inPlace := ["sync/atomic.AddInt64", "sync/atomic.LoadPointer", "sync/atomic.CompareAndSwapPointer", "sync/atomic.LoadInt64"], unfollowed := true, recurses := true, apart := false }
def FrontierClosesSaid : Prop := frontierClosesRow.holds Try.pinned (OpenSpec.ofChange frontierClosesSpec)

/-- ITS FALSE NEIGHBOUR: 'it returns false'. Refute it at one input. -/
def frontierClosesWrong : ChangeSpec := { name := "frontierCloses", fn := fun _ => fun
  | [d1, d2, d3] => { results := [.lit (.bool false)], args := [d1, d2, d3] }
  | _ => none }
def FrontierClosesWrongFalsely : Prop := frontierClosesRow.holds Try.pinned (OpenSpec.ofChange frontierClosesWrong)

/-- 'relucertlaw40.FrontierSteps': WHATEVER THE INPUT: true; the input reads as it did. -/
def frontierStepsSpec : ChangeSpec := { name := "frontierSteps", fn := fun _ => fun
  | [d] => { results := [.lit (.bool true)], args := [d] }
  | _ => none }
def frontierStepsRow : OpenClaim := { program := "ytokdalilnckkoaa", sum := "b4de7c5d914f57e903ca59fba1aa6a7f1bbedd77dadb604b8b3047be3cdfb4dd", func := "relucert/relucertlaw40.FrontierSteps", spec := "frontierSteps", inPlace := ["sync/atomic.AddInt64", "sync/atomic.LoadPointer", "sync/atomic.CompareAndSwapPointer", "sync/atomic.LoadInt64"], unfollowed := true, recurses := true, apart := false }
def FrontierStepsSaid : Prop := frontierStepsRow.holds Try.pinned (OpenSpec.ofChange frontierStepsSpec)

/-- ITS FALSE NEIGHBOUR: 'it returns false'. Refute it at one input. -/
def frontierStepsWrong : ChangeSpec := { name := "frontierSteps", fn := fun _ => fun
  | [d] => { results := [.lit (.bool false)], args := [d] }
  | _ => none }
def FrontierStepsWrongFalsely : Prop := frontierStepsRow.holds Try.pinned (OpenSpec.ofChange frontierStepsWrong)

/-- 'relucertlaw40.FrontierNil': WHATEVER THE INPUT: true; the input reads as it did. -/
def frontierNilSpec : ChangeSpec := { name := "frontierNil", fn := fun _ => fun
  | [d] => { results := [.lit (.bool true)], args := [d] }
  | _ => none }
def frontierNilRow : OpenClaim := { program := "ytokdalilnckkoaa", sum := "b4de7c5d914f57e903ca59fba1aa6a7f1bbedd77dadb604b8b3047be3cdfb4dd", func := "relucert/relucertlaw40.FrontierNil", spec := "frontierNil", inPlace := ["sync/atomic.AddInt64", "sync/atomic.LoadPointer", "sync/atomic.CompareAndSwapPointer", "sync/atomic.LoadInt64"], unfollowed := true, recurses := true, apart := false }
def FrontierNilSaid : Prop := frontierNilRow.holds Try.pinned (OpenSpec.ofChange frontierNilSpec)

/-- ITS FALSE NEIGHBOUR: 'it returns false'. Refute it at one input. -/
def frontierNilWrong : ChangeSpec := { name := "frontierNil", fn := fun _ => fun
  | [d] => { results := [.lit (.bool false)], args := [d] }
  | _ => none }
def FrontierNilWrongFalsely : Prop := frontierNilRow.holds Try.pinned (OpenSpec.ofChange frontierNilWrong)

/- THE SECOND FORM. 'bulk': how many values and letters a reading holds, each counted each time it is reached (what is shared counts as often as it is met; a slice's spare places count too). A statement '..UptoSaid' is the law's where the arguments, and the package variables that the reading takes, are together of bulk at most 1048576: NARROWER than '..Said'. Prove '..Said' where nothing that the law and all that it calls make is longer than what came in: it says more and counts as full. Else prove '..UptoSaid'. A law counts once. -/
mutual
def uptoBulk {H : Type} : DataW H → Nat
  | .lit (.string bytes) => bytes.length + 1
  | .lit _ => 1
  | .nil => 1
  | .ptr d => uptoBulk d + 1
  | .slice elems spare => uptoBulkAll elems + uptoBulkAll spare + 1
  | .agg parts => uptoBulkAll parts + 1
  | .iface _ d => uptoBulk d + 1
  | .map entries => uptoBulkEntries entries + 1
  | .held _ => 1
def uptoBulkAll {H : Type} : List (DataW H) → Nat
  | [] => 0
  | d :: r => uptoBulk d + uptoBulkAll r
def uptoBulkEntries {H : Type} : List (Lit × DataW H) → Nat
  | [] => 0
  | x :: r => uptoBulkEntry x + uptoBulkEntries r
def uptoBulkEntry {H : Type} : Lit × DataW H → Nat
  | (.string bytes, d) => bytes.length + uptoBulk d + 1
  | (_, d) => uptoBulk d + 1
 end
def uptoSmall : (H : Type) → List (DataW H) → Bool := fun _ ds => decide (uptoBulkAll ds ≤ 1048576)
def OpenSpec.upto (s : _root_.Go.ChangeSpec) : _root_.Go.OpenSpec := { _root_.Go.OpenSpec.ofChange s with cond := some uptoSmall }

/-- 'relucertlaw40.FrontierOnce', WHERE WHAT IT READS IS OF BULK AT MOST 1048576: true; the input reads as it did. -/
def frontierOnceUptoRow : OpenClaim := { program := "ytokdalilnckkoaa", sum := "b4de7c5d914f57e903ca59fba1aa6a7f1bbedd77dadb604b8b3047be3cdfb4dd", func := "relucert/relucertlaw40.FrontierOnce", spec := "frontierOnce", inPlace := ["sync/atomic.AddInt64", "sync/atomic.LoadPointer", "sync/atomic.CompareAndSwapPointer", "sync/atomic.LoadInt64"], unfollowed := true, recurses := true, apart := false, narrowed := true }
def FrontierOnceUptoSaid : Prop := frontierOnceUptoRow.holds Try.pinned (OpenSpec.upto frontierOnceSpec)

/-- 'relucertlaw40.FrontierCloses', WHERE WHAT IT READS IS OF BULK AT MOST 1048576: true; the input reads as it did. -/
def frontierClosesUptoRow : OpenClaim := { program := "ytokdalilnckkoaa", sum := "b4de7c5d914f57e903ca59fba1aa6a7f1bbedd77dadb604b8b3047be3cdfb4dd", func := "relucert/relucertlaw40.FrontierCloses", spec := "frontierCloses", inPlace := ["sync/atomic.AddInt64", "sync/atomic.LoadPointer", "sync/atomic.CompareAndSwapPointer", "sync/atomic.LoadInt64"], unfollowed := true, recurses := true, apart := false, narrowed := true }
def FrontierClosesUptoSaid : Prop := frontierClosesUptoRow.holds Try.pinned (OpenSpec.upto frontierClosesSpec)

/-- 'relucertlaw40.FrontierSteps', WHERE WHAT IT READS IS OF BULK AT MOST 1048576: true; the input reads as it did. -/
def frontierStepsUptoRow : OpenClaim := { program := "ytokdalilnckkoaa", sum := "b4de7c5d914f57e903ca59fba1aa6a7f1bbedd77dadb604b8b3047be3cdfb4dd", func := "relucert/relucertlaw40.FrontierSteps", spec := "frontierSteps", inPlace := ["sync/atomic.AddInt64", "sync/atomic.LoadPointer", "sync/atomic.CompareAndSwapPointer", "sync/atomic.LoadInt64"], unfollowed := true, recurses := true, apart := false, narrowed := true }
def FrontierStepsUptoSaid : Prop := frontierStepsUptoRow.holds Try.pinned (OpenSpec.upto frontierStepsSpec)

/-- 'relucertlaw40.FrontierNil', WHERE WHAT IT READS IS OF BULK AT MOST 1048576: true; the input reads as it did. -/
def frontierNilUptoRow : OpenClaim := { program := "ytokdalilnckkoaa", sum := "b4de7c5d914f57e903ca59fba1aa6a7f1bbedd77dadb604b8b3047be3cdfb4dd", func := "relucert/relucertlaw40.FrontierNil", spec := "frontierNil", inPlace := ["sync/atomic.AddInt64", "sync/atomic.LoadPointer", "sync/atomic.CompareAndSwapPointer", "sync/atomic.LoadInt64"], unfollowed := true, recurses := true, apart := false, narrowed := true }
def FrontierNilUptoSaid : Prop := frontierNilUptoRow.holds Try.pinned (OpenSpec.upto frontierNilSpec)

end Rows
end Go.Proofs.Ytokdalilnckkoaa
