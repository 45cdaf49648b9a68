/-
  No cell of these rows narrows 'for every input' (looked for: loops, veiled, ifaces, maps, wideKeys, modest, calm, conditions, laid).
  DERIVED. THE GIVEN ROWS OF THIS SEAT. 6 by the template 'for every input the law returns true; each argument reads behind the call as it read before'; 0 by the template 'total and deterministic' (their statements: YtambnijbbnohfaaTotals.lean).
  GIVEN WITH THE SEED: the statements are not yours to turn. If you find one false, say at which input.
  Laid BY PROGRAM, IN A SANDBOX (cutbox-rows.mjs): the forced cells as the released guide's own fill.sh prints them over the translation f654de362f0a4c97… (all of the seat's roots in one cut). By AI agents, Wed Nov 11 2026. No macro, syntax, notation, axiom, sorry.
-/
import Derived.Test.YtambnijbbnohfaaChecked
import GoSem.Claim
import GoSem.ClaimJoined
import GoSem.ClaimMapViews
import Derived.JoinedTies
import Derived.KernelRfl
namespace Go.Proofs.Ytambnijbbnohfaa
/- THE CELL 'sum', in the pinned program and in every row, IS THE sha256 OF THE DUMP (.gsa) THAT YtambnijbbnohfaaProg.lean LOADS. Nothing in Lean hashes anything: it is a label: what it is worth is what the hold of that sum in a sandbox is worth. -/
noncomputable def Try.pinned : Pinned := { name := "ytambnijbbnohfaa", sum := "f654de362f0a4c97c19dedb8c3ad16461f0bf79f89bca6f64cfe0dbda957556e", checked := Try.checked }
namespace Rows
def none {H : Type} : Left H := { results := [], args := [] }

/-- 'relucertlaw41.ScheduleOrder': WHATEVER THE INPUT: true; the input reads as it did. -/
def scheduleOrderSpec : ChangeSpec := { name := "scheduleOrder", fn := fun _ => fun
  | [d1, d2, d3] => { results := [.lit (.bool true)], args := [d1, d2, d3] }
  | _ => none }
def scheduleOrderRow : OpenClaim := { program := "ytambnijbbnohfaa", sum := "f654de362f0a4c97c19dedb8c3ad16461f0bf79f89bca6f64cfe0dbda957556e", func := "relucert/relucertlaw41.ScheduleOrder", spec := "scheduleOrder", unfollowed := true, recurses := true, apart := false }
def ScheduleOrderSaid : Prop := scheduleOrderRow.holds Try.pinned (OpenSpec.ofChange scheduleOrderSpec)

/-- ITS FALSE NEIGHBOUR: 'it returns false'. Refute it at one input. -/
def scheduleOrderWrong : ChangeSpec := { name := "scheduleOrder", fn := fun _ => fun
  | [d1, d2, d3] => { results := [.lit (.bool false)], args := [d1, d2, d3] }
  | _ => none }
def ScheduleOrderWrongFalsely : Prop := scheduleOrderRow.holds Try.pinned (OpenSpec.ofChange scheduleOrderWrong)

/-- 'relucertlaw41.ScheduleJoin': WHATEVER THE INPUT: true; the input reads as it did. -/
def scheduleJoinSpec : ChangeSpec := { name := "scheduleJoin", fn := fun _ => fun
  | [d] => { results := [.lit (.bool true)], args := [d] }
  | _ => none }
def scheduleJoinRow : OpenClaim := { program := "ytambnijbbnohfaa", sum := "f654de362f0a4c97c19dedb8c3ad16461f0bf79f89bca6f64cfe0dbda957556e", func := "relucert/relucertlaw41.ScheduleJoin", spec := "scheduleJoin", unfollowed := true, recurses := true, apart := false }
def ScheduleJoinSaid : Prop := scheduleJoinRow.holds Try.pinned (OpenSpec.ofChange scheduleJoinSpec)

/-- ITS FALSE NEIGHBOUR: 'it returns false'. Refute it at one input. -/
def scheduleJoinWrong : ChangeSpec := { name := "scheduleJoin", fn := fun _ => fun
  | [d] => { results := [.lit (.bool false)], args := [d] }
  | _ => none }
def ScheduleJoinWrongFalsely : Prop := scheduleJoinRow.holds Try.pinned (OpenSpec.ofChange scheduleJoinWrong)

/-- 'relucertlaw41.ScheduleRun': WHATEVER THE INPUT: true; the input reads as it did. -/
def scheduleRunSpec : ChangeSpec := { name := "scheduleRun", fn := fun _ => fun
  | [d1, d2, d3] => { results := [.lit (.bool true)], args := [d1, d2, d3] }
  | _ => none }
def scheduleRunRow : OpenClaim := { program := "ytambnijbbnohfaa", sum := "f654de362f0a4c97c19dedb8c3ad16461f0bf79f89bca6f64cfe0dbda957556e", func := "relucert/relucertlaw41.ScheduleRun", spec := "scheduleRun", unfollowed := true, recurses := true, apart := false }
def ScheduleRunSaid : Prop := scheduleRunRow.holds Try.pinned (OpenSpec.ofChange scheduleRunSpec)

/-- ITS FALSE NEIGHBOUR: 'it returns false'. Refute it at one input. -/
def scheduleRunWrong : ChangeSpec := { name := "scheduleRun", fn := fun _ => fun
  | [d1, d2, d3] => { results := [.lit (.bool false)], args := [d1, d2, d3] }
  | _ => none }
def ScheduleRunWrongFalsely : Prop := scheduleRunRow.holds Try.pinned (OpenSpec.ofChange scheduleRunWrong)

/-- 'relucertlaw41.ScheduleArg': WHATEVER THE INPUT: true; the input reads as it did. -/
def scheduleArgSpec : ChangeSpec := { name := "scheduleArg", fn := fun _ => fun
  | [d1, d2, d3] => { results := [.lit (.bool true)], args := [d1, d2, d3] }
  | _ => none }
def scheduleArgRow : OpenClaim := { program := "ytambnijbbnohfaa", sum := "f654de362f0a4c97c19dedb8c3ad16461f0bf79f89bca6f64cfe0dbda957556e", func := "relucert/relucertlaw41.ScheduleArg", spec := "scheduleArg", unfollowed := true, recurses := true, apart := false }
def ScheduleArgSaid : Prop := scheduleArgRow.holds Try.pinned (OpenSpec.ofChange scheduleArgSpec)

/-- ITS FALSE NEIGHBOUR: 'it returns false'. Refute it at one input. -/
def scheduleArgWrong : ChangeSpec := { name := "scheduleArg", fn := fun _ => fun
  | [d1, d2, d3] => { results := [.lit (.bool false)], args := [d1, d2, d3] }
  | _ => none }
def ScheduleArgWrongFalsely : Prop := scheduleArgRow.holds Try.pinned (OpenSpec.ofChange scheduleArgWrong)

/-- 'relucertlaw41.ScheduleEvery': WHATEVER THE INPUT: true; the input reads as it did. -/
def scheduleEverySpec : ChangeSpec := { name := "scheduleEvery", fn := fun _ => fun
  | [d] => { results := [.lit (.bool true)], args := [d] }
  | _ => none }
def scheduleEveryRow : OpenClaim := { program := "ytambnijbbnohfaa", sum := "f654de362f0a4c97c19dedb8c3ad16461f0bf79f89bca6f64cfe0dbda957556e", func := "relucert/relucertlaw41.ScheduleEvery", spec := "scheduleEvery", unfollowed := true, recurses := true, apart := false }
def ScheduleEverySaid : Prop := scheduleEveryRow.holds Try.pinned (OpenSpec.ofChange scheduleEverySpec)

/-- ITS FALSE NEIGHBOUR: 'it returns false'. Refute it at one input. -/
def scheduleEveryWrong : ChangeSpec := { name := "scheduleEvery", fn := fun _ => fun
  | [d] => { results := [.lit (.bool false)], args := [d] }
  | _ => none }
def ScheduleEveryWrongFalsely : Prop := scheduleEveryRow.holds Try.pinned (OpenSpec.ofChange scheduleEveryWrong)

/-- 'relucertlaw41.ScheduleFair': WHATEVER THE INPUT: true; the input reads as it did. -/
def scheduleFairSpec : ChangeSpec := { name := "scheduleFair", fn := fun _ => fun
  | [d1, d2] => { results := [.lit (.bool true)], args := [d1, d2] }
  | _ => none }
def scheduleFairRow : OpenClaim := { program := "ytambnijbbnohfaa", sum := "f654de362f0a4c97c19dedb8c3ad16461f0bf79f89bca6f64cfe0dbda957556e", func := "relucert/relucertlaw41.ScheduleFair", spec := "scheduleFair", unfollowed := true, recurses := true, apart := false }
def ScheduleFairSaid : Prop := scheduleFairRow.holds Try.pinned (OpenSpec.ofChange scheduleFairSpec)

/-- ITS FALSE NEIGHBOUR: 'it returns false'. Refute it at one input. -/
def scheduleFairWrong : ChangeSpec := { name := "scheduleFair", fn := fun _ => fun
  | [d1, d2] => { results := [.lit (.bool false)], args := [d1, d2] }
  | _ => none }
def ScheduleFairWrongFalsely : Prop := scheduleFairRow.holds Try.pinned (OpenSpec.ofChange scheduleFairWrong)

/- THE SECOND FORM. 'bulk': how many values and letters a reading holds, each counted each time it is reached (what is shared counts as often as it is met; a slice's spare places count too). A statement '..UptoSaid' is the law's where the arguments, and the package variables that the reading takes, are together of bulk at most 1048576: NARROWER than '..Said'. Prove '..Said' where nothing that the law and all that it calls make is longer than what came in: it says more and counts as full. Else prove '..UptoSaid'. A law counts once. -/
mutual
def uptoBulk {H : Type} : DataW H → Nat
  | .lit (.string bytes) => bytes.length + 1
  | .lit _ => 1
  | .nil => 1
  | .ptr d => uptoBulk d + 1
  | .slice elems spare => uptoBulkAll elems + uptoBulkAll spare + 1
  | .agg parts => uptoBulkAll parts + 1
  | .iface _ d => uptoBulk d + 1
  | .map entries => uptoBulkEntries entries + 1
  | .held _ => 1
def uptoBulkAll {H : Type} : List (DataW H) → Nat
  | [] => 0
  | d :: r => uptoBulk d + uptoBulkAll r
def uptoBulkEntries {H : Type} : List (Lit × DataW H) → Nat
  | [] => 0
  | x :: r => uptoBulkEntry x + uptoBulkEntries r
def uptoBulkEntry {H : Type} : Lit × DataW H → Nat
  | (.string bytes, d) => bytes.length + uptoBulk d + 1
  | (_, d) => uptoBulk d + 1
 end
def uptoSmall : (H : Type) → List (DataW H) → Bool := fun _ ds => decide (uptoBulkAll ds ≤ 1048576)
def OpenSpec.upto (s : _root_.Go.ChangeSpec) : _root_.Go.OpenSpec := { _root_.Go.OpenSpec.ofChange s with cond := some uptoSmall }

/-- 'relucertlaw41.ScheduleOrder', WHERE WHAT IT READS IS OF BULK AT MOST 1048576: true; the input reads as it did. -/
def scheduleOrderUptoRow : OpenClaim := { program := "ytambnijbbnohfaa", sum := "f654de362f0a4c97c19dedb8c3ad16461f0bf79f89bca6f64cfe0dbda957556e", func := "relucert/relucertlaw41.ScheduleOrder", spec := "scheduleOrder", unfollowed := true, recurses := true, apart := false, narrowed := true }
def ScheduleOrderUptoSaid : Prop := scheduleOrderUptoRow.holds Try.pinned (OpenSpec.upto scheduleOrderSpec)

/-- 'relucertlaw41.ScheduleJoin', WHERE WHAT IT READS IS OF BULK AT MOST 1048576: true; the input reads as it did. -/
def scheduleJoinUptoRow : OpenClaim := { program := "ytambnijbbnohfaa", sum := "f654de362f0a4c97c19dedb8c3ad16461f0bf79f89bca6f64cfe0dbda957556e", func := "relucert/relucertlaw41.ScheduleJoin", spec := "scheduleJoin", unfollowed := true, recurses := true, apart := false, narrowed := true }
def ScheduleJoinUptoSaid : Prop := scheduleJoinUptoRow.holds Try.pinned (OpenSpec.upto scheduleJoinSpec)

/-- 'relucertlaw41.ScheduleRun', WHERE WHAT IT READS IS OF BULK AT MOST 1048576: true; the input reads as it did. -/
def scheduleRunUptoRow : OpenClaim := { program := "ytambnijbbnohfaa", sum := "f654de362f0a4c97c19dedb8c3ad16461f0bf79f89bca6f64cfe0dbda957556e", func := "relucert/relucertlaw41.ScheduleRun", spec := "scheduleRun", unfollowed := true, recurses := true, apart := false, narrowed := true }
def ScheduleRunUptoSaid : Prop := scheduleRunUptoRow.holds Try.pinned (OpenSpec.upto scheduleRunSpec)

/-- 'relucertlaw41.ScheduleArg', WHERE WHAT IT READS IS OF BULK AT MOST 1048576: true; the input reads as it did. -/
def scheduleArgUptoRow : OpenClaim := { program := "ytambnijbbnohfaa", sum := "f654de362f0a4c97c19dedb8c3ad16461f0bf79f89bca6f64cfe0dbda957556e", func := "relucert/relucertlaw41.ScheduleArg", spec := "scheduleArg", unfollowed := true, recurses := true, apart := false, narrowed := true }
def ScheduleArgUptoSaid : Prop := scheduleArgUptoRow.holds Try.pinned (OpenSpec.upto scheduleArgSpec)

/-- 'relucertlaw41.ScheduleEvery', WHERE WHAT IT READS IS OF BULK AT MOST 1048576: true; the input reads as it did. -/
def scheduleEveryUptoRow : OpenClaim := { program := "ytambnijbbnohfaa", sum := "f654de362f0a4c97c19dedb8c3ad16461f0bf79f89bca6f64cfe0dbda957556e", func := "relucert/relucertlaw41.ScheduleEvery", spec := "scheduleEvery", unfollowed := true, recurses := true, apart := false, narrowed := true }
def ScheduleEveryUptoSaid : Prop := scheduleEveryUptoRow.holds Try.pinned (OpenSpec.upto scheduleEverySpec)

/-- 'relucertlaw41.ScheduleFair', WHERE WHAT IT READS IS OF BULK AT MOST 1048576: true; the input reads as it did. -/
def scheduleFairUptoRow : OpenClaim := { program := "ytambnijbbnohfaa", sum := "f654de362f0a4c97c19dedb8c3ad16461f0bf79f89bca6f64cfe0dbda957556e", func := "relucert/relucertlaw41.ScheduleFair", spec := "scheduleFair", unfollowed := true, recurses := true, apart := false, narrowed := true }
def ScheduleFairUptoSaid : Prop := scheduleFairUptoRow.holds Try.pinned (OpenSpec.upto scheduleFairSpec)

end Rows
end Go.Proofs.Ytambnijbbnohfaa
