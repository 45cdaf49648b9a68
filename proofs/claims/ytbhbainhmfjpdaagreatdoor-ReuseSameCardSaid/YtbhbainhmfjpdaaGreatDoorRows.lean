/-
  NARROWER THAN 'FOR EVERY INPUT', by the rows' own cells (each row's printed sentence says how): ReuseEntries: laid · ReuseSame: laid · ReuseWeaker: laid · ReuseLocal: laid · ReuseArguments: laid.
  DERIVED. THE GIVEN ROWS OF THIS SEAT. 5 by the template 'for every input the law returns true; each argument reads behind the call as it read before'; 0 by the template 'total and deterministic' (their statements: YtbhbainhmfjpdaaGreatDoorTotals.lean).
  GIVEN WITH THE SEED: the statements are not yours to turn. If you find one false, say at which input.
  Laid BY PROGRAM, IN A SANDBOX (cutbox-rows.mjs): the forced cells as the released guide's own fill.sh prints them over the translation f639cdec6e2c3d22… (all of the seat's roots in one cut). By AI agents, Wed Nov 11 2026. No macro, syntax, notation, axiom, sorry.
-/
import Derived.Test.YtbhbainhmfjpdaaGreatDoorChecked
import GoSem.Claim
import GoSem.ClaimJoined
import GoSem.ClaimMapViews
import Derived.JoinedTies
import Derived.KernelRfl
namespace Go.Proofs.YtbhbainhmfjpdaaGreatDoor
/- THE CELL 'sum', in the pinned program and in every row, IS THE sha256 OF THE DUMP (.gsa) THAT YtbhbainhmfjpdaaGreatDoorProg.lean LOADS. Nothing in Lean hashes anything: it is a label: what it is worth is what the hold of that sum in a sandbox is worth. -/
noncomputable def Tryz.pinned : Pinned := { name := "ytbhbainhmfjpdaagreatdoor", sum := "f639cdec6e2c3d220ea22420a1593aca921c1498760b2af9f4b633a193b44c24", checked := Tryz.checked }
namespace Rows
def none {H : Type} : Left H := { results := [], args := [] }

/- WHAT THE LISTED PACKAGE-LEVEL VARIABLES READ AS WHEN THE CALL BEGINS. Each datum BY PROGRAM (the guide's laid-datum.mjs) off the statement by which the dump's own 'gosem.cut.vars' lays the variable. In a bare row this is a premise. The card (YtbhbainhmfjpdaaGreatDoorCards.lean) ties it to the program's text. -/
def laid_math_bits_deBruijn32tab {H : Type} : DataW H := .agg [.lit (.int .u8 0), .lit (.int .u8 1), .lit (.int .u8 28), .lit (.int .u8 2), .lit (.int .u8 29), .lit (.int .u8 14), .lit (.int .u8 24), .lit (.int .u8 3), .lit (.int .u8 30), .lit (.int .u8 22), .lit (.int .u8 20), .lit (.int .u8 15), .lit (.int .u8 25), .lit (.int .u8 17), .lit (.int .u8 4), .lit (.int .u8 8), .lit (.int .u8 31), .lit (.int .u8 27), .lit (.int .u8 13), .lit (.int .u8 23), .lit (.int .u8 21), .lit (.int .u8 19), .lit (.int .u8 16), .lit (.int .u8 7), .lit (.int .u8 26), .lit (.int .u8 12), .lit (.int .u8 18), .lit (.int .u8 6), .lit (.int .u8 11), .lit (.int .u8 5), .lit (.int .u8 10), .lit (.int .u8 9)]
def laid_math_bits_deBruijn64tab {H : Type} : DataW H := .agg [.lit (.int .u8 0), .lit (.int .u8 1), .lit (.int .u8 56), .lit (.int .u8 2), .lit (.int .u8 57), .lit (.int .u8 49), .lit (.int .u8 28), .lit (.int .u8 3), .lit (.int .u8 61), .lit (.int .u8 58), .lit (.int .u8 42), .lit (.int .u8 50), .lit (.int .u8 38), .lit (.int .u8 29), .lit (.int .u8 17), .lit (.int .u8 4), .lit (.int .u8 62), .lit (.int .u8 47), .lit (.int .u8 59), .lit (.int .u8 36), .lit (.int .u8 45), .lit (.int .u8 43), .lit (.int .u8 51), .lit (.int .u8 22), .lit (.int .u8 53), .lit (.int .u8 39), .lit (.int .u8 33), .lit (.int .u8 30), .lit (.int .u8 24), .lit (.int .u8 18), .lit (.int .u8 12), .lit (.int .u8 5), .lit (.int .u8 63), .lit (.int .u8 55), .lit (.int .u8 48), .lit (.int .u8 27), .lit (.int .u8 60), .lit (.int .u8 41), .lit (.int .u8 37), .lit (.int .u8 16), .lit (.int .u8 46), .lit (.int .u8 35), .lit (.int .u8 44), .lit (.int .u8 21), .lit (.int .u8 52), .lit (.int .u8 32), .lit (.int .u8 23), .lit (.int .u8 11), .lit (.int .u8 54), .lit (.int .u8 26), .lit (.int .u8 40), .lit (.int .u8 15), .lit (.int .u8 34), .lit (.int .u8 20), .lit (.int .u8 31), .lit (.int .u8 10), .lit (.int .u8 25), .lit (.int .u8 14), .lit (.int .u8 19), .lit (.int .u8 9), .lit (.int .u8 13), .lit (.int .u8 8), .lit (.int .u8 7), .lit (.int .u8 6)]
def laid_internal_strconv_uint64pow10 {H : Type} : DataW H := .agg [.lit (.int .u64 1), .lit (.int .u64 10), .lit (.int .u64 100), .lit (.int .u64 1000), .lit (.int .u64 10000), .lit (.int .u64 100000), .lit (.int .u64 1000000), .lit (.int .u64 10000000), .lit (.int .u64 100000000), .lit (.int .u64 1000000000), .lit (.int .u64 10000000000), .lit (.int .u64 100000000000), .lit (.int .u64 1000000000000), .lit (.int .u64 10000000000000), .lit (.int .u64 100000000000000), .lit (.int .u64 1000000000000000), .lit (.int .u64 10000000000000000), .lit (.int .u64 100000000000000000), .lit (.int .u64 1000000000000000000), .lit (.int .u64 10000000000000000000)]
def laid_relucert_phase_opposites {H : Type} : DataW H := .agg [.lit (.int .i64 0), .lit (.int .i64 2), .lit (.int .i64 1), .lit (.int .i64 4), .lit (.int .i64 3)]

/-- 'relucertlaw50.ReuseEntries': WHATEVER THE INPUT: true; the input reads as it did. -/
def reuseEntriesSpec : ChangeSpec := { name := "reuseEntries", fn := fun _ => fun
  | [d1, d2, d3] => { results := [.lit (.bool true)], args := [d1, d2, d3] }
  | _ => none }
def reuseEntriesRow : OpenClaim := { program := "ytbhbainhmfjpdaagreatdoor", sum := "f639cdec6e2c3d220ea22420a1593aca921c1498760b2af9f4b633a193b44c24", func := "relucert/relucertlaw50.ReuseEntries", spec := "reuseEntries", inPlace := ["internal/abi.NoEscape", "sync/atomic.LoadInt64", "sync/atomic.CompareAndSwapInt64", "sync/atomic.AddInt64", "sync/atomic.StoreInt64", "slices.overlaps[relucert/api.Rat]", "sync/atomic.StorePointer", "sync/atomic.LoadPointer"], unfollowed := true, recurses := true, named := ["relucert/phase.opposites", "internal/strconv.uint64pow10", "math/bits.deBruijn32tab", "math/bits.deBruijn64tab"], apart := false, laid := [("math/bits.deBruijn32tab", laid_math_bits_deBruijn32tab), ("math/bits.deBruijn64tab", laid_math_bits_deBruijn64tab), ("internal/strconv.uint64pow10", laid_internal_strconv_uint64pow10), ("relucert/phase.opposites", laid_relucert_phase_opposites)] }
def ReuseEntriesSaid : Prop := reuseEntriesRow.holds Tryz.pinned (OpenSpec.ofChange reuseEntriesSpec)

/-- ITS FALSE NEIGHBOUR: 'it returns false'. Refute it at one input. -/
def reuseEntriesWrong : ChangeSpec := { name := "reuseEntries", fn := fun _ => fun
  | [d1, d2, d3] => { results := [.lit (.bool false)], args := [d1, d2, d3] }
  | _ => none }
def ReuseEntriesWrongFalsely : Prop := reuseEntriesRow.holds Tryz.pinned (OpenSpec.ofChange reuseEntriesWrong)

/-- 'relucertlaw50.ReuseSame': WHATEVER THE INPUT: true; the input reads as it did. -/
def reuseSameSpec : ChangeSpec := { name := "reuseSame", fn := fun _ => fun
  | [d1, d2] => { results := [.lit (.bool true)], args := [d1, d2] }
  | _ => none }
def reuseSameRow : OpenClaim := { program := "ytbhbainhmfjpdaagreatdoor", sum := "f639cdec6e2c3d220ea22420a1593aca921c1498760b2af9f4b633a193b44c24", func := "relucert/relucertlaw50.ReuseSame", spec := "reuseSame", inPlace := ["internal/abi.NoEscape", "sync/atomic.LoadInt64", "sync/atomic.CompareAndSwapInt64", "sync/atomic.AddInt64", "sync/atomic.StoreInt64", "slices.overlaps[relucert/api.Rat]", "sync/atomic.StorePointer", "sync/atomic.LoadPointer"], unfollowed := true, recurses := true, named := ["relucert/phase.opposites", "internal/strconv.uint64pow10", "math/bits.deBruijn32tab", "math/bits.deBruijn64tab"], apart := false, laid := [("math/bits.deBruijn32tab", laid_math_bits_deBruijn32tab), ("math/bits.deBruijn64tab", laid_math_bits_deBruijn64tab), ("internal/strconv.uint64pow10", laid_internal_strconv_uint64pow10), ("relucert/phase.opposites", laid_relucert_phase_opposites)] }
def ReuseSameSaid : Prop := reuseSameRow.holds Tryz.pinned (OpenSpec.ofChange reuseSameSpec)

/-- ITS FALSE NEIGHBOUR: 'it returns false'. Refute it at one input. -/
def reuseSameWrong : ChangeSpec := { name := "reuseSame", fn := fun _ => fun
  | [d1, d2] => { results := [.lit (.bool false)], args := [d1, d2] }
  | _ => none }
def ReuseSameWrongFalsely : Prop := reuseSameRow.holds Tryz.pinned (OpenSpec.ofChange reuseSameWrong)

/-- 'relucertlaw50.ReuseWeaker': WHATEVER THE INPUT: true; the input reads as it did. -/
def reuseWeakerSpec : ChangeSpec := { name := "reuseWeaker", fn := fun _ => fun
  | [d1, d2, d3] => { results := [.lit (.bool true)], args := [d1, d2, d3] }
  | _ => none }
def reuseWeakerRow : OpenClaim := { program := "ytbhbainhmfjpdaagreatdoor", sum := "f639cdec6e2c3d220ea22420a1593aca921c1498760b2af9f4b633a193b44c24", func := "relucert/relucertlaw50.ReuseWeaker", spec := "reuseWeaker", inPlace := ["internal/abi.NoEscape", "sync/atomic.LoadInt64", "sync/atomic.CompareAndSwapInt64", "sync/atomic.AddInt64", "sync/atomic.StoreInt64", "slices.overlaps[relucert/api.Rat]", "sync/atomic.StorePointer", "sync/atomic.LoadPointer"], unfollowed := true, recurses := true, named := ["relucert/phase.opposites", "internal/strconv.uint64pow10", "math/bits.deBruijn32tab", "math/bits.deBruijn64tab"], apart := false, laid := [("math/bits.deBruijn32tab", laid_math_bits_deBruijn32tab), ("math/bits.deBruijn64tab", laid_math_bits_deBruijn64tab), ("internal/strconv.uint64pow10", laid_internal_strconv_uint64pow10), ("relucert/phase.opposites", laid_relucert_phase_opposites)] }
def ReuseWeakerSaid : Prop := reuseWeakerRow.holds Tryz.pinned (OpenSpec.ofChange reuseWeakerSpec)

/-- ITS FALSE NEIGHBOUR: 'it returns false'. Refute it at one input. -/
def reuseWeakerWrong : ChangeSpec := { name := "reuseWeaker", fn := fun _ => fun
  | [d1, d2, d3] => { results := [.lit (.bool false)], args := [d1, d2, d3] }
  | _ => none }
def ReuseWeakerWrongFalsely : Prop := reuseWeakerRow.holds Tryz.pinned (OpenSpec.ofChange reuseWeakerWrong)

/-- 'relucertlaw50.ReuseLocal': WHATEVER THE INPUT: true; the input reads as it did. -/
def reuseLocalSpec : ChangeSpec := { name := "reuseLocal", fn := fun _ => fun
  | [d1, d2] => { results := [.lit (.bool true)], args := [d1, d2] }
  | _ => none }
def reuseLocalRow : OpenClaim := { program := "ytbhbainhmfjpdaagreatdoor", sum := "f639cdec6e2c3d220ea22420a1593aca921c1498760b2af9f4b633a193b44c24", func := "relucert/relucertlaw50.ReuseLocal", spec := "reuseLocal", inPlace := ["internal/abi.NoEscape", "sync/atomic.LoadInt64", "sync/atomic.CompareAndSwapInt64", "sync/atomic.AddInt64", "sync/atomic.StoreInt64", "slices.overlaps[relucert/api.Rat]", "sync/atomic.StorePointer", "sync/atomic.LoadPointer"], unfollowed := true, recurses := true, named := ["relucert/phase.opposites", "internal/strconv.uint64pow10", "math/bits.deBruijn32tab", "math/bits.deBruijn64tab"], apart := false, laid := [("math/bits.deBruijn32tab", laid_math_bits_deBruijn32tab), ("math/bits.deBruijn64tab", laid_math_bits_deBruijn64tab), ("internal/strconv.uint64pow10", laid_internal_strconv_uint64pow10), ("relucert/phase.opposites", laid_relucert_phase_opposites)] }
def ReuseLocalSaid : Prop := reuseLocalRow.holds Tryz.pinned (OpenSpec.ofChange reuseLocalSpec)

/-- ITS FALSE NEIGHBOUR: 'it returns false'. Refute it at one input. -/
def reuseLocalWrong : ChangeSpec := { name := "reuseLocal", fn := fun _ => fun
  | [d1, d2] => { results := [.lit (.bool false)], args := [d1, d2] }
  | _ => none }
def ReuseLocalWrongFalsely : Prop := reuseLocalRow.holds Tryz.pinned (OpenSpec.ofChange reuseLocalWrong)

/-- 'relucertlaw50.ReuseArguments': WHATEVER THE INPUT: true; the input reads as it did. -/
def reuseArgumentsSpec : ChangeSpec := { name := "reuseArguments", fn := fun _ => fun
  | [d] => { results := [.lit (.bool true)], args := [d] }
  | _ => none }
def reuseArgumentsRow : OpenClaim := { program := "ytbhbainhmfjpdaagreatdoor", sum := "f639cdec6e2c3d220ea22420a1593aca921c1498760b2af9f4b633a193b44c24", func := "relucert/relucertlaw50.ReuseArguments", spec := "reuseArguments", inPlace := ["internal/abi.NoEscape", "sync/atomic.LoadInt64", "sync/atomic.CompareAndSwapInt64", "sync/atomic.AddInt64", "sync/atomic.StoreInt64", "slices.overlaps[relucert/api.Rat]", "sync/atomic.StorePointer", "sync/atomic.LoadPointer"], unfollowed := true, recurses := true, named := ["relucert/phase.opposites", "internal/strconv.uint64pow10", "math/bits.deBruijn32tab", "math/bits.deBruijn64tab"], apart := false, laid := [("math/bits.deBruijn32tab", laid_math_bits_deBruijn32tab), ("math/bits.deBruijn64tab", laid_math_bits_deBruijn64tab), ("internal/strconv.uint64pow10", laid_internal_strconv_uint64pow10), ("relucert/phase.opposites", laid_relucert_phase_opposites)] }
def ReuseArgumentsSaid : Prop := reuseArgumentsRow.holds Tryz.pinned (OpenSpec.ofChange reuseArgumentsSpec)

/-- ITS FALSE NEIGHBOUR: 'it returns false'. Refute it at one input. -/
def reuseArgumentsWrong : ChangeSpec := { name := "reuseArguments", fn := fun _ => fun
  | [d] => { results := [.lit (.bool false)], args := [d] }
  | _ => none }
def ReuseArgumentsWrongFalsely : Prop := reuseArgumentsRow.holds Tryz.pinned (OpenSpec.ofChange reuseArgumentsWrong)

/- THE SECOND FORM. 'bulk': how many values and letters a reading holds, each counted each time it is reached (what is shared counts as often as it is met; a slice's spare places count too). A statement '..UptoSaid' is the law's where the arguments, and the package variables that the reading takes, are together of bulk at most 1048576: NARROWER than '..Said'. Prove '..Said' where nothing that the law and all that it calls make is longer than what came in: it says more and counts as full. Else prove '..UptoSaid'. A law counts once. -/
mutual
def uptoBulk {H : Type} : DataW H → Nat
  | .lit (.string bytes) => bytes.length + 1
  | .lit _ => 1
  | .nil => 1
  | .ptr d => uptoBulk d + 1
  | .slice elems spare => uptoBulkAll elems + uptoBulkAll spare + 1
  | .agg parts => uptoBulkAll parts + 1
  | .iface _ d => uptoBulk d + 1
  | .map entries => uptoBulkEntries entries + 1
  | .held _ => 1
def uptoBulkAll {H : Type} : List (DataW H) → Nat
  | [] => 0
  | d :: r => uptoBulk d + uptoBulkAll r
def uptoBulkEntries {H : Type} : List (Lit × DataW H) → Nat
  | [] => 0
  | x :: r => uptoBulkEntry x + uptoBulkEntries r
def uptoBulkEntry {H : Type} : Lit × DataW H → Nat
  | (.string bytes, d) => bytes.length + uptoBulk d + 1
  | (_, d) => uptoBulk d + 1
 end
def uptoSmall : (H : Type) → List (DataW H) → Bool := fun _ ds => decide (uptoBulkAll ds ≤ 1048576)
def OpenSpec.upto (s : _root_.Go.ChangeSpec) : _root_.Go.OpenSpec := { _root_.Go.OpenSpec.ofChange s with cond := some uptoSmall }

/-- 'relucertlaw50.ReuseEntries', WHERE WHAT IT READS IS OF BULK AT MOST 1048576: true; the input reads as it did. -/
def reuseEntriesUptoRow : OpenClaim := { program := "ytbhbainhmfjpdaagreatdoor", sum := "f639cdec6e2c3d220ea22420a1593aca921c1498760b2af9f4b633a193b44c24", func := "relucert/relucertlaw50.ReuseEntries", spec := "reuseEntries", inPlace := ["internal/abi.NoEscape", "sync/atomic.LoadInt64", "sync/atomic.CompareAndSwapInt64", "sync/atomic.AddInt64", "sync/atomic.StoreInt64", "slices.overlaps[relucert/api.Rat]", "sync/atomic.StorePointer", "sync/atomic.LoadPointer"], unfollowed := true, recurses := true, named := ["relucert/phase.opposites", "internal/strconv.uint64pow10", "math/bits.deBruijn32tab", "math/bits.deBruijn64tab"], apart := false, laid := [("math/bits.deBruijn32tab", laid_math_bits_deBruijn32tab), ("math/bits.deBruijn64tab", laid_math_bits_deBruijn64tab), ("internal/strconv.uint64pow10", laid_internal_strconv_uint64pow10), ("relucert/phase.opposites", laid_relucert_phase_opposites)], narrowed := true }
def ReuseEntriesUptoSaid : Prop := reuseEntriesUptoRow.holds Tryz.pinned (OpenSpec.upto reuseEntriesSpec)

/-- 'relucertlaw50.ReuseSame', WHERE WHAT IT READS IS OF BULK AT MOST 1048576: true; the input reads as it did. -/
def reuseSameUptoRow : OpenClaim := { program := "ytbhbainhmfjpdaagreatdoor", sum := "f639cdec6e2c3d220ea22420a1593aca921c1498760b2af9f4b633a193b44c24", func := "relucert/relucertlaw50.ReuseSame", spec := "reuseSame", inPlace := ["internal/abi.NoEscape", "sync/atomic.LoadInt64", "sync/atomic.CompareAndSwapInt64", "sync/atomic.AddInt64", "sync/atomic.StoreInt64", "slices.overlaps[relucert/api.Rat]", "sync/atomic.StorePointer", "sync/atomic.LoadPointer"], unfollowed := true, recurses := true, named := ["relucert/phase.opposites", "internal/strconv.uint64pow10", "math/bits.deBruijn32tab", "math/bits.deBruijn64tab"], apart := false, laid := [("math/bits.deBruijn32tab", laid_math_bits_deBruijn32tab), ("math/bits.deBruijn64tab", laid_math_bits_deBruijn64tab), ("internal/strconv.uint64pow10", laid_internal_strconv_uint64pow10), ("relucert/phase.opposites", laid_relucert_phase_opposites)], narrowed := true }
def ReuseSameUptoSaid : Prop := reuseSameUptoRow.holds Tryz.pinned (OpenSpec.upto reuseSameSpec)

/-- 'relucertlaw50.ReuseWeaker', WHERE WHAT IT READS IS OF BULK AT MOST 1048576: true; the input reads as it did. -/
def reuseWeakerUptoRow : OpenClaim := { program := "ytbhbainhmfjpdaagreatdoor", sum := "f639cdec6e2c3d220ea22420a1593aca921c1498760b2af9f4b633a193b44c24", func := "relucert/relucertlaw50.ReuseWeaker", spec := "reuseWeaker", inPlace := ["internal/abi.NoEscape", "sync/atomic.LoadInt64", "sync/atomic.CompareAndSwapInt64", "sync/atomic.AddInt64", "sync/atomic.StoreInt64", "slices.overlaps[relucert/api.Rat]", "sync/atomic.StorePointer", "sync/atomic.LoadPointer"], unfollowed := true, recurses := true, named := ["relucert/phase.opposites", "internal/strconv.uint64pow10", "math/bits.deBruijn32tab", "math/bits.deBruijn64tab"], apart := false, laid := [("math/bits.deBruijn32tab", laid_math_bits_deBruijn32tab), ("math/bits.deBruijn64tab", laid_math_bits_deBruijn64tab), ("internal/strconv.uint64pow10", laid_internal_strconv_uint64pow10), ("relucert/phase.opposites", laid_relucert_phase_opposites)], narrowed := true }
def ReuseWeakerUptoSaid : Prop := reuseWeakerUptoRow.holds Tryz.pinned (OpenSpec.upto reuseWeakerSpec)

/-- 'relucertlaw50.ReuseLocal', WHERE WHAT IT READS IS OF BULK AT MOST 1048576: true; the input reads as it did. -/
def reuseLocalUptoRow : OpenClaim := { program := "ytbhbainhmfjpdaagreatdoor", sum := "f639cdec6e2c3d220ea22420a1593aca921c1498760b2af9f4b633a193b44c24", func := "relucert/relucertlaw50.ReuseLocal", spec := "reuseLocal", inPlace := ["internal/abi.NoEscape", "sync/atomic.LoadInt64", "sync/atomic.CompareAndSwapInt64", "sync/atomic.AddInt64", "sync/atomic.StoreInt64", "slices.overlaps[relucert/api.Rat]", "sync/atomic.StorePointer", "sync/atomic.LoadPointer"], unfollowed := true, recurses := true, named := ["relucert/phase.opposites", "internal/strconv.uint64pow10", "math/bits.deBruijn32tab", "math/bits.deBruijn64tab"], apart := false, laid := [("math/bits.deBruijn32tab", laid_math_bits_deBruijn32tab), ("math/bits.deBruijn64tab", laid_math_bits_deBruijn64tab), ("internal/strconv.uint64pow10", laid_internal_strconv_uint64pow10), ("relucert/phase.opposites", laid_relucert_phase_opposites)], narrowed := true }
def ReuseLocalUptoSaid : Prop := reuseLocalUptoRow.holds Tryz.pinned (OpenSpec.upto reuseLocalSpec)

/-- 'relucertlaw50.ReuseArguments', WHERE WHAT IT READS IS OF BULK AT MOST 1048576: true; the input reads as it did. -/
def reuseArgumentsUptoRow : OpenClaim := { program := "ytbhbainhmfjpdaagreatdoor", sum := "f639cdec6e2c3d220ea22420a1593aca921c1498760b2af9f4b633a193b44c24", func := "relucert/relucertlaw50.ReuseArguments", spec := "reuseArguments", inPlace := ["internal/abi.NoEscape", "sync/atomic.LoadInt64", "sync/atomic.CompareAndSwapInt64", "sync/atomic.AddInt64", "sync/atomic.StoreInt64", "slices.overlaps[relucert/api.Rat]", "sync/atomic.StorePointer", "sync/atomic.LoadPointer"], unfollowed := true, recurses := true, named := ["relucert/phase.opposites", "internal/strconv.uint64pow10", "math/bits.deBruijn32tab", "math/bits.deBruijn64tab"], apart := false, laid := [("math/bits.deBruijn32tab", laid_math_bits_deBruijn32tab), ("math/bits.deBruijn64tab", laid_math_bits_deBruijn64tab), ("internal/strconv.uint64pow10", laid_internal_strconv_uint64pow10), ("relucert/phase.opposites", laid_relucert_phase_opposites)], narrowed := true }
def ReuseArgumentsUptoSaid : Prop := reuseArgumentsUptoRow.holds Tryz.pinned (OpenSpec.upto reuseArgumentsSpec)

end Rows
end Go.Proofs.YtbhbainhmfjpdaaGreatDoor
