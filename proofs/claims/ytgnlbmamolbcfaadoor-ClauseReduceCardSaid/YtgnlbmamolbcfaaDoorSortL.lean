/- slices.pdqsortCmpFunc of literals, laid by the shelf; written by the kit's program lay-plain.mjs. -/
import Derived.Shelf.SlSortCmp.WholeK
import Derived.Shelf.SlGeneric
import Derived.Ground.SlsfProg
import Derived.Test.YtgnlbmamolbcfaaDoorChecked
namespace Go.Proofs
open Go.Shelf
def Tryd.sortP_ren : Go.Shelf.Ren := ⟨fun | 14 => 58 | 20 => 64 | 21 => 65 | 22 => 66 | 23 => 67 | 24 => 68 | 25 => 69 | 26 => 70 | 27 => 71 | 46 => 80 | 47 => 81 | 48 => 82 | 49 => 83 | 50 => 84 | 15 => 59 | 57 => 89 | 28 => 72 | 29 => 73 | n => n, fun | 24 => 38 | 22 => 22 | 3 => 3 | 25 => 60 | 4 => 4 | 0 => 0 | 46 => 84 | 45 => 83 | 50 => 88 | 66 => 101 | 39 => 49 | 55 => 93 | 70 => 105 | 76 => 111 | 77 => 34 | 53 => 91 | 5 => 5 | 9 => 9 | n => n, fun | n => n⟩
set_option maxRecDepth 100000 in
theorem Tryd.sortP : Go.Proofs.SlLaysF0.n14 Tryd.prog Tryd.sortP_ren := {
  mixed := by kernel_rfl
  f14 := ⟨Tryd.f58.name, by decide, Tryd.func58.trans (congrArg some (by kernel_rfl))⟩
  f15 := Tryd.func59.trans (congrArg some (by kernel_rfl))
  f20 := ⟨Tryd.f64.name, by decide, Tryd.func64.trans (congrArg some (by kernel_rfl))⟩
  f21 := ⟨Tryd.f65.name, by decide, Tryd.func65.trans (congrArg some (by kernel_rfl))⟩
  f22 := ⟨Tryd.f66.name, by decide, Tryd.func66.trans (congrArg some (by kernel_rfl))⟩
  f23 := ⟨Tryd.f67.name, by decide, Tryd.func67.trans (congrArg some (by kernel_rfl))⟩
  f24 := ⟨Tryd.f68.name, by decide, Tryd.func68.trans (congrArg some (by kernel_rfl))⟩
  f25 := ⟨Tryd.f69.name, by decide, Tryd.func69.trans (congrArg some (by kernel_rfl))⟩
  f26 := ⟨Tryd.f70.name, by decide, Tryd.func70.trans (congrArg some (by kernel_rfl))⟩
  f27 := ⟨Tryd.f71.name, by decide, Tryd.func71.trans (congrArg some (by kernel_rfl))⟩
  f28 := Tryd.func72.trans (congrArg some (by kernel_rfl))
  f29 := Tryd.func73.trans (congrArg some (by kernel_rfl))
  f46 := ⟨Tryd.f80.name, by decide, Tryd.func80.trans (congrArg some (by kernel_rfl))⟩
  f47 := Tryd.func81.trans (congrArg some (by kernel_rfl))
  f48 := Tryd.func82.trans (congrArg some (by kernel_rfl))
  f49 := ⟨Tryd.f83.name, by decide, Tryd.func83.trans (congrArg some (by kernel_rfl))⟩
  f50 := ⟨Tryd.f84.name, by decide, Tryd.func84.trans (congrArg some (by kernel_rfl))⟩
  f57 := ⟨Tryd.f89.name, by decide, Tryd.func89.trans (congrArg some (by kernel_rfl))⟩
  t0 := Tryd.underlying0
  a0 := Tryd.isAgg0
  z0 := Tryd.sizeOf0
  v0 := Tryd.zeroValue0
  t3 := Tryd.underlying3
  a3 := Tryd.isAgg3
  z3 := Tryd.sizeOf3
  v3 := Tryd.zeroValue3
  t4 := Tryd.underlying4
  a4 := Tryd.isAgg4
  z4 := Tryd.sizeOf4
  v4 := Tryd.zeroValue4
  t5 := Tryd.underlying5
  a5 := Tryd.isAgg5
  z5 := Tryd.sizeOf5
  v5 := Tryd.zeroValue5
  t9 := Tryd.underlying9
  a9 := Tryd.isAgg9
  z9 := Tryd.sizeOf9
  v9 := Tryd.zeroValue9
  t22 := Tryd.underlying22
  a22 := Tryd.isAgg22
  z22 := Tryd.sizeOf22
  v22 := Tryd.zeroValue22
  t25 := Tryd.underlying60
  a25 := Tryd.isAgg60
  z25 := Tryd.sizeOf60
  v25 := Tryd.zeroValue60
  t39 := Tryd.underlying49
  a39 := Tryd.isAgg49
  z39 := Tryd.sizeOf49
  v39 := Tryd.zeroValue49
  t45 := Tryd.underlying83
  a45 := Tryd.isAgg83
  z45 := Tryd.sizeOf83
  v45 := Tryd.zeroValue83
  t46 := Tryd.underlying84
  a46 := Tryd.isAgg84
  z46 := Tryd.sizeOf84
  v46 := Tryd.zeroValue84
  t50 := Tryd.underlying88
  a50 := Tryd.isAgg88
  z50 := Tryd.sizeOf88
  v50 := Tryd.zeroValue88
  t53 := Tryd.underlying91
  a53 := Tryd.isAgg91
  z53 := Tryd.sizeOf91
  v53 := Tryd.zeroValue91
  t55 := Tryd.underlying93
  a55 := Tryd.isAgg93
  z55 := Tryd.sizeOf93
  v55 := Tryd.zeroValue93
  t66 := Tryd.underlying101
  a66 := Tryd.isAgg101
  z66 := Tryd.sizeOf101
  v66 := Tryd.zeroValue101
  t70 := Tryd.underlying105
  a70 := Tryd.isAgg105
  z70 := Tryd.sizeOf105
  v70 := Tryd.zeroValue105
  t76 := Tryd.underlying111
  a76 := Tryd.isAgg111
  z76 := Tryd.sizeOf111
  v76 := Tryd.zeroValue111
  t77 := Tryd.underlying34
  a77 := Tryd.isAgg34
  z77 := Tryd.sizeOf34
  v77 := Tryd.zeroValue34 }
end Go.Proofs
