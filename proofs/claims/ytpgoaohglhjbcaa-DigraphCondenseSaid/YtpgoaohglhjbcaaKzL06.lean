/-
  The functions that slices.SortFunc is made of stand in this program as the library has them.
-/
import Derived.Test.YtpgoaohglhjbcaaKzAQ
import Derived.Test.YtpgoaohglhjbcaaProg
set_option linter.unusedVariables false
set_option linter.unusedSimpArgs false
namespace Go.Proofs
open Go.Shelf
def Try.sortL59_ren : Go.Shelf.Ren := ⟨fun | 6 => 59 | 15 => 63 | 14 => 62 | 28 => 72 | 29 => 73 | 20 => 64 | 21 => 65 | 22 => 66 | 23 => 67 | 24 => 68 | 25 => 69 | 26 => 70 | 27 => 71 | 46 => 74 | 47 => 75 | 48 => 76 | 49 => 77 | 50 => 78 | 57 => 79 | n => n, fun | 22 => 22 | 24 => 37 | 25 => 78 | 3 => 3 | 39 => 86 | 0 => 0 | 53 => 95 | 55 => 97 | 4 => 4 | 46 => 89 | 45 => 88 | 50 => 61 | 5 => 5 | 9 => 9 | 66 => 98 | 70 => 102 | 76 => 104 | 77 => 105 | n => n, fun | n => n⟩
theorem Try.sortL59 : Go.Proofs.SlLaysF0.n6 Try.prog Try.sortL59_ren := {
  mixed := by kernel_rfl
  f6 := ⟨Try.f59.name, by decide, Try.func59.trans (congrArg some (by kernel_rfl))⟩
  f14 := ⟨Try.f62.name, by decide, Try.func62.trans (congrArg some (by kernel_rfl))⟩
  f15 := Try.func63.trans (congrArg some (by kernel_rfl))
  f20 := ⟨Try.f64.name, by decide, Try.func64.trans (congrArg some (by kernel_rfl))⟩
  f21 := ⟨Try.f65.name, by decide, Try.func65.trans (congrArg some (by kernel_rfl))⟩
  f22 := ⟨Try.f66.name, by decide, Try.func66.trans (congrArg some (by kernel_rfl))⟩
  f23 := ⟨Try.f67.name, by decide, Try.func67.trans (congrArg some (by kernel_rfl))⟩
  f24 := ⟨Try.f68.name, by decide, Try.func68.trans (congrArg some (by kernel_rfl))⟩
  f25 := ⟨Try.f69.name, by decide, Try.func69.trans (congrArg some (by kernel_rfl))⟩
  f26 := ⟨Try.f70.name, by decide, Try.func70.trans (congrArg some (by kernel_rfl))⟩
  f27 := ⟨Try.f71.name, by decide, Try.func71.trans (congrArg some (by kernel_rfl))⟩
  f28 := Try.func72.trans (congrArg some (by kernel_rfl))
  f29 := Try.func73.trans (congrArg some (by kernel_rfl))
  f46 := ⟨Try.f74.name, by decide, Try.func74.trans (congrArg some (by kernel_rfl))⟩
  f47 := Try.func75.trans (congrArg some (by kernel_rfl))
  f48 := Try.func76.trans (congrArg some (by kernel_rfl))
  f49 := ⟨Try.f77.name, by decide, Try.func77.trans (congrArg some (by kernel_rfl))⟩
  f50 := ⟨Try.f78.name, by decide, Try.func78.trans (congrArg some (by kernel_rfl))⟩
  f57 := ⟨Try.f79.name, by decide, Try.func79.trans (congrArg some (by kernel_rfl))⟩
  t0 := Try.underlying0
  a0 := Try.isAgg0
  z0 := Try.sizeOf0
  v0 := Try.zeroValue0
  t3 := Try.underlying3
  a3 := Try.isAgg3
  z3 := Try.sizeOf3
  v3 := Try.zeroValue3
  t4 := Try.underlying4
  a4 := Try.isAgg4
  z4 := Try.sizeOf4
  v4 := Try.zeroValue4
  t5 := Try.underlying5
  a5 := Try.isAgg5
  z5 := Try.sizeOf5
  v5 := Try.zeroValue5
  t9 := Try.underlying9
  a9 := Try.isAgg9
  z9 := Try.sizeOf9
  v9 := Try.zeroValue9
  t22 := Try.underlying22
  a22 := Try.isAgg22
  z22 := Try.sizeOf22
  v22 := Try.zeroValue22
  t25 := Try.underlying78
  a25 := Try.isAgg78
  z25 := Try.sizeOf78
  v25 := Try.zeroValue78
  t39 := Try.underlying86
  a39 := Try.isAgg86
  z39 := Try.sizeOf86
  v39 := Try.zeroValue86
  t45 := Try.underlying88
  a45 := Try.isAgg88
  z45 := Try.sizeOf88
  v45 := Try.zeroValue88
  t46 := Try.underlying89
  a46 := Try.isAgg89
  z46 := Try.sizeOf89
  v46 := Try.zeroValue89
  t50 := Try.underlying61
  a50 := Try.isAgg61
  z50 := Try.sizeOf61
  v50 := Try.zeroValue61
  t53 := Try.underlying95
  a53 := Try.isAgg95
  z53 := Try.sizeOf95
  v53 := Try.zeroValue95
  t55 := Try.underlying97
  a55 := Try.isAgg97
  z55 := Try.sizeOf97
  v55 := Try.zeroValue97
  t66 := Try.underlying98
  a66 := Try.isAgg98
  z66 := Try.sizeOf98
  v66 := Try.zeroValue98
  t70 := Try.underlying102
  a70 := Try.isAgg102
  z70 := Try.sizeOf102
  v70 := Try.zeroValue102
  t76 := Try.underlying104
  a76 := Try.isAgg104
  z76 := Try.sizeOf104
  v76 := Try.zeroValue104
  t77 := Try.underlying105
  a77 := Try.isAgg105
  z77 := Try.sizeOf105
  v77 := Try.zeroValue105 }
end Go.Proofs
