/-
  The functions that slices.SortFunc is made of stand in this program as the library has them.
-/
import Derived.Test.YtafhchecfmiieaaKzAQ
import Derived.Test.YtafhchecfmiieaaProg
set_option linter.unusedVariables false
set_option linter.unusedSimpArgs false
namespace Go.Proofs
open Go.Shelf
def Try.sortL60_ren:Go.Shelf.Ren:=⟨fun | 6=>60 | 15=>64 | 14=>63 | 28=>73 | 29=>74 | 20=>65 | 21=>66 | 22=>67 | 23=>68 | 24=>69 | 25=>70 | 26=>71 | 27=>72 | 46=>75 | 47=>76 | 48=>77 | 49=>78 | 50=>79 | 57=>80 | n=>n,fun | 22=>22 | 24=>45 | 25=>103 | 3=>3 | 39=>90 | 0=>0 | 53=>96 | 55=>99 | 4=>4 | 46=>108 | 45=>107 | 50=>35 | 5=>5 | 9=>9 | 66=>115 | 70=>119 | 76=>121 | 77=>122 | n=>n,fun | n=>n⟩
theorem Try.sortL60:Go.Proofs.SlLaysF0.n6 Try.prog Try.sortL60_ren:={
 mixed:=by kernel_rfl
 f6:=⟨Try.f60.name,by decide,Try.func60.trans (congrArg some (by kernel_rfl))⟩
 f14:=⟨Try.f63.name,by decide,Try.func63.trans (congrArg some (by kernel_rfl))⟩
 f15:=Try.func64.trans (congrArg some (by kernel_rfl))
 f20:=⟨Try.f65.name,by decide,Try.func65.trans (congrArg some (by kernel_rfl))⟩
 f21:=⟨Try.f66.name,by decide,Try.func66.trans (congrArg some (by kernel_rfl))⟩
 f22:=⟨Try.f67.name,by decide,Try.func67.trans (congrArg some (by kernel_rfl))⟩
 f23:=⟨Try.f68.name,by decide,Try.func68.trans (congrArg some (by kernel_rfl))⟩
 f24:=⟨Try.f69.name,by decide,Try.func69.trans (congrArg some (by kernel_rfl))⟩
 f25:=⟨Try.f70.name,by decide,Try.func70.trans (congrArg some (by kernel_rfl))⟩
 f26:=⟨Try.f71.name,by decide,Try.func71.trans (congrArg some (by kernel_rfl))⟩
 f27:=⟨Try.f72.name,by decide,Try.func72.trans (congrArg some (by kernel_rfl))⟩
 f28:=Try.func73.trans (congrArg some (by kernel_rfl))
 f29:=Try.func74.trans (congrArg some (by kernel_rfl))
 f46:=⟨Try.f75.name,by decide,Try.func75.trans (congrArg some (by kernel_rfl))⟩
 f47:=Try.func76.trans (congrArg some (by kernel_rfl))
 f48:=Try.func77.trans (congrArg some (by kernel_rfl))
 f49:=⟨Try.f78.name,by decide,Try.func78.trans (congrArg some (by kernel_rfl))⟩
 f50:=⟨Try.f79.name,by decide,Try.func79.trans (congrArg some (by kernel_rfl))⟩
 f57:=⟨Try.f80.name,by decide,Try.func80.trans (congrArg some (by kernel_rfl))⟩
 t0:=Try.underlying0
 a0:=Try.isAgg0
 z0:=Try.sizeOf0
 v0:=Try.zeroValue0
 t3:=Try.underlying3
 a3:=Try.isAgg3
 z3:=Try.sizeOf3
 v3:=Try.zeroValue3
 t4:=Try.underlying4
 a4:=Try.isAgg4
 z4:=Try.sizeOf4
 v4:=Try.zeroValue4
 t5:=Try.underlying5
 a5:=Try.isAgg5
 z5:=Try.sizeOf5
 v5:=Try.zeroValue5
 t9:=Try.underlying9
 a9:=Try.isAgg9
 z9:=Try.sizeOf9
 v9:=Try.zeroValue9
 t22:=Try.underlying22
 a22:=Try.isAgg22
 z22:=Try.sizeOf22
 v22:=Try.zeroValue22
 t25:=Try.underlying103
 a25:=Try.isAgg103
 z25:=Try.sizeOf103
 v25:=Try.zeroValue103
 t39:=Try.underlying90
 a39:=Try.isAgg90
 z39:=Try.sizeOf90
 v39:=Try.zeroValue90
 t45:=Try.underlying107
 a45:=Try.isAgg107
 z45:=Try.sizeOf107
 v45:=Try.zeroValue107
 t46:=Try.underlying108
 a46:=Try.isAgg108
 z46:=Try.sizeOf108
 v46:=Try.zeroValue108
 t50:=Try.underlying35
 a50:=Try.isAgg35
 z50:=Try.sizeOf35
 v50:=Try.zeroValue35
 t53:=Try.underlying96
 a53:=Try.isAgg96
 z53:=Try.sizeOf96
 v53:=Try.zeroValue96
 t55:=Try.underlying99
 a55:=Try.isAgg99
 z55:=Try.sizeOf99
 v55:=Try.zeroValue99
 t66:=Try.underlying115
 a66:=Try.isAgg115
 z66:=Try.sizeOf115
 v66:=Try.zeroValue115
 t70:=Try.underlying119
 a70:=Try.isAgg119
 z70:=Try.sizeOf119
 v70:=Try.zeroValue119
 t76:=Try.underlying121
 a76:=Try.isAgg121
 z76:=Try.sizeOf121
 v76:=Try.zeroValue121
 t77:=Try.underlying122
 a77:=Try.isAgg122
 z77:=Try.sizeOf122
 v77:=Try.zeroValue122 }
end Go.Proofs
