/-
  The functions that slices.SortFunc is made of stand in this program as the library has them.
-/
import Derived.Test.YtnjfafnflbackaaKzAQ
import Derived.Test.YtnjfafnflbackaaProg
set_option linter.unusedVariables false
set_option linter.unusedSimpArgs false
namespace Go.Proofs
open Go.Shelf
def Try.sortL60_ren:Go.Shelf.Ren:=⟨fun | 6=>60 | 15=>87 | 14=>86 | 28=>108 | 29=>109 | 20=>100 | 21=>101 | 22=>102 | 23=>103 | 24=>104 | 25=>105 | 26=>106 | 27=>107 | 46=>115 | 47=>116 | 48=>117 | 49=>118 | 50=>119 | 57=>120 | n=>n,fun | 22=>26 | 24=>55 | 25=>73 | 3=>3 | 39=>138 | 0=>0 | 53=>154 | 55=>156 | 4=>4 | 46=>148 | 45=>147 | 50=>80 | 5=>5 | 9=>9 | 66=>164 | 70=>168 | 76=>170 | 77=>171 | n=>n,fun | n=>n⟩
theorem Try.sortL60:Go.Proofs.SlLaysF0.n6 Try.prog Try.sortL60_ren:={
 mixed:=by kernel_rfl
 f6:=⟨Try.f60.name,by decide,Try.func60.trans (congrArg some (by kernel_rfl))⟩
 f14:=⟨Try.f86.name,by decide,Try.func86.trans (congrArg some (by kernel_rfl))⟩
 f15:=Try.func87.trans (congrArg some (by kernel_rfl))
 f20:=⟨Try.f100.name,by decide,Try.func100.trans (congrArg some (by kernel_rfl))⟩
 f21:=⟨Try.f101.name,by decide,Try.func101.trans (congrArg some (by kernel_rfl))⟩
 f22:=⟨Try.f102.name,by decide,Try.func102.trans (congrArg some (by kernel_rfl))⟩
 f23:=⟨Try.f103.name,by decide,Try.func103.trans (congrArg some (by kernel_rfl))⟩
 f24:=⟨Try.f104.name,by decide,Try.func104.trans (congrArg some (by kernel_rfl))⟩
 f25:=⟨Try.f105.name,by decide,Try.func105.trans (congrArg some (by kernel_rfl))⟩
 f26:=⟨Try.f106.name,by decide,Try.func106.trans (congrArg some (by kernel_rfl))⟩
 f27:=⟨Try.f107.name,by decide,Try.func107.trans (congrArg some (by kernel_rfl))⟩
 f28:=Try.func108.trans (congrArg some (by kernel_rfl))
 f29:=Try.func109.trans (congrArg some (by kernel_rfl))
 f46:=⟨Try.f115.name,by decide,Try.func115.trans (congrArg some (by kernel_rfl))⟩
 f47:=Try.func116.trans (congrArg some (by kernel_rfl))
 f48:=Try.func117.trans (congrArg some (by kernel_rfl))
 f49:=⟨Try.f118.name,by decide,Try.func118.trans (congrArg some (by kernel_rfl))⟩
 f50:=⟨Try.f119.name,by decide,Try.func119.trans (congrArg some (by kernel_rfl))⟩
 f57:=⟨Try.f120.name,by decide,Try.func120.trans (congrArg some (by kernel_rfl))⟩
 t0:=Try.underlying0
 a0:=Try.isAgg0
 z0:=Try.sizeOf0
 v0:=Try.zeroValue0
 t3:=Try.underlying3
 a3:=Try.isAgg3
 z3:=Try.sizeOf3
 v3:=Try.zeroValue3
 t4:=Try.underlying4
 a4:=Try.isAgg4
 z4:=Try.sizeOf4
 v4:=Try.zeroValue4
 t5:=Try.underlying5
 a5:=Try.isAgg5
 z5:=Try.sizeOf5
 v5:=Try.zeroValue5
 t9:=Try.underlying9
 a9:=Try.isAgg9
 z9:=Try.sizeOf9
 v9:=Try.zeroValue9
 t22:=Try.underlying26
 a22:=Try.isAgg26
 z22:=Try.sizeOf26
 v22:=Try.zeroValue26
 t25:=Try.underlying73
 a25:=Try.isAgg73
 z25:=Try.sizeOf73
 v25:=Try.zeroValue73
 t39:=Try.underlying138
 a39:=Try.isAgg138
 z39:=Try.sizeOf138
 v39:=Try.zeroValue138
 t45:=Try.underlying147
 a45:=Try.isAgg147
 z45:=Try.sizeOf147
 v45:=Try.zeroValue147
 t46:=Try.underlying148
 a46:=Try.isAgg148
 z46:=Try.sizeOf148
 v46:=Try.zeroValue148
 t50:=Try.underlying80
 a50:=Try.isAgg80
 z50:=Try.sizeOf80
 v50:=Try.zeroValue80
 t53:=Try.underlying154
 a53:=Try.isAgg154
 z53:=Try.sizeOf154
 v53:=Try.zeroValue154
 t55:=Try.underlying156
 a55:=Try.isAgg156
 z55:=Try.sizeOf156
 v55:=Try.zeroValue156
 t66:=Try.underlying164
 a66:=Try.isAgg164
 z66:=Try.sizeOf164
 v66:=Try.zeroValue164
 t70:=Try.underlying168
 a70:=Try.isAgg168
 z70:=Try.sizeOf168
 v70:=Try.zeroValue168
 t76:=Try.underlying170
 a76:=Try.isAgg170
 z76:=Try.sizeOf170
 v76:=Try.zeroValue170
 t77:=Try.underlying171
 a77:=Try.isAgg171
 z77:=Try.sizeOf171
 v77:=Try.zeroValue171 }
end Go.Proofs
