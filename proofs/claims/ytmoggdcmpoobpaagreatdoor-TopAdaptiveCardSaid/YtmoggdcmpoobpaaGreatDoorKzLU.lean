/-
  The functions that slices.SortFunc is made of stand in this program as the library has them.
-/
import Derived.Test.YtmoggdcmpoobpaaGreatDoorKzAS
import Derived.Test.YtmoggdcmpoobpaaGreatDoorProg
set_option linter.unusedVariables false
set_option linter.unusedSimpArgs false
namespace Go.Proofs
open Go.Shelf
def Tryz.sortL269_ren:Go.Shelf.Ren:=⟨fun | 6=>269 | 15=>148 | 14=>321 | 28=>228 | 29=>229 | 20=>349 | 21=>350 | 22=>351 | 23=>352 | 24=>353 | 25=>354 | 26=>355 | 27=>356 | 46=>367 | 47=>288 | 48=>289 | 49=>368 | 50=>369 | 57=>373 | n=>n,fun | 22=>82 | 24=>190 | 25=>188 | 3=>3 | 39=>233 | 0=>0 | 53=>316 | 55=>163 | 4=>4 | 46=>310 | 45=>309 | 50=>144 | 5=>5 | 9=>9 | 66=>362 | 70=>366 | 76=>401 | 77=>369 | n=>n,fun | n=>n⟩
theorem Tryz.sortL269:Go.Proofs.SlLaysF0.n6 Tryz.prog Tryz.sortL269_ren:={
 mixed:=by kernel_rfl
 f6:=⟨Tryz.f269.name,by decide,Tryz.func269.trans (congrArg some (by kernel_rfl))⟩
 f14:=⟨Tryz.f321.name,by decide,Tryz.func321.trans (congrArg some (by kernel_rfl))⟩
 f15:=Tryz.func148.trans (congrArg some (by kernel_rfl))
 f20:=⟨Tryz.f349.name,by decide,Tryz.func349.trans (congrArg some (by kernel_rfl))⟩
 f21:=⟨Tryz.f350.name,by decide,Tryz.func350.trans (congrArg some (by kernel_rfl))⟩
 f22:=⟨Tryz.f351.name,by decide,Tryz.func351.trans (congrArg some (by kernel_rfl))⟩
 f23:=⟨Tryz.f352.name,by decide,Tryz.func352.trans (congrArg some (by kernel_rfl))⟩
 f24:=⟨Tryz.f353.name,by decide,Tryz.func353.trans (congrArg some (by kernel_rfl))⟩
 f25:=⟨Tryz.f354.name,by decide,Tryz.func354.trans (congrArg some (by kernel_rfl))⟩
 f26:=⟨Tryz.f355.name,by decide,Tryz.func355.trans (congrArg some (by kernel_rfl))⟩
 f27:=⟨Tryz.f356.name,by decide,Tryz.func356.trans (congrArg some (by kernel_rfl))⟩
 f28:=Tryz.func228.trans (congrArg some (by kernel_rfl))
 f29:=Tryz.func229.trans (congrArg some (by kernel_rfl))
 f46:=⟨Tryz.f367.name,by decide,Tryz.func367.trans (congrArg some (by kernel_rfl))⟩
 f47:=Tryz.func288.trans (congrArg some (by kernel_rfl))
 f48:=Tryz.func289.trans (congrArg some (by kernel_rfl))
 f49:=⟨Tryz.f368.name,by decide,Tryz.func368.trans (congrArg some (by kernel_rfl))⟩
 f50:=⟨Tryz.f369.name,by decide,Tryz.func369.trans (congrArg some (by kernel_rfl))⟩
 f57:=⟨Tryz.f373.name,by decide,Tryz.func373.trans (congrArg some (by kernel_rfl))⟩
 t0:=Tryz.underlying0
 a0:=Tryz.isAgg0
 z0:=Tryz.sizeOf0
 v0:=Tryz.zeroValue0
 t3:=Tryz.underlying3
 a3:=Tryz.isAgg3
 z3:=Tryz.sizeOf3
 v3:=Tryz.zeroValue3
 t4:=Tryz.underlying4
 a4:=Tryz.isAgg4
 z4:=Tryz.sizeOf4
 v4:=Tryz.zeroValue4
 t5:=Tryz.underlying5
 a5:=Tryz.isAgg5
 z5:=Tryz.sizeOf5
 v5:=Tryz.zeroValue5
 t9:=Tryz.underlying9
 a9:=Tryz.isAgg9
 z9:=Tryz.sizeOf9
 v9:=Tryz.zeroValue9
 t22:=Tryz.underlying82
 a22:=Tryz.isAgg82
 z22:=Tryz.sizeOf82
 v22:=Tryz.zeroValue82
 t25:=Tryz.underlying188
 a25:=Tryz.isAgg188
 z25:=Tryz.sizeOf188
 v25:=Tryz.zeroValue188
 t39:=Tryz.underlying233
 a39:=Tryz.isAgg233
 z39:=Tryz.sizeOf233
 v39:=Tryz.zeroValue233
 t45:=Tryz.underlying309
 a45:=Tryz.isAgg309
 z45:=Tryz.sizeOf309
 v45:=Tryz.zeroValue309
 t46:=Tryz.underlying310
 a46:=Tryz.isAgg310
 z46:=Tryz.sizeOf310
 v46:=Tryz.zeroValue310
 t50:=Tryz.underlying144
 a50:=Tryz.isAgg144
 z50:=Tryz.sizeOf144
 v50:=Tryz.zeroValue144
 t53:=Tryz.underlying316
 a53:=Tryz.isAgg316
 z53:=Tryz.sizeOf316
 v53:=Tryz.zeroValue316
 t55:=Tryz.underlying163
 a55:=Tryz.isAgg163
 z55:=Tryz.sizeOf163
 v55:=Tryz.zeroValue163
 t66:=Tryz.underlying362
 a66:=Tryz.isAgg362
 z66:=Tryz.sizeOf362
 v66:=Tryz.zeroValue362
 t70:=Tryz.underlying366
 a70:=Tryz.isAgg366
 z70:=Tryz.sizeOf366
 v70:=Tryz.zeroValue366
 t76:=Tryz.underlying401
 a76:=Tryz.isAgg401
 z76:=Tryz.sizeOf401
 v76:=Tryz.zeroValue401
 t77:=Tryz.underlying369
 a77:=Tryz.isAgg369
 z77:=Tryz.sizeOf369
 v77:=Tryz.zeroValue369 }
end Go.Proofs
