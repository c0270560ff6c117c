/-
  The functions that slices.SortFunc is made of stand in this program as the library has them.
-/
import Derived.Test.YtmoggdcmpoobpaaGreatDoorKzAT
import Derived.Test.YtmoggdcmpoobpaaGreatDoorProg
set_option linter.unusedVariables false
set_option linter.unusedSimpArgs false
namespace Go.Proofs
open Go.Shelf
def Tryz.sortL75_ren:Go.Shelf.Ren:=⟨λ| 6=>75|15=>148|14=>170|28=>228|29=>229|20=>253|21=>254|22=>255|23=>256|24=>257|25=>258|26=>259|27=>260|46=>307|47=>288|48=>289|49=>308|50=>309|57=>343|n=>n,λ| 22=>27|24=>3|25=>138|3=>3|39=>233|0=>0|53=>316|55=>163|4=>4|46=>310|45=>309|50=>144|5=>5|9=>9|66=>362|70=>366|76=>401|77=>369|n=>n,λ| n=>n⟩
theorem Tryz.sortL75:Go.Proofs.SlLaysF.n6 Tryz.prog Tryz.sortL75_ren:={
 mixed:=by kernel_rfl
 f6:=⟨Tryz.f75.name,by decide,Tryz.func75.trans (congrArg some (by kernel_rfl))⟩
 f14:=⟨Tryz.f170.name,by decide,Tryz.func170.trans (congrArg some (by kernel_rfl))⟩
 f15:=Tryz.func148.trans (congrArg some (by kernel_rfl))
 f20:=⟨Tryz.f253.name,by decide,Tryz.func253.trans (congrArg some (by kernel_rfl))⟩
 f21:=⟨Tryz.f254.name,by decide,Tryz.func254.trans (congrArg some (by kernel_rfl))⟩
 f22:=⟨Tryz.f255.name,by decide,Tryz.func255.trans (congrArg some (by kernel_rfl))⟩
 f23:=⟨Tryz.f256.name,by decide,Tryz.func256.trans (congrArg some (by kernel_rfl))⟩
 f24:=⟨Tryz.f257.name,by decide,Tryz.func257.trans (congrArg some (by kernel_rfl))⟩
 f25:=⟨Tryz.f258.name,by decide,Tryz.func258.trans (congrArg some (by kernel_rfl))⟩
 f26:=⟨Tryz.f259.name,by decide,Tryz.func259.trans (congrArg some (by kernel_rfl))⟩
 f27:=⟨Tryz.f260.name,by decide,Tryz.func260.trans (congrArg some (by kernel_rfl))⟩
 f28:=Tryz.func228.trans (congrArg some (by kernel_rfl))
 f29:=Tryz.func229.trans (congrArg some (by kernel_rfl))
 f46:=⟨Tryz.f307.name,by decide,Tryz.func307.trans (congrArg some (by kernel_rfl))⟩
 f47:=Tryz.func288.trans (congrArg some (by kernel_rfl))
 f48:=Tryz.func289.trans (congrArg some (by kernel_rfl))
 f49:=⟨Tryz.f308.name,by decide,Tryz.func308.trans (congrArg some (by kernel_rfl))⟩
 f50:=⟨Tryz.f309.name,by decide,Tryz.func309.trans (congrArg some (by kernel_rfl))⟩
 f57:=⟨Tryz.f343.name,by decide,Tryz.func343.trans (congrArg some (by kernel_rfl))⟩
 t0:=Tryz.underlying0
 a0:=Tryz.isAgg0
 z0:=Tryz.sizeOf0
 v0:=Tryz.zeroValue0
 t3:=Tryz.underlying3
 a3:=Tryz.isAgg3
 z3:=Tryz.sizeOf3
 v3:=Tryz.zeroValue3
 t4:=Tryz.underlying4
 a4:=Tryz.isAgg4
 z4:=Tryz.sizeOf4
 v4:=Tryz.zeroValue4
 t5:=Tryz.underlying5
 a5:=Tryz.isAgg5
 z5:=Tryz.sizeOf5
 v5:=Tryz.zeroValue5
 t9:=Tryz.underlying9
 a9:=Tryz.isAgg9
 z9:=Tryz.sizeOf9
 v9:=Tryz.zeroValue9
 t22:=Tryz.underlying27
 a22:=Tryz.isAgg27
 z22:=Tryz.sizeOf27
 v22:=Tryz.zeroValue27
 a24:=Tryz.isAgg3
 z24:=Tryz.sizeOf3
 t25:=Tryz.underlying138
 a25:=Tryz.isAgg138
 z25:=Tryz.sizeOf138
 v25:=Tryz.zeroValue138
 t39:=Tryz.underlying233
 a39:=Tryz.isAgg233
 z39:=Tryz.sizeOf233
 v39:=Tryz.zeroValue233
 t45:=Tryz.underlying309
 a45:=Tryz.isAgg309
 z45:=Tryz.sizeOf309
 v45:=Tryz.zeroValue309
 t46:=Tryz.underlying310
 a46:=Tryz.isAgg310
 z46:=Tryz.sizeOf310
 v46:=Tryz.zeroValue310
 t50:=Tryz.underlying144
 a50:=Tryz.isAgg144
 z50:=Tryz.sizeOf144
 v50:=Tryz.zeroValue144
 t53:=Tryz.underlying316
 a53:=Tryz.isAgg316
 z53:=Tryz.sizeOf316
 v53:=Tryz.zeroValue316
 t55:=Tryz.underlying163
 a55:=Tryz.isAgg163
 z55:=Tryz.sizeOf163
 v55:=Tryz.zeroValue163
 t66:=Tryz.underlying362
 a66:=Tryz.isAgg362
 z66:=Tryz.sizeOf362
 v66:=Tryz.zeroValue362
 t70:=Tryz.underlying366
 a70:=Tryz.isAgg366
 z70:=Tryz.sizeOf366
 v70:=Tryz.zeroValue366
 t76:=Tryz.underlying401
 a76:=Tryz.isAgg401
 z76:=Tryz.sizeOf401
 v76:=Tryz.zeroValue401
 t77:=Tryz.underlying369
 a77:=Tryz.isAgg369
 z77:=Tryz.sizeOf369
 v77:=Tryz.zeroValue369 }
end Go.Proofs
