/-
  DERIVED: THE SHELF's CONTRACTS AT THIS DUMP, IN PLAIN WORDS (tools/lay-plain.mjs out of 'KzLT.lean', which tools/lay-shelf.mjs wrote): THE SAME DECLARATIONS UNDER THE SAME NAMES: 'import', 'namespace', 'open', 'def', 'theorem' AND NOTHING ELSE: no command of the shelf's: FOR A HAND-IN. Each laying: the table of numbers ('.._ren') and one theorem, a field a fact of the dump's own or the kernel's comparison; each contract: ONE APPLICATION.
-/
import Derived.Shelf.Strings.BuilderK
import Derived.Shelf.LaysM
import Derived.Shelf.Strconv.Itoa3
import Derived.Test.YtmoggdcmpoobpaaGreatDoorProg
set_option linter.unusedVariables false
set_option linter.unusedSimpArgs false
namespace Go.Proofs
open Go.Shelf
def Tryz.lays169_ren:Go.Shelf.Ren:=⟨λ| 169=>146|n=>n,λ| 70=>222|9=>9|0=>0|72=>224|37=>47|127=>307|3=>3|5=>5|n=>n,λ| n=>n⟩
theorem Tryz.lays169:Go.Proofs.Lays.n169 Tryz.prog Tryz.lays169_ren:={
 mixed:=by kernel_rfl
 f169:=Tryz.func146.trans (congrArg some (by kernel_rfl))
 t0:=Tryz.underlying0
 a0:=Tryz.isAgg0
 z0:=Tryz.sizeOf0
 v0:=Tryz.zeroValue0
 t3:=Tryz.underlying3
 a3:=Tryz.isAgg3
 z3:=Tryz.sizeOf3
 v3:=Tryz.zeroValue3
 t9:=Tryz.underlying9
 a9:=Tryz.isAgg9
 z9:=Tryz.sizeOf9
 v9:=Tryz.zeroValue9
 t37:=Tryz.underlying47
 a37:=Tryz.isAgg47
 z37:=Tryz.sizeOf47
 v37:=Tryz.zeroValue47
 t70:=Tryz.underlying222
 a70:=Tryz.isAgg222
 z70:=Tryz.sizeOf222
 v70:=Tryz.zeroValue222
 t72:=Tryz.underlying224
 a72:=Tryz.isAgg224
 z72:=Tryz.sizeOf224
 v72:=Tryz.zeroValue224
 t127:=Tryz.underlying307
 a127:=Tryz.isAgg307
 z127:=Tryz.sizeOf307
 v127:=Tryz.zeroValue307 }
theorem Tryz.Builder_Extra_169:Builder.Extra Tryz.prog Tryz.lays169_ren:={
 sizeBuilder:=by kernel_rfl
 liesBuilder:=by kernel_rfl
 t5:=Tryz.underlying5
 a5:=Tryz.isAgg5
 z5:=Tryz.sizeOf5
 v5:=Tryz.zeroValue5
 infoByte:=by kernel_rfl
 cellsByte:=by kernel_rfl
 sizeByte:=by kernel_rfl
 neB5:=by decide }
open Go.RowKit in
def Tryz.laysM171_ren:Go.Shelf.Ren:=⟨λ| 171=>144|243=>219|246=>286|283=>332|284=>333|285=>334|286=>335|129=>229|317=>359|318=>360|319=>361|320=>362|337=>372|338=>174|n=>n,λ| 3=>3|9=>9|2=>2|4=>4|171=>397|0=>0|53=>163|37=>47|5=>5|173=>399|212=>420|51=>316|20=>20|213=>421|46=>233|232=>428|233=>340|n=>n,λ| 17=>1|18=>2|19=>0|n=>n⟩
theorem Tryz.laysM171:Go.Proofs.LaysM.n171 Tryz.prog Tryz.laysM171_ren:={
 mixed:=by kernel_rfl
 f129:=Tryz.func229.trans (congrArg some (by kernel_rfl))
 f171:=Tryz.func144.trans (congrArg some (by kernel_rfl))
 f243:=Tryz.func219.trans (congrArg some (by kernel_rfl))
 f246:=Tryz.func286.trans (congrArg some (by kernel_rfl))
 f283:=Tryz.func332.trans (congrArg some (by kernel_rfl))
 f284:=Tryz.func333.trans (congrArg some (by kernel_rfl))
 f285:=Tryz.func334.trans (congrArg some (by kernel_rfl))
 f286:=Tryz.func335.trans (congrArg some (by kernel_rfl))
 f317:=Tryz.func359.trans (congrArg some (by kernel_rfl))
 f318:=Tryz.func360.trans (congrArg some (by kernel_rfl))
 f319:=Tryz.func361.trans (congrArg some (by kernel_rfl))
 f320:=Tryz.func362.trans (congrArg some (by kernel_rfl))
 f337:=Tryz.func372.trans (congrArg some (by kernel_rfl))
 f338:=Tryz.func174.trans (congrArg some (by kernel_rfl))
 t0:=Tryz.underlying0
 a0:=Tryz.isAgg0
 z0:=Tryz.sizeOf0
 v0:=Tryz.zeroValue0
 t2:=Tryz.underlying2
 a2:=Tryz.isAgg2
 z2:=Tryz.sizeOf2
 v2:=Tryz.zeroValue2
 t3:=Tryz.underlying3
 a3:=Tryz.isAgg3
 z3:=Tryz.sizeOf3
 v3:=Tryz.zeroValue3
 t4:=Tryz.underlying4
 a4:=Tryz.isAgg4
 z4:=Tryz.sizeOf4
 v4:=Tryz.zeroValue4
 t5:=Tryz.underlying5
 a5:=Tryz.isAgg5
 z5:=Tryz.sizeOf5
 v5:=Tryz.zeroValue5
 t9:=Tryz.underlying9
 a9:=Tryz.isAgg9
 z9:=Tryz.sizeOf9
 v9:=Tryz.zeroValue9
 t20:=Tryz.underlying20
 a20:=Tryz.isAgg20
 z20:=Tryz.sizeOf20
 v20:=Tryz.zeroValue20
 t37:=Tryz.underlying47
 a37:=Tryz.isAgg47
 z37:=Tryz.sizeOf47
 v37:=Tryz.zeroValue47
 t46:=Tryz.underlying233
 a46:=Tryz.isAgg233
 z46:=Tryz.sizeOf233
 v46:=Tryz.zeroValue233
 t51:=Tryz.underlying316
 a51:=Tryz.isAgg316
 z51:=Tryz.sizeOf316
 v51:=Tryz.zeroValue316
 t53:=Tryz.underlying163
 a53:=Tryz.isAgg163
 z53:=Tryz.sizeOf163
 v53:=Tryz.zeroValue163
 t171:=Tryz.underlying397
 a171:=Tryz.isAgg397
 z171:=Tryz.sizeOf397
 v171:=Tryz.zeroValue397
 t173:=Tryz.underlying399
 a173:=Tryz.isAgg399
 z173:=Tryz.sizeOf399
 v173:=Tryz.zeroValue399
 t212:=Tryz.underlying420
 a212:=Tryz.isAgg420
 z212:=Tryz.sizeOf420
 v212:=Tryz.zeroValue420
 t213:=Tryz.underlying421
 a213:=Tryz.isAgg421
 z213:=Tryz.sizeOf421
 t232:=Tryz.underlying428
 a232:=Tryz.isAgg428
 z232:=Tryz.sizeOf428
 v232:=Tryz.zeroValue428
 t233:=Tryz.underlying340
 a233:=Tryz.isAgg340
 z233:=Tryz.sizeOf340
 v233:=Tryz.zeroValue340
 g17:=by kernel_rfl
 g18:=by kernel_rfl
 g19:=by kernel_rfl
 i0:=by kernel_rfl
 i2:=by kernel_rfl
 i3:=by kernel_rfl
 i4:=by kernel_rfl
 i5:=by kernel_rfl
 i9:=by kernel_rfl
 i20:=by kernel_rfl
 i37:=by kernel_rfl
 i46:=by kernel_rfl
 i51:=by kernel_rfl
 i53:=by kernel_rfl
 i171:=by kernel_rfl
 i173:=by kernel_rfl
 i212:=by kernel_rfl
 i232:=by kernel_rfl
 i233:=by kernel_rfl
 m17:=by kernel_rfl
 m18:=by kernel_rfl
 m19:=by kernel_rfl }
open Go.RowKit Go.Sort Go.Lib in
theorem Tryz.strconv_Itoa(n:Int)(h0 : -9223372036854775808<=n)(h1:n<=9223372036854775807)(w:World)(htab:Lib.TabIs Tryz.prog w "internal/strconv.uint64pow10" .u64 Lib.pow10Tab):
  Calls Tryz.prog 144 #[.int .i64 n] w λe w'=>e=.returned (.string ⟨(Lib.itoa n).toArray⟩)/\∃k os,w'=grow (w.drewN k) os:=Any.strconv_Itoa Tryz.laysM171 n h0 h1 w htab
end Go.Proofs
