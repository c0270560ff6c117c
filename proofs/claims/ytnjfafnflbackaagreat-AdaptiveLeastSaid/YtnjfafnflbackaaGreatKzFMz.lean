/-
  The layer adaptive: the chapter's examples; the law Proves.
-/
import Derived.Test.YtnjfafnflbackaaGreatKzFLz
set_option linter.unusedVariables false
set_option linter.unusedSimpArgs false
namespace Go.Kz
theorem repOK:zyk 100000:=by
 have h:((List.range 63).all fun n=>decide (f56 100000 [-1] (n:Int)=some (List.replicate n (-1))))=true:=by kernel_rfl
 intro n hn;exact of_decide_eq_true (List.all_eq_true.1 h n (List.mem_range.2 (by omega)))
def exM:z1m:=(4,[[0,0,1,1],[0,1,1,0],[0,1,2,2]],())
def exG:List (List Int):=[[1,0,0,0],[0,1,0,0],[0,0,1,0],[0,0,0,1]]
def exS:List z14:=[(0,[1,2],()),(1,[-1,-1],()),(1,[-1,-1],())]
theorem ex31:f16 100000=some exM:=by kernel_rfl
theorem ex32:f17 100000 4=some exG:=by kernel_rfl
def exK:List (Int×Int×Int):=[(15,2,4),(3,1,2),(3,0,1),(1,0,1),(2,0,1),(12,1,2),(12,0,1),(8,0,1),(4,0,1),(9,1,2),(9,0,1),(6,1,2),(6,0,1),(1,1,1),(2,1,1)]
def exB:zg1:=exK.map fun x=>((x.1,x.2.1,()),x.2.2)
def f40g (N:Nat) (p:Key) (m:z1m) (g:List (List Int)) (M:zg1):=(f50 N g p.1).bind fun r=>(f39 N p m g M).bind fun r_1=>some (((),((decide (r=r_1.1.2.1)),())),((r_1.2.1.1,(r_1.2.1.2.1,((),()))),(r_1.2.2.1,())))
theorem f40_g (N:Nat) (p:Key) (m:z1m) (g:List (List Int)) (M:zg1):f40 N p m g M=f40g N p m g M:=z5m _
def l2g {R:Type} (N:Nat) (p:Key) (kb:Int×z1m×List (List Int)×zg1->Option R) (kx:Int->z1m->List (List Int)->zg1->Option R) (s:Int×z1m×List (List Int)×zg1):Option R:=
 (f63 N (f39 N) p s.1 s.2.1 s.2.2.1 s.2.2.2).bind fun r=>(f39 N p r.2.1.1 r.2.1.2.1 r.2.2.1).bind fun r_1=>
  cond (!(decide (r.1.2.1=r_1.1.2.1))) (kb ((z0g (s.1+1)),r_1.2.1.1,r_1.2.1.2.1,r_1.2.2.1)) (kx s.1 r_1.2.1.1 r_1.2.1.2.1 r_1.2.2.1)
theorem f41_g {R:Type} (N:Nat) (p:Key) (kb:Int×z1m×List (List Int)×zg1->Option R) (kx:Int->z1m->List (List Int)->zg1->Option R):zpy N p kb kx=l2g N p kb kx:=funext fun _=>z5m _
theorem f41v1_g {R:Type} (N:Nat) (r41:Key->z1m->List (List Int)->zg1->List z14->_) (p:Key) (o3:List z14) (kb:Int×z1m×List (List Int)×zg1->Option R) (kx:Int->z1m->List (List Int)->zg1->Option R):zbd N r41 p o3 kb kx=l2g N p kb kx:=funext fun _=>z5m _
theorem f41v1_1 (p:Key) (m:z1m) (g:List (List Int)) (M:zg1) (o:List z14):f41v1 100000 p m g M o=zlj 100000 (zpw 100000 99999) p m g M o:=rfl
theorem ex37:f37 100000 exM exG 2=some 0:=by kernel_rfl
theorem ex24:f24 100000 exM=some 15:=by kernel_rfl
theorem ex38:f38 100000 (15,2,()) exM exG []=some (((),(true,())),back exM exG (exK.map fun x=>((x.1,x.2.1,()),-1))):=by kernel_rfl
theorem ex39:f39 100000 (15,2,()) exM exG (exK.map fun x=>((x.1,x.2.1,()),-1))=some (((),(4,())),back exM exG exB):=by kernel_rfl
theorem ex40:f40 100000 (15,2,()) exM exG exB=some (((),(false,())),back exM exG exB):=by rw [f40_g];kernel_rfl
theorem ex41:f41 100000 (15,2,()) exM exG exB=some (((),((),())),((exM,(exG,((),()))),(exB,(exS,())))):=by
 unfold f41;simp only [f41_g];unfold zpx;simp only [f40_g,f41v1_1];unfold zlj;simp only [f41v1_g];unfold zbc;simp only [f40_g];kernel_rfl
theorem ex42:f42 100000 exM exG exB=some (((),((),())),((exM,(exG,((),()))),(exB,(zn4 (exB.map z51),())))):=by
 refine f42_eq 100000 (by omega) _ _ _ (by unfold Dist;decide) (fun key v h=>?_) (by decide);have h2:(exB.all fun x=>decide (0≤x.2) && decide (x.2≤1099511627776))=true:=by kernel_rfl
 simpa using List.all_eq_true.1 h2 _ (ztp h)
theorem ex20:∃ t,f15 100000 exM exG 2=some (4,(exS,(t,0))):=by
 refine ⟨zn4 (exB.map z51),?_⟩;unfold f15;rw [ex37,Option.bind_some,show (!(decide ((0:Int)=0)))=false from rfl,cond_false,show decide (12 < exM.1)=false from rfl,cond_false,ex24,Option.bind_some,ex38,Option.bind_some];simp only [Bool.not_true,cond_false,back];rw [ex39,Option.bind_some];simp only [back];rw [ex40,Option.bind_some];simp only [back,Bool.not_false,cond_true];rw [ex41,Option.bind_some];simp only [];rw [ex42];rfl
theorem f46_nil (N:Nat):f46 N []=some []:=rfl
abbrev ExF:=((Unit×(Unit×(Unit×(Unit×(Unit×Unit)))))×(z1m×(List (List Int)×(Int×(Unit×((List Int)×((Unit×(Unit×(Unit×(Unit×(Unit×Unit)))))×Unit)))))))
def exF (b:Int) (c:List Int):ExF:=(((),((),((),((),((),()))))),(exM,(exG,(b,((),(c,(((),((),((),((),((),()))))),())))))))
theorem ex430:zli 100000 0 0 exM exG (-1) []=some (exF 1 []):=by kernel_rfl
theorem ex431:zli 100000 1 0 exM exG 1 []=some (exF 3 [2]):=by
 unfold zli;rw [show decide ((1:Int)=0)=false from rfl,cond_false];unfold zdv;simp only [f46_nil,Option.bind_some,z5m,z7c];kernel_rfl
theorem f18_two (n:Nat) (h:f37 (n+3) exM exG 1=some 0) (h0:zli (n+3) 0 0 exM exG (-1) []=some (exF 1 [])) (h1:zli (n+3) 1 0 exM exG 1 []=some (exF 3 [2])):f18 (n+3) exM exG 1=some (3,([2],0)):=by
 unfold f18;rw [h,Option.bind_some,show (!(decide ((0:Int)=0)))=false from rfl,cond_false,show z0g (zxc 1 (len exM.2.1)+1)=2 from rfl];simp only [iter,zq3];rw [show decide ((0:Int) < 2)=true from rfl,cond_true,h0,Option.bind_some,show z0g (0+1)=1 from rfl,show decide ((1:Int) < 2)=true from rfl,cond_true];simp only [exF] at h1 ⊢;rw [h1];rfl
theorem ex19:f18 100000 exM exG 1=some (3,([2],0)):=f18_two 99997 (by kernel_rfl) ex430 ex431
theorem ex13:f20 100000 exM exG 0 [(15,0,1,())] 1=some 0:=by kernel_rfl
theorem ex23:f19 100000 exS exS=some true:=by kernel_rfl
theorem ex27:f13 100000 [2] [2]=some true:=by kernel_rfl
theorem known:f4 100000=some true:=by
 obtain ⟨t,h20⟩:=ex20;unfold f4;rw [ex31];simp only [Option.bind_some];rw [ex32];simp only [Option.bind_some];rw [show ((exM.1,exM.2):z1m)=exM from rfl,h20];simp only [Option.bind_some];rw [ex19];simp only [Option.bind_some,decide_true,cond_true];rw [show ((0,[1,2],()) :: (1,[-1,-1],()) :: (1,[-1,-1],()) :: []:List z14)=exS from rfl,ex23];simp only [Option.bind_some,cond_true];rw [ex27];simp only [Option.bind_some,cond_true];rw [ex13];rfl
end Go.Kz
