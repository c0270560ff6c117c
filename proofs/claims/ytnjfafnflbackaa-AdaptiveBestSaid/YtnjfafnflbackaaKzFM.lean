/-
  The layer adaptive: the chapter's examples; the law Proves.
-/
import Derived.Test.YtnjfafnflbackaaKzFL
set_option linter.unusedVariables false
set_option linter.unusedSimpArgs false
namespace Go.Kz
theorem repOK:RepOK 100000:=by
 have h:((List.range 63).all fun n=>decide (f83 100000 [-1] (n:Int)=some (List.replicate n (-1))))=true:=by kernel_rfl
 intro n hn;exact of_decide_eq_true (List.all_eq_true.1 h n (List.mem_range.2 (by omega)))
def exM:z1i:=(4,[[0,0,1,1],[0,1,1,0],[0,1,2,2]],())
def exG:List (List Int):=[[1,0,0,0],[0,1,0,0],[0,0,1,0],[0,0,0,1]]
def exS:List z1c:=[(0,[1,2],()),(1,[-1,-1],()),(1,[-1,-1],())]
theorem ex31:f31 100000=some exM:=by kernel_rfl
theorem ex32:f32 100000 4=some exG:=by kernel_rfl
theorem ex_arg (k:Int) (h0:0≤k) (h8:k≤8):zr5 exM exG k=true:=zcl.2 ⟨by kernel_rfl,by kernel_rfl,h0,h8⟩
theorem ex_val:VV exM.2.1 exG 4 2 15=4:=by kernel_rfl
theorem ex_plan:zhd exM exG 4 2=exS:=by kernel_rfl
theorem ex20:∃ t,f20 100000 exM exG 2=some (4,(exS,(t,0))):=by
 obtain ⟨K,h,_⟩:=f20_ok 100000 (by omega) repOK (ex_arg 2 (by omega) (by omega)) (by decide);refine ⟨zbl (K.map (zhe exM exG exM.1.toNat)),h.trans ?_⟩;have e1:exM.1.toNat=4:=rfl;have e2:z6u 4=15:=rfl;have e3:(2:Int).toNat=2:=rfl;rw [e1,e2,e3,ex_val,ex_plan]
theorem ex_fix:zml (zpr exM exG 4) (-1,[]) (allC 3 1)=(3,[2]):=by kernel_rfl
theorem ex19:f19 100000 exM exG 1=some (3,([2],0)):=by
 rw [f19_eq 100000 (by omega),if_pos (ex_arg 1 (by omega) (by omega))];have e1:exM.1.toNat=4:=rfl;have e2:exM.2.1.length=3:=rfl;have e3:min (1:Int).toNat 3=1:=rfl;rw [e1,e2,e3,ex_fix]
theorem ex13:f13 100000 exM exG 0 [(15,0,1,())] 1=some 0:=by
 rw [f13_eq 100000 (by omega)];have:zvw exM exG 0 [(15,0,1,())] 1=0:=by kernel_rfl
 rw [this]
theorem ex23:f23 100000 exS exS=some true:=by kernel_rfl
theorem ex27:f27 100000 [2] [2]=some true:=by kernel_rfl
theorem known:f11 100000=some true:=by
 obtain ⟨t,h20⟩:=ex20;unfold f11;rw [ex31];simp only [Option.bind_some];rw [ex32];simp only [Option.bind_some];rw [show ((exM.1,exM.2):z1i)=exM from rfl,h20];simp only [Option.bind_some];rw [ex19];simp only [Option.bind_some,decide_true,cond_true];rw [show ((0,[1,2],()) :: (1,[-1,-1],()) :: (1,[-1,-1],()) :: []:List z1c)=exS from rfl,ex23];simp only [Option.bind_some,cond_true];rw [ex27];simp only [Option.bind_some,cond_true];rw [ex13];rfl
end Go.Kz
