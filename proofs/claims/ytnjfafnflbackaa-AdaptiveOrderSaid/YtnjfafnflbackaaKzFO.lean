/-
  The layer adaptive: strategies by the model; the law Bounds.
-/
import Derived.Test.YtnjfafnflbackaaKzFN
set_option linter.unusedVariables false
set_option linter.unusedSimpArgs false
namespace Go.Kz
theorem f18_eq (N:Nat) (hN:5000 < N) {m:z1o} {g:List (List Int)} {n:Nat} (hm:MenuP m n) (hg:GainP g n) {p:List Int} (hp:View n p):f18 N m g p=some (zbo g p):=by
 have hn:=hm.few;have hl:=hp.len;obtain ⟨t1,t2,t3⟩:=z2o hp.ok;have htl:=z8w hp;have htn:((z3c p:Nat):Int)=top 0 p:=by simp only [z3c];omega
 have hws:zbo g p=z1k (z3c p) fun c=>z1q g n (part p (z4u n) c).testBit:=by
  rw [zib g hp];refine z12 fun c _=>?_
  split
  ·rename_i h;rw [h];exact (z57 g (by simp)).symm
  ·rfl
 unfold f18;rw [f44_eq N _ (by omega) (by omega) hp.ok];simp only [Option.bind_some,←htn];rw [hws];refine z1w (fun k t=>t=z1k k fun c=>z1q g n (part p (z4u n) c).testBit) (z3c p) ?_ ?_ N (by omega) _ rfl
 ·intro k t w hk ht hw;subst ht;simp only [zo6];rw [dlt hk,cond_true,hm.secrets];have hsb:(z1k k fun c=>z1q g n (part p (z4u n) c).testBit)≤k*63488:=z3q fun c _=>by
   have:=(z8c (n:=n) (part p (z4u n) c).testBit hg.row).2;omega
  have hs0:0≤(z1k k fun c=>z1q g n (part p (z4u n) c).testBit):=z35 fun c _=>z6y _ _ _
  refine z1w (fun j (t:Int)=>t=((z7e (fun s=>(z4u n).testBit s && decide (p.getD s 0=(k:Int))) j:Nat):Int)) n ?_ ?_ N (by omega) _ rfl
  ·intro j t v hj ht hv;subst ht;have hjp:j < p.length:=by omega
   have hb:=zt0 (a:=j) (b:=62) (by omega) (fun s=>(z4u n).testBit s && decide (p.getD s 0=(k:Int)));rw [pow62] at hb;have hpw:=zkc (k:=j) (by omega);have e3:p.getD j 0=p[j]:=by rw [List.getD_eq_getElem?_getD,List.getElem?_eq_getElem hjp];rfl
   have e2:decide ((j:Int) < 0)=false:=by simp
   simp only [zo5];rw [dlt hj,cond_true,z0s hjp];simp only [Option.bind_some];rw [z09 (n:=(j:Int)+1) (by omega) (by omega)];have hab:(z4u n).testBit j=true:=by rw [zt6];simp [hj]
   by_cases he:p[j]=(k:Int)
   ·rw [decide_eq_true he,cond_true,e2,cond_false,shl1 (by omega)];have hpc:z0l (((z7e (fun s=>(z4u n).testBit s && decide (p.getD s 0=(k:Int))) j:Nat):Int)+((2 ^ j:Nat):Int))=((z7e (fun s=>(z4u n).testBit s && decide (p.getD s 0=(k:Int))) j+2 ^ j:Nat):Int):=by
     rw [←Int.natCast_add];exact zfi (by omega)
    rw [hpc];exact hv _ (by simp only [z7e,hab,e3,he,decide_true,Bool.and_true,if_true])
   ·rw [decide_eq_false he,cond_false];exact hv _ (by simp only [z7e,e3,he,decide_false,Bool.and_false,Bool.false_eq_true,if_false,Nat.add_zero])
  ·intro t v ht;subst ht;simp only [zo5];have hpart:z7e (fun s=>(z4u n).testBit s && decide (p.getD s 0=(k:Int))) n=part p (z4u n) k:=by simp only [part,hl]
   have hlb:=z8c (n:=n) (part p (z4u n) k).testBit hg.row;rw [dnlt,cond_false,hpart,f40_eq N (by omega) hm hg (lt62 hn (zey hp _ _))];simp only [Option.bind_some];rw [z09 (by omega) (by omega),z09 (by omega) (by omega)];exact hw _ rfl
 ·intro t w ht;subst ht;simp only [zo6];rw [dnlt,cond_false]
end Go.Kz
