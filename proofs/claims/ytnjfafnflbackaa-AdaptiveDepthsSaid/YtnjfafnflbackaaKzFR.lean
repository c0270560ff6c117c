/-
  The layer adaptive: the model's code of depths; the laws Depths and Hard.
-/
import Derived.Test.YtnjfafnflbackaaKzFQ
set_option linter.unusedVariables false
set_option linter.unusedSimpArgs false
namespace Go.Kz
theorem f91_eq (N:Nat) (l:List Int) (hN:l.length < N) (hl:l.length≤1000) (v:Int):f91 N l v=some (decide (v∈l)):=by
 unfold f91 f111;have key:∀ (M k:Nat),k≤l.length->l.length-k < M->v∉l.take k->∃ i,iter (fun w=>zds N l v (len l) w (fun t4=>some t4) (fun (_:Unit)=>some (-1))) M (k:Int)=some i∧decide (0≤i)=decide (v∈l):=by
  intro M
  induction M with
  | zero=>intro k _ h;omega
  | succ M ih=>
   intro k hk hM hv;simp only [iter,zds];by_cases hlt:k < l.length
   ·rw [z10 hlt,cond_true,z0l hlt];simp only [Option.bind_some];by_cases he:v=l[k]
    ·rw [decide_eq_true he,cond_true];refine ⟨(k:Int),rfl,?_⟩;have:v∈l:=he ▸ List.getElem_mem hlt;simp [this]
    ·rw [decide_eq_false he,cond_false,z06 (by omega) (by omega)];refine ih (k+1) (by omega) (by omega) ?_;rw [z1e hlt];intro hmem;rcases List.mem_append.1 hmem with h | h
     ·exact hv h
     ·exact he (List.mem_singleton.1 h)
   ·have he:k=l.length:=by omega
    subst he;rw [List.take_length] at hv;rw [z0t,cond_false];exact ⟨-1,rfl,by simp [hv]⟩
 obtain ⟨i,h1,h2⟩:=key N 0 (Nat.zero_le _) (by omega) (by simp);have h1':iter (fun w=>zds N l v (len l) w (fun t4=>some t4) (fun (_:Unit)=>some (-1))) N 0=some i:=h1;rw [h1'];simp only [Option.bind_some,h2]
theorem f73_eq (N:Nat) (hN:5000 < N) (t:List Hrd) (ht:t.length≤4500) (ys:List Nat) (hy:ys.length≤1000) (d:Int):f73 N t (zsm ys) d=some (z7b t ys d):=by
 unfold f73;have:=zcl (F:=fun (w:Int×Unit->Option Bool) (x:Int×Unit)=>zeh N (zsm ys) d t (len t) (fun i=>w (i,())) (fun t4=>some t4) (fun (_:Unit)=>some false) x.1) (fun _=>()) t (fun x=>!(decide (d≤x.2.1) && ys.any fun y=>decide ((y:Int)=x.1))) (some false) (some true) ?_ ?_ N (by omega)
 ·have conv1:∀ (M:Nat) (i:Int),iter (fun w=>zeh N (zsm ys) d t (len t) w (fun t4=>some t4) (fun (_:Unit)=>some false)) M i=iter (fun (w:Int×Unit->Option Bool) (x:Int×Unit)=>zeh N (zsm ys) d t (len t) (fun i=>w (i,())) (fun t4=>some t4) (fun (_:Unit)=>some false) x.1) M (i,()):=by
   intro M
   induction M with
   | zero=>intro i;rfl
   | succ M ih=>intro i;simp only [iter];congr 1;funext j;exact ih j
  rw [conv1,this];have e:t.all (fun x=>!(decide (d≤x.2.1) && ys.any fun y=>decide ((y:Int)=x.1))) = !z7b t ys d:=by
   simp [z7b,List.all_eq_not_any_not]
  rw [e];cases z7b t ys d <;> rfl
 ·intro k w hk;simp only [zeh];rw [z10 hk,cond_true,z0l hk];simp only [Option.bind_some];rw [f91_eq N (zsm ys) (by rw [zlc];omega) (by rw [zlc];omega),z06 (by omega) (by omega)];simp only [Option.bind_some];have e:decide (t[k].1∈zsm ys)=ys.any fun y=>decide ((y:Int)=t[k].1):=by
   rw [Bool.eq_iff_iff];simp [zsm,List.any_eq_true]
  rw [e];cases decide (d≤t[k].2.1) <;> cases (ys.any fun y=>decide ((y:Int)=t[k].1)) <;> rfl
 ·intro w;simp only [zeh];rw [z0t,cond_false]
theorem zue {n:Nat} {v:List Int} (h:View n v) (S:Nat):(z3p v S).length≤n:=by
 have h1:=z74 h;have:=List.length_filter_le (fun y=>decide (y≠0)) ((List.range (z3e v)).map (part v S));simp only [z3p];simp only [List.length_map,List.length_range] at this;omega
theorem f30_eq (N:Nat) (hN:5000 < N) (m:z1q) (t:List Hrd) (d:Int):f30 N m t d=some (zsi m t d):=by
 unfold f30 zsi;rw [f28_eq N (by omega)];simp only [Option.bind_some]
 cases hmk:z3g m with
 | false=>simp
 | true=>
 simp only [if_true,Bool.not_true,cond_false];have hm:=zeu hmk;have hn:=hm.few;have hv8:=hm.views;by_cases hl:t.length≤4096
 ·have e1:decide ((4096:Int) < len t)=false:=by simp [len];omega
  rw [e1,cond_false,if_pos hl];have hbadstep:∀ (k:Nat) (hk:k < t.length),((cond (decide ((0:Int) < (k:Int))) ((idx t (k:Int)).bind fun x=>(idx t (z0i ((k:Int)-1))).bind fun x_1=>some (decide (x.1≤x_1.1))) (some false)))=some (zr6 t k):=by
   intro k hk;by_cases h0:0 < k
   ·have e0:decide ((0:Int) < (k:Int))=true:=by simp;omega
    have e2:z0i ((k:Int)-1)=((k-1:Nat):Int):=by rw [z06 (by omega) (by omega)];omega
    rw [e0,cond_true,e2,z0l hk,z0l (l:=t) (k:=k-1) (by omega)];simp only [Option.bind_some];rw [zr6,List.getD_eq_getElem?_getD,List.getD_eq_getElem?_getD,List.getElem?_eq_getElem hk,List.getElem?_eq_getElem (show k-1 < t.length by omega)];simp [h0]
   ·have e0:decide ((0:Int) < (k:Int))=false:=by simp;omega
    rw [e0,cond_false];simp [zr6,h0]
  cases hs:zao t with
  | false=>
   simp only [Bool.false_eq_true,if_false];obtain ⟨j,hj,hbad⟩:∃ j,j < t.length∧zr6 t j=true:=by
    simp only [zao,List.all_eq_false,List.mem_range,Bool.not_eq_true',Bool.not_eq_false] at hs;exact hs
   refine z2d (fun x:Int=>∃ k:Nat,x=(k:Int)∧k≤j) (fun x=>t.length-x.toNat) ?_ N _ ⟨0,rfl,Nat.zero_le _⟩ (by simp;omega);rintro x w ⟨k,rfl,hk⟩ hw;have hkt:k < t.length:=by omega
   simp only [zjs];rw [z10 hkt,cond_true,hbadstep k hkt];simp only [Option.bind_some]
   cases hbk:zr6 t k with
   | true=>rfl
   | false=>
    rw [cond_false,z06 (by omega) (by omega)];have hne:k≠j:=fun e=>by subst e;rw [hbad] at hbk;exact absurd hbk (by simp)
    exact hw _ ⟨k+1,by simp,by omega⟩ (by simp;omega)
  | true=>
   simp only [if_true];refine zgt (fun _=>True) t.length ?_ ?_ N (by omega) trivial
   ·intro k w hk _ hw;have hbad:=List.all_eq_true.1 hs k (List.mem_range.2 hk);simp only [Bool.not_eq_true'] at hbad;simp only [zjs];rw [z10 hk,cond_true,hbadstep k hk];simp only [Option.bind_some];rw [hbad,cond_false,z06 (by omega) (by omega)];exact hw trivial
   ·intro w _;simp only [zjs];rw [z0t,cond_false,f21_eq N hN hmk];simp only [Option.bind_some];have hjv:=zgs hm;have:=zcl (F:=fun w=>zdp N t d t (len t) m (z33 m) w (fun t6_2=>some t6_2) (fun t9_2=>cond (!t9_2) (some 13) (some 0))) (fun k=>decide (d≤0) || (t.take k).any fun x=>decide (x.1=(z4x m.1.toNat:Int)) && decide (d≤x.2.1)) t (z8z m m.1.toNat (z33 m) t) (some (if d≤0∨∃ x∈t,x.1=(z4x m.1.toNat:Int)∧d≤x.2.1 then 0 else 13)) (some 13) ?_ ?_ N (by omega)
    ·simp only [List.take_zero,List.any_nil,Bool.or_false] at this;rw [this];cases t.all (z8z m m.1.toNat (z33 m) t) <;> rfl
    ·intro k w2 hk;have htk:(t.take (k+1)).any (fun x=>decide (x.1=(z4x m.1.toNat:Int)) && decide (d≤x.2.1))=((t.take k).any (fun x=>decide (x.1=(z4x m.1.toNat:Int)) && decide (d≤x.2.1)) || (decide (t[k].1=(z4x m.1.toNat:Int)) && decide (d≤t[k].2.1))):=by
      rw [z1e hk,List.any_append];simp
     rw [htk];generalize (t.take k).any (fun x=>decide (x.1=(z4x m.1.toNat:Int)) && decide (d≤x.2.1))=fl;simp only [zdp];rw [z10 hk,cond_true,z0l hk];simp only [Option.bind_some];generalize t[k]=x;by_cases h1:x.1 < 1
     ·have:z8z m m.1.toNat (z33 m) t x=false:=by
       have:¬ 1≤x.1:=by omega
       simp [z8z,this]
      rw [decide_eq_true h1,this];rfl
     ·rw [decide_eq_false h1,cond_false,f39_eq N hm];simp only [Option.bind_some];by_cases h2:((z4x m.1.toNat:Nat):Int) < x.1
      ·have:z8z m m.1.toNat (z33 m) t x=false:=by
        have:¬ x.1≤((z4x m.1.toNat:Nat):Int):=by omega
        simp [z8z,this]
       rw [decide_eq_true h2,this];rfl
      ·have hle:=zx3 (n:=m.1.toNat) (x:=x.1) (by omega) (by omega);have hS:=zz9 hn hle.1;have h72:f72 N m (z33 m) x.1=some (!z5t m.1.toNat x.1.toNat (z33 m)):=by
        conv=>lhs;rw [hle.2.2]
        exact f72_eq N (by omega) hm hjv hS
       have hok:z8z m m.1.toNat (z33 m) t x=((!decide (0 < x.2.1) || z5t m.1.toNat x.1.toNat (z33 m)) && (!decide (1 < x.2.1) || m.2.1.all fun v=>z7b t (z3p v x.1.toNat) (z0i (x.2.1-1)))):=by
        have a1:1≤x.1:=by omega
        have a2:x.1≤((z4x m.1.toNat:Nat):Int):=by omega
        simp only [z8z,a1,a2,decide_true,Bool.true_and]
       rw [decide_eq_false h2,hok,h72];simp only [cond_false,Option.bind_some];have hin:∀ (A:Option Int),iter (fun w=>zbn N t d t (len t) (k:Int) (decide (d≤0) || fl) (len m.2.1) x m (z33 m) w (fun t6_1=>some t6_1) (fun (_:Unit)=>A)) N 0=if (!decide (1 < x.2.1) || m.2.1.all fun v=>z7b t (z3p v x.1.toNat) (z0i (x.2.1-1)))=true then A else some 13:=by
        intro A;have e:=za9 (F:=fun w=>zbn N t d t (len t) (k:Int) (decide (d≤0) || fl) (len m.2.1) x m (z33 m) w (fun t6_1=>some t6_1) (fun (_:Unit)=>A)) m.2.1 (fun v=>!decide (1 < x.2.1) || z7b t (z3p v x.1.toNat) (z0i (x.2.1-1))) A (some 13) ?_ ?_ N (by omega)
        ·rw [e];have:(m.2.1.all fun v=>!decide (1 < x.2.1) || z7b t (z3p v x.1.toNat) (z0i (x.2.1-1)))=(!decide (1 < x.2.1) || m.2.1.all fun v=>z7b t (z3p v x.1.toNat) (z0i (x.2.1-1))):=by
          cases decide (1 < x.2.1) <;> simp
         rw [this]
        ·intro q w3 hq;obtain ⟨e1,hv⟩:=hm.at hq;have hpl:=zue hv x.1.toNat;have h41:f41 N m x.1 (q:Int)=some (zsm (z3p (z0b m q) x.1.toNat)):=by
          conv=>lhs;rw [hle.2.2]
          exact f41_eq N (by omega) hm hq hS
         simp only [zbn];rw [z10 hq,cond_true,h41,e1,z06 (n:=(q:Int)+1) (by omega) (by omega)];simp only [Option.bind_some];rw [f73_eq N hN t (by omega) _ (by omega)];simp only [Option.bind_some];cases decide (1 < x.2.1) <;> cases z7b t (z3p (z0b m q) x.1.toNat) (z0i (x.2.1-1)) <;> rfl
        ·intro w3;simp only [zbn];rw [z0t,cond_false]
       rw [z06 (n:=(k:Int)+1) (by omega) (by omega)];have hflag:((cond (decide (d≤0) || fl) (some true) ((cond (decide (x.1=((z4x m.1.toNat:Nat):Int))) (some (decide (d≤x.2.1))) (some false)).bind fun b_5=>some b_5)))=some (decide (d≤0) || (fl || (decide (x.1=((z4x m.1.toNat:Nat):Int)) && decide (d≤x.2.1)))):=by
        cases decide (d≤0) <;> cases fl <;> cases decide (x.1=((z4x m.1.toNat:Nat):Int)) <;> cases decide (d≤x.2.1) <;> rfl
       rw [hin,hflag];simp only [Option.bind_some];cases decide (0 < x.2.1) <;> cases z5t m.1.toNat x.1.toNat (z33 m) <;> cases (!decide (1 < x.2.1) || m.2.1.all fun v=>z7b t (z3p v x.1.toNat) (z0i (x.2.1-1))) <;> rfl
    ·intro w2;simp only [zdp];rw [z0t,cond_false,List.take_length];have e:(decide (d≤0) || t.any fun x=>decide (x.1=(z4x m.1.toNat:Int)) && decide (d≤x.2.1))=decide (d≤0∨∃ x∈t,x.1=(z4x m.1.toNat:Int)∧d≤x.2.1):=by
      rw [Bool.eq_iff_iff];simp [List.any_eq_true]
     rw [e];by_cases h:d≤0∨∃ x∈t,x.1=(z4x m.1.toNat:Int)∧d≤x.2.1
     ·rw [decide_eq_true h,if_pos h];rfl
     ·rw [decide_eq_false h,if_neg h];rfl
 ·have e1:decide ((4096:Int) < len t)=true:=by simp [len];omega
  rw [e1,cond_true,if_neg hl]
theorem law10 (m:z1q) (t:List Hrd) (d:Int):f10 100000 m t d=some true:=by
 unfold f10;rw [known];simp only [Option.bind_some,Bool.not_true,cond_false];rw [f12_eq 100000 (by omega) m _ _ _ (by omega)];simp only [Option.bind_some]
 cases fewB m [] 8 4 with
 | false=>rfl
 | true=>
  simp only [Bool.not_true,cond_false,Option.bind_some]
  cases decide (80 < len t) with
  | true=>rfl
  | false=>
   simp only [cond_false];rw [f29_eq 100000 (by omega),f30_eq 100000 (by omega)];simp
end Go.Kz
