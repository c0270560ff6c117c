/-
  The layer adaptive: the model's code of depths; the laws Depths and Hard.
-/
import Derived.Test.YtnjfafnflbackaaGreatKzFQz
set_option linter.unusedVariables false
set_option linter.unusedSimpArgs false
namespace Go.Kz
theorem f62_eq (N:Nat) (l:List Int) (hN:l.length < N) (hl:l.length≤1000) (v:Int):f62 N l v=some (decide (v∈l)):=by
 unfold f62 f83;have key:∀ (M k:Nat),k≤l.length->l.length-k < M->v∉l.take k->∃ i,iter (fun w=>zhi N l v (len l) w (fun t4=>some t4) (fun (_:Unit)=>some (-1))) M (k:Int)=some i∧decide (0≤i)=decide (v∈l):=by
  intro M
  induction M with
  | zero=>intro k _ h;omega
  | succ M ih=>
   intro k hk hM hv;simp only [iter,zhi];by_cases hlt:k < l.length
   ·rw [z1p hlt,cond_true,z0s hlt];simp only [Option.bind_some];by_cases he:v=l[k]
    ·rw [decide_eq_true he,cond_true];refine ⟨(k:Int),rfl,?_⟩;have:v∈l:=he ▸ List.getElem_mem hlt;simp [this]
    ·rw [decide_eq_false he,cond_false,z0c (by omega) (by omega)];refine ih (k+1) (by omega) (by omega) ?_;rw [z27 hlt];intro hmem;rcases List.mem_append.1 hmem with h | h
     ·exact hv h
     ·exact he (List.mem_singleton.1 h)
   ·have he:k=l.length:=by omega
    subst he;rw [List.take_length] at hv;rw [z1e,cond_false];exact ⟨-1,rfl,by simp [hv]⟩
 obtain ⟨i,h1,h2⟩:=key N 0 (Nat.zero_le _) (by omega) (by simp);have h1':iter (fun w=>zhi N l v (len l) w (fun t4=>some t4) (fun (_:Unit)=>some (-1))) N 0=some i:=h1;rw [h1'];simp only [Option.bind_some,h2]
theorem f36_eq (N:Nat) (hN:5000 < N) (t:List Hrd) (ht:t.length≤4500) (ys:List Nat) (hy:ys.length≤1000) (d:Int):f36 N t (zj2 ys) d=some (za8 t ys d):=by
 unfold f36;have:=zl4 (F:=fun (w:Int×Unit->Option Bool) (x:Int×Unit)=>zd1 N (zj2 ys) d t (len t) (fun i=>w (i,())) (fun t4=>some t4) (fun (_:Unit)=>some false) x.1) (fun _=>()) t (fun x=>!(decide (d≤x.2.1) && ys.any fun y=>decide ((y:Int)=x.1))) (some false) (some true) ?_ ?_ N (by omega)
 ·have conv1:∀ (M:Nat) (i:Int),iter (fun w=>zd1 N (zj2 ys) d t (len t) w (fun t4=>some t4) (fun (_:Unit)=>some false)) M i=iter (fun (w:Int×Unit->Option Bool) (x:Int×Unit)=>zd1 N (zj2 ys) d t (len t) (fun i=>w (i,())) (fun t4=>some t4) (fun (_:Unit)=>some false) x.1) M (i,()):=by
   intro M
   induction M with
   | zero=>intro i;rfl
   | succ M ih=>intro i;simp only [iter];congr 1;funext j;exact ih j
  rw [conv1,this];have e:t.all (fun x=>!(decide (d≤x.2.1) && ys.any fun y=>decide ((y:Int)=x.1))) = !za8 t ys d:=by
   simp [za8,List.all_eq_not_any_not]
  rw [e];cases za8 t ys d <;> rfl
 ·intro k w hk;simp only [zd1];rw [z1p hk,cond_true,z0s hk];simp only [Option.bind_some];rw [f62_eq N (zj2 ys) (by rw [z7n];omega) (by rw [z7n];omega),z0c (by omega) (by omega)];simp only [Option.bind_some];have e:decide (t[k].1∈zj2 ys)=ys.any fun y=>decide ((y:Int)=t[k].1):=by
   rw [Bool.eq_iff_iff];simp [zj2,List.any_eq_true]
  rw [e];cases decide (d≤t[k].2.1) <;> cases (ys.any fun y=>decide ((y:Int)=t[k].1)) <;> rfl
 ·intro w;simp only [zd1];rw [z1e,cond_false]
theorem zgv {n:Nat} {v:List Int} (h:View n v) (S:Nat):(z28 v S).length≤n:=by
 have h1:=z9t h;have:=List.length_filter_le (fun y=>decide (y≠0)) ((List.range (z1z v)).map (part v S));simp only [z28];simp only [List.length_map,List.length_range] at this;omega
theorem f14_eq (N:Nat) (hN:5000 < N) (m:z1m) (t:List Hrd) (d:Int):f14 N m t d=some (zl1 m t d):=by
 unfold f14 zl1;rw [f7_eq N (by omega)];simp only [Option.bind_some]
 cases hmk:z4a m with
 | false=>simp
 | true=>
 simp only [if_true,Bool.not_true,cond_false];have hm:=ztk hmk;have hn:=hm.few;have hv8:=hm.views;by_cases hl:t.length≤4096
 ·have e1:decide ((4096:Int) < len t)=false:=by simp [len];omega
  rw [e1,cond_false,if_pos hl];have hbadstep:∀ (k:Nat) (hk:k < t.length),((cond (decide ((0:Int) < (k:Int))) ((idx t (k:Int)).bind fun x=>(idx t (z0g ((k:Int)-1))).bind fun x_1=>some (decide (x.1≤x_1.1))) (some false)))=some (badH t k):=by
   intro k hk;by_cases h0:0 < k
   ·have e0:decide ((0:Int) < (k:Int))=true:=by simp;omega
    have e2:z0g ((k:Int)-1)=((k-1:Nat):Int):=by rw [z0c (by omega) (by omega)];omega
    rw [e0,cond_true,e2,z0s hk,z0s (l:=t) (k:=k-1) (by omega)];simp only [Option.bind_some];rw [badH,List.getD_eq_getElem?_getD,List.getD_eq_getElem?_getD,List.getElem?_eq_getElem hk,List.getElem?_eq_getElem (show k-1 < t.length by omega)];simp [h0]
   ·have e0:decide ((0:Int) < (k:Int))=false:=by simp;omega
    rw [e0,cond_false];simp [badH,h0]
  cases hs:zk5 t with
  | false=>
   simp only [Bool.false_eq_true,if_false];obtain ⟨j,hj,hbad⟩:∃ j,j < t.length∧badH t j=true:=by
    simp only [zk5,List.all_eq_false,List.mem_range,Bool.not_eq_true',Bool.not_eq_false] at hs;exact hs
   refine z2r (fun x:Int=>∃ k:Nat,x=(k:Int)∧k≤j) (fun x=>t.length-x.toNat) ?_ N _ ⟨0,rfl,Nat.zero_le _⟩ (by simp;omega);rintro x w ⟨k,rfl,hk⟩ hw;have hkt:k < t.length:=by omega
   simp only [zho];rw [z1p hkt,cond_true,hbadstep k hkt];simp only [Option.bind_some]
   cases hbk:badH t k with
   | true=>rfl
   | false=>
    rw [cond_false,z0c (by omega) (by omega)];have hne:k≠j:=fun e=>by subst e;rw [hbad] at hbk;exact absurd hbk (by simp)
    exact hw _ ⟨k+1,by simp,by omega⟩ (by simp;omega)
  | true=>
   simp only [if_true];refine zb6 (fun _=>True) t.length ?_ ?_ N (by omega) trivial
   ·intro k w hk _ hw;have hbad:=List.all_eq_true.1 hs k (List.mem_range.2 hk);simp only [Bool.not_eq_true'] at hbad;simp only [zho];rw [z1p hk,cond_true,hbadstep k hk];simp only [Option.bind_some];rw [hbad,cond_false,z0c (by omega) (by omega)];exact hw trivial
   ·intro w _;simp only [zho];rw [z1e,cond_false,f9_eq N hN hmk];simp only [Option.bind_some];have hjv:=za6 hm;have:=zl4 (F:=fun w=>zcd N t d t (len t) m (z0v m) w (fun t6_2=>some t6_2) (fun t9_2=>cond (!t9_2) (some 13) (some 0))) (fun k=>decide (d≤0) || (t.take k).any fun x=>decide (x.1=(z2y m.1.toNat:Int)) && decide (d≤x.2.1)) t (zde m m.1.toNat (z0v m) t) (some (if d≤0∨∃ x∈t,x.1=(z2y m.1.toNat:Int)∧d≤x.2.1 then 0 else 13)) (some 13) ?_ ?_ N (by omega)
    ·simp only [List.take_zero,List.any_nil,Bool.or_false] at this;rw [this];cases t.all (zde m m.1.toNat (z0v m) t) <;> rfl
    ·intro k w2 hk;have htk:(t.take (k+1)).any (fun x=>decide (x.1=(z2y m.1.toNat:Int)) && decide (d≤x.2.1))=((t.take k).any (fun x=>decide (x.1=(z2y m.1.toNat:Int)) && decide (d≤x.2.1)) || (decide (t[k].1=(z2y m.1.toNat:Int)) && decide (d≤t[k].2.1))):=by
      rw [z27 hk,List.any_append];simp
     rw [htk];generalize (t.take k).any (fun x=>decide (x.1=(z2y m.1.toNat:Int)) && decide (d≤x.2.1))=fl;simp only [zcd];rw [z1p hk,cond_true,z0s hk];simp only [Option.bind_some];generalize t[k]=x;by_cases h1:x.1 < 1
     ·have:zde m m.1.toNat (z0v m) t x=false:=by
       have:¬ 1≤x.1:=by omega
       simp [zde,this]
      rw [decide_eq_true h1,this];rfl
     ·rw [decide_eq_false h1,cond_false,zzk N hm];simp only [Option.bind_some];by_cases h2:((z2y m.1.toNat:Nat):Int) < x.1
      ·have:zde m m.1.toNat (z0v m) t x=false:=by
        have:¬ x.1≤((z2y m.1.toNat:Nat):Int):=by omega
        simp [zde,this]
       rw [decide_eq_true h2,this];rfl
      ·have hle:=le_allS (n:=m.1.toNat) (x:=x.1) (by omega) (by omega);have hS:=zxh hn hle.1;have h72:f29 N m (z0v m) x.1=some (!z0e m.1.toNat x.1.toNat (z0v m)):=by
        conv=>lhs;rw [hle.2.2]
        exact zzi N (by omega) hm hjv hS
       have hok:zde m m.1.toNat (z0v m) t x=((!decide (0 < x.2.1) || z0e m.1.toNat x.1.toNat (z0v m)) && (!decide (1 < x.2.1) || m.2.1.all fun v=>za8 t (z28 v x.1.toNat) (z0g (x.2.1-1)))):=by
        have a1:1≤x.1:=by omega
        have a2:x.1≤((z2y m.1.toNat:Nat):Int):=by omega
        simp only [zde,a1,a2,decide_true,Bool.true_and]
       rw [decide_eq_false h2,hok,h72];simp only [cond_false,Option.bind_some];have hin:∀ (A:Option Int),iter (fun w=>zab N t d t (len t) (k:Int) (decide (d≤0) || fl) (len m.2.1) x m (z0v m) w (fun t6_1=>some t6_1) (fun (_:Unit)=>A)) N 0=if (!decide (1 < x.2.1) || m.2.1.all fun v=>za8 t (z28 v x.1.toNat) (z0g (x.2.1-1)))=true then A else some 13:=by
        intro A;have e:=z7m (F:=fun w=>zab N t d t (len t) (k:Int) (decide (d≤0) || fl) (len m.2.1) x m (z0v m) w (fun t6_1=>some t6_1) (fun (_:Unit)=>A)) m.2.1 (fun v=>!decide (1 < x.2.1) || za8 t (z28 v x.1.toNat) (z0g (x.2.1-1))) A (some 13) ?_ ?_ N (by omega)
        ·rw [e];have:(m.2.1.all fun v=>!decide (1 < x.2.1) || za8 t (z28 v x.1.toNat) (z0g (x.2.1-1)))=(!decide (1 < x.2.1) || m.2.1.all fun v=>za8 t (z28 v x.1.toNat) (z0g (x.2.1-1))):=by
          cases decide (1 < x.2.1) <;> simp
         rw [this]
        ·intro q w3 hq;obtain ⟨e1,hv⟩:=hm.at hq;have hpl:=zgv hv x.1.toNat;have h41:f30 N m x.1 (q:Int)=some (zj2 (z28 (z07 m q) x.1.toNat)):=by
          conv=>lhs;rw [hle.2.2]
          exact zzh N (by omega) hm hq hS
         simp only [zab];rw [z1p hq,cond_true,h41,e1,z0c (n:=(q:Int)+1) (by omega) (by omega)];simp only [Option.bind_some];rw [f36_eq N hN t (by omega) _ (by omega)];simp only [Option.bind_some];cases decide (1 < x.2.1) <;> cases za8 t (z28 (z07 m q) x.1.toNat) (z0g (x.2.1-1)) <;> rfl
        ·intro w3;simp only [zab];rw [z1e,cond_false]
       rw [z0c (n:=(k:Int)+1) (by omega) (by omega)];have hflag:((cond (decide (d≤0) || fl) (some true) ((cond (decide (x.1=((z2y m.1.toNat:Nat):Int))) (some (decide (d≤x.2.1))) (some false)).bind fun b_5=>some b_5)))=some (decide (d≤0) || (fl || (decide (x.1=((z2y m.1.toNat:Nat):Int)) && decide (d≤x.2.1)))):=by
        cases decide (d≤0) <;> cases fl <;> cases decide (x.1=((z2y m.1.toNat:Nat):Int)) <;> cases decide (d≤x.2.1) <;> rfl
       rw [hin,hflag];simp only [Option.bind_some];cases decide (0 < x.2.1) <;> cases z0e m.1.toNat x.1.toNat (z0v m) <;> cases (!decide (1 < x.2.1) || m.2.1.all fun v=>za8 t (z28 v x.1.toNat) (z0g (x.2.1-1))) <;> rfl
    ·intro w2;simp only [zcd];rw [z1e,cond_false,List.take_length];have e:(decide (d≤0) || t.any fun x=>decide (x.1=(z2y m.1.toNat:Int)) && decide (d≤x.2.1))=decide (d≤0∨∃ x∈t,x.1=(z2y m.1.toNat:Int)∧d≤x.2.1):=by
      rw [Bool.eq_iff_iff];simp [List.any_eq_true]
     rw [e];by_cases h:d≤0∨∃ x∈t,x.1=(z2y m.1.toNat:Int)∧d≤x.2.1
     ·rw [decide_eq_true h,if_pos h];rfl
     ·rw [decide_eq_false h,if_neg h];rfl
 ·have e1:decide ((4096:Int) < len t)=true:=by simp [len];omega
  rw [e1,cond_true,if_neg hl]
end Go.Kz
