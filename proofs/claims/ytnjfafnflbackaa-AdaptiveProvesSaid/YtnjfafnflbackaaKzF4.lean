/-
  The layer adaptive: Worth, the code of the arguments, tables of bounds; plain laws.
-/
import Derived.Test.YtnjfafnflbackaaKzF3
set_option linter.unusedVariables false
set_option linter.unusedSimpArgs false
namespace Go.Kz
theorem f50_eq (N:Nat) (hN:400 < N) (m:z1v) (g:List (List Int)) (part:List Int) :
  f50 N m g part=some (if z3u m=true∧z5n g m.1=true∧len part=m.1∧okP part=true then (zl9 g part,0) else (0,1)):=by
 unfold f50;rw [zwk N hN];simp only [Option.bind_some,zbu]
 cases hm:z3u m with
 | false=>simp
 | true=>
 obtain ⟨m1,m2,m3,m4⟩:=z5y.1 hm;simp only [if_true,decide_true,Bool.not_true,cond_false];rw [f79_eq N hN hm];simp only [Option.bind_some]
 cases hg:z5n g m.1 with
 | false=>simp
 | true=>
 simp only [Bool.not_true,cond_false,Option.bind_some];by_cases hl:len part=m.1
 ·have hpl:part.length≤62:=by simp only [len] at hl;omega
  simp only [hl,decide_true,Bool.not_true,cond_false,Option.bind_some];rw [zwj N _ (by omega) (by omega)];simp only [Option.bind_some]
  cases hok:okP part with
  | false=>simp
  | true=>
  simp only [Bool.not_true,cond_false];rw [f81_eq N _ (by omega) (by omega),hok];simp only [if_true,Option.bind_some,and_self];obtain ⟨t1,t2,t3⟩:=z2x hok;have hroom:((z3y:Nat):Int)=4294967296:=rfl;rw [z0p (by rw [hroom];simp;omega)];simp only [z5n,zA,decide_eq_true_eq] at hg;have hgl:g.length≤64:=by have:=hg.1.2;simp only [len] at this;omega
  have hrow:∀ row∈g,z8s m.1 row=true:=fun row hr=>List.all_eq_true.1 hg.2 row hr
  have hpm:part.length=m.1.toNat:=by simp only [len] at hl;omega
  generalize hK:(top 0 part).toNat=K;have hK62:K≤62:=by omega
  have hcls:∀ s (hs:s < part.length),∃ c:Nat,part[s]=(c:Int)∧c < K:=by
   intro s hs;have:=t3 _ (List.getElem_mem hs);exact ⟨part[s].toNat,by omega,by omega⟩
  refine z2d (fun i b=>b=zdd K fun c=>z7c (g.take i) part (c:Int)) g.length ?_ ?_ N (by omega) _ ?_
  ·intro i b w hi hb hw;subst hb;have hri:=hrow _ (List.getElem_mem hi);have hrt:∀ row∈g.take i,z8s m.1 row=true:=fun row hr=>hrow row (List.mem_of_mem_take hr)
   have hr1:=(zdh hri).1;have hrl:g[i].length=part.length:=by simp only [len] at hr1;omega
   have hbl:len (zdd K fun c=>z7c (g.take i) part (c:Int))=(K:Int):=by simp [len,z2o]
   simp only [znd];rw [z1b hi,cond_true,z0u hi];simp only [Option.bind_some];rw [z0p (by rw [hroom,hbl];simp;omega),hbl];refine z2d (fun k o=>o=zdd K fun c=>zu7 g[i] part k (c:Int)) part.length ?_ ?_ N (by omega) _ ?_
   ·intro k o w2 hk ho hw2;subst ho;obtain ⟨c,hc,hcK⟩:=hcls k hk;have hct:c < (zdd K fun c=>zu7 g[i] part k (c:Int)).length:=by rw [z2o];exact hcK
    have hb:=zj5 hri part k (c:Int);have hgk:g[i].getD k 0=g[i][k]:=by rw [List.getD_eq_getElem?_getD,List.getElem?_eq_getElem (by omega)];rfl
    have hnum:=(zdh hri).2 k;rw [hgk] at hnum;simp only [zgd];rw [z1b hk,cond_true,z0u hk];simp only [Option.bind_some];rw [hc,z0p (z3v hct),z0u hct,z0u (l:=g[i]) (k:=k) (by omega)];simp only [Option.bind_some,z4h];rw [z0p (z3v hct),z09 (n:=(k:Int)+1) (by omega) (by omega),z09 (by omega) (by omega),z6q,zjk];refine hw2 _ (z4v fun d hd=>?_);have hpk:part.getD k 0=(c:Int):=by rw [List.getD_eq_getElem?_getD,List.getElem?_eq_getElem hk];exact hc
    simp only [zu7,z1p,hpk,hgk];by_cases hdc:d=c
    ·subst hdc;simp
    ·have:¬ ((c:Int)=(d:Int)):=by omega
     simp [hdc,this]
   ·intro o w2 ho;subst ho;simp only [zgd];rw [z0y,cond_false];have hsl:len (zdd K fun c=>zu7 g[i] part part.length (c:Int))=(K:Int):=by simp [len,z2o]
    rw [hsl];refine z2d (fun j o=>o=zdd K fun c=>if c < j then max (z7c (g.take i) part (c:Int)) (zu7 g[i] part part.length (c:Int)) else z7c (g.take i) part (c:Int)) K ?_ ?_ N (by omega) _ ?_
    ·intro j o w3 hj ho hw3;subst ho;simp only [zgc];have e:decide ((j:Int) < (K:Int))=true:=by simp;omega
     have hjt:j < (zdd K fun c=>zu7 g[i] part part.length (c:Int)).length:=by rw [z2o];exact hj
     have hjo:j < (zdd K fun c=>if c < j then max (z7c (g.take i) part (c:Int)) (zu7 g[i] part part.length (c:Int)) else z7c (g.take i) part (c:Int)).length:=by rw [z2o];exact hj
     rw [e,cond_true,z0p (z3v hjt),z0u hjt];simp only [Option.bind_some];rw [z0p (z3v hjo),z0u hjo];simp only [Option.bind_some];rw [z0p (z3v hjo),z09 (by omega) (by omega),z6q,zjk,z4h,z4h,zfk];refine hw3 _ (z4v fun d hd=>?_);by_cases hdj:d=j
     ·subst hdj;simp
     ·by_cases h1:d < j
      ·have h2:d < j+1:=by omega
       simp [hdj,h1,h2]
      ·have h2:¬ d < j+1:=by omega
       simp [hdj,h1,h2]
    ·intro o w3 ho;subst ho;simp only [zgc];have e:decide ((K:Int) < (K:Int))=false:=by simp
     rw [e,cond_false,z09 (by omega) (by omega)];refine hw _ ?_;rw [z1o hi];refine z4v fun d hd=>?_
     rw [zoe,if_pos hd]
    ·refine z4v fun d hd=>?_
     simp
   ·rw [Int.toNat_natCast,zjl];refine z4v fun d hd=>?_
    rfl
  ·intro b w hb;subst hb;simp only [znd];rw [z0y,cond_false,List.take_length];have hbl:len (zdd K fun c=>z7c g part (c:Int))=(K:Int):=by simp [len,z2o]
   rw [hbl];refine z2d (fun j t=>t=z1p j fun c=>z7c g part (c:Int)) K ?_ ?_ N (by omega) _ rfl
   ·intro j t w2 hj ht hw2;subst ht;simp only [zgb];have e:decide ((j:Int) < (K:Int))=true:=by simp;omega
    have hjt:j < (zdd K fun c=>z7c g part (c:Int)).length:=by rw [z2o];exact hj
    have hb0:=zd5 (n:=m.1) (part:=part) (j:Int) hrow;have hs0:0≤z1p j fun c=>z7c g part (c:Int):=z4c fun i _=>(zd5 (n:=m.1) (part:=part) (i:Int) hrow).1
    have hs1:(z1p j fun c=>z7c g part (c:Int))≤j*(part.length*1024):=z48 fun i _=>(zd5 (n:=m.1) (part:=part) (i:Int) hrow).2
    have hs2:(j:Int)*(part.length*1024)≤62*(62*1024):=Int.mul_le_mul (by omega) (by omega) (by omega) (by omega);rw [e,cond_true,z0p (z3v hjt),z0u hjt];simp only [Option.bind_some,z4h];rw [z09 (by omega) (by omega),z09 (by omega) (by omega)];exact hw2 _ rfl
   ·intro t w2 ht;subst ht;simp only [zgb];have e:decide ((K:Int) < (K:Int))=false:=by simp
    rw [e,cond_false];simp only [zl9,hK]
  ·rw [zjl];refine z4v fun d hd=>?_
   simp [z7c]
 ·simp [hl]
def zqa (m:z1v) (g:List (List Int)) (k:Int):Bool:=z3u m && z5n g m.1 && decide (0≤k) && decide (k≤8)
theorem okP_rep:(n:Nat)->okP (List.replicate n (0:Int))=true:=by
 have key:∀ (n:Nat) (d:Int),0≤d->z3t d (List.replicate n (0:Int))=true:=by
  intro n
  induction n with
  | zero=>intro d _;rfl
  | succ n ih=>
   intro d hd;have e:decide ((0:Int)≤d)=true:=by simp [hd]
   simp only [List.replicate_succ,z3t,e,Bool.and_true,Bool.true_and];simp only [Int.le_refl,decide_true,Bool.true_and];exact ih _ (by omega)
 exact fun n=>key n 0 (by omega)
theorem zwt (N:Nat) (hN:400 < N) (m:z1v) (g:List (List Int)) (k:Int):f33 N m g k=some (if zqa m g k then 0 else 1):=by
 unfold f33 zqa;rw [zwk N hN];simp only [Option.bind_some,zbu]
 cases hm:z3u m with
 | false=>simp
 | true=>
 have hmp:=zk9 hm;have h1:=hmp.secrets;have h2:=hmp.few;simp only [if_true,decide_true,Bool.not_true,cond_false,Bool.true_and];rw [z0p (by rw [show ((z3y:Nat):Int)=4294967296 from rfl];simp;omega),f50_eq N hN];have e1:len (List.replicate m.1.toNat (0:Int))=m.1:=by simp only [len,List.length_replicate];omega
 simp only [hm,e1,okP_rep,true_and,and_true]
 cases hg:z5n g m.1 with
 | false=>simp
 | true=>
  simp only [if_true,Option.bind_some,decide_true,Bool.not_true,cond_false,Bool.true_and];by_cases h3:k < 0
  ·have:¬ 0≤k:=by omega
   simp [h3,this]
  ·have h3':0≤k:=by omega
   by_cases h4:8 < k
   ·have:¬ k≤8:=by omega
    simp [h3,h3',h4,this]
   ·have h4':k≤8:=by omega
    simp [h3,h3',h4,h4']
theorem f15_eq (N:Nat) (hN:400 < N) (m:z1v) (g:List (List Int)) (k:Int):f15 N m g k=some (zqa m g k):=by
 unfold f15 zqa;rw [f28_eq N hN]
 cases hm:z3u m with
 | false=>simp
 | true=>
 simp only [Option.bind_some,cond_true,Bool.true_and];rw [f43_eq N hN hm]
 cases hg:z5n g m.1 with
 | false=>simp
 | true=>
  simp only [Option.bind_some,cond_true,Bool.true_and];cases decide (0≤k) <;> cases decide (k≤8) <;> rfl
abbrev z5h:=Int×(Int×(Int×Unit))
abbrev Key:=Int×(Int×Unit)
def cmpI (a b:Int):Int:=if a < b then -1 else if b < a then 1 else 0
theorem f75_eq (N:Nat) (a b:Int):f75 N a b=some (cmpI a b):=by
 unfold f75 cmpI;simp only [f92,Option.bind_some,decide_true,Bool.not_true,cond_false];by_cases h1:a < b
 ·simp [h1]
 ·by_cases h2:b < a
  ·simp [h1,h2]
  ·simp [h1,h2]
def ordI (x y:z5h):Int:=if cmpI y.2.1 x.2.1=0 then cmpI x.1 y.1 else cmpI y.2.1 x.2.1
theorem f74_eq (N:Nat) (hN:3≤N) (a b:Int):f74 N [a,b]=some (if a=0 then b else a):=by
 obtain ⟨k,rfl⟩:∃ k,N=k+3:=⟨N-3,by omega⟩;unfold f74;by_cases ha:a=0
 ·have w1:z0k 1=1:=z09 (by omega) (by omega);have w2:z0k 2=2:=z09 (by omega) (by omega);by_cases hb:b=0
  ·subst ha;subst hb;simp [iter,ziu,idx,len,w1,w2]
  ·subst ha;simp [iter,ziu,idx,len,hb,w1]
 ·simp [iter,ziu,idx,len,ha]
theorem zws (N:Nat) (hN:3≤N) (x y:z5h):f34 N x y=some (ordI x y):=by
 unfold f34 ordI;rw [f75_eq,f75_eq];simp only [Option.bind_some];rw [f74_eq N hN];rfl
def zb5 (x y:z5h):Bool:=if x.2.1=y.2.1 then decide (x.1 < y.1) else decide (y.2.1 < x.2.1)
theorem f38_eq (N:Nat) (x y:z5h):f38 N x y=some (zb5 x y):=by
 unfold f38 zb5;by_cases h:x.2.1=y.2.1 <;> simp [h]
theorem zv3 (x y:z5h):decide (0≤ordI x y) = !zb5 x y:=by
 unfold ordI zb5 cmpI;by_cases h1:x.2.1=y.2.1
 ·simp only [h1,Int.lt_irrefl,if_false,if_true];by_cases h2:x.1 < y.1
  ·simp [h2]
  ·by_cases h3:y.1 < x.1 <;> simp [h2,h3]
 ·by_cases h2:y.2.1 < x.2.1
  ·simp [h1,h2]
  ·have h3:x.2.1 < y.2.1:=by omega
   simp [h1,h2,h3]
def bad1 (t:List z5h) (i:Nat):Bool:=decide (0 < i) && !zb5 (t.getD (i-1) (0,0,0,())) (t.getD i (0,0,0,()))
def zln (t:List z5h):Bool:=(List.range (t.length-0)).all fun j=>!bad1 t (0+j)
theorem zqp {t:List z5h} (h:zln t=true) {i:Nat} (hi:i+1 < t.length):zb5 t[i] t[i+1]=true:=by
 have:=List.all_eq_true.1 h (i+1) (by simp;omega);have e1:t.getD i (0,0,0,())=t[i]:=by rw [List.getD_eq_getElem?_getD,List.getElem?_eq_getElem (by omega)];rfl
 have e2:t.getD (i+1) (0,0,0,())=t[i+1]:=by rw [List.getD_eq_getElem?_getD,List.getElem?_eq_getElem (by omega)];rfl
 simp only [bad1,Nat.zero_add,Nat.add_sub_cancel,e1,e2] at this;simpa using this
theorem ztz {x y z:z5h} (h1:zb5 x y=true) (h2:zb5 y z=true):zb5 x z=true:=by
 simp only [zb5] at h1 h2 ⊢;split at h1 <;> split at h2 <;> split <;> simp only [decide_eq_true_eq] at h1 h2 ⊢ <;> omega
theorem befB_ne {x y:z5h} (h:zb5 x y=true):¬ (x.1=y.1∧x.2.1=y.2.1):=by
 rintro ⟨h1,h2⟩;simp [zb5,h1,h2] at h
theorem zqo {t:List z5h} (h:zln t=true) {i:Nat}:∀ (d:Nat) (hd:i+(d+1) < t.length),zb5 (t[i]'(by omega)) t[i+(d+1)]=true
 | 0,hd=>zqp h hd
 | d+1,hd=>ztz (zqo h d (by omega)) (zqp h hd)
theorem zp2 {R:Type} (N:Nat) (hN:5000 < N) (t:List z5h) (ht:t.length≤4096) (a1:List (List Int)) (b1 b2:Int) (o:z1v) (kret:Int->Option R) (kx:Unit->Option R) :
  iter (fun w=>zgj N t a1 b1 b2 (len t) o w kret kx) N 0=if zln t then kx () else kret 10:=by
 have:=zmt (F:=fun w=>zgj N t a1 b1 b2 (len t) o w kret kx) 0 t.length (by omega) (fun i=>!bad1 t i) (kx ()) (kret 10) ?_ ?_ N (by omega)
 ·exact this
 ·intro k w _ hk;simp only [zgj];have e2:t.getD k (0,0,0,())=t[k]:=by rw [List.getD_eq_getElem?_getD,List.getElem?_eq_getElem hk];rfl
  rw [z1b hk,cond_true,z09 (n:=(k:Int)+1) (by omega) (by omega)];by_cases h0:k=0
  ·subst h0;simp [bad1]
  ·have e3:decide (0 < (k:Int))=true:=by simp;omega
   have e1:t.getD (k-1) (0,0,0,())=t[k-1]:=by rw [List.getD_eq_getElem?_getD,List.getElem?_eq_getElem (by omega)];rfl
   rw [e3,cond_true,zla (by omega) (by omega),z0u (k:=k-1) (by omega),z0u hk];simp only [Option.bind_some];rw [zws N (by omega)];simp only [Option.bind_some,zv3,bad1,e1,e2];have e4:decide (0 < k)=true:=by simp;omega
   rw [e4];cases zb5 t[k-1] t[k] <;> rfl
 ·intro w;simp only [zgj];rw [z0y];rfl
theorem zp1 {R:Type} (N:Nat) (hN:5000 < N) (t:List z5h) (ht:t.length≤4096) (a1:List (List Int)) (b1 b2:Int) (o:z1v) (kret:Int->Option R) (kx:Unit->Option R) :
  iter (fun w=>zgf N t a1 b1 b2 (len t) o w kret kx) N 0=if zln t then kx () else kret 10:=by
 have:=zmt (F:=fun w=>zgf N t a1 b1 b2 (len t) o w kret kx) 0 t.length (by omega) (fun i=>!bad1 t i) (kx ()) (kret 10) ?_ ?_ N (by omega)
 ·exact this
 ·intro k w _ hk;simp only [zgf];have e2:t.getD k (0,0,0,())=t[k]:=by rw [List.getD_eq_getElem?_getD,List.getElem?_eq_getElem hk];rfl
  rw [z1b hk,cond_true,z09 (n:=(k:Int)+1) (by omega) (by omega)];by_cases h0:k=0
  ·subst h0;simp [bad1]
  ·have e3:decide (0 < (k:Int))=true:=by simp;omega
   have e1:t.getD (k-1) (0,0,0,())=t[k-1]:=by rw [List.getD_eq_getElem?_getD,List.getElem?_eq_getElem (by omega)];rfl
   rw [e3,cond_true,zla (by omega) (by omega),z0u (k:=k-1) (by omega),z0u hk];simp only [Option.bind_some];rw [f38_eq];simp only [Option.bind_some,bad1,e1,e2];have e4:decide (0 < k)=true:=by simp;omega
   rw [e4];cases zb5 t[k-1] t[k] <;> rfl
 ·intro w;simp only [zgf];rw [z0y];rfl
theorem eqK (x y:Key):eqD (.pair (.int .i64) (.pair (.int .i64) .unit)) x y=decide (x=y):=by
 obtain ⟨a,b,u⟩:=x;obtain ⟨c,d,v⟩:=y;simp only [eqD,z40,Bool.and_true];rw [Bool.eq_iff_iff];simp
section
variable {α β:Type} [DecidableEq α]
def lk:List (α×β)->α->Option β
 | [],_=>none
 | (k,v) :: l,x=>if x=k then some v else lk l x
def pt:List (α×β)->α->β->List (α×β)
 | [],x,y=>[(x,y)]
 | (k,v) :: l,x,y=>if x=k then (k,y) :: l else (k,v) :: pt l x y
theorem zar {e:α->α->Bool} (he:∀ x y,e x y=decide (x=y)) (x:α):(l:List (α×β))->za5 e l x=lk l x
 | []=>rfl
 | (k,v) :: l=>by
  simp only [za5,lk,he,zar he x l];by_cases h:x=k <;> simp [h]
theorem zk8 {e:α->α->Bool} (he:∀ x y,e x y=decide (x=y)) (x:α) (y:β):(l:List (α×β))->zcs e l x y=pt l x y
 | []=>rfl
 | (k,v) :: l=>by
  simp only [zcs,pt,he,zk8 he x y l];by_cases h:x=k <;> simp [h]
theorem zv1 {x:α} {y:β}:{l:List (α×β)}->lk l x=none->pt l x y=l++[(x,y)]
 | [],_=>rfl
 | (k,v) :: l,h=>by
  simp only [lk] at h;split at h
  ·simp at h
  ·rename_i hne;simp only [pt,if_neg hne,List.cons_append,zv1 h]
theorem zpl {x:α}:{l:List (α×β)}->lk l x=none↔∀ p∈l,p.1≠x
 | []=>by simp [lk]
 | (k,v) :: l=>by
  simp only [lk];split
  ·rename_i h;subst h;simp
  ·rename_i h;rw [zpl];simp only [List.mem_cons,forall_eq_or_imp];constructor
   ·intro h2;exact ⟨fun e=>h e.symm,h2⟩
   ·intro h2;exact h2.2
theorem lk_mem {x:α} {y:β}:{l:List (α×β)}->lk l x=some y->(x,y)∈l
 | (k,v) :: l,h=>by
  simp only [lk] at h;split at h
  ·rename_i he;subst he;simp only [zI] at h;subst h;simp
  ·exact List.mem_cons_of_mem _ (lk_mem h)
end
def zre (t:List z5h):List (Key×Int):=t.map fun x=>((x.1,x.2.1,()),x.2.2.1)
def zzg (t:List z5h) (S l:Int):Option Int:=lk (zre t) (S,l,())
theorem f42_eq (N:Nat) (hN:5000 < N) (t:List z5h) (ht:t.length≤4096) (S l:Int):∃ r,f42 N t S l=some r∧match zzg t S l with
  | none=>r = -1
  | some v=>0≤r∧∃ x,idx t r=some x∧x.2.2.1=v:=by
 have key:∀ (M k:Nat),k≤t.length->t.length-k < M->∃ r,iter (fun w=>znk N l S t (len t) w (fun t6=>some t6) (fun (_:Unit)=>some (-1))) M (k:Int)=some r∧match zzg (t.drop k) S l with
   | none=>r = -1
   | some v=>0≤r∧∃ x,idx t r=some x∧x.2.2.1=v:=by
  intro M
  induction M with
  | zero=>intro k _ h;omega
  | succ M ih=>
   intro k hk hM;simp only [iter,znk];by_cases hlt:k < t.length
   ·rw [z1b hlt,cond_true,z0u hlt,List.drop_eq_getElem_cons hlt];simp only [Option.bind_some,zzg,zre,List.map_cons,lk];by_cases h1:t[k].1=S
    ·by_cases h2:t[k].2.1=l
     ·simp only [h1,h2,decide_true,cond_true,Option.bind_some,if_true];exact ⟨_,rfl,by omega,_,z0u hlt,rfl⟩
     ·have h3:¬ ((S,l,())=((S,t[k].2.1,()):Key)):=by simp;exact fun e=>h2 e.symm
      simp only [h1,h2,decide_true,decide_false,cond_true,cond_false,Option.bind_some];rw [if_neg h3,z09 (by omega) (by omega)];exact ih (k+1) (by omega) (by omega)
    ·have h3:¬ ((S,l,())=((t[k].1,t[k].2.1,()):Key)):=by simp;exact fun e=>absurd e.symm h1
     simp only [h1,decide_false,cond_false,Option.bind_some];rw [if_neg h3,z09 (by omega) (by omega)];exact ih (k+1) (by omega) (by omega)
   ·have hk':k=t.length:=by omega
    subst hk';rw [z0y,cond_false,List.drop_length];exact ⟨_,rfl,rfl⟩
 have:=key N 0 (by omega) (by omega);exact this
end Go.Kz
