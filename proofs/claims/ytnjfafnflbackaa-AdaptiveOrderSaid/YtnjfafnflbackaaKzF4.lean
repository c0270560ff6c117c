/-
  The layer adaptive: Worth, the code of the arguments, tables of bounds; plain laws.
-/
import Derived.Test.YtnjfafnflbackaaKzF3
set_option linter.unusedVariables false
set_option linter.unusedSimpArgs false
namespace Go.Kz
theorem f50_eq (N:Nat) (hN:400 < N) (m:z1o) (g:List (List Int)) (part:List Int) :
  f50 N m g part=some (if z3r m=true∧z5s g m.1=true∧len part=m.1∧okP part=true then (zbo g part,0) else (0,1)):=by
 unfold f50;rw [zxd N hN];simp only [Option.bind_some,zc9]
 cases hm:z3r m with
 | false=>simp
 | true=>
 obtain ⟨m1,m2,m3,m4⟩:=z61.1 hm;simp only [if_true,decide_true,Bool.not_true,cond_false];rw [f79_eq N hN hm];simp only [Option.bind_some]
 cases hg:z5s g m.1 with
 | false=>simp
 | true=>
 simp only [Bool.not_true,cond_false,Option.bind_some];by_cases hl:len part=m.1
 ·have hpl:part.length≤62:=by simp only [len] at hl;omega
  simp only [hl,decide_true,Bool.not_true,cond_false,Option.bind_some];rw [zxc N _ (by omega) (by omega)];simp only [Option.bind_some]
  cases hok:okP part with
  | false=>simp
  | true=>
  simp only [Bool.not_true,cond_false];rw [f81_eq N _ (by omega) (by omega),hok];simp only [if_true,Option.bind_some,and_self];obtain ⟨t1,t2,t3⟩:=z2o hok;have hroom:((z3i:Nat):Int)=4294967296:=rfl;rw [z0k (by rw [hroom];simp;omega)];simp only [z5s,zA,decide_eq_true_eq] at hg;have hgl:g.length≤64:=by have:=hg.1.2;simp only [len] at this;omega
  have hrow:∀ row∈g,z92 m.1 row=true:=fun row hr=>List.all_eq_true.1 hg.2 row hr
  have hpm:part.length=m.1.toNat:=by simp only [len] at hl;omega
  generalize hK:(top 0 part).toNat=K;have hK62:K≤62:=by omega
  have hcls:∀ s (hs:s < part.length),∃ c:Nat,part[s]=(c:Int)∧c < K:=by
   intro s hs;have:=t3 _ (List.getElem_mem hs);exact ⟨part[s].toNat,by omega,by omega⟩
  refine z1w (fun i b=>b=zdz K fun c=>z7g (g.take i) part (c:Int)) g.length ?_ ?_ N (by omega) _ ?_
  ·intro i b w hi hb hw;subst hb;have hri:=hrow _ (List.getElem_mem hi);have hrt:∀ row∈g.take i,z92 m.1 row=true:=fun row hr=>hrow row (List.mem_of_mem_take hr)
   have hr1:=(ze3 hri).1;have hrl:g[i].length=part.length:=by simp only [len] at hr1;omega
   have hbl:len (zdz K fun c=>z7g (g.take i) part (c:Int))=(K:Int):=by simp [len,z2p]
   simp only [znq];rw [z1g hi,cond_true,z0s hi];simp only [Option.bind_some];rw [z0k (by rw [hroom,hbl];simp;omega),hbl];refine z1w (fun k o=>o=zdz K fun c=>zuz g[i] part k (c:Int)) part.length ?_ ?_ N (by omega) _ ?_
   ·intro k o w2 hk ho hw2;subst ho;obtain ⟨c,hc,hcK⟩:=hcls k hk;have hct:c < (zdz K fun c=>zuz g[i] part k (c:Int)).length:=by rw [z2p];exact hcK
    have hb:=zjp hri part k (c:Int);have hgk:g[i].getD k 0=g[i][k]:=by rw [List.getD_eq_getElem?_getD,List.getElem?_eq_getElem (by omega)];rfl
    have hnum:=(ze3 hri).2 k;rw [hgk] at hnum;simp only [zh3];rw [z1g hk,cond_true,z0s hk];simp only [Option.bind_some];rw [hc,z0k (z3n hct),z0s hct,z0s (l:=g[i]) (k:=k) (by omega)];simp only [Option.bind_some,z4j];rw [z0k (z3n hct),z09 (n:=(k:Int)+1) (by omega) (by omega),z09 (by omega) (by omega),z5c,zk4];refine hw2 _ (z4y fun d hd=>?_);have hpk:part.getD k 0=(c:Int):=by rw [List.getD_eq_getElem?_getD,List.getElem?_eq_getElem hk];exact hc
    simp only [zuz,z1k,hpk,hgk];by_cases hdc:d=c
    ·subst hdc;simp
    ·have:¬ ((c:Int)=(d:Int)):=by omega
     simp [hdc,this]
   ·intro o w2 ho;subst ho;simp only [zh3];rw [z11,cond_false];have hsl:len (zdz K fun c=>zuz g[i] part part.length (c:Int))=(K:Int):=by simp [len,z2p]
    rw [hsl];refine z1w (fun j o=>o=zdz K fun c=>if c < j then max (z7g (g.take i) part (c:Int)) (zuz g[i] part part.length (c:Int)) else z7g (g.take i) part (c:Int)) K ?_ ?_ N (by omega) _ ?_
    ·intro j o w3 hj ho hw3;subst ho;simp only [zh2];have e:decide ((j:Int) < (K:Int))=true:=by simp;omega
     have hjt:j < (zdz K fun c=>zuz g[i] part part.length (c:Int)).length:=by rw [z2p];exact hj
     have hjo:j < (zdz K fun c=>if c < j then max (z7g (g.take i) part (c:Int)) (zuz g[i] part part.length (c:Int)) else z7g (g.take i) part (c:Int)).length:=by rw [z2p];exact hj
     rw [e,cond_true,z0k (z3n hjt),z0s hjt];simp only [Option.bind_some];rw [z0k (z3n hjo),z0s hjo];simp only [Option.bind_some];rw [z0k (z3n hjo),z09 (by omega) (by omega),z5c,zk4,z4j,z4j,zga];refine hw3 _ (z4y fun d hd=>?_);by_cases hdj:d=j
     ·subst hdj;simp
     ·by_cases h1:d < j
      ·have h2:d < j+1:=by omega
       simp [hdj,h1,h2]
      ·have h2:¬ d < j+1:=by omega
       simp [hdj,h1,h2]
    ·intro o w3 ho;subst ho;simp only [zh2];have e:decide ((K:Int) < (K:Int))=false:=by simp
     rw [e,cond_false,z09 (by omega) (by omega)];refine hw _ ?_;rw [z1s hi];refine z4y fun d hd=>?_
     rw [zor,if_pos hd]
    ·refine z4y fun d hd=>?_
     simp
   ·rw [Int.toNat_natCast,zk5];refine z4y fun d hd=>?_
    rfl
  ·intro b w hb;subst hb;simp only [znq];rw [z11,cond_false,List.take_length];have hbl:len (zdz K fun c=>z7g g part (c:Int))=(K:Int):=by simp [len,z2p]
   rw [hbl];refine z1w (fun j t=>t=z1k j fun c=>z7g g part (c:Int)) K ?_ ?_ N (by omega) _ rfl
   ·intro j t w2 hj ht hw2;subst ht;simp only [zh1];have e:decide ((j:Int) < (K:Int))=true:=by simp;omega
    have hjt:j < (zdz K fun c=>z7g g part (c:Int)).length:=by rw [z2p];exact hj
    have hb0:=zdr (n:=m.1) (part:=part) (j:Int) hrow;have hs0:0≤z1k j fun c=>z7g g part (c:Int):=z35 fun i _=>(zdr (n:=m.1) (part:=part) (i:Int) hrow).1
    have hs1:(z1k j fun c=>z7g g part (c:Int))≤j*(part.length*1024):=z3q fun i _=>(zdr (n:=m.1) (part:=part) (i:Int) hrow).2
    have hs2:(j:Int)*(part.length*1024)≤62*(62*1024):=Int.mul_le_mul (by omega) (by omega) (by omega) (by omega);rw [e,cond_true,z0k (z3n hjt),z0s hjt];simp only [Option.bind_some,z4j];rw [z09 (by omega) (by omega),z09 (by omega) (by omega)];exact hw2 _ rfl
   ·intro t w2 ht;subst ht;simp only [zh1];have e:decide ((K:Int) < (K:Int))=false:=by simp
    rw [e,cond_false];simp only [zbo,hK]
  ·rw [zk5];refine z4y fun d hd=>?_
   simp [z7g]
 ·simp [hl]
def zqt (m:z1o) (g:List (List Int)) (k:Int):Bool:=z3r m && z5s g m.1 && decide (0≤k) && decide (k≤8)
theorem okP_rep:(n:Nat)->okP (List.replicate n (0:Int))=true:=by
 have key:∀ (n:Nat) (d:Int),0≤d->z41 d (List.replicate n (0:Int))=true:=by
  intro n
  induction n with
  | zero=>intro d _;rfl
  | succ n ih=>
   intro d hd;have e:decide ((0:Int)≤d)=true:=by simp [hd]
   simp only [List.replicate_succ,z41,e,Bool.and_true,Bool.true_and];simp only [Int.le_refl,decide_true,Bool.true_and];exact ih _ (by omega)
 exact fun n=>key n 0 (by omega)
theorem zxn (N:Nat) (hN:400 < N) (m:z1o) (g:List (List Int)) (k:Int):f33 N m g k=some (if zqt m g k then 0 else 1):=by
 unfold f33 zqt;rw [zxd N hN];simp only [Option.bind_some,zc9]
 cases hm:z3r m with
 | false=>simp
 | true=>
 have hmp:=zi1 hm;have h1:=hmp.secrets;have h2:=hmp.few;simp only [if_true,decide_true,Bool.not_true,cond_false,Bool.true_and];rw [z0k (by rw [show ((z3i:Nat):Int)=4294967296 from rfl];simp;omega),f50_eq N hN];have e1:len (List.replicate m.1.toNat (0:Int))=m.1:=by simp only [len,List.length_replicate];omega
 simp only [hm,e1,okP_rep,true_and,and_true]
 cases hg:z5s g m.1 with
 | false=>simp
 | true=>
  simp only [if_true,Option.bind_some,decide_true,Bool.not_true,cond_false,Bool.true_and];by_cases h3:k < 0
  ·have:¬ 0≤k:=by omega
   simp [h3,this]
  ·have h3':0≤k:=by omega
   by_cases h4:8 < k
   ·have:¬ k≤8:=by omega
    simp [h3,h3',h4,this]
   ·have h4':k≤8:=by omega
    simp [h3,h3',h4,h4']
theorem f15_eq (N:Nat) (hN:400 < N) (m:z1o) (g:List (List Int)) (k:Int):f15 N m g k=some (zqt m g k):=by
 unfold f15 zqt;rw [f28_eq N hN]
 cases hm:z3r m with
 | false=>simp
 | true=>
 simp only [Option.bind_some,cond_true,Bool.true_and];rw [f43_eq N hN hm]
 cases hg:z5s g m.1 with
 | false=>simp
 | true=>
  simp only [Option.bind_some,cond_true,Bool.true_and];cases decide (0≤k) <;> cases decide (k≤8) <;> rfl
abbrev z6m:=Int×(Int×(Int×Unit))
abbrev Key:=Int×(Int×Unit)
def cmpI (a b:Int):Int:=if a < b then -1 else if b < a then 1 else 0
theorem f75_eq (N:Nat) (a b:Int):f75 N a b=some (cmpI a b):=by
 unfold f75 cmpI;simp only [f92,Option.bind_some,decide_true,Bool.not_true,cond_false];by_cases h1:a < b
 ·simp [h1]
 ·by_cases h2:b < a
  ·simp [h1,h2]
  ·simp [h1,h2]
def ordI (x y:z6m):Int:=if cmpI y.2.1 x.2.1=0 then cmpI x.1 y.1 else cmpI y.2.1 x.2.1
theorem f74_eq (N:Nat) (hN:3≤N) (a b:Int):f74 N [a,b]=some (if a=0 then b else a):=by
 obtain ⟨k,rfl⟩:∃ k,N=k+3:=⟨N-3,by omega⟩;unfold f74;by_cases ha:a=0
 ·have w1:z0l 1=1:=z09 (by omega) (by omega);have w2:z0l 2=2:=z09 (by omega) (by omega);by_cases hb:b=0
  ·subst ha;subst hb;simp [iter,zje,idx,len,w1,w2]
  ·subst ha;simp [iter,zje,idx,len,hb,w1]
 ·simp [iter,zje,idx,len,ha]
theorem zxm (N:Nat) (hN:3≤N) (x y:z6m):f34 N x y=some (ordI x y):=by
 unfold f34 ordI;rw [f75_eq,f75_eq];simp only [Option.bind_some];rw [f74_eq N hN];rfl
def zcv (x y:z6m):Bool:=if x.2.1=y.2.1 then decide (x.1 < y.1) else decide (y.2.1 < x.2.1)
theorem zvx (x y:z6m):decide (0≤ordI x y) = !zcv x y:=by
 unfold ordI zcv cmpI;by_cases h1:x.2.1=y.2.1
 ·simp only [h1,Int.lt_irrefl,if_false,if_true];by_cases h2:x.1 < y.1
  ·simp [h2]
  ·by_cases h3:y.1 < x.1 <;> simp [h2,h3]
 ·by_cases h2:y.2.1 < x.2.1
  ·simp [h1,h2]
  ·have h3:x.2.1 < y.2.1:=by omega
   simp [h1,h2,h3]
def bad1 (t:List z6m) (i:Nat):Bool:=decide (0 < i) && !zcv (t.getD (i-1) (0,0,0,())) (t.getD i (0,0,0,()))
def ztr (t:List z6m):Bool:=(List.range (t.length-0)).all fun j=>!bad1 t (0+j)
theorem zrc {t:List z6m} (h:ztr t=true) {i:Nat} (hi:i+1 < t.length):zcv t[i] t[i+1]=true:=by
 have:=List.all_eq_true.1 h (i+1) (by simp;omega);have e1:t.getD i (0,0,0,())=t[i]:=by rw [List.getD_eq_getElem?_getD,List.getElem?_eq_getElem (by omega)];rfl
 have e2:t.getD (i+1) (0,0,0,())=t[i+1]:=by rw [List.getD_eq_getElem?_getD,List.getElem?_eq_getElem (by omega)];rfl
 simp only [bad1,Nat.zero_add,Nat.add_sub_cancel,e1,e2] at this;simpa using this
theorem zur {x y z:z6m} (h1:zcv x y=true) (h2:zcv y z=true):zcv x z=true:=by
 simp only [zcv] at h1 h2 ⊢;split at h1 <;> split at h2 <;> split <;> simp only [decide_eq_true_eq] at h1 h2 ⊢ <;> omega
theorem befB_ne {x y:z6m} (h:zcv x y=true):¬ (x.1=y.1∧x.2.1=y.2.1):=by
 rintro ⟨h1,h2⟩;simp [zcv,h1,h2] at h
theorem zrb {t:List z6m} (h:ztr t=true) {i:Nat}:∀ (d:Nat) (hd:i+(d+1) < t.length),zcv (t[i]'(by omega)) t[i+(d+1)]=true
 | 0,hd=>zrc h hd
 | d+1,hd=>zur (zrb h d (by omega)) (zrc h hd)
theorem zpi {R:Type} (N:Nat) (hN:5000 < N) (t:List z6m) (ht:t.length≤4096) (a1:List (List Int)) (b1 b2:Int) (o:z1o) (kret:Int->Option R) (kx:Unit->Option R) :
  iter (fun w=>zh5 N t a1 b1 b2 (len t) o w kret kx) N 0=if ztr t then kx () else kret 10:=by
 have:=zwq (F:=fun w=>zh5 N t a1 b1 b2 (len t) o w kret kx) 0 t.length (by omega) (fun i=>!bad1 t i) (kx ()) (kret 10) ?_ ?_ N (by omega)
 ·exact this
 ·intro k w _ hk;simp only [zh5];have e2:t.getD k (0,0,0,())=t[k]:=by rw [List.getD_eq_getElem?_getD,List.getElem?_eq_getElem hk];rfl
  rw [z1g hk,cond_true,z09 (n:=(k:Int)+1) (by omega) (by omega)];by_cases h0:k=0
  ·subst h0;simp [bad1]
  ·have e3:decide (0 < (k:Int))=true:=by simp;omega
   have e1:t.getD (k-1) (0,0,0,())=t[k-1]:=by rw [List.getD_eq_getElem?_getD,List.getElem?_eq_getElem (by omega)];rfl
   rw [e3,cond_true,zv4 (by omega) (by omega),z0s (k:=k-1) (by omega),z0s hk];simp only [Option.bind_some];rw [zxm N (by omega)];simp only [Option.bind_some,zvx,bad1,e1,e2];have e4:decide (0 < k)=true:=by simp;omega
   rw [e4];cases zcv t[k-1] t[k] <;> rfl
 ·intro w;simp only [zh5];rw [z11];rfl
theorem eqK (x y:Key):eqD (.pair (.int .i64) (.pair (.int .i64) .unit)) x y=decide (x=y):=by
 obtain ⟨a,b,u⟩:=x;obtain ⟨c,d,v⟩:=y;simp only [eqD,z47,Bool.and_true];rw [Bool.eq_iff_iff];simp
section
variable {α β:Type} [DecidableEq α]
def lk:List (α×β)->α->Option β
 | [],_=>none
 | (k,v) :: l,x=>if x=k then some v else lk l x
def pt:List (α×β)->α->β->List (α×β)
 | [],x,y=>[(x,y)]
 | (k,v) :: l,x,y=>if x=k then (k,y) :: l else (k,v) :: pt l x y
theorem zb6 {e:α->α->Bool} (he:∀ x y,e x y=decide (x=y)) (x:α):(l:List (α×β))->zah e l x=lk l x
 | []=>rfl
 | (k,v) :: l=>by
  simp only [zah,lk,he,zb6 he x l];by_cases h:x=k <;> simp [h]
theorem zkr {e:α->α->Bool} (he:∀ x y,e x y=decide (x=y)) (x:α) (y:β):(l:List (α×β))->zde e l x y=pt l x y
 | []=>rfl
 | (k,v) :: l=>by
  simp only [zde,pt,he,zkr he x y l];by_cases h:x=k <;> simp [h]
theorem zvv {x:α} {y:β}:{l:List (α×β)}->lk l x=none->pt l x y=l++[(x,y)]
 | [],_=>rfl
 | (k,v) :: l,h=>by
  simp only [lk] at h;split at h
  ·simp at h
  ·rename_i hne;simp only [pt,if_neg hne,List.cons_append,zvv h]
theorem zq3 {x:α}:{l:List (α×β)}->lk l x=none↔∀ p∈l,p.1≠x
 | []=>by simp [lk]
 | (k,v) :: l=>by
  simp only [lk];split
  ·rename_i h;subst h;simp
  ·rename_i h;rw [zq3];simp only [List.mem_cons,forall_eq_or_imp];constructor
   ·intro h2;exact ⟨fun e=>h e.symm,h2⟩
   ·intro h2;exact h2.2
theorem lk_mem {x:α} {y:β}:{l:List (α×β)}->lk l x=some y->(x,y)∈l
 | (k,v) :: l,h=>by
  simp only [lk] at h;split at h
  ·rename_i he;subst he;simp only [zI] at h;subst h;simp
  ·exact List.mem_cons_of_mem _ (lk_mem h)
end
def zu8 (t:List z6m):List (Key×Int):=t.map fun x=>((x.1,x.2.1,()),x.2.2.1)
def look (t:List z6m) (S l:Int):Option Int:=lk (zu8 t) (S,l,())
end Go.Kz
