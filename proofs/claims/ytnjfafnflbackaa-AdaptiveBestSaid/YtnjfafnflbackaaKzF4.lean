/-
  The layer adaptive: Worth, the code of the arguments, tables of bounds; plain laws.
-/
import Derived.Test.YtnjfafnflbackaaKzF3
set_option linter.unusedVariables false
set_option linter.unusedSimpArgs false
namespace Go.Kz
theorem f50_eq (N:Nat) (hN:400 < N) (m:z1i) (g:List (List Int)) (part:List Int) :
  f50 N m g part=some (if z41 m=true∧z5x g m.1=true∧len part=m.1∧okP part=true then (zm4 g part,0) else (0,1)):=by
 unfold f50;rw [zxk N hN];simp only [Option.bind_some,zc1]
 cases hm:z41 m with
 | false=>simp
 | true=>
 obtain ⟨m1,m2,m3,m4⟩:=z68.1 hm;simp only [if_true,decide_true,Bool.not_true,cond_false];rw [f79_eq N hN hm];simp only [Option.bind_some]
 cases hg:z5x g m.1 with
 | false=>simp
 | true=>
 simp only [Bool.not_true,cond_false,Option.bind_some];by_cases hl:len part=m.1
 ·have hpl:part.length≤62:=by simp only [len] at hl;omega
  simp only [hl,decide_true,Bool.not_true,cond_false,Option.bind_some];rw [zxj N _ (by omega) (by omega)];simp only [Option.bind_some]
  cases hok:okP part with
  | false=>simp
  | true=>
  simp only [Bool.not_true,cond_false];rw [f81_eq N _ (by omega) (by omega),hok];simp only [if_true,Option.bind_some,and_self];obtain ⟨t1,t2,t3⟩:=z2u hok;have hroom:((z3e:Nat):Int)=4294967296:=rfl;rw [z0h (by rw [hroom];simp;omega)];simp only [z5x,zA,decide_eq_true_eq] at hg;have hgl:g.length≤64:=by have:=hg.1.2;simp only [len] at this;omega
  have hrow:∀ row∈g,z92 m.1 row=true:=fun row hr=>List.all_eq_true.1 hg.2 row hr
  have hpm:part.length=m.1.toNat:=by simp only [len] at hl;omega
  generalize hK:(top 0 part).toNat=K;have hK62:K≤62:=by omega
  have hcls:∀ s (hs:s < part.length),∃ c:Nat,part[s]=(c:Int)∧c < K:=by
   intro s hs;have:=t3 _ (List.getElem_mem hs);exact ⟨part[s].toNat,by omega,by omega⟩
  refine z2h (fun i b=>b=zdq K fun c=>z7l (g.take i) part (c:Int)) g.length ?_ ?_ N (by omega) _ ?_
  ·intro i b w hi hb hw;subst hb;have hri:=hrow _ (List.getElem_mem hi);have hrt:∀ row∈g.take i,z92 m.1 row=true:=fun row hr=>hrow row (List.mem_of_mem_take hr)
   have hr1:=(zdv hri).1;have hrl:g[i].length=part.length:=by simp only [len] at hr1;omega
   have hbl:len (zdq K fun c=>z7l (g.take i) part (c:Int))=(K:Int):=by simp [len,z2v]
   simp only [zo5];rw [z17 hi,cond_true,z0s hi];simp only [Option.bind_some];rw [z0h (by rw [hroom,hbl];simp;omega),hbl];refine z2h (fun k o=>o=zdq K fun c=>zv2 g[i] part k (c:Int)) part.length ?_ ?_ N (by omega) _ ?_
   ·intro k o w2 hk ho hw2;subst ho;obtain ⟨c,hc,hcK⟩:=hcls k hk;have hct:c < (zdq K fun c=>zv2 g[i] part k (c:Int)).length:=by rw [z2v];exact hcK
    have hb:=zju hri part k (c:Int);have hgk:g[i].getD k 0=g[i][k]:=by rw [List.getD_eq_getElem?_getD,List.getElem?_eq_getElem (by omega)];rfl
    have hnum:=(zdv hri).2 k;rw [hgk] at hnum;simp only [zgu];rw [z17 hk,cond_true,z0s hk];simp only [Option.bind_some];rw [hc,z0h (z2m hct),z0s hct,z0s (l:=g[i]) (k:=k) (by omega)];simp only [Option.bind_some,z4l];rw [z0h (z2m hct),z07 (n:=(k:Int)+1) (by omega) (by omega),z07 (by omega) (by omega),z5i,zkb];refine hw2 _ (z58 fun d hd=>?_);have hpk:part.getD k 0=(c:Int):=by rw [List.getD_eq_getElem?_getD,List.getElem?_eq_getElem hk];exact hc
    simp only [zv2,z1r,hpk,hgk];by_cases hdc:d=c
    ·subst hdc;simp
    ·have:¬ ((c:Int)=(d:Int)):=by omega
     simp [hdc,this]
   ·intro o w2 ho;subst ho;simp only [zgu];rw [z0v,cond_false];have hsl:len (zdq K fun c=>zv2 g[i] part part.length (c:Int))=(K:Int):=by simp [len,z2v]
    rw [hsl];refine z2h (fun j o=>o=zdq K fun c=>if c < j then max (z7l (g.take i) part (c:Int)) (zv2 g[i] part part.length (c:Int)) else z7l (g.take i) part (c:Int)) K ?_ ?_ N (by omega) _ ?_
    ·intro j o w3 hj ho hw3;subst ho;simp only [zgt];have e:decide ((j:Int) < (K:Int))=true:=by simp;omega
     have hjt:j < (zdq K fun c=>zv2 g[i] part part.length (c:Int)).length:=by rw [z2v];exact hj
     have hjo:j < (zdq K fun c=>if c < j then max (z7l (g.take i) part (c:Int)) (zv2 g[i] part part.length (c:Int)) else z7l (g.take i) part (c:Int)).length:=by rw [z2v];exact hj
     rw [e,cond_true,z0h (z2m hjt),z0s hjt];simp only [Option.bind_some];rw [z0h (z2m hjo),z0s hjo];simp only [Option.bind_some];rw [z0h (z2m hjo),z07 (by omega) (by omega),z5i,zkb,z4l,z4l,zd6];refine hw3 _ (z58 fun d hd=>?_);by_cases hdj:d=j
     ·subst hdj;simp
     ·by_cases h1:d < j
      ·have h2:d < j+1:=by omega
       simp [hdj,h1,h2]
      ·have h2:¬ d < j+1:=by omega
       simp [hdj,h1,h2]
    ·intro o w3 ho;subst ho;simp only [zgt];have e:decide ((K:Int) < (K:Int))=false:=by simp
     rw [e,cond_false,z07 (by omega) (by omega)];refine hw _ ?_;rw [z1h hi];refine z58 fun d hd=>?_
     rw [zp7,if_pos hd]
    ·refine z58 fun d hd=>?_
     simp
   ·rw [Int.toNat_natCast,zkc];refine z58 fun d hd=>?_
    rfl
  ·intro b w hb;subst hb;simp only [zo5];rw [z0v,cond_false,List.take_length];have hbl:len (zdq K fun c=>z7l g part (c:Int))=(K:Int):=by simp [len,z2v]
   rw [hbl];refine z2h (fun j t=>t=z1r j fun c=>z7l g part (c:Int)) K ?_ ?_ N (by omega) _ rfl
   ·intro j t w2 hj ht hw2;subst ht;simp only [zgs];have e:decide ((j:Int) < (K:Int))=true:=by simp;omega
    have hjt:j < (zdq K fun c=>z7l g part (c:Int)).length:=by rw [z2v];exact hj
    have hb0:=zdi (n:=m.1) (part:=part) (j:Int) hrow;have hs0:0≤z1r j fun c=>z7l g part (c:Int):=z4f fun i _=>(zdi (n:=m.1) (part:=part) (i:Int) hrow).1
    have hs1:(z1r j fun c=>z7l g part (c:Int))≤j*(part.length*1024):=z4c fun i _=>(zdi (n:=m.1) (part:=part) (i:Int) hrow).2
    have hs2:(j:Int)*(part.length*1024)≤62*(62*1024):=Int.mul_le_mul (by omega) (by omega) (by omega) (by omega);rw [e,cond_true,z0h (z2m hjt),z0s hjt];simp only [Option.bind_some,z4l];rw [z07 (by omega) (by omega),z07 (by omega) (by omega)];exact hw2 _ rfl
   ·intro t w2 ht;subst ht;simp only [zgs];have e:decide ((K:Int) < (K:Int))=false:=by simp
    rw [e,cond_false];simp only [zm4,hK]
  ·rw [zkc];refine z58 fun d hd=>?_
   simp [z7l]
 ·simp [hl]
def zr5 (m:z1i) (g:List (List Int)) (k:Int):Bool:=z41 m && z5x g m.1 && decide (0≤k) && decide (k≤8)
theorem okP_rep:(n:Nat)->okP (List.replicate n (0:Int))=true:=by
 have key:∀ (n:Nat) (d:Int),0≤d->z40 d (List.replicate n (0:Int))=true:=by
  intro n
  induction n with
  | zero=>intro d _;rfl
  | succ n ih=>
   intro d hd;have e:decide ((0:Int)≤d)=true:=by simp [hd]
   simp only [List.replicate_succ,z40,e,Bool.and_true,Bool.true_and];simp only [Int.le_refl,decide_true,Bool.true_and];exact ih _ (by omega)
 exact fun n=>key n 0 (by omega)
theorem zsx (N:Nat) (hN:400 < N) (m:z1i) (g:List (List Int)) (k:Int):f33 N m g k=some (if zr5 m g k then 0 else 1):=by
 unfold f33 zr5;rw [zxk N hN];simp only [Option.bind_some,zc1]
 cases hm:z41 m with
 | false=>simp
 | true=>
 have hmp:=zhx hm;have h1:=hmp.secrets;have h2:=hmp.few;simp only [if_true,decide_true,Bool.not_true,cond_false,Bool.true_and];rw [z0h (by rw [show ((z3e:Nat):Int)=4294967296 from rfl];simp;omega),f50_eq N hN];have e1:len (List.replicate m.1.toNat (0:Int))=m.1:=by simp only [len,List.length_replicate];omega
 simp only [hm,e1,okP_rep,true_and,and_true]
 cases hg:z5x g m.1 with
 | false=>simp
 | true=>
  simp only [if_true,Option.bind_some,decide_true,Bool.not_true,cond_false,Bool.true_and];by_cases h3:k < 0
  ·have:¬ 0≤k:=by omega
   simp [h3,this]
  ·have h3':0≤k:=by omega
   by_cases h4:8 < k
   ·have:¬ k≤8:=by omega
    simp [h3,h3',h4,this]
   ·have h4':k≤8:=by omega
    simp [h3,h3',h4,h4']
theorem f15_eq (N:Nat) (hN:400 < N) (m:z1i) (g:List (List Int)) (k:Int):f15 N m g k=some (zr5 m g k):=by
 unfold f15 zr5;rw [f28_eq N hN]
 cases hm:z41 m with
 | false=>simp
 | true=>
 simp only [Option.bind_some,cond_true,Bool.true_and];rw [f43_eq N hN hm]
 cases hg:z5x g m.1 with
 | false=>simp
 | true=>
  simp only [Option.bind_some,cond_true,Bool.true_and];cases decide (0≤k) <;> cases decide (k≤8) <;> rfl
abbrev z56:=Int×(Int×(Int×Unit))
abbrev Key:=Int×(Int×Unit)
def cmpI (a b:Int):Int:=if a < b then -1 else if b < a then 1 else 0
theorem f75_eq (N:Nat) (a b:Int):f75 N a b=some (cmpI a b):=by
 unfold f75 cmpI;simp only [f92,Option.bind_some,decide_true,Bool.not_true,cond_false];by_cases h1:a < b
 ·simp [h1]
 ·by_cases h2:b < a
  ·simp [h1,h2]
  ·simp [h1,h2]
def ordI (x y:z56):Int:=if cmpI y.2.1 x.2.1=0 then cmpI x.1 y.1 else cmpI y.2.1 x.2.1
theorem f74_eq (N:Nat) (hN:3≤N) (a b:Int):f74 N [a,b]=some (if a=0 then b else a):=by
 obtain ⟨k,rfl⟩:∃ k,N=k+3:=⟨N-3,by omega⟩;unfold f74;by_cases ha:a=0
 ·have w1:z0l 1=1:=z07 (by omega) (by omega);have w2:z0l 2=2:=z07 (by omega) (by omega);by_cases hb:b=0
  ·subst ha;subst hb;simp [iter,zjh,idx,len,w1,w2]
  ·subst ha;simp [iter,zjh,idx,len,hb,w1]
 ·simp [iter,zjh,idx,len,ha]
theorem zxu (N:Nat) (hN:3≤N) (x y:z56):f34 N x y=some (ordI x y):=by
 unfold f34 ordI;rw [f75_eq,f75_eq];simp only [Option.bind_some];rw [f74_eq N hN];rfl
def z9m (x y:z56):Bool:=if x.2.1=y.2.1 then decide (x.1 < y.1) else decide (y.2.1 < x.2.1)
theorem zvz (x y:z56):decide (0≤ordI x y) = !z9m x y:=by
 unfold ordI z9m cmpI;by_cases h1:x.2.1=y.2.1
 ·simp only [h1,Int.lt_irrefl,if_false,if_true];by_cases h2:x.1 < y.1
  ·simp [h2]
  ·by_cases h3:y.1 < x.1 <;> simp [h2,h3]
 ·by_cases h2:y.2.1 < x.2.1
  ·simp [h1,h2]
  ·have h3:x.2.1 < y.2.1:=by omega
   simp [h1,h2,h3]
def bad1 (t:List z56) (i:Nat):Bool:=decide (0 < i) && !z9m (t.getD (i-1) (0,0,0,())) (t.getD i (0,0,0,()))
def ztv (t:List z56):Bool:=(List.range (t.length-0)).all fun j=>!bad1 t (0+j)
theorem zrk {t:List z56} (h:ztv t=true) {i:Nat} (hi:i+1 < t.length):z9m t[i] t[i+1]=true:=by
 have:=List.all_eq_true.1 h (i+1) (by simp;omega);have e1:t.getD i (0,0,0,())=t[i]:=by rw [List.getD_eq_getElem?_getD,List.getElem?_eq_getElem (by omega)];rfl
 have e2:t.getD (i+1) (0,0,0,())=t[i+1]:=by rw [List.getD_eq_getElem?_getD,List.getElem?_eq_getElem (by omega)];rfl
 simp only [bad1,Nat.zero_add,Nat.add_sub_cancel,e1,e2] at this;simpa using this
theorem zuv {x y z:z56} (h1:z9m x y=true) (h2:z9m y z=true):z9m x z=true:=by
 simp only [z9m] at h1 h2 ⊢;split at h1 <;> split at h2 <;> split <;> simp only [decide_eq_true_eq] at h1 h2 ⊢ <;> omega
theorem befB_ne {x y:z56} (h:z9m x y=true):¬ (x.1=y.1∧x.2.1=y.2.1):=by
 rintro ⟨h1,h2⟩;simp [z9m,h1,h2] at h
theorem zrj {t:List z56} (h:ztv t=true) {i:Nat}:∀ (d:Nat) (hd:i+(d+1) < t.length),z9m (t[i]'(by omega)) t[i+(d+1)]=true
 | 0,hd=>zrk h hd
 | d+1,hd=>zuv (zrj h d (by omega)) (zrk h hd)
theorem zpy {R:Type} (N:Nat) (hN:5000 < N) (t:List z56) (ht:t.length≤4096) (a1:List (List Int)) (b1 b2:Int) (o:z1i) (kret:Int->Option R) (kx:Unit->Option R) :
  iter (fun w=>zgx N t a1 b1 b2 (len t) o w kret kx) N 0=if ztv t then kx () else kret 10:=by
 have:=zww (F:=fun w=>zgx N t a1 b1 b2 (len t) o w kret kx) 0 t.length (by omega) (fun i=>!bad1 t i) (kx ()) (kret 10) ?_ ?_ N (by omega)
 ·exact this
 ·intro k w _ hk;simp only [zgx];have e2:t.getD k (0,0,0,())=t[k]:=by rw [List.getD_eq_getElem?_getD,List.getElem?_eq_getElem hk];rfl
  rw [z17 hk,cond_true,z07 (n:=(k:Int)+1) (by omega) (by omega)];by_cases h0:k=0
  ·subst h0;simp [bad1]
  ·have e3:decide (0 < (k:Int))=true:=by simp;omega
   have e1:t.getD (k-1) (0,0,0,())=t[k-1]:=by rw [List.getD_eq_getElem?_getD,List.getElem?_eq_getElem (by omega)];rfl
   rw [e3,cond_true,zv7 (by omega) (by omega),z0s (k:=k-1) (by omega),z0s hk];simp only [Option.bind_some];rw [zxu N (by omega)];simp only [Option.bind_some,zvz,bad1,e1,e2];have e4:decide (0 < k)=true:=by simp;omega
   rw [e4];cases z9m t[k-1] t[k] <;> rfl
 ·intro w;simp only [zgx];rw [z0v];rfl
theorem eqK (x y:Key):eqD (.pair (.int .i64) (.pair (.int .i64) .unit)) x y=decide (x=y):=by
 obtain ⟨a,b,u⟩:=x;obtain ⟨c,d,v⟩:=y;simp only [eqD,z42,Bool.and_true];rw [Bool.eq_iff_iff];simp
section
variable {α β:Type} [DecidableEq α]
def lk:List (α×β)->α->Option β
 | [],_=>none
 | (k,v) :: l,x=>if x=k then some v else lk l x
def pt:List (α×β)->α->β->List (α×β)
 | [],x,y=>[(x,y)]
 | (k,v) :: l,x,y=>if x=k then (k,y) :: l else (k,v) :: pt l x y
theorem z99 {e:α->α->Bool} (he:∀ x y,e x y=decide (x=y)) (x:α):(l:List (α×β))->z9a e l x=lk l x
 | []=>rfl
 | (k,v) :: l=>by
  simp only [z9a,lk,he,z99 he x l];by_cases h:x=k <;> simp [h]
theorem zfy {e:α->α->Bool} (he:∀ x y,e x y=decide (x=y)) (x:α) (y:β):(l:List (α×β))->zcp e l x y=pt l x y
 | []=>rfl
 | (k,v) :: l=>by
  simp only [zcp,pt,he,zfy he x y l];by_cases h:x=k <;> simp [h]
theorem lk_pt (x z:α) (y:β):(l:List (α×β))->lk (pt l x y) z=if z=x then some y else lk l z
 | []=>by simp [pt,lk]
 | (k,v) :: l=>by
  simp only [pt];by_cases h:x=k
  ·subst h;simp only [if_true,lk];by_cases h2:z=x <;> simp [h2]
  ·simp only [if_neg h,lk,lk_pt x z y l];by_cases h2:z=k
   ·subst h2;have:¬ z=x:=fun e=>h e.symm
    simp [this]
   ·simp [h2]
theorem zvv {x:α} {y:β}:{l:List (α×β)}->lk l x=none->pt l x y=l++[(x,y)]
 | [],_=>rfl
 | (k,v) :: l,h=>by
  simp only [lk] at h;split at h
  ·simp at h
  ·rename_i hne;simp only [pt,if_neg hne,List.cons_append,zvv h]
theorem zqi {x:α}:{l:List (α×β)}->lk l x=none↔∀ p∈l,p.1≠x
 | []=>by simp [lk]
 | (k,v) :: l=>by
  simp only [lk];split
  ·rename_i h;subst h;simp
  ·rename_i h;rw [zqi];simp only [List.mem_cons,forall_eq_or_imp];constructor
   ·intro h2;exact ⟨fun e=>h e.symm,h2⟩
   ·intro h2;exact h2.2
theorem lk_mem {x:α} {y:β}:{l:List (α×β)}->lk l x=some y->(x,y)∈l
 | (k,v) :: l,h=>by
  simp only [lk] at h;split at h
  ·rename_i he;subst he;simp only [zI] at h;subst h;simp
  ·exact List.mem_cons_of_mem _ (lk_mem h)
end
def zud (t:List z56):List (Key×Int):=t.map fun x=>((x.1,x.2.1,()),x.2.2.1)
def look (t:List z56) (S l:Int):Option Int:=lk (zud t) (S,l,())
end Go.Kz
