/-
  The layer adaptive: worth of partitions; Best's result; plain laws.
-/
import Derived.Test.YtnjfafnflbackaaKzFH
set_option linter.unusedVariables false
set_option linter.unusedSimpArgs false
namespace Go.Kz
theorem zxn {n:Nat} {p:List Int} (hp:View n p) (row:List Int) (c:Nat):zuo row p p.length (c:Int)=zhp row n (part p (z6z n) c).testBit:=by
 rw [hp.len];refine z1d fun s hs=>?_
 rw [z5f hp _ c hs,zsw];have h0:=zof hp hs;by_cases h:p.getD s 0=(c:Int)
 ·have:(p.getD s 0).toNat=c:=by omega
  rw [if_pos h,decide_eq_true hs,decide_eq_true this];rfl
 ·have:¬ (p.getD s 0).toNat=c:=by omega
  rw [if_neg h,decide_eq_false this,Bool.and_false];rfl
theorem zi4 (g:List (List Int)) {n:Nat} {p:List Int} (hp:View n p):zfb g p=zfk p (z6z n) fun y=>z1v g n y.testBit:=by
 refine z1d fun c _=>?_
 have:z7e g p (c:Int)=z1v g n (part p (z6z n) c).testBit:=by
  simp only [z7e,z1v,zxn hp]
 rw [this];split
 ·rename_i h;rw [h];exact z7p g (by simp)
 ·rfl
theorem WW_cls (g:List (List Int)) {n:Nat} {p:List Int} (hp:View n p) (S:Nat):WW g n S.testBit (fun s=>p.getD s 0)=zfk p S fun y=>z1v g n y.testBit:=by
 rw [zlc g hp S _ (fun r s _ _ _ _ h=>h)];refine zic fun c _ _=>zla g fun r s hr hs h1 h2=>?_
 rw [z5f hp S c hr,zA,decide_eq_true_eq] at h1;rw [z5f hp S c hs,zA,decide_eq_true_eq] at h2;have:=zof hp hr;have:=zof hp hs;omega
theorem zut (g:List (List Int)) {n:Nat} {p:List Int} (hp:View n p):zfb g p=WW g n (z6z n).testBit (fun s=>p.getD s 0):=by rw [zi4 g hp,WW_cls g hp]
theorem zzm {α:Type} [DecidableEq α] {n:Nat} {l:List α} (h:l.length=n):View n (ofL l):=⟨by rw [z5o,h],zkh l⟩
theorem zzn {α:Type} [DecidableEq α] {l:List α} {i j:Nat} (hi:i < l.length) (hj:j < l.length):(ofL l).getD i 0=(ofL l).getD j 0↔l[i]=l[j]:=by
 have:=zrj hi hj;rw [List.getD_eq_getElem?_getD,List.getD_eq_getElem?_getD,List.getElem?_eq_getElem (by rw [z5o];exact hi),List.getElem?_eq_getElem (by rw [z5o];exact hj)];exact this
theorem z54 {m:z1w} {n:Nat} (hm:MenuP m n) (qs:List Int):View n (z1i m qs):=zzm (by simp [hm.secrets])
theorem zgf {m:z1w} {n:Nat} (hm:MenuP m n) (qs:List Int) {r s:Nat} (hr:r < n) (hs:s < n):(z1i m qs).getD r 0=(z1i m qs).getD s 0↔zkq m qs r=zkq m qs s:=by
 have hn:m.1.toNat=n:=by rw [hm.secrets];rfl
 have:=zzn (l:=(List.range m.1.toNat).map fun x=>zkq m qs x) (i:=r) (j:=s) (by simp;omega) (by simp;omega);simp only [List.getElem_map,List.getElem_range] at this;exact this
theorem keyQ_ans (m:z1w) (qs:List Int):zkq m qs=zup (qs.map fun q=>z49 m q):=by
 funext s;simp [zkq,zup]
def za9 (m:z1w) (g:List (List Int)) (n:Nat) (qs:List Int):Int:=WW g n (z6z n).testBit (zup (qs.map fun q=>z49 m q))
theorem zf9 {m:z1w} {n:Nat} (hm:MenuP m n) (g:List (List Int)) (qs:List Int):zfb g (z1i m qs)=za9 m g n qs:=by
 rw [zut g (z54 hm qs)];refine zlb g (fun _ _=>rfl) fun r s hr hs _ _=>?_
 rw [zgf hm qs hr hs,keyQ_ans]
def zxm (n S:Nat):Int:=zhp (List.replicate n 1) n S.testBit
theorem zh8 (n S:Nat):0≤zxm n S:=z34 fun i hi=>by
 split
 ·rw [List.getD_eq_getElem?_getD,List.getElem?_replicate,if_pos hi];decide
 ·omega
theorem cntS_pos {n S:Nat} (hS:S < 2 ^ n) (h0:S≠0):1≤zxm n S:=by
 obtain ⟨s,hs,hb⟩:=zyr hS h0;have h1:=z7i (n:=n) (f:=fun i=>if i=s then 1 else 0) (g:=fun i=>if S.testBit i then (List.replicate n (1:Int)).getD i 0 else 0) (fun i hi=>by
  by_cases h:i=s
  ·subst h;rw [if_pos rfl,hb,if_pos rfl,List.getD_eq_getElem?_getD,List.getElem?_replicate,if_pos hi];decide
  ·rw [if_neg h];split
   ·rw [List.getD_eq_getElem?_getD,List.getElem?_replicate,if_pos hi];decide
   ·exact Int.le_refl _)
 rw [zlq 1 hs] at h1;exact h1
theorem cntS_le (n S:Nat):zxm n S≤n:=by
 have:=z3o (n:=n) (f:=fun s=>if S.testBit s then (List.replicate n (1:Int)).getD s 0 else 0) (b:=1) (fun i hi=>by
  split
  ·rw [List.getD_eq_getElem?_getD,List.getElem?_replicate,if_pos hi];decide
  ·omega)
 simp only [zxm,zhp];omega
theorem zmd (vs g:List (List Int)) (n l:Nat) (f:Nat->Nat->List z2u) (v:List Int) (S base:Nat) (acc:List Int×List z2u) (c:Nat) :
  (z38 vs g n l f v S base acc c).2.length=if zlu vs g n l (part v S c)=true then acc.2.length else acc.2.length+(f (part v S c) (base+1+acc.2.length)).length:=by
 unfold z38;split <;> simp
theorem zme {m:z1w} {n:Nat} (hm:MenuP m n) (g:List (List Int)):(l S base:Nat)->S < 2 ^ n->S≠0->((z6a m.2.1 g n l S base).length:Int)≤l*zxm n S
 | 0,S,base,_,_=>by simp [z6a]
 | l+1,S,base,hS,h0=>by
  have h1:=cntS_pos hS h0;simp only [z6a,List.length_cons];by_cases hq:qOf m.2.1 g n l S < m.2.1.length
  ·obtain ⟨e1,hv⟩:=hm.at hq;have hqv:m.2.1.getD (qOf m.2.1 g n l S) []=z0d m (qOf m.2.1 g n l S):=rfl;rw [hqv];generalize z0d m (qOf m.2.1 g n l S)=v at hv;have key:∀ k,k≤z3c v->((((List.range k).foldl (z38 m.2.1 g n l (z6a m.2.1 g n l) v S base) ([],[])).2.length:Nat):Int)≤z1k k fun c=>l*zxm n (part v S c):=by
    intro k
    induction k with
    | zero=>intro _;simp [z1k]
    | succ k ih=>
     intro hk;have ih:=ih (by omega);rw [List.range_succ,List.foldl_append];simp only [List.foldl_cons,List.foldl_nil,z1k];have hc:=zh8 n (part v S k);have hm0:(0:Int)≤l*zxm n (part v S k):=Int.mul_nonneg (by omega) hc;rw [zmd];split
     ·omega
     ·rename_i hst;have hst':part v S k≠0:=by
       intro e;exact hst (by simp [zlu,e])
      have:=zme hm g l (part v S k) (base+1+((List.range k).foldl (z38 m.2.1 g n l (z6a m.2.1 g n l) v S base) ([],[])).2.length) (zk8 hv S k) hst';push_cast;omega
   have hk:=key (z3c v) (Nat.le_refl _);have hsum:(z1k (z3c v) fun c=>(l:Int)*zxm n (part v S c))=l*zxm n S:=by
    have hmul:∀ (k:Nat) (f:Nat->Int),z1k k (fun c=>(l:Int)*f c)=l*z1k k f:=by
     intro k f
     induction k with
     | zero=>simp [z1k]
     | succ k ih=>simp only [z1k,ih,Int.mul_add]
    rw [hmul];congr 1;exact (zid hv S _).symm
   rw [hsum] at hk;push_cast;rw [Int.add_mul,Int.one_mul];omega
  ·have hqv:m.2.1.getD (qOf m.2.1 g n l S) []=[]:=by
    rw [List.getD_eq_getElem?_getD,List.getElem?_eq_none (by omega)];rfl
   rw [hqv];have ht:z3c []=0:=rfl;rw [ht];simp only [List.range_zero,List.foldl_nil,List.length_nil];push_cast;rw [Int.add_mul,Int.one_mul];have:(0:Int)≤l*zxm n S:=Int.mul_nonneg (by omega) (by omega);omega
theorem zz5 {m:z1w} {n:Nat} (hm:MenuP m n) (hn8:n≤8) (g:List (List Int)) {l:Nat} (hl:l≤8) (S base:Nat) (hS:S < 2 ^ n) (h0:S≠0):(z6a m.2.1 g n l S base).length≤64:=by
 have h1:=zme hm g l S base hS h0;have h2:=cntS_le n S;have h3:=zh8 n S;have h4:(l:Int)*zxm n S≤8*8:=Int.mul_le_mul (by omega) (by omega) (by omega) (by omega);omega
def bellK (m:z1w) (g:List (List Int)) (n:Nat) (p:Key):z6k:=(p.1,p.2.1,WK m g n p,())
def bestS (m:z1w) (g:List (List Int)) (n:Nat) (k:Int):List z2u:=
 if z1v g n (z6z n).testBit=VV m.2.1 g n k.toNat (z6z n) then [] else z6a m.2.1 g n k.toNat (z6z n) 0
theorem M1_bells (m:z1w) (g:List (List Int)) (n:Nat) (K:List Key):(M1 m g n K).map z5r=K.map (bellK m g n):=by
 simp only [M1,mkM,List.map_map];rfl
theorem zf3 {m:z1w} {g:List (List Int)} {k:Int}:zst m g k=true↔z3p m=true∧z5h g m.1=true∧0≤k∧k≤8:=by
 simp [zst,and_assoc]
theorem f20_ok (N:Nat) (hN:5000 < N) (hrep:RepOK N) {m:z1w} {g:List (List Int)} {k:Int} (ha:zst m g k=true) (hn8:m.1.toNat≤8) :
  ∃ K,f20 N m g k=some (VV m.2.1 g m.1.toNat k.toNat (z6z m.1.toNat),(bestS m g m.1.toNat k,(zpc (K.map (bellK m g m.1.toNat)),0)))∧Slv m g m.1.toNat K∧zau m.1.toNat k∈K∧∀ x,x∈K↔Rch m.2.1 (zau m.1.toNat k) x:=by
 obtain ⟨a1,a2,a3,a4⟩:=zf3.1 ha;have hm:=zhu a1;have hs:=hm.secrets;have hg:GainP g m.1.toNat:=gainP (by rw [←hs];exact a2);obtain ⟨K,h52,hsl,hroot,hK⟩:=f52_ok N hN (g:=g) hm hg hn8 a3 a4;refine ⟨K,?_,hsl,hroot,hK⟩;have h53:=f53_root N hN hsl hroot (fun x hx=>(hK x).1 hx);have h54:=zx6 N hN hsl hroot;have hlen:=zrt hn8 hsl.nd hsl.keys;have hWr:WK m g m.1.toNat (zau m.1.toNat k)=VV m.2.1 g m.1.toNat k.toNat (z6z m.1.toNat):=by simp [WK,zau]
 have hM1:ValB (M1 m g m.1.toNat K):=by
  intro key v hv;by_cases hk:key∈K
  ·rw [M1,zrr hk] at hv;simp only [if_true,zI] at hv;have:=zld hm.view hg.row hm.few key.2.1.toNat key.1.toNat;have:=zcn m.2.1 g m.1.toNat key.2.1.toNat key.1.toNat;simp only [WK] at hv;omega
  ·rw [M1,zg9 hk] at hv;simp at hv
 have h56:=f56_eq N hN m g (M1 m g m.1.toNat K) (zzs hsl.nd) hM1 (by rw [M1,zw3];omega);rw [M1_bells] at h56;unfold f20;rw [zxe N (by omega),ha];simp only [Option.bind_some,if_true,decide_true,Bool.not_true,cond_false];have e12:decide ((12:Int) < m.1)=false:=by simp;omega
 have hr:((((z6z m.1.toNat:Nat):Int)),(k,()))=zau m.1.toNat k:=rfl;rw [e12,cond_false,zxc N hm];simp only [Option.bind_some];rw [hr,h52];simp only [Option.bind_some,back,Bool.not_true,cond_false];rw [h53];simp only [Option.bind_some,back];rw [h54];simp only [Option.bind_some,back,hWr];have hra:(zau m.1.toNat k).1.toNat=z6z m.1.toNat:=by simp [zau]
 rw [hra];by_cases hst:z1v g m.1.toNat (z6z m.1.toNat).testBit=VV m.2.1 g m.1.toNat k.toNat (z6z m.1.toNat)
 ·rw [decide_eq_true hst];simp only [Bool.not_true,cond_false];rw [h56];simp only [Option.bind_some,bestS,if_pos hst]
 ·rw [decide_eq_false hst];simp only [Bool.not_false,cond_true];have hU:=rootU hm.pos a3 a4;have hk0:=z98 hU;rw [hra] at hk0;have hrk:(zau m.1.toNat k).2.1.toNat=k.toNat:=rfl;have h55:=f55_ok N hN hrep hsl hroot (by rw [hra,hWr];exact hst) (by
   have:=zz5 hm hn8 g (l:=k.toNat) (by omega) (z6z m.1.toNat) 0 hk0.2.1 hk0.2.2.1;rw [hra,hrk];omega)
  rw [hra,hrk] at h55;rw [h55];simp only [Option.bind_some,zui];rw [h56];simp only [Option.bind_some,bestS,if_neg hst]
end Go.Kz
