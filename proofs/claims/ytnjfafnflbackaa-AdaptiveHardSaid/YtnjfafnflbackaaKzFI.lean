/-
  The layer adaptive: worth of partitions; Best's result; plain laws.
-/
import Derived.Test.YtnjfafnflbackaaKzFH
set_option linter.unusedVariables false
set_option linter.unusedSimpArgs false
namespace Go.Kz
theorem zys {n:Nat} {p:List Int} (hp:View n p) (row:List Int) (c:Nat):zvt row p p.length (c:Int)=zm6 row n (part p (z7e n) c).testBit:=by
 rw [hp.len];refine z1g fun s hs=>?_
 rw [z4m hp _ c hs,allS_bit];have h0:=zej hp hs;by_cases h:p.getD s 0=(c:Int)
 ·have:(p.getD s 0).toNat=c:=by omega
  rw [if_pos h,decide_eq_true hs,decide_eq_true this];rfl
 ·have:¬ (p.getD s 0).toNat=c:=by omega
  rw [if_neg h,decide_eq_false this,Bool.and_false];rfl
theorem zud (g:List (List Int)) {n:Nat} {p:List Int} (hp:View n p):zme g p=zfs p (z7e n) fun y=>z2e g n y.testBit:=by
 refine z1g fun c _=>?_
 have:z7c g p (c:Int)=z2e g n (part p (z7e n) c).testBit:=by
  simp only [z7c,z2e,zys hp]
 rw [this];split
 ·rename_i h;rw [h];exact za5 g (by simp)
 ·rfl
theorem WW_cls (g:List (List Int)) {n:Nat} {p:List Int} (hp:View n p) (S:Nat):WW g n S.testBit (fun s=>p.getD s 0)=zfs p S fun y=>z2e g n y.testBit:=by
 rw [zm3 g hp S _ (fun r s _ _ _ _ h=>h)];refine zil fun c _ _=>zm1 g fun r s hr hs h1 h2=>?_
 rw [z4m hp S c hr,zA,decide_eq_true_eq] at h1;rw [z4m hp S c hs,zA,decide_eq_true_eq] at h2;have:=zej hp hr;have:=zej hp hs;omega
theorem zvx (g:List (List Int)) {n:Nat} {p:List Int} (hp:View n p):zme g p=WW g n (z7e n).testBit (fun s=>p.getD s 0):=by rw [zud g hp,WW_cls g hp]
theorem zsm {α:Type} [DecidableEq α] {n:Nat} {l:List α} (h:l.length=n):View n (ofL l):=⟨by rw [z5o,h],zl4 l⟩
theorem zso {α:Type} [DecidableEq α] {l:List α} {i j:Nat} (hi:i < l.length) (hj:j < l.length):(ofL l).getD i 0=(ofL l).getD j 0↔l[i]=l[j]:=by
 have:=zsn hi hj;rw [List.getD_eq_getElem?_getD,List.getD_eq_getElem?_getD,List.getElem?_eq_getElem (by rw [z5o];exact hi),List.getElem?_eq_getElem (by rw [z5o];exact hj)];exact this
theorem z58 {m:z1n} {n:Nat} (hm:MenuP m n) (qs:List Int):View n (z1i m qs):=zsm (by simp [hm.secrets])
theorem zgq {m:z1n} {n:Nat} (hm:MenuP m n) (qs:List Int) {r s:Nat} (hr:r < n) (hs:s < n):(z1i m qs).getD r 0=(z1i m qs).getD s 0↔zle m qs r=zle m qs s:=by
 have hn:m.1.toNat=n:=by rw [hm.secrets];rfl
 have:=zso (l:=(List.range m.1.toNat).map fun x=>zle m qs x) (i:=r) (j:=s) (by simp;omega) (by simp;omega);simp only [List.getElem_map,List.getElem_range] at this;exact this
theorem keyQ_ans (m:z1n) (qs:List Int):zle m qs=zz5 (qs.map fun q=>z4i m q):=by
 funext s;simp [zle,zz5]
def zq3 (m:z1n) (g:List (List Int)) (n:Nat) (qs:List Int):Int:=WW g n (z7e n).testBit (zz5 (qs.map fun q=>z4i m q))
theorem zq5 {m:z1n} {n:Nat} (hm:MenuP m n) (g:List (List Int)) (qs:List Int):zme g (z1i m qs)=zq3 m g n qs:=by
 rw [zvx g (z58 hm qs)];refine zm2 g (fun _ _=>rfl) fun r s hr hs _ _=>?_
 rw [zgq hm qs hr hs,keyQ_ans]
def zyp (n S:Nat):Int:=zm6 (List.replicate n 1) n S.testBit
theorem zhn (n S:Nat):0≤zyp n S:=z4e fun i hi=>by
 split
 ·rw [List.getD_eq_getElem?_getD,List.getElem?_replicate,if_pos hi];decide
 ·omega
theorem cntS_pos {n S:Nat} (hS:S < 2 ^ n) (h0:S≠0):1≤zyp n S:=by
 obtain ⟨s,hs,hb⟩:=zkn hS h0;have h1:=z7h (n:=n) (f:=fun i=>if i=s then 1 else 0) (g:=fun i=>if S.testBit i then (List.replicate n (1:Int)).getD i 0 else 0) (fun i hi=>by
  by_cases h:i=s
  ·subst h;rw [if_pos rfl,hb,if_pos rfl,List.getD_eq_getElem?_getD,List.getElem?_replicate,if_pos hi];decide
  ·rw [if_neg h];split
   ·rw [List.getD_eq_getElem?_getD,List.getElem?_replicate,if_pos hi];decide
   ·exact Int.le_refl _)
 rw [zml 1 hs] at h1;exact h1
theorem cntS_le (n S:Nat):zyp n S≤n:=by
 have:=z4a (n:=n) (f:=fun s=>if S.testBit s then (List.replicate n (1:Int)).getD s 0 else 0) (b:=1) (fun i hi=>by
  split
  ·rw [List.getD_eq_getElem?_getD,List.getElem?_replicate,if_pos hi];decide
  ·omega)
 simp only [zyp,zm6];omega
theorem zn9 (vs g:List (List Int)) (n l:Nat) (f:Nat->Nat->List z1j) (v:List Int) (S base:Nat) (acc:List Int×List z1j) (c:Nat) :
  (z3d vs g n l f v S base acc c).2.length=if zmq vs g n l (part v S c)=true then acc.2.length else acc.2.length+(f (part v S c) (base+1+acc.2.length)).length:=by
 unfold z3d;split <;> simp
theorem zna {m:z1n} {n:Nat} (hm:MenuP m n) (g:List (List Int)):(l S base:Nat)->S < 2 ^ n->S≠0->((z6a m.2.1 g n l S base).length:Int)≤l*zyp n S
 | 0,S,base,_,_=>by simp [z6a]
 | l+1,S,base,hS,h0=>by
  have h1:=cntS_pos hS h0;simp only [z6a,List.length_cons];by_cases hq:qOf m.2.1 g n l S < m.2.1.length
  ·obtain ⟨e1,hv⟩:=hm.at hq;have hqv:m.2.1.getD (qOf m.2.1 g n l S) []=z0b m (qOf m.2.1 g n l S):=rfl;rw [hqv];generalize z0b m (qOf m.2.1 g n l S)=v at hv;have key:∀ k,k≤z37 v->((((List.range k).foldl (z3d m.2.1 g n l (z6a m.2.1 g n l) v S base) ([],[])).2.length:Nat):Int)≤z1w k fun c=>l*zyp n (part v S c):=by
    intro k
    induction k with
    | zero=>intro _;simp [z1w]
    | succ k ih=>
     intro hk;have ih:=ih (by omega);rw [List.range_succ,List.foldl_append];simp only [List.foldl_cons,List.foldl_nil,z1w];have hc:=zhn n (part v S k);have hm0:(0:Int)≤l*zyp n (part v S k):=Int.mul_nonneg (by omega) hc;rw [zn9];split
     ·omega
     ·rename_i hst;have hst':part v S k≠0:=by
       intro e;exact hst (by simp [zmq,e])
      have:=zna hm g l (part v S k) (base+1+((List.range k).foldl (z3d m.2.1 g n l (z6a m.2.1 g n l) v S base) ([],[])).2.length) (zsg hv S k) hst';push_cast;omega
   have hk:=key (z37 v) (Nat.le_refl _);have hsum:(z1w (z37 v) fun c=>(l:Int)*zyp n (part v S c))=l*zyp n S:=by
    have hmul:∀ (k:Nat) (f:Nat->Int),z1w k (fun c=>(l:Int)*f c)=l*z1w k f:=by
     intro k f
     induction k with
     | zero=>simp [z1w]
     | succ k ih=>simp only [z1w,ih,Int.mul_add]
    rw [hmul];congr 1;exact (zim hv S _).symm
   rw [hsum] at hk;push_cast;rw [Int.add_mul,Int.one_mul];omega
  ·have hqv:m.2.1.getD (qOf m.2.1 g n l S) []=[]:=by
    rw [List.getD_eq_getElem?_getD,List.getElem?_eq_none (by omega)];rfl
   rw [hqv];have ht:z37 []=0:=rfl;rw [ht];simp only [List.range_zero,List.foldl_nil,List.length_nil];push_cast;rw [Int.add_mul,Int.one_mul];have:(0:Int)≤l*zyp n S:=Int.mul_nonneg (by omega) (by omega);omega
theorem plan_few {m:z1n} {n:Nat} (hm:MenuP m n) (hn8:n≤8) (g:List (List Int)) {l:Nat} (hl:l≤8) (S base:Nat) (hS:S < 2 ^ n) (h0:S≠0):(z6a m.2.1 g n l S base).length≤64:=by
 have h1:=zna hm g l S base hS h0;have h2:=cntS_le n S;have h3:=zhn n S;have h4:(l:Int)*zyp n S≤8*8:=Int.mul_le_mul (by omega) (by omega) (by omega) (by omega);omega
def bellK (m:z1n) (g:List (List Int)) (n:Nat) (p:Key):z6k:=(p.1,p.2.1,WK m g n p,())
def bestS (m:z1n) (g:List (List Int)) (n:Nat) (k:Int):List z1j:=
 if z2e g n (z7e n).testBit=VV m.2.1 g n k.toNat (z7e n) then [] else z6a m.2.1 g n k.toNat (z7e n) 0
theorem M1_bells (m:z1n) (g:List (List Int)) (n:Nat) (K:List Key):(M1 m g n K).map z5s=K.map (bellK m g n):=by
 simp only [M1,mkM,List.map_map];rfl
theorem zlz {m:z1n} {g:List (List Int)} {k:Int}:zz1 m g k=true↔z3g m=true∧z7u g m.1=true∧0≤k∧k≤8:=by
 simp [zz1,and_assoc]
theorem f20_ok (N:Nat) (hN:5000 < N) (hrep:RepOK N) {m:z1n} {g:List (List Int)} {k:Int} (ha:zz1 m g k=true) (hn8:m.1.toNat≤8) :
  ∃ K,f20 N m g k=some (VV m.2.1 g m.1.toNat k.toNat (z7e m.1.toNat),(bestS m g m.1.toNat k,(zqb (K.map (bellK m g m.1.toNat)),0)))∧Slv m g m.1.toNat K∧zb1 m.1.toNat k∈K∧∀ x,x∈K↔Rch m.2.1 (zb1 m.1.toNat k) x:=by
 obtain ⟨a1,a2,a3,a4⟩:=zlz.1 ha;have hm:=zeu a1;have hs:=hm.secrets;have hg:GainP g m.1.toNat:=gainP (by rw [←hs];exact a2);obtain ⟨K,h52,hsl,hroot,hK⟩:=f52_ok N hN (g:=g) hm hg hn8 a3 a4;refine ⟨K,?_,hsl,hroot,hK⟩;have h53:=f53_root N hN hsl hroot (fun x hx=>(hK x).1 hx);have h54:=zya N hN hsl hroot;have hlen:=zt0 hn8 hsl.nd hsl.keys;have hWr:WK m g m.1.toNat (zb1 m.1.toNat k)=VV m.2.1 g m.1.toNat k.toNat (z7e m.1.toNat):=by simp [WK,zb1]
 have hM1:ValB (M1 m g m.1.toNat K):=by
  intro key v hv;by_cases hk:key∈K
  ·rw [M1,zsx hk] at hv;simp only [if_true,zI] at hv;have:=zm4 hm.view hg.row hm.few key.2.1.toNat key.1.toNat;have:=zcw m.2.1 g m.1.toNat key.2.1.toNat key.1.toNat;simp only [WK] at hv;omega
  ·rw [M1,zgj hk] at hv;simp at hv
 have h56:=f56_eq N hN m g (M1 m g m.1.toNat K) (mkM_dist hsl.nd) hM1 (by rw [M1,zx6];omega);rw [M1_bells] at h56;unfold f20;rw [zyh N (by omega),ha];simp only [Option.bind_some,if_true,decide_true,Bool.not_true,cond_false];have e12:decide ((12:Int) < m.1)=false:=by simp;omega
 have hr:((((z7e m.1.toNat:Nat):Int)),(k,()))=zb1 m.1.toNat k:=rfl;rw [e12,cond_false,zou N hm];simp only [Option.bind_some];rw [hr,h52];simp only [Option.bind_some,back,Bool.not_true,cond_false];rw [h53];simp only [Option.bind_some,back];rw [h54];simp only [Option.bind_some,back,hWr];have hra:(zb1 m.1.toNat k).1.toNat=z7e m.1.toNat:=by simp [zb1]
 rw [hra];by_cases hst:z2e g m.1.toNat (z7e m.1.toNat).testBit=VV m.2.1 g m.1.toNat k.toNat (z7e m.1.toNat)
 ·rw [decide_eq_true hst];simp only [Bool.not_true,cond_false];rw [h56];simp only [Option.bind_some,bestS,if_pos hst]
 ·rw [decide_eq_false hst];simp only [Bool.not_false,cond_true];have hU:=rootU hm.pos a3 a4;have hk0:=z9b hU;rw [hra] at hk0;have hrk:(zb1 m.1.toNat k).2.1.toNat=k.toNat:=rfl;have h55:=f55_ok N hN hrep hsl hroot (by rw [hra,hWr];exact hst) (by
   have:=plan_few hm hn8 g (l:=k.toNat) (by omega) (z7e m.1.toNat) 0 hk0.2.1 hk0.2.2.1;rw [hra,hrk];omega)
  rw [hra,hrk] at h55;rw [h55];simp only [Option.bind_some,zvn];rw [h56];simp only [Option.bind_some,bestS,if_neg hst]
end Go.Kz
