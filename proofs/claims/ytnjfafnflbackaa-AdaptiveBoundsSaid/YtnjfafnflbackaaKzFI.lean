/-
  The layer adaptive: worth of partitions; Best's result; plain laws.
-/
import Derived.Test.YtnjfafnflbackaaKzFH
set_option linter.unusedVariables false
set_option linter.unusedSimpArgs false
namespace Go.Kz
theorem zxm {n:Nat} {p:List Int} (hp:View n p) (row:List Int) (c:Nat):zul row p p.length (c:Int)=zhn row n (part p (z6j n) c).testBit:=by
 rw [hp.len];refine z1a fun s hs=>?_
 rw [z4i hp _ c hs,zsy];have h0:=zh6 hp hs;by_cases h:p.getD s 0=(c:Int)
 ·have:(p.getD s 0).toNat=c:=by omega
  rw [if_pos h,decide_eq_true hs,decide_eq_true this];rfl
 ·have:¬ (p.getD s 0).toNat=c:=by omega
  rw [if_neg h,decide_eq_false this,Bool.and_false];rfl
theorem zi0 (g:List (List Int)) {n:Nat} {p:List Int} (hp:View n p):zdl g p=zej p (z6j n) fun y=>z1u g n y.testBit:=by
 refine z1a fun c _=>?_
 have:z7c g p (c:Int)=z1u g n (part p (z6j n) c).testBit:=by
  simp only [z7c,z1u,zxm hp]
 rw [this];split
 ·rename_i h;rw [h];exact z7o g (by simp)
 ·rfl
theorem WW_cls (g:List (List Int)) {n:Nat} {p:List Int} (hp:View n p) (S:Nat):WW g n S.testBit (fun s=>p.getD s 0)=zej p S fun y=>z1u g n y.testBit:=by
 rw [zf4 g hp S _ (fun r s _ _ _ _ h=>h)];refine zi8 fun c _ _=>zch g fun r s hr hs h1 h2=>?_
 rw [z4i hp S c hr,zA,decide_eq_true_eq] at h1;rw [z4i hp S c hs,zA,decide_eq_true_eq] at h2;have:=zh6 hp hr;have:=zh6 hp hs;omega
theorem zlo (g:List (List Int)) {n:Nat} {p:List Int} (hp:View n p):zdl g p=WW g n (z6j n).testBit (fun s=>p.getD s 0):=by rw [zi0 g hp,WW_cls g hp]
theorem zrn {α:Type} [DecidableEq α] {n:Nat} {l:List α} (h:l.length=n):View n (ofL l):=⟨by rw [z69,h],zpw l⟩
theorem zrp {α:Type} [DecidableEq α] {l:List α} {i j:Nat} (hi:i < l.length) (hj:j < l.length):(ofL l).getD i 0=(ofL l).getD j 0↔l[i]=l[j]:=by
 have:=zro hi hj;rw [List.getD_eq_getElem?_getD,List.getD_eq_getElem?_getD,List.getElem?_eq_getElem (by rw [z69];exact hi),List.getElem?_eq_getElem (by rw [z69];exact hj)];exact this
theorem zg8 {m:z1s} {n:Nat} (hm:MenuP m n) (qs:List Int):View n (z27 m qs):=zrn (by simp [hm.secrets])
theorem zq8 {m:z1s} {n:Nat} (hm:MenuP m n) (qs:List Int) {r s:Nat} (hr:r < n) (hs:s < n):(z27 m qs).getD r 0=(z27 m qs).getD s 0↔zq7 m qs r=zq7 m qs s:=by
 have hn:m.1.toNat=n:=by rw [hm.secrets];rfl
 have:=zrp (l:=(List.range m.1.toNat).map fun x=>zq7 m qs x) (i:=r) (j:=s) (by simp;omega) (by simp;omega);simp only [List.getElem_map,List.getElem_range] at this;exact this
theorem keyQ_ans (m:z1s) (qs:List Int):zq7 m qs=zxw (qs.map fun q=>z5b m q):=by
 funext s;simp [zq7,zxw]
def zpa (m:z1s) (g:List (List Int)) (n:Nat) (qs:List Int):Int:=WW g n (z6j n).testBit (zxw (qs.map fun q=>z5b m q))
theorem zpc {m:z1s} {n:Nat} (hm:MenuP m n) (g:List (List Int)) (qs:List Int):zdl g (z27 m qs)=zpa m g n qs:=by
 rw [zlo g (zg8 hm qs)];refine zci g (fun _ _=>rfl) fun r s hr hs _ _=>?_
 rw [zq8 hm qs hr hs,keyQ_ans]
def zxk (n S:Nat):Int:=zhn (List.replicate n 1) n S.testBit
theorem zh4 (n S:Nat):0≤zxk n S:=z3n fun i hi=>by
 split
 ·rw [List.getD_eq_getElem?_getD,List.getElem?_replicate,if_pos hi];decide
 ·omega
theorem cntS_pos {n S:Nat} (hS:S < 2 ^ n) (h0:S≠0):1≤zxk n S:=by
 obtain ⟨s,hs,hb⟩:=zyq hS h0;have h1:=z7g (n:=n) (f:=fun i=>if i=s then 1 else 0) (g:=fun i=>if S.testBit i then (List.replicate n (1:Int)).getD i 0 else 0) (fun i hi=>by
  by_cases h:i=s
  ·subst h;rw [if_pos rfl,hb,if_pos rfl,List.getD_eq_getElem?_getD,List.getElem?_replicate,if_pos hi];decide
  ·rw [if_neg h];split
   ·rw [List.getD_eq_getElem?_getD,List.getElem?_replicate,if_pos hi];decide
   ·exact Int.le_refl _)
 rw [zlu 1 hs] at h1;exact h1
theorem cntS_le (n S:Nat):zxk n S≤n:=by
 have:=z3o (n:=n) (f:=fun s=>if S.testBit s then (List.replicate n (1:Int)).getD s 0 else 0) (b:=1) (fun i hi=>by
  split
  ·rw [List.getD_eq_getElem?_getD,List.getElem?_replicate,if_pos hi];decide
  ·omega)
 simp only [zxk,zhn];omega
theorem zmi (vs g:List (List Int)) (n l:Nat) (f:Nat->Nat->List z1k) (v:List Int) (S base:Nat) (acc:List Int×List z1k) (c:Nat) :
  (z38 vs g n l f v S base acc c).2.length=if zlz vs g n l (part v S c)=true then acc.2.length else acc.2.length+(f (part v S c) (base+1+acc.2.length)).length:=by
 unfold z38;split <;> simp
theorem zmj {m:z1s} {n:Nat} (hm:MenuP m n) (g:List (List Int)):(l S base:Nat)->S < 2 ^ n->S≠0->((z68 m.2.1 g n l S base).length:Int)≤l*zxk n S
 | 0,S,base,_,_=>by simp [z68]
 | l+1,S,base,hS,h0=>by
  have h1:=cntS_pos hS h0;simp only [z68,List.length_cons];by_cases hq:qOf m.2.1 g n l S < m.2.1.length
  ·obtain ⟨e1,hv⟩:=hm.at hq;have hqv:m.2.1.getD (qOf m.2.1 g n l S) []=z0b m (qOf m.2.1 g n l S):=rfl;rw [hqv];generalize z0b m (qOf m.2.1 g n l S)=v at hv;have key:∀ k,k≤z2z v->((((List.range k).foldl (z38 m.2.1 g n l (z68 m.2.1 g n l) v S base) ([],[])).2.length:Nat):Int)≤z1i k fun c=>l*zxk n (part v S c):=by
    intro k
    induction k with
    | zero=>intro _;simp [z1i]
    | succ k ih=>
     intro hk;have ih:=ih (by omega);rw [List.range_succ,List.foldl_append];simp only [List.foldl_cons,List.foldl_nil,z1i];have hc:=zh4 n (part v S k);have hm0:(0:Int)≤l*zxk n (part v S k):=Int.mul_nonneg (by omega) hc;rw [zmi];split
     ·omega
     ·rename_i hst;have hst':part v S k≠0:=by
       intro e;exact hst (by simp [zlz,e])
      have:=zmj hm g l (part v S k) (base+1+((List.range k).foldl (z38 m.2.1 g n l (z68 m.2.1 g n l) v S base) ([],[])).2.length) (zel hv S k) hst';push_cast;omega
   have hk:=key (z2z v) (Nat.le_refl _);have hsum:(z1i (z2z v) fun c=>(l:Int)*zxk n (part v S c))=l*zxk n S:=by
    have hmul:∀ (k:Nat) (f:Nat->Int),z1i k (fun c=>(l:Int)*f c)=l*z1i k f:=by
     intro k f
     induction k with
     | zero=>simp [z1i]
     | succ k ih=>simp only [z1i,ih,Int.mul_add]
    rw [hmul];congr 1;exact (zi9 hv S _).symm
   rw [hsum] at hk;push_cast;rw [Int.add_mul,Int.one_mul];omega
  ·have hqv:m.2.1.getD (qOf m.2.1 g n l S) []=[]:=by
    rw [List.getD_eq_getElem?_getD,List.getElem?_eq_none (by omega)];rfl
   rw [hqv];have ht:z2z []=0:=rfl;rw [ht];simp only [List.range_zero,List.foldl_nil,List.length_nil];push_cast;rw [Int.add_mul,Int.one_mul];have:(0:Int)≤l*zxk n S:=Int.mul_nonneg (by omega) (by omega);omega
theorem zz4 {m:z1s} {n:Nat} (hm:MenuP m n) (hn8:n≤8) (g:List (List Int)) {l:Nat} (hl:l≤8) (S base:Nat) (hS:S < 2 ^ n) (h0:S≠0):(z68 m.2.1 g n l S base).length≤64:=by
 have h1:=zmj hm g l S base hS h0;have h2:=cntS_le n S;have h3:=zh4 n S;have h4:(l:Int)*zxk n S≤8*8:=Int.mul_le_mul (by omega) (by omega) (by omega) (by omega);omega
def bellK (m:z1s) (g:List (List Int)) (n:Nat) (p:Key):z5m:=(p.1,p.2.1,WK m g n p,())
def bestS (m:z1s) (g:List (List Int)) (n:Nat) (k:Int):List z1k:=
 if z1u g n (z6j n).testBit=VV m.2.1 g n k.toNat (z6j n) then [] else z68 m.2.1 g n k.toNat (z6j n) 0
theorem M1_bells (m:z1s) (g:List (List Int)) (n:Nat) (K:List Key):(M1 m g n K).map z5o=K.map (bellK m g n):=by
 simp only [M1,mkM,List.map_map];rfl
theorem zf0 {m:z1s} {g:List (List Int)} {k:Int}:zqq m g k=true↔z3y m=true∧z5n g m.1=true∧0≤k∧k≤8:=by
 simp [zqq,and_assoc]
theorem f20_ok (N:Nat) (hN:5000 < N) (hrep:RepOK N) {m:z1s} {g:List (List Int)} {k:Int} (ha:zqq m g k=true) (hn8:m.1.toNat≤8) :
  ∃ K,f20 N m g k=some (VV m.2.1 g m.1.toNat k.toNat (z6j m.1.toNat),(bestS m g m.1.toNat k,(zpi (K.map (bellK m g m.1.toNat)),0)))∧Slv m g m.1.toNat K∧zaq m.1.toNat k∈K∧∀ x,x∈K↔Rch m.2.1 (zaq m.1.toNat k) x:=by
 obtain ⟨a1,a2,a3,a4⟩:=zf0.1 ha;have hm:=zkt a1;have hs:=hm.secrets;have hg:GainP g m.1.toNat:=gainP (by rw [←hs];exact a2);obtain ⟨K,h52,hsl,hroot,hK⟩:=f52_ok N hN (g:=g) hm hg hn8 a3 a4;refine ⟨K,?_,hsl,hroot,hK⟩;have h53:=f53_root N hN hsl hroot (fun x hx=>(hK x).1 hx);have h54:=zx3 N hN hsl hroot;have hlen:=zs1 hn8 hsl.nd hsl.keys;have hWr:WK m g m.1.toNat (zaq m.1.toNat k)=VV m.2.1 g m.1.toNat k.toNat (z6j m.1.toNat):=by simp [WK,zaq]
 have hM1:ValB (M1 m g m.1.toNat K):=by
  intro key v hv;by_cases hk:key∈K
  ·rw [M1,zrz hk] at hv;simp only [if_true,zI] at hv;have:=zlg hm.view hg.row hm.few key.2.1.toNat key.1.toNat;have:=zcj m.2.1 g m.1.toNat key.2.1.toNat key.1.toNat;simp only [WK] at hv;omega
  ·rw [M1,zg3 hk] at hv;simp at hv
 have h56:=f56_eq N hN m g (M1 m g m.1.toNat K) (zzp hsl.nd) hM1 (by rw [M1,zw0];omega);rw [M1_bells] at h56;unfold f20;rw [zxb N (by omega),ha];simp only [Option.bind_some,if_true,decide_true,Bool.not_true,cond_false];have e12:decide ((12:Int) < m.1)=false:=by simp;omega
 have hr:((((z6j m.1.toNat:Nat):Int)),(k,()))=zaq m.1.toNat k:=rfl;rw [e12,cond_false,zx9 N hm];simp only [Option.bind_some];rw [hr,h52];simp only [Option.bind_some,back,Bool.not_true,cond_false];rw [h53];simp only [Option.bind_some,back];rw [h54];simp only [Option.bind_some,back,hWr];have hra:(zaq m.1.toNat k).1.toNat=z6j m.1.toNat:=by simp [zaq]
 rw [hra];by_cases hst:z1u g m.1.toNat (z6j m.1.toNat).testBit=VV m.2.1 g m.1.toNat k.toNat (z6j m.1.toNat)
 ·rw [decide_eq_true hst];simp only [Bool.not_true,cond_false];rw [h56];simp only [Option.bind_some,bestS,if_pos hst]
 ·rw [decide_eq_false hst];simp only [Bool.not_false,cond_true];have hU:=rootU hm.pos a3 a4;have hk0:=z95 hU;rw [hra] at hk0;have hrk:(zaq m.1.toNat k).2.1.toNat=k.toNat:=rfl;have h55:=f55_ok N hN hrep hsl hroot (by rw [hra,hWr];exact hst) (by
   have:=zz4 hm hn8 g (l:=k.toNat) (by omega) (z6j m.1.toNat) 0 hk0.2.1 hk0.2.2.1;rw [hra,hrk];omega)
  rw [hra,hrk] at h55;rw [h55];simp only [Option.bind_some,zuf];rw [h56];simp only [Option.bind_some,bestS,if_neg hst]
end Go.Kz
