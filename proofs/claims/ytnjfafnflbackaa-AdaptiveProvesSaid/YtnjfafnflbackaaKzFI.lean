/-
  The layer adaptive: worth of partitions; Best's result; plain laws.
-/
import Derived.Test.YtnjfafnflbackaaKzFH
set_option linter.unusedVariables false
set_option linter.unusedSimpArgs false
namespace Go.Kz
theorem zxf {n:Nat} {p:List Int} (hp:View n p) (row:List Int) (c:Nat):zub row p p.length (c:Int)=zhg row n (z17 p (z8p n) c).testBit:=by
 rw [hp.len];refine z1j fun s hs=>?_
 rw [z5g hp _ c hs,allS_bit];have h0:=zo6 hp hs;by_cases h:p.getD s 0=(c:Int)
 ·have:(p.getD s 0).toNat=c:=by omega
  rw [if_pos h,decide_eq_true hs,decide_eq_true this];rfl
 ·have:¬ (p.getD s 0).toNat=c:=by omega
  rw [if_neg h,decide_eq_false this,Bool.and_false];rfl
theorem zsy (g:List (List Int)) {n:Nat} {p:List Int} (hp:View n p):zlb g p=zf4 p (z8p n) fun y=>z26 g n y.testBit:=by
 refine z1j fun c _=>?_
 have:z7e g p (c:Int)=z26 g n (z17 p (z8p n) c).testBit:=by
  simp only [z7e,z26,zxf hp]
 rw [this];split
 ·rename_i h;rw [h];exact z9u g (by simp)
 ·rfl
theorem WW_cls (g:List (List Int)) {n:Nat} {p:List Int} (hp:View n p) (S:Nat):WW g n S.testBit (fun s=>p.getD s 0)=zf4 p S fun y=>z26 g n y.testBit:=by
 rw [zl2 g hp S _ (fun r s _ _ _ _ h=>h)];refine zhz fun c _ _=>zl0 g fun r s hr hs h1 h2=>?_
 rw [z5g hp S c hr,zA,decide_eq_true_eq] at h1;rw [z5g hp S c hs,zA,decide_eq_true_eq] at h2;have:=zo6 hp hr;have:=zo6 hp hs;omega
theorem zuf (g:List (List Int)) {n:Nat} {p:List Int} (hp:View n p):zlb g p=WW g n (z8p n).testBit (fun s=>p.getD s 0):=by rw [zsy g hp,WW_cls g hp]
theorem zzf {α:Type} [DecidableEq α] {n:Nat} {l:List α} (h:l.length=n):View n (ofL l):=⟨by rw [z6c,h],zpj l⟩
theorem zzg {α:Type} [DecidableEq α] {l:List α} {i j:Nat} (hi:i < l.length) (hj:j < l.length):(ofL l).getD i 0=(ofL l).getD j 0↔l[i]=l[j]:=by
 have:=zrc hi hj;rw [List.getD_eq_getElem?_getD,List.getD_eq_getElem?_getD,List.getElem?_eq_getElem (by rw [z6c];exact hi),List.getElem?_eq_getElem (by rw [z6c];exact hj)];exact this
theorem zfy {m:z1z} {n:Nat} (hm:MenuP m n) (qs:List Int):View n (z29 m qs):=zzf (by simp [hm.secrets])
theorem zpw {m:z1z} {n:Nat} (hm:MenuP m n) (qs:List Int) {r s:Nat} (hr:r < n) (hs:s < n):(z29 m qs).getD r 0=(z29 m qs).getD s 0↔zpv m qs r=zpv m qs s:=by
 have hn:m.1.toNat=n:=by rw [hm.secrets];rfl
 have:=zzg (l:=(List.range m.1.toNat).map fun x=>zpv m qs x) (i:=r) (j:=s) (by simp;omega) (by simp;omega);simp only [List.getElem_map,List.getElem_range] at this;exact this
theorem keyQ_ans (m:z1z) (qs:List Int):zpv m qs=zxp (qs.map fun q=>z5e m q):=by
 funext s;simp [zpv,zxp]
def zow (m:z1z) (g:List (List Int)) (n:Nat) (qs:List Int):Int:=WW g n (z8p n).testBit (zxp (qs.map fun q=>z5e m q))
theorem zoy {m:z1z} {n:Nat} (hm:MenuP m n) (g:List (List Int)) (qs:List Int):zlb g (z29 m qs)=zow m g n qs:=by
 rw [zuf g (zfy hm qs)];refine zl1 g (fun _ _=>rfl) fun r s hr hs _ _=>?_
 rw [zpw hm qs hr hs,keyQ_ans]
def zxe (n S:Nat):Int:=zhg (List.replicate n 1) n S.testBit
theorem zgv (n S:Nat):0≤zxe n S:=z4f fun i hi=>by
 split
 ·rw [List.getD_eq_getElem?_getD,List.getElem?_replicate,if_pos hi];decide
 ·omega
theorem cntS_pos {n S:Nat} (hS:S < 2 ^ n) (h0:S≠0):1≤zxe n S:=by
 obtain ⟨s,hs,hb⟩:=zyk hS h0;have h1:=z7i (n:=n) (f:=fun i=>if i=s then 1 else 0) (g:=fun i=>if S.testBit i then (List.replicate n (1:Int)).getD i 0 else 0) (fun i hi=>by
  by_cases h:i=s
  ·subst h;rw [if_pos rfl,hb,if_pos rfl,List.getD_eq_getElem?_getD,List.getElem?_replicate,if_pos hi];decide
  ·rw [if_neg h];split
   ·rw [List.getD_eq_getElem?_getD,List.getElem?_replicate,if_pos hi];decide
   ·exact Int.le_refl _)
 rw [zli 1 hs] at h1;exact h1
theorem cntS_le (n S:Nat):zxe n S≤n:=by
 have:=z4a (n:=n) (f:=fun s=>if S.testBit s then (List.replicate n (1:Int)).getD s 0 else 0) (b:=1) (fun i hi=>by
  split
  ·rw [List.getD_eq_getElem?_getD,List.getElem?_replicate,if_pos hi];decide
  ·omega)
 simp only [zxe,zhg];omega
theorem zm6 (vs g:List (List Int)) (n l:Nat) (f:Nat->Nat->List z2u) (v:List Int) (S base:Nat) (acc:List Int×List z2u) (c:Nat) :
  (z3a vs g n l f v S base acc c).2.length=if zlm vs g n l (z17 v S c)=true then acc.2.length else acc.2.length+(f (z17 v S c) (base+1+acc.2.length)).length:=by
 unfold z3a;split <;> simp
theorem zm7 {m:z1z} {n:Nat} (hm:MenuP m n) (g:List (List Int)):(l S base:Nat)->S < 2 ^ n->S≠0->((z6b m.2.1 g n l S base).length:Int)≤l*zxe n S
 | 0,S,base,_,_=>by simp [z6b]
 | l+1,S,base,hS,h0=>by
  have h1:=cntS_pos hS h0;simp only [z6b,List.length_cons];by_cases hq:qOf m.2.1 g n l S < m.2.1.length
  ·obtain ⟨e1,hv⟩:=hm.at hq;have hqv:m.2.1.getD (qOf m.2.1 g n l S) []=z0a m (qOf m.2.1 g n l S):=rfl;rw [hqv];generalize z0a m (qOf m.2.1 g n l S)=v at hv;have key:∀ k,k≤z3c v->((((List.range k).foldl (z3a m.2.1 g n l (z6b m.2.1 g n l) v S base) ([],[])).2.length:Nat):Int)≤z1t k fun c=>l*zxe n (z17 v S c):=by
    intro k
    induction k with
    | zero=>intro _;simp [z1t]
    | succ k ih=>
     intro hk;have ih:=ih (by omega);rw [List.range_succ,List.foldl_append];simp only [List.foldl_cons,List.foldl_nil,z1t];have hc:=zgv n (z17 v S k);have hm0:(0:Int)≤l*zxe n (z17 v S k):=Int.mul_nonneg (by omega) hc;rw [zm6];split
     ·omega
     ·rename_i hst;have hst':z17 v S k≠0:=by
       intro e;exact hst (by simp [zlm,e])
      have:=zm7 hm g l (z17 v S k) (base+1+((List.range k).foldl (z3a m.2.1 g n l (z6b m.2.1 g n l) v S base) ([],[])).2.length) (zr6 hv S k) hst';push_cast;omega
   have hk:=key (z3c v) (Nat.le_refl _);have hsum:(z1t (z3c v) fun c=>(l:Int)*zxe n (z17 v S c))=l*zxe n S:=by
    have hmul:∀ (k:Nat) (f:Nat->Int),z1t k (fun c=>(l:Int)*f c)=l*z1t k f:=by
     intro k f
     induction k with
     | zero=>simp [z1t]
     | succ k ih=>simp only [z1t,ih,Int.mul_add]
    rw [hmul];congr 1;exact (zi0 hv S _).symm
   rw [hsum] at hk;push_cast;rw [Int.add_mul,Int.one_mul];omega
  ·have hqv:m.2.1.getD (qOf m.2.1 g n l S) []=[]:=by
    rw [List.getD_eq_getElem?_getD,List.getElem?_eq_none (by omega)];rfl
   rw [hqv];have ht:z3c []=0:=rfl;rw [ht];simp only [List.range_zero,List.foldl_nil,List.length_nil];push_cast;rw [Int.add_mul,Int.one_mul];have:(0:Int)≤l*zxe n S:=Int.mul_nonneg (by omega) (by omega);omega
theorem zyy {m:z1z} {n:Nat} (hm:MenuP m n) (hn8:n≤8) (g:List (List Int)) {l:Nat} (hl:l≤8) (S base:Nat) (hS:S < 2 ^ n) (h0:S≠0):(z6b m.2.1 g n l S base).length≤64:=by
 have h1:=zm7 hm g l S base hS h0;have h2:=cntS_le n S;have h3:=zgv n S;have h4:(l:Int)*zxe n S≤8*8:=Int.mul_le_mul (by omega) (by omega) (by omega) (by omega);omega
def bellK (m:z1z) (g:List (List Int)) (n:Nat) (p:Key):z5k:=(p.1,p.2.1,WK m g n p,())
def bestS (m:z1z) (g:List (List Int)) (n:Nat) (k:Int):List z2u:=
 if z26 g n (z8p n).testBit=VV m.2.1 g n k.toNat (z8p n) then [] else z6b m.2.1 g n k.toNat (z8p n) 0
theorem M1_bells (m:z1z) (g:List (List Int)) (n:Nat) (K:List Key):(M1 m g n K).map z5q=K.map (bellK m g n):=by
 simp only [M1,mkM,List.map_map];rfl
theorem zkz {m:z1z} {g:List (List Int)} {k:Int}:zqe m g k=true↔z3x m=true∧z5p g m.1=true∧0≤k∧k≤8:=by
 simp [zqe,and_assoc]
theorem f20_ok (N:Nat) (hN:5000 < N) (hrep:RepOK N) {m:z1z} {g:List (List Int)} {k:Int} (ha:zqe m g k=true) (hn8:m.1.toNat≤8) :
  ∃ K,f20 N m g k=some (VV m.2.1 g m.1.toNat k.toNat (z8p m.1.toNat),(bestS m g m.1.toNat k,(zp5 (K.map (bellK m g m.1.toNat)),0)))∧Slv m g m.1.toNat K∧zap m.1.toNat k∈K∧∀ x,x∈K↔Rch m.2.1 (zap m.1.toNat k) x:=by
 obtain ⟨a1,a2,a3,a4⟩:=zkz.1 ha;have hm:=zkb a1;have hs:=hm.secrets;have hg:GainP g m.1.toNat:=gainP (by rw [←hs];exact a2);obtain ⟨K,h52,hsl,hroot,hK⟩:=f52_ok N hN (g:=g) hm hg hn8 a3 a4;refine ⟨K,?_,hsl,hroot,hK⟩;have h53:=f53_root N hN hsl hroot (fun x hx=>(hK x).1 hx);have h54:=zwq N hN hsl hroot;have hlen:=zrn hn8 hsl.nd hsl.keys;have hWr:WK m g m.1.toNat (zap m.1.toNat k)=VV m.2.1 g m.1.toNat k.toNat (z8p m.1.toNat):=by simp [WK,zap]
 have hM1:ValB (M1 m g m.1.toNat K):=by
  intro key v hv;by_cases hk:key∈K
  ·rw [M1,zrl hk] at hv;simp only [if_true,zI] at hv;have:=zl3 hm.view hg.row hm.few key.2.1.toNat key.1.toNat;have:=zcf m.2.1 g m.1.toNat key.2.1.toNat key.1.toNat;simp only [WK] at hv;omega
  ·rw [M1,zfs hk] at hv;simp at hv
 have h56:=f56_eq N hN m g (M1 m g m.1.toNat K) (zzl hsl.nd) hM1 (by rw [M1,zvo];omega);rw [M1_bells] at h56;unfold f20;rw [zx0 N (by omega),ha];simp only [Option.bind_some,if_true,decide_true,Bool.not_true,cond_false];have e12:decide ((12:Int) < m.1)=false:=by simp;omega
 have hr:((((z8p m.1.toNat:Nat):Int)),(k,()))=zap m.1.toNat k:=rfl;rw [e12,cond_false,zs7 N hm];simp only [Option.bind_some];rw [hr,h52];simp only [Option.bind_some,back,Bool.not_true,cond_false];rw [h53];simp only [Option.bind_some,back];rw [h54];simp only [Option.bind_some,back,hWr];have hra:(zap m.1.toNat k).1.toNat=z8p m.1.toNat:=by simp [zap]
 rw [hra];by_cases hst:z26 g m.1.toNat (z8p m.1.toNat).testBit=VV m.2.1 g m.1.toNat k.toNat (z8p m.1.toNat)
 ·rw [decide_eq_true hst];simp only [Bool.not_true,cond_false];rw [h56];simp only [Option.bind_some,bestS,if_pos hst]
 ·rw [decide_eq_false hst];simp only [Bool.not_false,cond_true];have hU:=rootU hm.pos a3 a4;have hk0:=z94 hU;rw [hra] at hk0;have hrk:(zap m.1.toNat k).2.1.toNat=k.toNat:=rfl;have h55:=f55_ok N hN hrep hsl hroot (by rw [hra,hWr];exact hst) (by
   have:=zyy hm hn8 g (l:=k.toNat) (by omega) (z8p m.1.toNat) 0 hk0.2.1 hk0.2.2.1;rw [hra,hrk];omega)
  rw [hra,hrk] at h55;rw [h55];simp only [Option.bind_some,zu5];rw [h56];simp only [Option.bind_some,bestS,if_neg hst]
end Go.Kz
