/-
  The layer adaptive: worth of partitions; Best's result; plain laws.
-/
import Derived.Test.YtnjfafnflbackaaKzFH
set_option linter.unusedVariables false
set_option linter.unusedSimpArgs false
namespace Go.Kz
theorem zx3 {n:Nat} {p:List Int} (hp:View n p) (row:List Int) (c:Nat):zu7 row p p.length (c:Int)=zhd row n (part p (z8m n) c).testBit:=by
 rw [hp.len];refine z1g fun s hs=>?_
 rw [z5d hp _ c hs,allS_bit];have h0:=zo4 hp hs;by_cases h:p.getD s 0=(c:Int)
 ·have:(p.getD s 0).toNat=c:=by omega
  rw [if_pos h,decide_eq_true hs,decide_eq_true this];rfl
 ·have:¬ (p.getD s 0).toNat=c:=by omega
  rw [if_neg h,decide_eq_false this,Bool.and_false];rfl
theorem zst (g:List (List Int)) {n:Nat} {p:List Int} (hp:View n p):zl9 g p=zf0 p (z8m n) fun y=>z20 g n y.testBit:=by
 refine z1g fun c _=>?_
 have:z7c g p (c:Int)=z20 g n (part p (z8m n) c).testBit:=by
  simp only [z7c,z20,zx3 hp]
 rw [this];split
 ·rename_i h;rw [h];exact z9r g (by simp)
 ·rfl
theorem WW_cls (g:List (List Int)) {n:Nat} {p:List Int} (hp:View n p) (S:Nat):WW g n S.testBit (fun s=>p.getD s 0)=zf0 p S fun y=>z20 g n y.testBit:=by
 rw [zl0 g hp S _ (fun r s _ _ _ _ h=>h)];refine zhx fun c _ _=>zky g fun r s hr hs h1 h2=>?_
 rw [z5d hp S c hr,zA,decide_eq_true_eq] at h1;rw [z5d hp S c hs,zA,decide_eq_true_eq] at h2;have:=zo4 hp hr;have:=zo4 hp hs;omega
theorem zub (g:List (List Int)) {n:Nat} {p:List Int} (hp:View n p):zl9 g p=WW g n (z8m n).testBit (fun s=>p.getD s 0):=by rw [zst g hp,WW_cls g hp]
theorem zz3 {α:Type} [DecidableEq α] {n:Nat} {l:List α} (h:l.length=n):View n (ofL l):=⟨by rw [z6a,h],zph l⟩
theorem zz4 {α:Type} [DecidableEq α] {l:List α} {i j:Nat} (hi:i < l.length) (hj:j < l.length):(ofL l).getD i 0=(ofL l).getD j 0↔l[i]=l[j]:=by
 have:=zr8 hi hj;rw [List.getD_eq_getElem?_getD,List.getD_eq_getElem?_getD,List.getElem?_eq_getElem (by rw [z6a];exact hi),List.getElem?_eq_getElem (by rw [z6a];exact hj)];exact this
theorem zfv {m:z1v} {n:Nat} (hm:MenuP m n) (qs:List Int):View n (z24 m qs):=zz3 (by simp [hm.secrets])
theorem zpt {m:z1v} {n:Nat} (hm:MenuP m n) (qs:List Int) {r s:Nat} (hr:r < n) (hs:s < n):(z24 m qs).getD r 0=(z24 m qs).getD s 0↔zps m qs r=zps m qs s:=by
 have hn:m.1.toNat=n:=by rw [hm.secrets];rfl
 have:=zz4 (l:=(List.range m.1.toNat).map fun x=>zps m qs x) (i:=r) (j:=s) (by simp;omega) (by simp;omega);simp only [List.getElem_map,List.getElem_range] at this;exact this
theorem zzs (m:z1v) (qs:List Int):zps m qs=zxd (qs.map fun q=>z5b m q):=by
 funext s;simp [zps,zxd]
def zou (m:z1v) (g:List (List Int)) (n:Nat) (qs:List Int):Int:=WW g n (z8m n).testBit (zxd (qs.map fun q=>z5b m q))
theorem zow {m:z1v} {n:Nat} (hm:MenuP m n) (g:List (List Int)) (qs:List Int):zl9 g (z24 m qs)=zou m g n qs:=by
 rw [zub g (zfv hm qs)];refine zkz g (fun _ _=>rfl) fun r s hr hs _ _=>?_
 rw [zpt hm qs hr hs,zzs]
def zx2 (n S:Nat):Int:=zhd (List.replicate n 1) n S.testBit
theorem zgs (n S:Nat):0≤zx2 n S:=z4c fun i hi=>by
 split
 ·rw [List.getD_eq_getElem?_getD,List.getElem?_replicate,if_pos hi];decide
 ·omega
theorem cntS_pos {n S:Nat} (hS:S < 2 ^ n) (h0:S≠0):1≤zx2 n S:=by
 obtain ⟨s,hs,hb⟩:=zy8 hS h0;have h1:=z7g (n:=n) (f:=fun i=>if i=s then 1 else 0) (g:=fun i=>if S.testBit i then (List.replicate n (1:Int)).getD i 0 else 0) (fun i hi=>by
  by_cases h:i=s
  ·subst h;rw [if_pos rfl,hb,if_pos rfl,List.getD_eq_getElem?_getD,List.getElem?_replicate,if_pos hi];decide
  ·rw [if_neg h];split
   ·rw [List.getD_eq_getElem?_getD,List.getElem?_replicate,if_pos hi];decide
   ·exact Int.le_refl _)
 rw [zlg 1 hs] at h1;exact h1
theorem cntS_le (n S:Nat):zx2 n S≤n:=by
 have:=z48 (n:=n) (f:=fun s=>if S.testBit s then (List.replicate n (1:Int)).getD s 0 else 0) (b:=1) (fun i hi=>by
  split
  ·rw [List.getD_eq_getElem?_getD,List.getElem?_replicate,if_pos hi];decide
  ·omega)
 simp only [zx2,zhd];omega
theorem zm4 (vs g:List (List Int)) (n l:Nat) (f:Nat->Nat->List z2s) (v:List Int) (S base:Nat) (acc:List Int×List z2s) (c:Nat) :
  (z36 vs g n l f v S base acc c).2.length=if zlk vs g n l (part v S c)=true then acc.2.length else acc.2.length+(f (part v S c) (base+1+acc.2.length)).length:=by
 unfold z36;split <;> simp
theorem zm5 {m:z1v} {n:Nat} (hm:MenuP m n) (g:List (List Int)):(l S base:Nat)->S < 2 ^ n->S≠0->((z69 m.2.1 g n l S base).length:Int)≤l*zx2 n S
 | 0,S,base,_,_=>by simp [z69]
 | l+1,S,base,hS,h0=>by
  have h1:=cntS_pos hS h0;simp only [z69,List.length_cons];by_cases hq:qOf m.2.1 g n l S < m.2.1.length
  ·obtain ⟨e1,hv⟩:=hm.at hq;have hqv:m.2.1.getD (qOf m.2.1 g n l S) []=z0a m (qOf m.2.1 g n l S):=rfl;rw [hqv];generalize z0a m (qOf m.2.1 g n l S)=v at hv;have key:∀ k,k≤z38 v->((((List.range k).foldl (z36 m.2.1 g n l (z69 m.2.1 g n l) v S base) ([],[])).2.length:Nat):Int)≤z1p k fun c=>l*zx2 n (part v S c):=by
    intro k
    induction k with
    | zero=>intro _;simp [z1p]
    | succ k ih=>
     intro hk;have ih:=ih (by omega);rw [List.range_succ,List.foldl_append];simp only [List.foldl_cons,List.foldl_nil,z1p];have hc:=zgs n (part v S k);have hm0:(0:Int)≤l*zx2 n (part v S k):=Int.mul_nonneg (by omega) hc;rw [zm4];split
     ·omega
     ·rename_i hst;have hst':part v S k≠0:=by
       intro e;exact hst (by simp [zlk,e])
      have:=zm5 hm g l (part v S k) (base+1+((List.range k).foldl (z36 m.2.1 g n l (z69 m.2.1 g n l) v S base) ([],[])).2.length) (zr2 hv S k) hst';push_cast;omega
   have hk:=key (z38 v) (Nat.le_refl _);have hsum:(z1p (z38 v) fun c=>(l:Int)*zx2 n (part v S c))=l*zx2 n S:=by
    have hmul:∀ (k:Nat) (f:Nat->Int),z1p k (fun c=>(l:Int)*f c)=l*z1p k f:=by
     intro k f
     induction k with
     | zero=>simp [z1p]
     | succ k ih=>simp only [z1p,ih,Int.mul_add]
    rw [hmul];congr 1;exact (zhy hv S _).symm
   rw [hsum] at hk;push_cast;rw [Int.add_mul,Int.one_mul];omega
  ·have hqv:m.2.1.getD (qOf m.2.1 g n l S) []=[]:=by
    rw [List.getD_eq_getElem?_getD,List.getElem?_eq_none (by omega)];rfl
   rw [hqv];have ht:z38 []=0:=rfl;rw [ht];simp only [List.range_zero,List.foldl_nil,List.length_nil];push_cast;rw [Int.add_mul,Int.one_mul];have:(0:Int)≤l*zx2 n S:=Int.mul_nonneg (by omega) (by omega);omega
theorem zym {m:z1v} {n:Nat} (hm:MenuP m n) (hn8:n≤8) (g:List (List Int)) {l:Nat} (hl:l≤8) (S base:Nat) (hS:S < 2 ^ n) (h0:S≠0):(z69 m.2.1 g n l S base).length≤64:=by
 have h1:=zm5 hm g l S base hS h0;have h2:=cntS_le n S;have h3:=zgs n S;have h4:(l:Int)*zx2 n S≤8*8:=Int.mul_le_mul (by omega) (by omega) (by omega) (by omega);omega
def bellK (m:z1v) (g:List (List Int)) (n:Nat) (p:Key):z5h:=(p.1,p.2.1,WK m g n p,())
def bestS (m:z1v) (g:List (List Int)) (n:Nat) (k:Int):List z2s:=
 if z20 g n (z8m n).testBit=VV m.2.1 g n k.toNat (z8m n) then [] else z69 m.2.1 g n k.toNat (z8m n) 0
theorem M1_bells (m:z1v) (g:List (List Int)) (n:Nat) (K:List Key):(M1 m g n K).map z5o=K.map (bellK m g n):=by
 simp only [M1,mkM,List.map_map];rfl
theorem zkx {m:z1v} {g:List (List Int)} {k:Int}:zqa m g k=true↔z3u m=true∧z5n g m.1=true∧0≤k∧k≤8:=by
 simp [zqa,and_assoc]
theorem f20_ok (N:Nat) (hN:5000 < N) (hrep:RepOK N) {m:z1v} {g:List (List Int)} {k:Int} (ha:zqa m g k=true) (hn8:m.1.toNat≤8) :
  ∃ K,f20 N m g k=some (VV m.2.1 g m.1.toNat k.toNat (z8m m.1.toNat),(bestS m g m.1.toNat k,(zp3 (K.map (bellK m g m.1.toNat)),0)))∧Slv m g m.1.toNat K∧zam m.1.toNat k∈K∧∀ x,x∈K↔Rch m.2.1 (zam m.1.toNat k) x:=by
 obtain ⟨a1,a2,a3,a4⟩:=zkx.1 ha;have hm:=zk9 a1;have hs:=hm.secrets;have hg:GainP g m.1.toNat:=gainP (by rw [←hs];exact a2);obtain ⟨K,h52,hsl,hroot,hK⟩:=f52_ok N hN (g:=g) hm hg hn8 a3 a4;refine ⟨K,?_,hsl,hroot,hK⟩;have h53:=f53_root N hN hsl hroot (fun x hx=>(hK x).1 hx);have h54:=zwm N hN hsl hroot;have hlen:=zrj hn8 hsl.nd hsl.keys;have hWr:WK m g m.1.toNat (zam m.1.toNat k)=VV m.2.1 g m.1.toNat k.toNat (z8m m.1.toNat):=by simp [WK,zam]
 have hM1:ValB (M1 m g m.1.toNat K):=by
  intro key v hv;by_cases hk:key∈K
  ·rw [M1,zrh hk] at hv;simp only [if_true,zI] at hv;have:=zl1 hm.view hg.row hm.few key.2.1.toNat key.1.toNat;have:=zcc m.2.1 g m.1.toNat key.2.1.toNat key.1.toNat;simp only [WK] at hv;omega
  ·rw [M1,zfp hk] at hv;simp at hv
 have h56:=f56_eq N hN m g (M1 m g m.1.toNat K) (zz9 hsl.nd) hM1 (by rw [M1,zvk];omega);rw [M1_bells] at h56;unfold f20;rw [zwt N (by omega),ha];simp only [Option.bind_some,if_true,decide_true,Bool.not_true,cond_false];have e12:decide ((12:Int) < m.1)=false:=by simp;omega
 have hr:((((z8m m.1.toNat:Nat):Int)),(k,()))=zam m.1.toNat k:=rfl;rw [e12,cond_false,zs2 N hm];simp only [Option.bind_some];rw [hr,h52];simp only [Option.bind_some,back,Bool.not_true,cond_false];rw [h53];simp only [Option.bind_some,back];rw [h54];simp only [Option.bind_some,back,hWr];have hra:(zam m.1.toNat k).1.toNat=z8m m.1.toNat:=by simp [zam]
 rw [hra];by_cases hst:z20 g m.1.toNat (z8m m.1.toNat).testBit=VV m.2.1 g m.1.toNat k.toNat (z8m m.1.toNat)
 ·rw [decide_eq_true hst];simp only [Bool.not_true,cond_false];rw [h56];simp only [Option.bind_some,bestS,if_pos hst]
 ·rw [decide_eq_false hst];simp only [Bool.not_false,cond_true];have hU:=rootU hm.pos a3 a4;have hk0:=z91 hU;rw [hra] at hk0;have hrk:(zam m.1.toNat k).2.1.toNat=k.toNat:=rfl;have h55:=f55_ok N hN hrep hsl hroot (by rw [hra,hWr];exact hst) (by
   have:=zym hm hn8 g (l:=k.toNat) (by omega) (z8m m.1.toNat) 0 hk0.2.1 hk0.2.2.1;rw [hra,hrk];omega)
  rw [hra,hrk] at h55;rw [h55];simp only [Option.bind_some,zu1];rw [h56];simp only [Option.bind_some,bestS,if_neg hst]
end Go.Kz
