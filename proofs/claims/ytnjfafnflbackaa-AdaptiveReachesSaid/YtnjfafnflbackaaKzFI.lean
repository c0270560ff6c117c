/-
  The layer adaptive: worth of partitions; Best's result; plain laws.
-/
import Derived.Test.YtnjfafnflbackaaKzFH
set_option linter.unusedVariables false
set_option linter.unusedSimpArgs false
namespace Go.Kz
theorem zyd {n:Nat} {p:List Int} (hp:View n p) (row:List Int) (c:Nat):zv6 row p p.length (c:Int)=zi3 row n (part p (z3v n) c).testBit:=by
 rw [hp.len];refine z1e fun s hs=>?_
 rw [z48 hp _ c hs,zlz];have h0:=zhl hp hs;by_cases h:p.getD s 0=(c:Int)
 ·have:(p.getD s 0).toNat=c:=by omega
  rw [if_pos h,decide_eq_true hs,decide_eq_true this];rfl
 ·have:¬ (p.getD s 0).toNat=c:=by omega
  rw [if_neg h,decide_eq_false this,Bool.and_false];rfl
theorem zih (g:List (List Int)) {n:Nat} {p:List Int} (hp:View n p):zdv g p=zcy p (z3v n) fun y=>z1q g n y.testBit:=by
 refine z1e fun c _=>?_
 have:z7i g p (c:Int)=z1q g n (part p (z3v n) c).testBit:=by
  simp only [z7i,z1q,zyd hp]
 rw [this];split
 ·rename_i h;rw [h];exact z7s g (by simp)
 ·rfl
theorem WW_cls (g:List (List Int)) {n:Nat} {p:List Int} (hp:View n p) (S:Nat):WW g n S.testBit (fun s=>p.getD s 0)=zcy p S fun y=>z1q g n y.testBit:=by
 rw [zff g hp S _ (fun r s _ _ _ _ h=>h)];refine zcx fun c _ _=>zcq g fun r s hr hs h1 h2=>?_
 rw [z48 hp S c hr,zA,decide_eq_true_eq] at h1;rw [z48 hp S c hs,zA,decide_eq_true_eq] at h2;have:=zhl hp hr;have:=zhl hp hs;omega
theorem zm7 (g:List (List Int)) {n:Nat} {p:List Int} (hp:View n p):zdv g p=WW g n (z3v n).testBit (fun s=>p.getD s 0):=by rw [zih g hp,WW_cls g hp]
theorem zsa {α:Type} [DecidableEq α] {n:Nat} {l:List α} (h:l.length=n):View n (ofL l):=⟨by rw [z6d,h],zqf l⟩
theorem zsc {α:Type} [DecidableEq α] {l:List α} {i j:Nat} (hi:i < l.length) (hj:j < l.length):(ofL l).getD i 0=(ofL l).getD j 0↔l[i]=l[j]:=by
 have:=zsb hi hj;rw [List.getD_eq_getElem?_getD,List.getD_eq_getElem?_getD,List.getElem?_eq_getElem (by rw [z6d];exact hi),List.getElem?_eq_getElem (by rw [z6d];exact hj)];exact this
theorem zgo {m:z1s} {n:Nat} (hm:MenuP m n) (qs:List Int):View n (z29 m qs):=zsa (by simp [hm.secrets])
theorem zqq {m:z1s} {n:Nat} (hm:MenuP m n) (qs:List Int) {r s:Nat} (hr:r < n) (hs:s < n):(z29 m qs).getD r 0=(z29 m qs).getD s 0↔zqp m qs r=zqp m qs s:=by
 have hn:m.1.toNat=n:=by rw [hm.secrets];rfl
 have:=zsc (l:=(List.range m.1.toNat).map fun x=>zqp m qs x) (i:=r) (j:=s) (by simp;omega) (by simp;omega);simp only [List.getElem_map,List.getElem_range] at this;exact this
theorem keyQ_ans (m:z1s) (qs:List Int):zqp m qs=zym (qs.map fun q=>z5g m q):=by
 funext s;simp [zqp,zym]
def zpu (m:z1s) (g:List (List Int)) (n:Nat) (qs:List Int):Int:=WW g n (z3v n).testBit (zym (qs.map fun q=>z5g m q))
theorem zpw {m:z1s} {n:Nat} (hm:MenuP m n) (g:List (List Int)) (qs:List Int):zdv g (z29 m qs)=zpu m g n qs:=by
 rw [zm7 g (zgo hm qs)];refine zad g (fun _ _=>rfl) fun r s hr hs _ _=>?_
 rw [zqq hm qs hr hs,keyQ_ans]
def zyb (n S:Nat):Int:=zi3 (List.replicate n 1) n S.testBit
theorem zhj (n S:Nat):0≤zyb n S:=z3p fun i hi=>by
 split
 ·rw [List.getD_eq_getElem?_getD,List.getElem?_replicate,if_pos hi];decide
 ·omega
theorem cntS_pos {n S:Nat} (hS:S < 2 ^ n) (h0:S≠0):1≤zyb n S:=by
 obtain ⟨s,hs,hb⟩:=zzj hS h0;have h1:=z7m (n:=n) (f:=fun i=>if i=s then 1 else 0) (g:=fun i=>if S.testBit i then (List.replicate n (1:Int)).getD i 0 else 0) (fun i hi=>by
  by_cases h:i=s
  ·subst h;rw [if_pos rfl,hb,if_pos rfl,List.getD_eq_getElem?_getD,List.getElem?_replicate,if_pos hi];decide
  ·rw [if_neg h];split
   ·rw [List.getD_eq_getElem?_getD,List.getElem?_replicate,if_pos hi];decide
   ·exact Int.le_refl _)
 rw [zme 1 hs] at h1;exact h1
theorem cntS_le (n S:Nat):zyb n S≤n:=by
 have:=z3q (n:=n) (f:=fun s=>if S.testBit s then (List.replicate n (1:Int)).getD s 0 else 0) (b:=1) (fun i hi=>by
  split
  ·rw [List.getD_eq_getElem?_getD,List.getElem?_replicate,if_pos hi];decide
  ·omega)
 simp only [zyb,zi3];omega
theorem zn1 (vs g:List (List Int)) (n l:Nat) (f:Nat->Nat->List z1b) (v:List Int) (S base:Nat) (acc:List Int×List z1b) (c:Nat) :
  (z2n vs g n l f v S base acc c).2.length=if z6p vs g n l (part v S c)=true then acc.2.length else acc.2.length+(f (part v S c) (base+1+acc.2.length)).length:=by
 unfold z2n;split <;> simp
theorem zn3 {m:z1s} {n:Nat} (hm:MenuP m n) (g:List (List Int)):(l S base:Nat)->S < 2 ^ n->S≠0->((z3a m.2.1 g n l S base).length:Int)≤l*zyb n S
 | 0,S,base,_,_=>by simp [z3a]
 | l+1,S,base,hS,h0=>by
  have h1:=cntS_pos hS h0;simp only [z3a,List.length_cons];by_cases hq:qOf m.2.1 g n l S < m.2.1.length
  ·obtain ⟨e1,hv⟩:=hm.at hq;have hqv:m.2.1.getD (qOf m.2.1 g n l S) []=z0b m (qOf m.2.1 g n l S):=rfl;rw [hqv];generalize z0b m (qOf m.2.1 g n l S)=v at hv;have key:∀ k,k≤z2j v->((((List.range k).foldl (z2n m.2.1 g n l (z3a m.2.1 g n l) v S base) ([],[])).2.length:Nat):Int)≤z1l k fun c=>l*zyb n (part v S c):=by
    intro k
    induction k with
    | zero=>intro _;simp [z1l]
    | succ k ih=>
     intro hk;have ih:=ih (by omega);rw [List.range_succ,List.foldl_append];simp only [List.foldl_cons,List.foldl_nil,z1l];have hc:=zhj n (part v S k);have hm0:(0:Int)≤l*zyb n (part v S k):=Int.mul_nonneg (by omega) hc;rw [zn1];split
     ·omega
     ·rename_i hst;have hst':part v S k≠0:=by
       intro e;exact hst (by simp [z6p,e])
      have:=zn3 hm g l (part v S k) (base+1+((List.range k).foldl (z2n m.2.1 g n l (z3a m.2.1 g n l) v S base) ([],[])).2.length) (zeu hv S k) hst';push_cast;omega
   have hk:=key (z2j v) (Nat.le_refl _);have hsum:(z1l (z2j v) fun c=>(l:Int)*zyb n (part v S c))=l*zyb n S:=by
    have hmul:∀ (k:Nat) (f:Nat->Int),z1l k (fun c=>(l:Int)*f c)=l*z1l k f:=by
     intro k f
     induction k with
     | zero=>simp [z1l]
     | succ k ih=>simp only [z1l,ih,Int.mul_add]
    rw [hmul];congr 1;exact (zip hv S _).symm
   rw [hsum] at hk;push_cast;rw [Int.add_mul,Int.one_mul];omega
  ·have hqv:m.2.1.getD (qOf m.2.1 g n l S) []=[]:=by
    rw [List.getD_eq_getElem?_getD,List.getElem?_eq_none (by omega)];rfl
   rw [hqv];have ht:z2j []=0:=rfl;rw [ht];simp only [List.range_zero,List.foldl_nil,List.length_nil];push_cast;rw [Int.add_mul,Int.one_mul];have:(0:Int)≤l*zyb n S:=Int.mul_nonneg (by omega) (by omega);omega
theorem zs1 {m:z1s} {n:Nat} (hm:MenuP m n) (hn8:n≤8) (g:List (List Int)) {l:Nat} (hl:l≤8) (S base:Nat) (hS:S < 2 ^ n) (h0:S≠0):(z3a m.2.1 g n l S base).length≤64:=by
 have h1:=zn3 hm g l S base hS h0;have h2:=cntS_le n S;have h3:=zhj n S;have h4:(l:Int)*zyb n S≤8*8:=Int.mul_le_mul (by omega) (by omega) (by omega) (by omega);omega
def z3g (m:z1s) (g:List (List Int)) (n:Nat) (p:Key):z5m:=(p.1,p.2.1,WK m g n p,())
def zdo (m:z1s) (g:List (List Int)) (n:Nat) (k:Int):List z1b:=
 if z1q g n (z3v n).testBit=VV m.2.1 g n k.toNat (z3v n) then [] else z3a m.2.1 g n k.toNat (z3v n) 0
theorem M1_bells (m:z1s) (g:List (List Int)) (n:Nat) (K:List Key):(M1 m g n K).map z5t=K.map (z3g m g n):=by
 simp only [M1,mkM,List.map_map];rfl
theorem zfb {m:z1s} {g:List (List Int)} {k:Int}:zr8 m g k=true↔z42 m=true∧z5s g m.1=true∧0≤k∧k≤8:=by
 simp [zr8,and_assoc]
theorem f20_ok (N:Nat) (hN:5000 < N) (hrep:RepOK N) {m:z1s} {g:List (List Int)} {k:Int} (ha:zr8 m g k=true) (hn8:m.1.toNat≤8) :
  ∃ K,f20 N m g k=some (VV m.2.1 g m.1.toNat k.toNat (z3v m.1.toNat),(zdo m g m.1.toNat k,(z4l (K.map (z3g m g m.1.toNat)),0)))∧Slv m g m.1.toNat K∧z8v m.1.toNat k∈K∧∀ x,x∈K↔Rch m.2.1 (z8v m.1.toNat k) x:=by
 obtain ⟨a1,a2,a3,a4⟩:=zfb.1 ha;have hm:=zl9 a1;have hs:=hm.secrets;have hg:GainP g m.1.toNat:=gainP (by rw [←hs];exact a2);obtain ⟨K,h52,hsl,hroot,hK⟩:=f52_ok N hN (g:=g) hm hg hn8 a3 a4;refine ⟨K,?_,hsl,hroot,hK⟩;have h53:=f53_root N hN hsl hroot (fun x hx=>(hK x).1 hx);have h54:=zxq N hN hsl hroot;have hlen:=zld hn8 hsl.nd hsl.keys;have hWr:WK m g m.1.toNat (z8v m.1.toNat k)=VV m.2.1 g m.1.toNat k.toNat (z3v m.1.toNat):=by simp [WK,z8v]
 have hM1:ValB (M1 m g m.1.toNat K):=by
  intro key v hv;by_cases hk:key∈K
  ·rw [M1,zsm hk] at hv;simp only [if_true,zI] at hv;have:=zcr hm.view hg.row hm.few key.2.1.toNat key.1.toNat;have:=z9p m.2.1 g m.1.toNat key.2.1.toNat key.1.toNat;simp only [WK] at hv;omega
  ·rw [M1,zgj hk] at hv;simp at hv
 have h56:=f56_eq N hN m g (M1 m g m.1.toNat K) (mkM_dist hsl.nd) hM1 (by rw [M1,zwl];omega);rw [M1_bells] at h56;unfold f20;rw [zxz N (by omega),ha];simp only [Option.bind_some,if_true,decide_true,Bool.not_true,cond_false];have e12:decide ((12:Int) < m.1)=false:=by simp;omega
 have hr:((((z3v m.1.toNat:Nat):Int)),(k,()))=z8v m.1.toNat k:=rfl;rw [e12,cond_false,zxx N hm];simp only [Option.bind_some];rw [hr,h52];simp only [Option.bind_some,back,Bool.not_true,cond_false];rw [h53];simp only [Option.bind_some,back];rw [h54];simp only [Option.bind_some,back,hWr];have hra:(z8v m.1.toNat k).1.toNat=z3v m.1.toNat:=by simp [z8v]
 rw [hra];by_cases hst:z1q g m.1.toNat (z3v m.1.toNat).testBit=VV m.2.1 g m.1.toNat k.toNat (z3v m.1.toNat)
 ·rw [decide_eq_true hst];simp only [Bool.not_true,cond_false];rw [h56];simp only [Option.bind_some,zdo,if_pos hst]
 ·rw [decide_eq_false hst];simp only [Bool.not_false,cond_true];have hU:=rootU hm.pos a3 a4;have hk0:=z7b hU;rw [hra] at hk0;have hrk:(z8v m.1.toNat k).2.1.toNat=k.toNat:=rfl;have h55:=f55_ok N hN hrep hsl hroot (by rw [hra,hWr];exact hst) (by
   have:=zs1 hm hn8 g (l:=k.toNat) (by omega) (z3v m.1.toNat) 0 hk0.2.1 hk0.2.2.1;rw [hra,hrk];omega)
  rw [hra,hrk] at h55;rw [h55];simp only [Option.bind_some,zv0];rw [h56];simp only [Option.bind_some,zdo,if_neg hst]
end Go.Kz
