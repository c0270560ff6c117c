/-
  The layer adaptive: worth of partitions; Best's result; plain laws.
-/
import Derived.Test.YtnjfafnflbackaaKzFH
set_option linter.unusedVariables false
set_option linter.unusedSimpArgs false
namespace Go.Kz
theorem zxd {n:Nat} {p:List Int} (hp:View n p) (row:List Int) (c:Nat):zu9 row p p.length (c:Int)=zhe row n (part p (z8n n) c).testBit:=by
 rw [hp.len];refine z1h fun s hs=>?_
 rw [z5e hp _ c hs,allS_bit];have h0:=zo4 hp hs;by_cases h:p.getD s 0=(c:Int)
 ·have:(p.getD s 0).toNat=c:=by omega
  rw [if_pos h,decide_eq_true hs,decide_eq_true this];rfl
 ·have:¬ (p.getD s 0).toNat=c:=by omega
  rw [if_neg h,decide_eq_false this,Bool.and_false];rfl
theorem zsw (g:List (List Int)) {n:Nat} {p:List Int} (hp:View n p):zl9 g p=zf2 p (z8n n) fun y=>z23 g n y.testBit:=by
 refine z1h fun c _=>?_
 have:z7c g p (c:Int)=z23 g n (part p (z8n n) c).testBit:=by
  simp only [z7c,z23,zxd hp]
 rw [this];split
 ·rename_i h;rw [h];exact z9s g (by simp)
 ·rfl
theorem WW_cls (g:List (List Int)) {n:Nat} {p:List Int} (hp:View n p) (S:Nat):WW g n S.testBit (fun s=>p.getD s 0)=zf2 p S fun y=>z23 g n y.testBit:=by
 rw [zl0 g hp S _ (fun r s _ _ _ _ h=>h)];refine zhx fun c _ _=>zky g fun r s hr hs h1 h2=>?_
 rw [z5e hp S c hr,zA,decide_eq_true_eq] at h1;rw [z5e hp S c hs,zA,decide_eq_true_eq] at h2;have:=zo4 hp hr;have:=zo4 hp hs;omega
theorem zud (g:List (List Int)) {n:Nat} {p:List Int} (hp:View n p):zl9 g p=WW g n (z8n n).testBit (fun s=>p.getD s 0):=by rw [zsw g hp,WW_cls g hp]
theorem zzd {α:Type} [DecidableEq α] {n:Nat} {l:List α} (h:l.length=n):View n (ofL l):=⟨by rw [z6a,h],zph l⟩
theorem zze {α:Type} [DecidableEq α] {l:List α} {i j:Nat} (hi:i < l.length) (hj:j < l.length):(ofL l).getD i 0=(ofL l).getD j 0↔l[i]=l[j]:=by
 have:=zra hi hj;rw [List.getD_eq_getElem?_getD,List.getD_eq_getElem?_getD,List.getElem?_eq_getElem (by rw [z6a];exact hi),List.getElem?_eq_getElem (by rw [z6a];exact hj)];exact this
theorem zfw {m:z1x} {n:Nat} (hm:MenuP m n) (qs:List Int):View n (z27 m qs):=zzd (by simp [hm.secrets])
theorem zpu {m:z1x} {n:Nat} (hm:MenuP m n) (qs:List Int) {r s:Nat} (hr:r < n) (hs:s < n):(z27 m qs).getD r 0=(z27 m qs).getD s 0↔zpt m qs r=zpt m qs s:=by
 have hn:m.1.toNat=n:=by rw [hm.secrets];rfl
 have:=zze (l:=(List.range m.1.toNat).map fun x=>zpt m qs x) (i:=r) (j:=s) (by simp;omega) (by simp;omega);simp only [List.getElem_map,List.getElem_range] at this;exact this
theorem keyQ_ans (m:z1x) (qs:List Int):zpt m qs=zxn (qs.map fun q=>z5c m q):=by
 funext s;simp [zpt,zxn]
def zou (m:z1x) (g:List (List Int)) (n:Nat) (qs:List Int):Int:=WW g n (z8n n).testBit (zxn (qs.map fun q=>z5c m q))
theorem zow {m:z1x} {n:Nat} (hm:MenuP m n) (g:List (List Int)) (qs:List Int):zl9 g (z27 m qs)=zou m g n qs:=by
 rw [zud g (zfw hm qs)];refine zkz g (fun _ _=>rfl) fun r s hr hs _ _=>?_
 rw [zpu hm qs hr hs,keyQ_ans]
def zxc (n S:Nat):Int:=zhe (List.replicate n 1) n S.testBit
theorem zgt (n S:Nat):0≤zxc n S:=z4d fun i hi=>by
 split
 ·rw [List.getD_eq_getElem?_getD,List.getElem?_replicate,if_pos hi];decide
 ·omega
theorem cntS_pos {n S:Nat} (hS:S < 2 ^ n) (h0:S≠0):1≤zxc n S:=by
 obtain ⟨s,hs,hb⟩:=zyi hS h0;have h1:=z7g (n:=n) (f:=fun i=>if i=s then 1 else 0) (g:=fun i=>if S.testBit i then (List.replicate n (1:Int)).getD i 0 else 0) (fun i hi=>by
  by_cases h:i=s
  ·subst h;rw [if_pos rfl,hb,if_pos rfl,List.getD_eq_getElem?_getD,List.getElem?_replicate,if_pos hi];decide
  ·rw [if_neg h];split
   ·rw [List.getD_eq_getElem?_getD,List.getElem?_replicate,if_pos hi];decide
   ·exact Int.le_refl _)
 rw [zlg 1 hs] at h1;exact h1
theorem cntS_le (n S:Nat):zxc n S≤n:=by
 have:=z48 (n:=n) (f:=fun s=>if S.testBit s then (List.replicate n (1:Int)).getD s 0 else 0) (b:=1) (fun i hi=>by
  split
  ·rw [List.getD_eq_getElem?_getD,List.getElem?_replicate,if_pos hi];decide
  ·omega)
 simp only [zxc,zhe];omega
theorem zm4 (vs g:List (List Int)) (n l:Nat) (f:Nat->Nat->List z2s) (v:List Int) (S base:Nat) (acc:List Int×List z2s) (c:Nat) :
  (z37 vs g n l f v S base acc c).2.length=if zlk vs g n l (part v S c)=true then acc.2.length else acc.2.length+(f (part v S c) (base+1+acc.2.length)).length:=by
 unfold z37;split <;> simp
theorem zm5 {m:z1x} {n:Nat} (hm:MenuP m n) (g:List (List Int)):(l S base:Nat)->S < 2 ^ n->S≠0->((z69 m.2.1 g n l S base).length:Int)≤l*zxc n S
 | 0,S,base,_,_=>by simp [z69]
 | l+1,S,base,hS,h0=>by
  have h1:=cntS_pos hS h0;simp only [z69,List.length_cons];by_cases hq:qOf m.2.1 g n l S < m.2.1.length
  ·obtain ⟨e1,hv⟩:=hm.at hq;have hqv:m.2.1.getD (qOf m.2.1 g n l S) []=z0a m (qOf m.2.1 g n l S):=rfl;rw [hqv];generalize z0a m (qOf m.2.1 g n l S)=v at hv;have key:∀ k,k≤z3a v->((((List.range k).foldl (z37 m.2.1 g n l (z69 m.2.1 g n l) v S base) ([],[])).2.length:Nat):Int)≤z1r k fun c=>l*zxc n (part v S c):=by
    intro k
    induction k with
    | zero=>intro _;simp [z1r]
    | succ k ih=>
     intro hk;have ih:=ih (by omega);rw [List.range_succ,List.foldl_append];simp only [List.foldl_cons,List.foldl_nil,z1r];have hc:=zgt n (part v S k);have hm0:(0:Int)≤l*zxc n (part v S k):=Int.mul_nonneg (by omega) hc;rw [zm4];split
     ·omega
     ·rename_i hst;have hst':part v S k≠0:=by
       intro e;exact hst (by simp [zlk,e])
      have:=zm5 hm g l (part v S k) (base+1+((List.range k).foldl (z37 m.2.1 g n l (z69 m.2.1 g n l) v S base) ([],[])).2.length) (zr4 hv S k) hst';push_cast;omega
   have hk:=key (z3a v) (Nat.le_refl _);have hsum:(z1r (z3a v) fun c=>(l:Int)*zxc n (part v S c))=l*zxc n S:=by
    have hmul:∀ (k:Nat) (f:Nat->Int),z1r k (fun c=>(l:Int)*f c)=l*z1r k f:=by
     intro k f
     induction k with
     | zero=>simp [z1r]
     | succ k ih=>simp only [z1r,ih,Int.mul_add]
    rw [hmul];congr 1;exact (zhy hv S _).symm
   rw [hsum] at hk;push_cast;rw [Int.add_mul,Int.one_mul];omega
  ·have hqv:m.2.1.getD (qOf m.2.1 g n l S) []=[]:=by
    rw [List.getD_eq_getElem?_getD,List.getElem?_eq_none (by omega)];rfl
   rw [hqv];have ht:z3a []=0:=rfl;rw [ht];simp only [List.range_zero,List.foldl_nil,List.length_nil];push_cast;rw [Int.add_mul,Int.one_mul];have:(0:Int)≤l*zxc n S:=Int.mul_nonneg (by omega) (by omega);omega
theorem zyw {m:z1x} {n:Nat} (hm:MenuP m n) (hn8:n≤8) (g:List (List Int)) {l:Nat} (hl:l≤8) (S base:Nat) (hS:S < 2 ^ n) (h0:S≠0):(z69 m.2.1 g n l S base).length≤64:=by
 have h1:=zm5 hm g l S base hS h0;have h2:=cntS_le n S;have h3:=zgt n S;have h4:(l:Int)*zxc n S≤8*8:=Int.mul_le_mul (by omega) (by omega) (by omega) (by omega);omega
def bellK (m:z1x) (g:List (List Int)) (n:Nat) (p:Key):z5i:=(p.1,p.2.1,WK m g n p,())
def bestS (m:z1x) (g:List (List Int)) (n:Nat) (k:Int):List z2s:=
 if z23 g n (z8n n).testBit=VV m.2.1 g n k.toNat (z8n n) then [] else z69 m.2.1 g n k.toNat (z8n n) 0
theorem M1_bells (m:z1x) (g:List (List Int)) (n:Nat) (K:List Key):(M1 m g n K).map z5o=K.map (bellK m g n):=by
 simp only [M1,mkM,List.map_map];rfl
theorem zkx {m:z1x} {g:List (List Int)} {k:Int}:zqc m g k=true↔z3v m=true∧z5n g m.1=true∧0≤k∧k≤8:=by
 simp [zqc,and_assoc]
theorem f20_ok (N:Nat) (hN:5000 < N) (hrep:RepOK N) {m:z1x} {g:List (List Int)} {k:Int} (ha:zqc m g k=true) (hn8:m.1.toNat≤8) :
  ∃ K,f20 N m g k=some (VV m.2.1 g m.1.toNat k.toNat (z8n m.1.toNat),(bestS m g m.1.toNat k,(zp3 (K.map (bellK m g m.1.toNat)),0)))∧Slv m g m.1.toNat K∧zan m.1.toNat k∈K∧∀ x,x∈K↔Rch m.2.1 (zan m.1.toNat k) x:=by
 obtain ⟨a1,a2,a3,a4⟩:=zkx.1 ha;have hm:=zk9 a1;have hs:=hm.secrets;have hg:GainP g m.1.toNat:=gainP (by rw [←hs];exact a2);obtain ⟨K,h52,hsl,hroot,hK⟩:=f52_ok N hN (g:=g) hm hg hn8 a3 a4;refine ⟨K,?_,hsl,hroot,hK⟩;have h53:=f53_root N hN hsl hroot (fun x hx=>(hK x).1 hx);have h54:=zwo N hN hsl hroot;have hlen:=zrl hn8 hsl.nd hsl.keys;have hWr:WK m g m.1.toNat (zan m.1.toNat k)=VV m.2.1 g m.1.toNat k.toNat (z8n m.1.toNat):=by simp [WK,zan]
 have hM1:ValB (M1 m g m.1.toNat K):=by
  intro key v hv;by_cases hk:key∈K
  ·rw [M1,zrj hk] at hv;simp only [if_true,zI] at hv;have:=zl1 hm.view hg.row hm.few key.2.1.toNat key.1.toNat;have:=zcd m.2.1 g m.1.toNat key.2.1.toNat key.1.toNat;simp only [WK] at hv;omega
  ·rw [M1,zfq hk] at hv;simp at hv
 have h56:=f56_eq N hN m g (M1 m g m.1.toNat K) (zzj hsl.nd) hM1 (by rw [M1,zvm];omega);rw [M1_bells] at h56;unfold f20;rw [zwy N (by omega),ha];simp only [Option.bind_some,if_true,decide_true,Bool.not_true,cond_false];have e12:decide ((12:Int) < m.1)=false:=by simp;omega
 have hr:((((z8n m.1.toNat:Nat):Int)),(k,()))=zan m.1.toNat k:=rfl;rw [e12,cond_false,zs5 N hm];simp only [Option.bind_some];rw [hr,h52];simp only [Option.bind_some,back,Bool.not_true,cond_false];rw [h53];simp only [Option.bind_some,back];rw [h54];simp only [Option.bind_some,back,hWr];have hra:(zan m.1.toNat k).1.toNat=z8n m.1.toNat:=by simp [zan]
 rw [hra];by_cases hst:z23 g m.1.toNat (z8n m.1.toNat).testBit=VV m.2.1 g m.1.toNat k.toNat (z8n m.1.toNat)
 ·rw [decide_eq_true hst];simp only [Bool.not_true,cond_false];rw [h56];simp only [Option.bind_some,bestS,if_pos hst]
 ·rw [decide_eq_false hst];simp only [Bool.not_false,cond_true];have hU:=rootU hm.pos a3 a4;have hk0:=z92 hU;rw [hra] at hk0;have hrk:(zan m.1.toNat k).2.1.toNat=k.toNat:=rfl;have h55:=f55_ok N hN hrep hsl hroot (by rw [hra,hWr];exact hst) (by
   have:=zyw hm hn8 g (l:=k.toNat) (by omega) (z8n m.1.toNat) 0 hk0.2.1 hk0.2.2.1;rw [hra,hrk];omega)
  rw [hra,hrk] at h55;rw [h55];simp only [Option.bind_some,zu3];rw [h56];simp only [Option.bind_some,bestS,if_neg hst]
end Go.Kz
