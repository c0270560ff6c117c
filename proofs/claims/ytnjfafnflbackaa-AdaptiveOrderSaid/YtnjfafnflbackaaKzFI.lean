/-
  The layer adaptive: worth of partitions; Best's result; plain laws.
-/
import Derived.Test.YtnjfafnflbackaaKzFH
set_option linter.unusedVariables false
set_option linter.unusedSimpArgs false
namespace Go.Kz
theorem zxz {n:Nat} {p:List Int} (hp:View n p) (row:List Int) (c:Nat):zuz row p p.length (c:Int)=zhx row n (part p (z4u n) c).testBit:=by
 rw [hp.len];refine z12 fun s hs=>?_
 rw [z31 hp _ c hs,zt6];have h0:=zhh hp hs;by_cases h:p.getD s 0=(c:Int)
 ·have:(p.getD s 0).toNat=c:=by omega
  rw [if_pos h,decide_eq_true hs,decide_eq_true this];rfl
 ·have:¬ (p.getD s 0).toNat=c:=by omega
  rw [if_neg h,decide_eq_false this,Bool.and_false];rfl
theorem zib (g:List (List Int)) {n:Nat} {p:List Int} (hp:View n p):zbo g p=zcu p (z4u n) fun y=>z1q g n y.testBit:=by
 refine z12 fun c _=>?_
 have:z7g g p (c:Int)=z1q g n (part p (z4u n) c).testBit:=by
  simp only [z7g,z1q,zxz hp]
 rw [this];split
 ·rename_i h;rw [h];exact z57 g (by simp)
 ·rfl
theorem WW_cls (g:List (List Int)) {n:Nat} {p:List Int} (hp:View n p) (S:Nat):WW g n S.testBit (fun s=>p.getD s 0)=zcu p S fun y=>z1q g n y.testBit:=by
 rw [zlh g hp S _ (fun r s _ _ _ _ h=>h)];refine z9s fun c _ _=>zaf g fun r s hr hs h1 h2=>?_
 rw [z31 hp S c hr,zA,decide_eq_true_eq] at h1;rw [z31 hp S c hs,zA,decide_eq_true_eq] at h2;have:=zhh hp hr;have:=zhh hp hs;omega
theorem zv3 (g:List (List Int)) {n:Nat} {p:List Int} (hp:View n p):zbo g p=WW g n (z4u n).testBit (fun s=>p.getD s 0):=by rw [zib g hp,WW_cls g hp]
theorem ofL_view {α:Type} [DecidableEq α] {n:Nat} {l:List α} (h:l.length=n):View n (ofL l):=⟨by rw [z5p,h],zkm l⟩
theorem ofL_getD {α:Type} [DecidableEq α] {l:List α} {i j:Nat} (hi:i < l.length) (hj:j < l.length):(ofL l).getD i 0=(ofL l).getD j 0↔l[i]=l[j]:=by
 have:=zrv hi hj;rw [List.getD_eq_getElem?_getD,List.getD_eq_getElem?_getD,List.getElem?_eq_getElem (by rw [z5p];exact hi),List.getElem?_eq_getElem (by rw [z5p];exact hj)];exact this
theorem z58 {m:z1o} {n:Nat} (hm:MenuP m n) (qs:List Int):View n (z1i m qs):=ofL_view (by simp [hm.secrets])
theorem zgl {m:z1o} {n:Nat} (hm:MenuP m n) (qs:List Int) {r s:Nat} (hr:r < n) (hs:s < n):(z1i m qs).getD r 0=(z1i m qs).getD s 0↔zkv m qs r=zkv m qs s:=by
 have hn:m.1.toNat=n:=by rw [hm.secrets];rfl
 have:=ofL_getD (l:=(List.range m.1.toNat).map fun x=>zkv m qs x) (i:=r) (j:=s) (by simp;omega) (by simp;omega);simp only [List.getElem_map,List.getElem_range] at this;exact this
theorem keyQ_ans (m:z1o) (qs:List Int):zkv m qs=zt3 (qs.map fun q=>z3d m q):=by
 funext s;simp [zkv,zt3]
def zar (m:z1o) (g:List (List Int)) (n:Nat) (qs:List Int):Int:=WW g n (z4u n).testBit (zt3 (qs.map fun q=>z3d m q))
theorem zfh {m:z1o} {n:Nat} (hm:MenuP m n) (g:List (List Int)) (qs:List Int):zbo g (z1i m qs)=zar m g n qs:=by
 rw [zv3 g (z58 hm qs)];refine zlg g (fun _ _=>rfl) fun r s hr hs _ _=>?_
 rw [zgl hm qs hr hs,keyQ_ans]
def zxx (n S:Nat):Int:=zhx (List.replicate n 1) n S.testBit
theorem zhf (n S:Nat):0≤zxx n S:=z35 fun i hi=>by
 split
 ·rw [List.getD_eq_getElem?_getD,List.getElem?_replicate,if_pos hi];decide
 ·omega
theorem cntS_pos {n S:Nat} (hS:S < 2 ^ n) (h0:S≠0):1≤zxx n S:=by
 obtain ⟨s,hs,hb⟩:=zz8 hS h0;have h1:=z7k (n:=n) (f:=fun i=>if i=s then 1 else 0) (g:=fun i=>if S.testBit i then (List.replicate n (1:Int)).getD i 0 else 0) (fun i hi=>by
  by_cases h:i=s
  ·subst h;rw [if_pos rfl,hb,if_pos rfl,List.getD_eq_getElem?_getD,List.getElem?_replicate,if_pos hi];decide
  ·rw [if_neg h];split
   ·rw [List.getD_eq_getElem?_getD,List.getElem?_replicate,if_pos hi];decide
   ·exact Int.le_refl _)
 rw [zlv 1 hs] at h1;exact h1
theorem cntS_le (n S:Nat):zxx n S≤n:=by
 have:=z3q (n:=n) (f:=fun s=>if S.testBit s then (List.replicate n (1:Int)).getD s 0 else 0) (b:=1) (fun i hi=>by
  split
  ·rw [List.getD_eq_getElem?_getD,List.getElem?_replicate,if_pos hi];decide
  ·omega)
 simp only [zxx,zhx];omega
theorem zmg (vs g:List (List Int)) (n l:Nat) (f:Nat->Nat->List z2u) (v:List Int) (S base:Nat) (acc:List Int×List z2u) (c:Nat) :
  (z3a vs g n l f v S base acc c).2.length=if zly vs g n l (part v S c)=true then acc.2.length else acc.2.length+(f (part v S c) (base+1+acc.2.length)).length:=by
 unfold z3a;split <;> simp
theorem zmh {m:z1o} {n:Nat} (hm:MenuP m n) (g:List (List Int)):(l S base:Nat)->S < 2 ^ n->S≠0->((z6c m.2.1 g n l S base).length:Int)≤l*zxx n S
 | 0,S,base,_,_=>by simp [z6c]
 | l+1,S,base,hS,h0=>by
  have h1:=cntS_pos hS h0;simp only [z6c,List.length_cons];by_cases hq:qOf m.2.1 g n l S < m.2.1.length
  ·obtain ⟨e1,hv⟩:=hm.at hq;have hqv:m.2.1.getD (qOf m.2.1 g n l S) []=z0d m (qOf m.2.1 g n l S):=rfl;rw [hqv];generalize z0d m (qOf m.2.1 g n l S)=v at hv;have key:∀ k,k≤z3c v->((((List.range k).foldl (z3a m.2.1 g n l (z6c m.2.1 g n l) v S base) ([],[])).2.length:Nat):Int)≤z1k k fun c=>l*zxx n (part v S c):=by
    intro k
    induction k with
    | zero=>intro _;simp [z1k]
    | succ k ih=>
     intro hk;have ih:=ih (by omega);rw [List.range_succ,List.foldl_append];simp only [List.foldl_cons,List.foldl_nil,z1k];have hc:=zhf n (part v S k);have hm0:(0:Int)≤l*zxx n (part v S k):=Int.mul_nonneg (by omega) hc;rw [zmg];split
     ·omega
     ·rename_i hst;have hst':part v S k≠0:=by
       intro e;exact hst (by simp [zly,e])
      have:=zmh hm g l (part v S k) (base+1+((List.range k).foldl (z3a m.2.1 g n l (z6c m.2.1 g n l) v S base) ([],[])).2.length) (zey hv S k) hst';push_cast;omega
   have hk:=key (z3c v) (Nat.le_refl _);have hsum:(z1k (z3c v) fun c=>(l:Int)*zxx n (part v S c))=l*zxx n S:=by
    have hmul:∀ (k:Nat) (f:Nat->Int),z1k k (fun c=>(l:Int)*f c)=l*z1k k f:=by
     intro k f
     induction k with
     | zero=>simp [z1k]
     | succ k ih=>simp only [z1k,ih,Int.mul_add]
    rw [hmul];congr 1;exact (zih hv S _).symm
   rw [hsum] at hk;push_cast;rw [Int.add_mul,Int.one_mul];omega
  ·have hqv:m.2.1.getD (qOf m.2.1 g n l S) []=[]:=by
    rw [List.getD_eq_getElem?_getD,List.getElem?_eq_none (by omega)];rfl
   rw [hqv];have ht:z3c []=0:=rfl;rw [ht];simp only [List.range_zero,List.foldl_nil,List.length_nil];push_cast;rw [Int.add_mul,Int.one_mul];have:(0:Int)≤l*zxx n S:=Int.mul_nonneg (by omega) (by omega);omega
theorem zzm {m:z1o} {n:Nat} (hm:MenuP m n) (hn8:n≤8) (g:List (List Int)) {l:Nat} (hl:l≤8) (S base:Nat) (hS:S < 2 ^ n) (h0:S≠0):(z6c m.2.1 g n l S base).length≤64:=by
 have h1:=zmh hm g l S base hS h0;have h2:=cntS_le n S;have h3:=zhf n S;have h4:(l:Int)*zxx n S≤8*8:=Int.mul_le_mul (by omega) (by omega) (by omega) (by omega);omega
def bellK (m:z1o) (g:List (List Int)) (n:Nat) (p:Key):z6m:=(p.1,p.2.1,WK m g n p,())
def bestS (m:z1o) (g:List (List Int)) (n:Nat) (k:Int):List z2u:=
 if z1q g n (z4u n).testBit=VV m.2.1 g n k.toNat (z4u n) then [] else z6c m.2.1 g n k.toNat (z4u n) 0
theorem M1_bells (m:z1o) (g:List (List Int)) (n:Nat) (K:List Key):(M1 m g n K).map z5t=K.map (bellK m g n):=by
 simp only [M1,mkM,List.map_map];rfl
theorem zcq {m:z1o} {g:List (List Int)} {k:Int}:zqt m g k=true↔z3r m=true∧z5s g m.1=true∧0≤k∧k≤8:=by
 simp [zqt,and_assoc]
theorem zxq (N:Nat) (hN:5000 < N) (hrep:RepOK N) {m:z1o} {g:List (List Int)} {k:Int} (ha:zqt m g k=true) (hn8:m.1.toNat≤8) :
  ∃ K,f20 N m g k=some (VV m.2.1 g m.1.toNat k.toNat (z4u m.1.toNat),(bestS m g m.1.toNat k,(zpj (K.map (bellK m g m.1.toNat)),0)))∧Slv m g m.1.toNat K∧zaz m.1.toNat k∈K∧∀ x,x∈K↔Rch m.2.1 (zaz m.1.toNat k) x:=by
 obtain ⟨a1,a2,a3,a4⟩:=zcq.1 ha;have hm:=zi1 a1;have hs:=hm.secrets;have hg:GainP g m.1.toNat:=gainP (by rw [←hs];exact a2);obtain ⟨K,h52,hsl,hroot,hK⟩:=f52_ok N hN (g:=g) hm hg hn8 a3 a4;refine ⟨K,?_,hsl,hroot,hK⟩;have h53:=f53_root N hN hsl hroot (fun x hx=>(hK x).1 hx);have h54:=zxf N hN hsl hroot;have hlen:=zs5 hn8 hsl.nd hsl.keys;have hWr:WK m g m.1.toNat (zaz m.1.toNat k)=VV m.2.1 g m.1.toNat k.toNat (z4u m.1.toNat):=by simp [WK,zaz]
 have hM1:ValB (M1 m g m.1.toNat K):=by
  intro key v hv;by_cases hk:key∈K
  ·rw [M1,zs3 hk] at hv;simp only [if_true,zI] at hv;have:=zli hm.view hg.row hm.few key.2.1.toNat key.1.toNat;have:=z9p m.2.1 g m.1.toNat key.2.1.toNat key.1.toNat;simp only [WK] at hv;omega
  ·rw [M1,zgf hk] at hv;simp at hv
 have h56:=f56_eq N hN m g (M1 m g m.1.toNat K) (mkM_dist hsl.nd) hM1 (by rw [M1,zwd];omega);rw [M1_bells] at h56;unfold f20;rw [zxn N (by omega),ha];simp only [Option.bind_some,if_true,decide_true,Bool.not_true,cond_false];have e12:decide ((12:Int) < m.1)=false:=by simp;omega
 have hr:((((z4u m.1.toNat:Nat):Int)),(k,()))=zaz m.1.toNat k:=rfl;rw [e12,cond_false,zxl N hm];simp only [Option.bind_some];rw [hr,h52];simp only [Option.bind_some,back,Bool.not_true,cond_false];rw [h53];simp only [Option.bind_some,back];rw [h54];simp only [Option.bind_some,back,hWr];have hra:(zaz m.1.toNat k).1.toNat=z4u m.1.toNat:=by simp [zaz]
 rw [hra];by_cases hst:z1q g m.1.toNat (z4u m.1.toNat).testBit=VV m.2.1 g m.1.toNat k.toNat (z4u m.1.toNat)
 ·rw [decide_eq_true hst];simp only [Bool.not_true,cond_false];rw [h56];simp only [Option.bind_some,bestS,if_pos hst]
 ·rw [decide_eq_false hst];simp only [Bool.not_false,cond_true];have hU:=rootU hm.pos a3 a4;have hk0:=z9b hU;rw [hra] at hk0;have hrk:(zaz m.1.toNat k).2.1.toNat=k.toNat:=rfl;have h55:=f55_ok N hN hrep hsl hroot (by rw [hra,hWr];exact hst) (by
   have:=zzm hm hn8 g (l:=k.toNat) (by omega) (z4u m.1.toNat) 0 hk0.2.1 hk0.2.2.1;rw [hra,hrk];omega)
  rw [hra,hrk] at h55;rw [h55];simp only [Option.bind_some,zut];rw [h56];simp only [Option.bind_some,bestS,if_neg hst]
end Go.Kz
