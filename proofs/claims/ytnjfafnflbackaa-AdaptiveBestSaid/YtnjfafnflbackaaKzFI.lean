/-
  The layer adaptive: worth of partitions; Best's result; plain laws.
-/
import Derived.Test.YtnjfafnflbackaaKzFH
set_option linter.unusedVariables false
set_option linter.unusedSimpArgs false
namespace Go.Kz
theorem zy3 {n:Nat} {p:List Int} (hp:View n p) (row:List Int) (c:Nat):zv2 row p p.length (c:Int)=zht row n (part p (z6u n) c).testBit:=by
 rw [hp.len];refine z1j fun s hs=>?_
 rw [z5n hp _ c hs,allS_bit];have h0:=zox hp hs;by_cases h:p.getD s 0=(c:Int)
 ·have:(p.getD s 0).toNat=c:=by omega
  rw [if_pos h,decide_eq_true hs,decide_eq_true this];rfl
 ·have:¬ (p.getD s 0).toNat=c:=by omega
  rw [if_neg h,decide_eq_false this,Bool.and_false];rfl
theorem ztq (g:List (List Int)) {n:Nat} {p:List Int} (hp:View n p):zm4 g p=zct p (z6u n) fun y=>z1m g n y.testBit:=by
 refine z1j fun c _=>?_
 have:z7l g p (c:Int)=z1m g n (part p (z6u n) c).testBit:=by
  simp only [z7l,z1m,zy3 hp]
 rw [this];split
 ·rename_i h;rw [h];exact za2 g (by simp)
 ·rfl
theorem WW_cls (g:List (List Int)) {n:Nat} {p:List Int} (hp:View n p) (S:Nat):WW g n S.testBit (fun s=>p.getD s 0)=zct p S fun y=>z1m g n y.testBit:=by
 rw [zlu g hp S _ (fun r s _ _ _ _ h=>h)];refine zif fun c _ _=>zls g fun r s hr hs h1 h2=>?_
 rw [z5n hp S c hr,zA,decide_eq_true_eq] at h1;rw [z5n hp S c hs,zA,decide_eq_true_eq] at h2;have:=zox hp hr;have:=zox hp hs;omega
theorem zv6 (g:List (List Int)) {n:Nat} {p:List Int} (hp:View n p):zm4 g p=WW g n (z6u n).testBit (fun s=>p.getD s 0):=by rw [ztq g hp,WW_cls g hp]
theorem ofL_view {α:Type} [DecidableEq α] {n:Nat} {l:List α} (h:l.length=n):View n (ofL l):=⟨by rw [z6i,h],zqe l⟩
theorem ofL_getD {α:Type} [DecidableEq α] {l:List α} {i j:Nat} (hi:i < l.length) (hj:j < l.length):(ofL l).getD i 0=(ofL l).getD j 0↔l[i]=l[j]:=by
 have:=zs3 hi hj;rw [List.getD_eq_getElem?_getD,List.getD_eq_getElem?_getD,List.getElem?_eq_getElem (by rw [z6i];exact hi),List.getElem?_eq_getElem (by rw [z6i];exact hj)];exact this
theorem zga {m:z1i} {n:Nat} (hm:MenuP m n) (qs:List Int):View n (z2a m qs):=ofL_view (by simp [hm.secrets])
theorem zqo {m:z1i} {n:Nat} (hm:MenuP m n) (qs:List Int) {r s:Nat} (hr:r < n) (hs:s < n):(z2a m qs).getD r 0=(z2a m qs).getD s 0↔zqn m qs r=zqn m qs s:=by
 have hn:m.1.toNat=n:=by rw [hm.secrets];rfl
 have:=ofL_getD (l:=(List.range m.1.toNat).map fun x=>zqn m qs x) (i:=r) (j:=s) (by simp;omega) (by simp;omega);simp only [List.getElem_map,List.getElem_range] at this;exact this
theorem keyQ_ans (m:z1i) (qs:List Int):zqn m qs=zyc (qs.map fun q=>z5m m q):=by
 funext s;simp [zqn,zyc]
def zpr (m:z1i) (g:List (List Int)) (n:Nat) (qs:List Int):Int:=WW g n (z6u n).testBit (zyc (qs.map fun q=>z5m m q))
theorem zpt {m:z1i} {n:Nat} (hm:MenuP m n) (g:List (List Int)) (qs:List Int):zm4 g (z2a m qs)=zpr m g n qs:=by
 rw [zv6 g (zga hm qs)];refine zlt g (fun _ _=>rfl) fun r s hr hs _ _=>?_
 rw [zqo hm qs hr hs,keyQ_ans]
def zy2 (n S:Nat):Int:=zht (List.replicate n 1) n S.testBit
theorem zh7 (n S:Nat):0≤zy2 n S:=z4f fun i hi=>by
 split
 ·rw [List.getD_eq_getElem?_getD,List.getElem?_replicate,if_pos hi];decide
 ·omega
theorem cntS_pos {n S:Nat} (hS:S < 2 ^ n) (h0:S≠0):1≤zy2 n S:=by
 obtain ⟨s,hs,hb⟩:=zz8 hS h0;have h1:=z7p (n:=n) (f:=fun i=>if i=s then 1 else 0) (g:=fun i=>if S.testBit i then (List.replicate n (1:Int)).getD i 0 else 0) (fun i hi=>by
  by_cases h:i=s
  ·subst h;rw [if_pos rfl,hb,if_pos rfl,List.getD_eq_getElem?_getD,List.getElem?_replicate,if_pos hi];decide
  ·rw [if_neg h];split
   ·rw [List.getD_eq_getElem?_getD,List.getElem?_replicate,if_pos hi];decide
   ·exact Int.le_refl _)
 rw [zma 1 hs] at h1;exact h1
theorem cntS_le (n S:Nat):zy2 n S≤n:=by
 have:=z4c (n:=n) (f:=fun s=>if S.testBit s then (List.replicate n (1:Int)).getD s 0 else 0) (b:=1) (fun i hi=>by
  split
  ·rw [List.getD_eq_getElem?_getD,List.getElem?_replicate,if_pos hi];decide
  ·omega)
 simp only [zy2,zht];omega
theorem zmu (vs g:List (List Int)) (n l:Nat) (f:Nat->Nat->List z1c) (v:List Int) (S base:Nat) (acc:List Int×List z1c) (c:Nat) :
  (z2p vs g n l f v S base acc c).2.length=if z85 vs g n l (part v S c)=true then acc.2.length else acc.2.length+(f (part v S c) (base+1+acc.2.length)).length:=by
 unfold z2p;split <;> simp
theorem zmv {m:z1i} {n:Nat} (hm:MenuP m n) (g:List (List Int)):(l S base:Nat)->S < 2 ^ n->S≠0->((z3j m.2.1 g n l S base).length:Int)≤l*zy2 n S
 | 0,S,base,_,_=>by simp [z3j]
 | l+1,S,base,hS,h0=>by
  have h1:=cntS_pos hS h0;simp only [z3j,List.length_cons];by_cases hq:qOf m.2.1 g n l S < m.2.1.length
  ·obtain ⟨e1,hv⟩:=hm.at hq;have hqv:m.2.1.getD (qOf m.2.1 g n l S) []=z05 m (qOf m.2.1 g n l S):=rfl;rw [hqv];generalize z05 m (qOf m.2.1 g n l S)=v at hv;have key:∀ k,k≤z2f v->((((List.range k).foldl (z2p m.2.1 g n l (z3j m.2.1 g n l) v S base) ([],[])).2.length:Nat):Int)≤z1r k fun c=>l*zy2 n (part v S c):=by
    intro k
    induction k with
    | zero=>intro _;simp [z1r]
    | succ k ih=>
     intro hk;have ih:=ih (by omega);rw [List.range_succ,List.foldl_append];simp only [List.foldl_cons,List.foldl_nil,z1r];have hc:=zh7 n (part v S k);have hm0:(0:Int)≤l*zy2 n (part v S k):=Int.mul_nonneg (by omega) hc;rw [zmu];split
     ·omega
     ·rename_i hst;have hst':part v S k≠0:=by
       intro e;exact hst (by simp [z85,e])
      have:=zmv hm g l (part v S k) (base+1+((List.range k).foldl (z2p m.2.1 g n l (z3j m.2.1 g n l) v S base) ([],[])).2.length) (zkq hv S k) hst';push_cast;omega
   have hk:=key (z2f v) (Nat.le_refl _);have hsum:(z1r (z2f v) fun c=>(l:Int)*zy2 n (part v S c))=l*zy2 n S:=by
    have hmul:∀ (k:Nat) (f:Nat->Int),z1r k (fun c=>(l:Int)*f c)=l*z1r k f:=by
     intro k f
     induction k with
     | zero=>simp [z1r]
     | succ k ih=>simp only [z1r,ih,Int.mul_add]
    rw [hmul];congr 1;exact (zig hv S _).symm
   rw [hsum] at hk;push_cast;rw [Int.add_mul,Int.one_mul];omega
  ·have hqv:m.2.1.getD (qOf m.2.1 g n l S) []=[]:=by
    rw [List.getD_eq_getElem?_getD,List.getElem?_eq_none (by omega)];rfl
   rw [hqv];have ht:z2f []=0:=rfl;rw [ht];simp only [List.range_zero,List.foldl_nil,List.length_nil];push_cast;rw [Int.add_mul,Int.one_mul];have:(0:Int)≤l*zy2 n S:=Int.mul_nonneg (by omega) (by omega);omega
theorem zkn {m:z1i} {n:Nat} (hm:MenuP m n) (hn8:n≤8) (g:List (List Int)) {l:Nat} (hl:l≤8) (S base:Nat) (hS:S < 2 ^ n) (h0:S≠0):(z3j m.2.1 g n l S base).length≤64:=by
 have h1:=zmv hm g l S base hS h0;have h2:=cntS_le n S;have h3:=zh7 n S;have h4:(l:Int)*zy2 n S≤8*8:=Int.mul_le_mul (by omega) (by omega) (by omega) (by omega);omega
def zhe (m:z1i) (g:List (List Int)) (n:Nat) (p:Key):z56:=(p.1,p.2.1,WK m g n p,())
def zhd (m:z1i) (g:List (List Int)) (n:Nat) (k:Int):List z1c:=
 if z1m g n (z6u n).testBit=VV m.2.1 g n k.toNat (z6u n) then [] else z3j m.2.1 g n k.toNat (z6u n) 0
theorem M1_bells (m:z1i) (g:List (List Int)) (n:Nat) (K:List Key):(M1 m g n K).map z5y=K.map (zhe m g n):=by
 simp only [M1,mkM,List.map_map];rfl
theorem zcl {m:z1i} {g:List (List Int)} {k:Int}:zr5 m g k=true↔z41 m=true∧z5x g m.1=true∧0≤k∧k≤8:=by
 simp [zr5,and_assoc]
theorem f20_ok (N:Nat) (hN:5000 < N) (hrep:RepOK N) {m:z1i} {g:List (List Int)} {k:Int} (ha:zr5 m g k=true) (hn8:m.1.toNat≤8) :
  ∃ K,f20 N m g k=some (VV m.2.1 g m.1.toNat k.toNat (z6u m.1.toNat),(zhd m g m.1.toNat k,(zbl (K.map (zhe m g m.1.toNat)),0)))∧Slv m g m.1.toNat K∧z4k m.1.toNat k∈K∧∀ x,x∈K↔Rch m.2.1 (z4k m.1.toNat k) x:=by
 obtain ⟨a1,a2,a3,a4⟩:=zcl.1 ha;have hm:=zhx a1;have hs:=hm.secrets;have hg:GainP g m.1.toNat:=gainP (by rw [←hs];exact a2);obtain ⟨K,h52,hsl,hroot,hK⟩:=f52_ok N hN (g:=g) hm hg hn8 a3 a4;refine ⟨K,?_,hsl,hroot,hK⟩;have h53:=f53_root N hN hsl hroot (fun x hx=>(hK x).1 hx);have h54:=zxn N hN hsl hroot;have hlen:=zc5 hn8 hsl.nd hsl.keys;have hWr:WK m g m.1.toNat (z4k m.1.toNat k)=VV m.2.1 g m.1.toNat k.toNat (z6u m.1.toNat):=by simp [WK,z4k]
 have hM1:ValB (M1 m g m.1.toNat K):=by
  intro key v hv;by_cases hk:key∈K
  ·rw [M1,zse hk] at hv;simp only [if_true,zI] at hv;have:=zf4 hm.view hg.row hm.few key.2.1.toNat key.1.toNat;have:=z9r m.2.1 g m.1.toNat key.2.1.toNat key.1.toNat;simp only [WK] at hv;omega
  ·rw [M1,zg5 hk] at hv;simp at hv
 have h56:=f56_eq N hN m g (M1 m g m.1.toNat K) (mkM_dist hsl.nd) hM1 (by rw [M1,zwh];omega);rw [M1_bells] at h56;unfold f20;rw [zsx N (by omega),ha];simp only [Option.bind_some,if_true,decide_true,Bool.not_true,cond_false];have e12:decide ((12:Int) < m.1)=false:=by simp;omega
 have hr:((((z6u m.1.toNat:Nat):Int)),(k,()))=z4k m.1.toNat k:=rfl;rw [e12,cond_false,zsw N hm];simp only [Option.bind_some];rw [hr,h52];simp only [Option.bind_some,back,Bool.not_true,cond_false];rw [h53];simp only [Option.bind_some,back];rw [h54];simp only [Option.bind_some,back,hWr];have hra:(z4k m.1.toNat k).1.toNat=z6u m.1.toNat:=by simp [z4k]
 rw [hra];by_cases hst:z1m g m.1.toNat (z6u m.1.toNat).testBit=VV m.2.1 g m.1.toNat k.toNat (z6u m.1.toNat)
 ·rw [decide_eq_true hst];simp only [Bool.not_true,cond_false];rw [h56];simp only [Option.bind_some,zhd,if_pos hst]
 ·rw [decide_eq_false hst];simp only [Bool.not_false,cond_true];have hU:=zzi hm.pos a3 a4;have hk0:=z4q hU;rw [hra] at hk0;have hrk:(z4k m.1.toNat k).2.1.toNat=k.toNat:=rfl;have h55:=f55_ok N hN hrep hsl hroot (by rw [hra,hWr];exact hst) (by
   have:=zkn hm hn8 g (l:=k.toNat) (by omega) (z6u m.1.toNat) 0 hk0.2.1 hk0.2.2.1;rw [hra,hrk];omega)
  rw [hra,hrk] at h55;rw [h55];simp only [Option.bind_some,zi5];rw [h56];simp only [Option.bind_some,zhd,if_neg hst]
end Go.Kz
