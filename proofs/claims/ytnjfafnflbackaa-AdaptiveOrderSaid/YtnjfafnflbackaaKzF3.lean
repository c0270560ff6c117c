/-
  The layer adaptive: sets of secrets, their parts, what an action earns on them; plain laws.
-/
import Derived.Test.YtnjfafnflbackaaKzF2
set_option linter.unusedVariables false
set_option linter.unusedSimpArgs false
namespace Go.Kz
theorem zga (a b:Int):zu7 a b=max a b:=by simp only [zu7];split <;> omega
theorem minI_eq (a b:Int):minI a b=min a b:=by simp only [minI];split <;> omega
theorem pow62:(2:Nat) ^ 62=4611686018427387904:=by decide
theorem ipow (k:Nat):Int.pow 2 k=((2 ^ k:Nat):Int):=by
 show (2:Int) ^ k=_;push_cast;rfl
theorem zop (A k:Nat) (hA:A < 2 ^ 62) (hk:k < 64) :
  decide ((z0l (((((BitVec.ofInt 64 (Int.fdiv (A:Int) (Int.pow 2 (min (Int.toNat (k:Int)) 64)))).and (BitVec.ofInt 64 1)).toNat):Nat):Int))=1)=A.testBit k:=by
 have e1:min (Int.toNat (k:Int)) 64=k:=by simp;omega
 have e2:Int.fdiv (A:Int) (Int.pow 2 k)=((A / 2 ^ k:Nat):Int):=by
  rw [ipow,Int.fdiv_eq_ediv_of_nonneg _ (Int.natCast_nonneg _)];rfl
 rw [e1,e2];have e3:((BitVec.ofInt 64 ((A / 2 ^ k:Nat):Int)).and (BitVec.ofInt 64 1)).toNat=A / 2 ^ k % 2:=by
  show ((BitVec.ofInt 64 ((A / 2 ^ k:Nat):Int)) &&& (BitVec.ofInt 64 1)).toNat=_;rw [BitVec.toNat_and,BitVec.ofInt_natCast,BitVec.toNat_ofNat];have h1:(BitVec.ofInt 64 1).toNat=1:=by decide
  have h2:A / 2 ^ k < 2 ^ 64:=Nat.lt_of_le_of_lt (Nat.div_le_self _ _) (by omega);rw [h1,Nat.mod_eq_of_lt h2,Nat.and_one_is_mod]
 rw [e3,Nat.testBit_eq_decide_div_mod_eq];have h3:A / 2 ^ k % 2 < 2:=Nat.mod_lt _ (by omega);rw [z09 (by omega) (by omega)];rw [Bool.eq_iff_iff];simp only [decide_eq_true_eq];omega
theorem zkc {k:Nat} (h:k≤62):2 ^ k≤4611686018427387904:=by
 have:=Nat.pow_le_pow_right (n:=2) (by omega) h;rw [pow62] at this;exact this
theorem zfi {a:Nat} (h:a≤4611686018427387904*2-1):z0l (a:Int)=(a:Int):=z09 (by omega) (by omega)
theorem shl1 {k:Nat} (hk:k≤62):z0l (1*(2 ^ (min (Int.toNat (k:Int)) 64)))=((2 ^ k:Nat):Int):=by
 have e1:min (Int.toNat (k:Int)) 64=k:=by simp;omega
 have h:=zkc hk;have e2:(1*2 ^ k:Int)=((2 ^ k:Nat):Int):=by push_cast;simp
 rw [e1,e2];exact zfi (by omega)
theorem zk3 {a:Nat} (h:a < 2 ^ 62):(BitVec.ofInt 64 (a:Int)).toNat=a:=by
 rw [BitVec.ofInt_natCast,BitVec.toNat_ofNat,Nat.mod_eq_of_lt (by omega)]
theorem ztz (X S k:Nat) (hX:X < 2 ^ 62) (hS:S < 2 ^ 62) (hk:k < 62) :
  z0l (((((BitVec.ofInt 64 (X:Int)).or (BitVec.ofInt 64 (Go.IntKind.i64.wrap ↑((BitVec.ofInt 64 (S:Int)).and (BitVec.ofInt 64 (Go.IntKind.i64.wrap (Int.mul 1 (Int.pow 2 (min (Int.toNat (k:Int)) 64)))))).toNat))).toNat):Nat):Int)=((X ||| (S &&& 2 ^ k):Nat):Int):=by
 have e1:min (Int.toNat (k:Int)) 64=k:=by simp;omega
 have hp:2 ^ k < 2 ^ 62:=Nat.pow_lt_pow_right (by omega) (by omega);have e2:Go.IntKind.i64.wrap (Int.mul 1 (Int.pow 2 k))=((2 ^ k:Nat):Int):=by
  have:Int.mul 1 (Int.pow 2 k)=((2 ^ k:Nat):Int):=by
   show (1:Int)*(2:Int) ^ k=_;push_cast;simp
  rw [this];exact zfi (by omega)
 rw [e1,e2];have hand:S &&& 2 ^ k < 2 ^ 62:=Nat.lt_of_le_of_lt Nat.and_le_left hS;have e3:((BitVec.ofInt 64 (S:Int)).and (BitVec.ofInt 64 ((2 ^ k:Nat):Int))).toNat=S &&& 2 ^ k:=by
  show ((BitVec.ofInt 64 (S:Int)) &&& (BitVec.ofInt 64 ((2 ^ k:Nat):Int))).toNat=_;rw [BitVec.toNat_and,zk3 hS,zk3 hp]
 have e4:Go.IntKind.i64.wrap ((S &&& 2 ^ k:Nat):Int)=((S &&& 2 ^ k:Nat):Int):=z09 (n:=((S &&& 2 ^ k:Nat):Int)) (by omega) (by omega);rw [e3,e4];have hor:X ||| (S &&& 2 ^ k) < 2 ^ 62:=Nat.or_lt_two_pow hX hand;have e5:((BitVec.ofInt 64 (X:Int)).or (BitVec.ofInt 64 ((S &&& 2 ^ k:Nat):Int))).toNat=X ||| (S &&& 2 ^ k):=by
  show ((BitVec.ofInt 64 (X:Int)) ||| (BitVec.ofInt 64 ((S &&& 2 ^ k:Nat):Int))).toNat=_;rw [BitVec.toNat_or,zk3 hX,zk3 hand]
 rw [e5];exact z09 (by omega) (by omega)
def z7e (b:Nat->Bool):Nat->Nat
 | 0=>0
 | n+1=>z7e b n+if b n then 2 ^ n else 0
theorem zfb (b:Nat->Bool):(n:Nat)->z7e b n < 2 ^ n
 | 0=>by simp [z7e]
 | n+1=>by
  have:=zfb b n;simp only [z7e,Nat.pow_succ];split <;> omega
theorem zcn (b:Nat->Bool) (i:Nat):(n:Nat)->(z7e b n).testBit i=(decide (i < n) && b i)
 | 0=>by simp [z7e]
 | n+1=>by
  have hl:=zfb b n;have ih:=zcn b i n;simp only [z7e];by_cases h1:i < n
  ·have e1:decide (i < n+1)=true:=by simp;omega
   have e2:decide (i < n)=true:=by simp [h1]
   rw [e1];rw [e2] at ih;split
   ·rw [Nat.add_comm,Nat.testBit_two_pow_add_gt h1,ih]
   ·exact ih
  ·by_cases h2:i=n
   ·subst h2;have e1:decide (i < i+1)=true:=by simp
    rw [e1,Bool.true_and];have e3:(z7e b i).testBit i=false:=Nat.testBit_lt_two_pow hl;split
    ·rename_i hb;rw [Nat.add_comm,Nat.testBit_two_pow_add_eq,e3,hb];rfl
    ·rename_i hb;rw [Nat.add_zero,e3];simp [hb]
   ·have e1:decide (i < n+1)=false:=by simp;omega
    rw [e1,Bool.false_and];apply Nat.testBit_lt_two_pow;have:2 ^ (n+1)≤2 ^ i:=Nat.pow_le_pow_right (by omega) (by omega);rw [Nat.pow_succ] at this;split <;> omega
theorem bitsN_or (b:Nat->Bool) (S k:Nat) (h:b k=S.testBit k):z7e b k ||| (S &&& 2 ^ k)=z7e b (k+1):=by
 apply Nat.eq_of_testBit_eq;intro i;rw [Nat.testBit_or,Nat.testBit_and,Nat.testBit_two_pow,zcn,zcn];by_cases h1:i < k
 ·have e:¬ k=i:=by omega
  have e2:i < k+1:=by omega
  simp [h1,e,e2]
 ·by_cases h2:k=i
  ·subst h2;simp [h]
  ·have e2:¬ i < k+1:=by omega
   simp [h1,h2,e2]
theorem zt0 {a b:Nat} (h:a≤b) (f:Nat->Bool):z7e f a < 2 ^ b:=Nat.lt_of_lt_of_le (zfb f a) (Nat.pow_le_pow_right (by omega) h)
def z0d (m:z1o) (q:Nat):List Int:=m.2.1.getD q []
def part (v:List Int) (S c:Nat):Nat:=z7e (fun s=>S.testBit s && decide (v.getD s 0=(c:Int))) v.length
def z3c (v:List Int):Nat:=(top 0 v).toNat
def z4w (v:List Int) (S:Nat):List Int:=zdz (z3c v) fun c=>((part v S c:Nat):Int)
structure View (n:Nat) (v:List Int):Prop where
 len:v.length=n
 ok:okP v=true
structure MenuP (m:z1o) (n:Nat):Prop where
 secrets:m.1=(n:Int)
 pos:1≤n
 few:n≤62
 views:m.2.1.length≤8
 view:∀ v∈m.2.1,View n v
theorem zi1 {m:z1o} (h:z3r m=true):MenuP m m.1.toNat:=by
 obtain ⟨m1,m2,m3,m4⟩:=z61.1 h;refine ⟨by omega,by omega,by omega,m3,fun v hv=>⟨?_,(m4 v hv).2⟩⟩;have:=(m4 v hv).1;simp only [len] at this;omega
theorem MenuP.at {m:z1o} {n q:Nat} (h:MenuP m n) (hq:q < m.2.1.length):m.2.1[q]=z0d m q∧View n (z0d m q):=by
 have e:z0d m q=m.2.1[q]:=by simp [z0d,hq]
 rw [e];exact ⟨rfl,h.view _ (List.getElem_mem hq)⟩
theorem zrp (v:List Int) (S c s:Nat):(part v S c).testBit s=(decide (s < v.length) && (S.testBit s && decide (v.getD s 0=(c:Int)))):=zcn _ _ _
theorem zpu (v:List Int) (S c:Nat):part v S c < 2 ^ v.length:=zfb _ _
theorem z8w {n:Nat} {v:List Int} (h:View n v):z3c v≤n:=by
 have:=(z2o h.ok).2.1;rw [←h.len];simp only [z3c];omega
theorem zsy {n:Nat} {v:List Int} (h:View n v) {s:Nat} (hs:s < v.length):∃ c:Nat,v[s]=(c:Int)∧c < z3c v∧v.getD s 0=(c:Int):=by
 have:=(z2o h.ok).2.2 _ (List.getElem_mem hs);refine ⟨v[s].toNat,by omega,by simp only [z3c];omega,?_⟩;rw [List.getD_eq_getElem?_getD,List.getElem?_eq_getElem hs];simp;omega
theorem f93_eq (N:Nat) (hN:400 < N) {n:Nat} {v:List Int} (h:View n v) (hn:1≤n) (hn2:n≤62):f93 N v=some (top 0 v-1):=by
 have hl:=h.len;unfold f93;have e1:decide (len v < 1)=false:=by simp [len];omega
 rw [e1,cond_false];have h0:0 < v.length:=by omega
 rw [show (0:Int)=((0:Nat):Int) from rfl,z0s h0];simp only [Option.bind_some];have ha:=ok_at h.ok h0;simp only [List.take_zero,top] at ha;refine z2s (fun x:Int×Int=>∃ k:Nat,x.1=k∧1≤k∧k≤v.length∧x.2=top 0 (v.take k)-1) (fun x=>v.length-x.1.toNat) ?_ N (1,v[0]) ⟨1,rfl,by omega,by omega,?_⟩ (by simp;omega)
 ·rintro ⟨i,t⟩ w ⟨k,hi,hk1,hk,ht⟩ hw;simp only at hi ht;subst hi;subst ht;simp only [zsh];by_cases hlt:k < v.length
  ·obtain ⟨b1,b2,b3⟩:=z2o (zkl h.ok k);obtain ⟨a1,a2⟩:=ok_at h.ok hlt;rw [z1g hlt,cond_true,z0s hlt];simp only [Option.bind_some];rw [z09 (by omega) (by omega)];refine hw _ ⟨k+1,by simp,by omega,by omega,?_⟩ (by simp;omega);rw [z1s hlt,z82,zga];simp only;omega
  ·have hk':k=v.length:=by omega
   subst hk';rw [z11,cond_false,List.take_length];rfl
 ·rw [z1s h0];simp only [List.take_zero,List.nil_append,top];omega
theorem zni (N:Nat) (hN:400 < N) {n:Nat} {v:List Int} (h:View n v) (hn:1≤n) (hn2:n≤62) {S:Nat} (hS:S < 2 ^ 62):f76 N v (S:Int)=some (z4w v S):=by
 have hl:=h.len;obtain ⟨t1,t2,t3⟩:=z2o h.ok;have htn:((z3c v:Nat):Int)=top 0 v:=by simp only [z3c];omega
 have hroom:((z3i:Nat):Int)=4294967296:=rfl;unfold f76;rw [f93_eq N hN h hn hn2];simp only [Option.bind_some];have e0:z0l (top 0 v-1+1)=top 0 v:=by rw [z09 (by omega) (by omega)];omega
 rw [e0,z0k (by rw [hroom];simp;omega)];refine z1w (fun k o=>o=zdz (z3c v) fun c=>((z7e (fun s=>S.testBit s && decide (v.getD s 0=(c:Int))) k:Nat):Int)) v.length ?_ ?_ N (by omega) _ ?_
 ·intro k o w hk ho hw;subst ho;obtain ⟨c,hc1,hc2,hc3⟩:=zsy h hk;simp only [znj];have hct:c < (zdz (z3c v) fun c=>((z7e (fun s=>S.testBit s && decide (v.getD s 0=(c:Int))) k:Nat):Int)).length:=by rw [z2p];exact hc2
  have e1:decide ((k:Int) < 0)=false:=by simp
  rw [z1g hk,cond_true,z0s hk];simp only [Option.bind_some];rw [hc1,z0k (z3n hct),z0s hct];simp only [Option.bind_some];rw [e1,cond_false,z0k (z3n hct),z4j,ztz _ S k (zt0 (by omega) _) hS (by omega),z09 (by omega) (by omega),z5c,zk4,bitsN_or _ S k (by rw [hc3];simp)];refine hw _ (z4y fun d hd=>?_);by_cases hdc:d=c
  ·subst hdc;simp
  ·have:¬ v.getD k 0=(d:Int):=by rw [hc3];omega
   simp only [hdc,if_false,z7e,this,decide_false,Bool.and_false,Bool.false_eq_true,Nat.add_zero]
 ·intro o w ho;subst ho;simp only [znj];rw [z11,cond_false];rfl
 ·have:(top 0 v).toNat=z3c v:=rfl;rw [this,zk5];rfl
theorem f65_eq (N:Nat) {S k:Nat} (hS:S < 2 ^ 62) (hk:k < 64):f65 N (S:Int) (k:Int)=some (S.testBit k):=by
 unfold f65;have e1:decide ((k:Int) < 0)=false:=by simp
 rw [e1,cond_false,zop S k hS hk]
def partsN (v:List Int) (S:Nat):List Nat:=((List.range (z3c v)).map (part v S)).filter fun y=>decide (y≠0)
def z4u (n:Nat):Nat:=2 ^ n-1
theorem zlf (n:Nat):z4u n < 2 ^ n:=by have:=Nat.two_pow_pos n;simp only [z4u];omega
theorem zt6 (n s:Nat):(z4u n).testBit s=decide (s < n):=by simp only [z4u];exact Nat.testBit_two_pow_sub_one n s
theorem lt62 {n S:Nat} (hn:n≤62) (h:S < 2 ^ n):S < 2 ^ 62:=Nat.lt_of_lt_of_le h (Nat.pow_le_pow_right (by omega) hn)
theorem zxl (N:Nat) {m:z1o} {n:Nat} (hm:MenuP m n):f35 N m=some ((z4u n:Nat):Int):=by
 have:=hm.few;have hp:=Nat.two_pow_pos n;unfold f35;rw [hm.secrets];have e1:decide ((n:Int) < 0)=false:=by simp
 have:=zkc (k:=n) (by omega);rw [e1,cond_false,shl1 (by omega),z09 (by omega) (by omega)];simp only [z4u];congr 1;omega
def zhx (row:List Int) (n:Nat) (P:Nat->Bool):Int:=z1k n fun s=>if P s then row.getD s 0 else 0
def z1q (g:List (List Int)) (n:Nat) (P:Nat->Bool):Int:=g.foldl (fun b row=>max b (zhx row n P)) 0
theorem zdg (g:List (List Int)) (row:List Int) (n:Nat) (P:Nat->Bool):z1q (g++[row]) n P=max (z1q g n P) (zhx row n P):=by simp [z1q]
structure GainP (g:List (List Int)) (n:Nat):Prop where
 pos:1≤g.length
 few:g.length≤64
 row:∀ row∈g,z92 (n:Int) row=true
theorem gainP {g:List (List Int)} {n:Nat} (h:z5s g (n:Int)=true):GainP g n:=by
 simp only [z5s,zA,decide_eq_true_eq,len] at h;exact ⟨by omega,by omega,fun row hr=>List.all_eq_true.1 h.2 row hr⟩
theorem zd2 {n:Nat} {row:List Int} (h:z92 (n:Int) row=true) (k:Nat) (P:Nat->Bool):0≤zhx row k P∧zhx row k P≤k*1024:=by
 have hr:=(ze3 h).2;constructor
 ·refine z35 fun i _=>?_
  have:=hr i;split <;> omega
 ·refine z3q fun i _=>?_
  have:=hr i;split <;> omega
theorem z8c {n:Nat} (P:Nat->Bool):{g:List (List Int)}->(∀ row∈g,z92 (n:Int) row=true)->0≤z1q g n P∧z1q g n P≤n*1024:=by
 intro g
 induction g using zb0 with
 | h0=>intro _;simp only [z1q,List.foldl_nil];omega
 | h1 g row ih=>
  intro h;have h1:=ih (fun r hr=>h r (by simp [hr]));have h2:=zd2 (h row (by simp)) n P;rw [zdg];omega
theorem zxk (N:Nat) (hN:400 < N) {g:List (List Int)} {n:Nat} (hg:GainP g n) (hn:n≤62) {S:Nat} (hS:S < 2 ^ 62):f36 N g (S:Int)=some (z1q g n S.testBit):=by
 have hgl:=hg.few;unfold f36;refine z1w (fun i b=>b=z1q (g.take i) n S.testBit) g.length ?_ ?_ N (by omega) _ (by simp [z1q])
 ·intro i b w hi hb hw;subst hb;have hri:=hg.row _ (List.getElem_mem hi);have hr1:=(ze3 hri).1;have hrl:g[i].length=n:=by simp only [len] at hr1;omega
  simp only [zo1];rw [z1g hi,cond_true,z0s hi];simp only [Option.bind_some];refine z1w (fun k x=>x=zhx g[i] k S.testBit) n ?_ ?_ N (by omega) _ rfl
  ·intro k x w2 hk hx hw2;subst hx;have hb:=zd2 hri k S.testBit;have hkg:k < g[i].length:=by omega
   have hgk:g[i].getD k 0=g[i][k]:=by rw [List.getD_eq_getElem?_getD,List.getElem?_eq_getElem hkg];rfl
   have hnum:=(ze3 hri).2 k;rw [hgk] at hnum;have e2:decide ((k:Int) < 0)=false:=by simp
   simp only [zo0];rw [z1g hkg,cond_true,z0s hkg];simp only [Option.bind_some];rw [e2,cond_false,zop S k hS (by omega),z09 (n:=(k:Int)+1) (by omega) (by omega)]
   cases hb:S.testBit k with
   | true=>
    rw [cond_true,z09 (by omega) (by omega)]
    exact hw2 _ (by simp only [zhx,z1k,hb,if_true,hgk])
   | false=>
    rw [cond_false];exact hw2 _ (by simp only [zhx,z1k,hb,Bool.false_eq_true,if_false];omega)
  ·intro x w2 hx;subst hx;simp only [zo0];rw [←hrl,z11,cond_false,z09 (by omega) (by omega),zga,hrl];exact hw _ (by rw [z1s hi,zdg])
 ·intro b w hb;subst hb;simp only [zo1];rw [z11,cond_false,List.take_length]
theorem f40_eq (N:Nat) (hN:400 < N) {m:z1o} {g:List (List Int)} {n:Nat} (hm:MenuP m n) (hg:GainP g n) {S:Nat} (hS:S < 2 ^ 62):f40 N m g (S:Int)=some (z1q g n S.testBit):=by
 have hgl:=hg.few;have hn:=hm.few;unfold f40;refine z1w (fun i b=>b=z1q (g.take i) n S.testBit) g.length ?_ ?_ N (by omega) _ (by simp [z1q])
 ·intro i b w hi hb hw;subst hb;have hri:=hg.row _ (List.getElem_mem hi);have hr1:=(ze3 hri).1;have hrl:g[i].length=n:=by simp only [len] at hr1;omega
  simp only [zny];rw [z1g hi,cond_true,z0s hi];simp only [Option.bind_some];refine z1w (fun k x=>x=zhx g[i] k S.testBit) n ?_ ?_ N (by omega) _ rfl
  ·intro k x w2 hk hx hw2;subst hx;have hb:=zd2 hri k S.testBit;have hkg:k < g[i].length:=by omega
   have hgk:g[i].getD k 0=g[i][k]:=by rw [List.getD_eq_getElem?_getD,List.getElem?_eq_getElem hkg];rfl
   have hnum:=(ze3 hri).2 k;rw [hgk] at hnum;simp only [znx];have e1:decide ((k:Int) < m.1)=true:=by rw [hm.secrets];simp;omega
   rw [e1,cond_true,f65_eq N hS (by omega),z09 (n:=(k:Int)+1) (by omega) (by omega)];simp only [Option.bind_some]
   cases hb:S.testBit k with
   | true=>
    rw [cond_true,z0s hkg];simp only [Option.bind_some];rw [z09 (by omega) (by omega)]
    exact hw2 _ (by simp only [zhx,z1k,hb,if_true,hgk])
   | false=>
    rw [cond_false];exact hw2 _ (by simp only [zhx,z1k,hb,Bool.false_eq_true,if_false];omega)
  ·intro x w2 hx;subst hx;simp only [znx];have e1:decide ((n:Int) < m.1)=false:=by rw [hm.secrets];simp
   rw [e1,cond_false,z09 (by omega) (by omega),zga];exact hw _ (by rw [z1s hi,zdg])
 ·intro b w hb;subst hb;simp only [zny];rw [z11,cond_false,List.take_length]
end Go.Kz
