/-
  The layer adaptive: sets of secrets, their parts, what an action earns on them; plain laws.
-/
import Derived.Test.YtnjfafnflbackaaKzF2
set_option linter.unusedVariables false
set_option linter.unusedSimpArgs false
namespace Go.Kz
theorem zdb (a b:Int):zps a b=max a b:=by simp only [zps];split <;> omega
theorem minI_eq (a b:Int):minI a b=min a b:=by simp only [minI];split <;> omega
theorem pow62:(2:Nat) ^ 62=4611686018427387904:=by decide
theorem ipow (k:Nat):Int.pow 2 k=((2 ^ k:Nat):Int):=by
 show (2:Int) ^ k=_;push_cast;rfl
theorem zp9 (A k:Nat) (hA:A < 2 ^ 62) (hk:k < 64) :
  decide ((z0k (((((BitVec.ofInt 64 (Int.fdiv (A:Int) (Int.pow 2 (min (Int.toNat (k:Int)) 64)))).and (BitVec.ofInt 64 1)).toNat):Nat):Int))=1)=A.testBit k:=by
 have e1:min (Int.toNat (k:Int)) 64=k:=by simp;omega
 have e2:Int.fdiv (A:Int) (Int.pow 2 k)=((A / 2 ^ k:Nat):Int):=by
  rw [ipow,Int.fdiv_eq_ediv_of_nonneg _ (Int.natCast_nonneg _)];rfl
 rw [e1,e2];have e3:((BitVec.ofInt 64 ((A / 2 ^ k:Nat):Int)).and (BitVec.ofInt 64 1)).toNat=A / 2 ^ k % 2:=by
  show ((BitVec.ofInt 64 ((A / 2 ^ k:Nat):Int)) &&& (BitVec.ofInt 64 1)).toNat=_;rw [BitVec.toNat_and,BitVec.ofInt_natCast,BitVec.toNat_ofNat];have h1:(BitVec.ofInt 64 1).toNat=1:=by decide
  have h2:A / 2 ^ k < 2 ^ 64:=Nat.lt_of_le_of_lt (Nat.div_le_self _ _) (by omega);rw [h1,Nat.mod_eq_of_lt h2,Nat.and_one_is_mod]
 rw [e3,Nat.testBit_eq_decide_div_mod_eq];have h3:A / 2 ^ k % 2 < 2:=Nat.mod_lt _ (by omega);rw [z09 (by omega) (by omega)];rw [Bool.eq_iff_iff];simp only [decide_eq_true_eq];omega
theorem zkt {k:Nat} (h:k≤62):2 ^ k≤4611686018427387904:=by
 have:=Nat.pow_le_pow_right (n:=2) (by omega) h;rw [pow62] at this;exact this
theorem zfi {a:Nat} (h:a≤4611686018427387904*2-1):z0k (a:Int)=(a:Int):=z09 (by omega) (by omega)
theorem shl1 {k:Nat} (hk:k≤62):z0k (1*(2 ^ (min (Int.toNat (k:Int)) 64)))=((2 ^ k:Nat):Int):=by
 have e1:min (Int.toNat (k:Int)) 64=k:=by simp;omega
 have h:=zkt hk;have e2:(1*2 ^ k:Int)=((2 ^ k:Nat):Int):=by push_cast;simp
 rw [e1,e2];exact zfi (by omega)
theorem zkf {a:Nat} (h:a < 2 ^ 62):(BitVec.ofInt 64 (a:Int)).toNat=a:=by
 rw [BitVec.ofInt_natCast,BitVec.toNat_ofNat,Nat.mod_eq_of_lt (by omega)]
theorem zu8 (X S k:Nat) (hX:X < 2 ^ 62) (hS:S < 2 ^ 62) (hk:k < 62) :
  z0k (((((BitVec.ofInt 64 (X:Int)).or (BitVec.ofInt 64 (Go.IntKind.i64.wrap ↑((BitVec.ofInt 64 (S:Int)).and (BitVec.ofInt 64 (Go.IntKind.i64.wrap (Int.mul 1 (Int.pow 2 (min (Int.toNat (k:Int)) 64)))))).toNat))).toNat):Nat):Int)=((X ||| (S &&& 2 ^ k):Nat):Int):=by
 have e1:min (Int.toNat (k:Int)) 64=k:=by simp;omega
 have hp:2 ^ k < 2 ^ 62:=Nat.pow_lt_pow_right (by omega) (by omega);have e2:Go.IntKind.i64.wrap (Int.mul 1 (Int.pow 2 k))=((2 ^ k:Nat):Int):=by
  have:Int.mul 1 (Int.pow 2 k)=((2 ^ k:Nat):Int):=by
   show (1:Int)*(2:Int) ^ k=_;push_cast;simp
  rw [this];exact zfi (by omega)
 rw [e1,e2];have hand:S &&& 2 ^ k < 2 ^ 62:=Nat.lt_of_le_of_lt Nat.and_le_left hS;have e3:((BitVec.ofInt 64 (S:Int)).and (BitVec.ofInt 64 ((2 ^ k:Nat):Int))).toNat=S &&& 2 ^ k:=by
  show ((BitVec.ofInt 64 (S:Int)) &&& (BitVec.ofInt 64 ((2 ^ k:Nat):Int))).toNat=_;rw [BitVec.toNat_and,zkf hS,zkf hp]
 have e4:Go.IntKind.i64.wrap ((S &&& 2 ^ k:Nat):Int)=((S &&& 2 ^ k:Nat):Int):=z09 (n:=((S &&& 2 ^ k:Nat):Int)) (by omega) (by omega);rw [e3,e4];have hor:X ||| (S &&& 2 ^ k) < 2 ^ 62:=Nat.or_lt_two_pow hX hand;have e5:((BitVec.ofInt 64 (X:Int)).or (BitVec.ofInt 64 ((S &&& 2 ^ k:Nat):Int))).toNat=X ||| (S &&& 2 ^ k):=by
  show ((BitVec.ofInt 64 (X:Int)) ||| (BitVec.ofInt 64 ((S &&& 2 ^ k:Nat):Int))).toNat=_;rw [BitVec.toNat_or,zkf hX,zkf hand]
 rw [e5];exact z09 (by omega) (by omega)
def z7g (b:Nat->Bool):Nat->Nat
 | 0=>0
 | n+1=>z7g b n+if b n then 2 ^ n else 0
theorem zfa (b:Nat->Bool):(n:Nat)->z7g b n < 2 ^ n
 | 0=>by simp [z7g]
 | n+1=>by
  have:=zfa b n;simp only [z7g,Nat.pow_succ];split <;> omega
theorem zcl (b:Nat->Bool) (i:Nat):(n:Nat)->(z7g b n).testBit i=(decide (i < n) && b i)
 | 0=>by simp [z7g]
 | n+1=>by
  have hl:=zfa b n;have ih:=zcl b i n;simp only [z7g];by_cases h1:i < n
  ·have e1:decide (i < n+1)=true:=by simp;omega
   have e2:decide (i < n)=true:=by simp [h1]
   rw [e1];rw [e2] at ih;split
   ·rw [Nat.add_comm,Nat.testBit_two_pow_add_gt h1,ih]
   ·exact ih
  ·by_cases h2:i=n
   ·subst h2;have e1:decide (i < i+1)=true:=by simp
    rw [e1,Bool.true_and];have e3:(z7g b i).testBit i=false:=Nat.testBit_lt_two_pow hl;split
    ·rename_i hb;rw [Nat.add_comm,Nat.testBit_two_pow_add_eq,e3,hb];rfl
    ·rename_i hb;rw [Nat.add_zero,e3];simp [hb]
   ·have e1:decide (i < n+1)=false:=by simp;omega
    rw [e1,Bool.false_and];apply Nat.testBit_lt_two_pow;have:2 ^ (n+1)≤2 ^ i:=Nat.pow_le_pow_right (by omega) (by omega);rw [Nat.pow_succ] at this;split <;> omega
theorem bitsN_or (b:Nat->Bool) (S k:Nat) (h:b k=S.testBit k):z7g b k ||| (S &&& 2 ^ k)=z7g b (k+1):=by
 apply Nat.eq_of_testBit_eq;intro i;rw [Nat.testBit_or,Nat.testBit_and,Nat.testBit_two_pow,zcl,zcl];by_cases h1:i < k
 ·have e:¬ k=i:=by omega
  have e2:i < k+1:=by omega
  simp [h1,e,e2]
 ·by_cases h2:k=i
  ·subst h2;simp [h]
  ·have e2:¬ i < k+1:=by omega
   simp [h1,h2,e2]
theorem ztf {a b:Nat} (h:a≤b) (f:Nat->Bool):z7g f a < 2 ^ b:=Nat.lt_of_lt_of_le (zfa f a) (Nat.pow_le_pow_right (by omega) h)
def z0b (m:z1s) (q:Nat):List Int:=m.2.1.getD q []
def part (v:List Int) (S c:Nat):Nat:=z7g (fun s=>S.testBit s && decide (v.getD s 0=(c:Int))) v.length
def z2j (v:List Int):Nat:=(top 0 v).toNat
def z4y (v:List Int) (S:Nat):List Int:=zdx (z2j v) fun c=>((part v S c:Nat):Int)
structure View (n:Nat) (v:List Int):Prop where
 len:v.length=n
 ok:okP v=true
structure MenuP (m:z1s) (n:Nat):Prop where
 secrets:m.1=(n:Int)
 pos:1≤n
 few:n≤62
 views:m.2.1.length≤8
 view:∀ v∈m.2.1,View n v
theorem zl9 {m:z1s} (h:z42 m=true):MenuP m m.1.toNat:=by
 obtain ⟨m1,m2,m3,m4⟩:=z62.1 h;refine ⟨by omega,by omega,by omega,m3,fun v hv=>⟨?_,(m4 v hv).2⟩⟩;have:=(m4 v hv).1;simp only [len] at this;omega
theorem MenuP.at {m:z1s} {n q:Nat} (h:MenuP m n) (hq:q < m.2.1.length):m.2.1[q]=z0b m q∧View n (z0b m q):=by
 have e:z0b m q=m.2.1[q]:=by simp [z0b,hq]
 rw [e];exact ⟨rfl,h.view _ (List.getElem_mem hq)⟩
theorem zzx (v:List Int) (S c s:Nat):(part v S c).testBit s=(decide (s < v.length) && (S.testBit s && decide (v.getD s 0=(c:Int)))):=zcl _ _ _
theorem part_lt (v:List Int) (S c:Nat):part v S c < 2 ^ v.length:=zfa _ _
theorem z84 {n:Nat} {v:List Int} (h:View n v):z2j v≤n:=by
 have:=(z2r h.ok).2.1;rw [←h.len];simp only [z2j];omega
theorem zp0 {n:Nat} {v:List Int} (h:View n v) {s:Nat} (hs:s < v.length):∃ c:Nat,v[s]=(c:Int)∧c < z2j v∧v.getD s 0=(c:Int):=by
 have:=(z2r h.ok).2.2 _ (List.getElem_mem hs);refine ⟨v[s].toNat,by omega,by simp only [z2j];omega,?_⟩;rw [List.getD_eq_getElem?_getD,List.getElem?_eq_getElem hs];simp;omega
theorem f93_eq (N:Nat) (hN:400 < N) {n:Nat} {v:List Int} (h:View n v) (hn:1≤n) (hn2:n≤62):f93 N v=some (top 0 v-1):=by
 have hl:=h.len;unfold f93;have e1:decide (len v < 1)=false:=by simp [len];omega
 rw [e1,cond_false];have h0:0 < v.length:=by omega
 rw [show (0:Int)=((0:Nat):Int) from rfl,z0t h0];simp only [Option.bind_some];have ha:=ok_at h.ok h0;simp only [List.take_zero,top] at ha;refine z2v (fun x:Int×Int=>∃ k:Nat,x.1=k∧1≤k∧k≤v.length∧x.2=top 0 (v.take k)-1) (fun x=>v.length-x.1.toNat) ?_ N (1,v[0]) ⟨1,rfl,by omega,by omega,?_⟩ (by simp;omega)
 ·rintro ⟨i,t⟩ w ⟨k,hi,hk1,hk,ht⟩ hw;simp only at hi ht;subst hi;subst ht;simp only [zsx];by_cases hlt:k < v.length
  ·obtain ⟨b1,b2,b3⟩:=z2r (zl3 h.ok k);obtain ⟨a1,a2⟩:=ok_at h.ok hlt;rw [z1h hlt,cond_true,z0t hlt];simp only [Option.bind_some];rw [z09 (by omega) (by omega)];refine hw _ ⟨k+1,by simp,by omega,by omega,?_⟩ (by simp;omega);rw [z1y hlt,z9s,zdb];simp only;omega
  ·have hk':k=v.length:=by omega
   subst hk';rw [z11,cond_false,List.take_length];rfl
 ·rw [z1y h0];simp only [List.take_zero,List.nil_append,top];omega
theorem zo0 (N:Nat) (hN:400 < N) {n:Nat} {v:List Int} (h:View n v) (hn:1≤n) (hn2:n≤62) {S:Nat} (hS:S < 2 ^ 62):f76 N v (S:Int)=some (z4y v S):=by
 have hl:=h.len;obtain ⟨t1,t2,t3⟩:=z2r h.ok;have htn:((z2j v:Nat):Int)=top 0 v:=by simp only [z2j];omega
 have hroom:((z3k:Nat):Int)=4294967296:=rfl;unfold f76;rw [f93_eq N hN h hn hn2];simp only [Option.bind_some];have e0:z0k (top 0 v-1+1)=top 0 v:=by rw [z09 (by omega) (by omega)];omega
 rw [e0,z0m (by rw [hroom];simp;omega)];refine z26 (fun k o=>o=zdx (z2j v) fun c=>((z7g (fun s=>S.testBit s && decide (v.getD s 0=(c:Int))) k:Nat):Int)) v.length ?_ ?_ N (by omega) _ ?_
 ·intro k o w hk ho hw;subst ho;obtain ⟨c,hc1,hc2,hc3⟩:=zp0 h hk;simp only [zo1];have hct:c < (zdx (z2j v) fun c=>((z7g (fun s=>S.testBit s && decide (v.getD s 0=(c:Int))) k:Nat):Int)).length:=by rw [z2s];exact hc2
  have e1:decide ((k:Int) < 0)=false:=by simp
  rw [z1h hk,cond_true,z0t hk];simp only [Option.bind_some];rw [hc1,z0m (z3m hct),z0t hct];simp only [Option.bind_some];rw [e1,cond_false,z0m (z3m hct),z4k,zu8 _ S k (ztf (by omega) _) hS (by omega),z09 (by omega) (by omega),z6u,zkh,bitsN_or _ S k (by rw [hc3];simp)];refine hw _ (z51 fun d hd=>?_);by_cases hdc:d=c
  ·subst hdc;simp
  ·have:¬ v.getD k 0=(d:Int):=by rw [hc3];omega
   simp only [hdc,if_false,z7g,this,decide_false,Bool.and_false,Bool.false_eq_true,Nat.add_zero]
 ·intro o w ho;subst ho;simp only [zo1];rw [z11,cond_false];rfl
 ·have:(top 0 v).toNat=z2j v:=rfl;rw [this,zki];rfl
theorem f65_eq (N:Nat) {S k:Nat} (hS:S < 2 ^ 62) (hk:k < 64):f65 N (S:Int) (k:Int)=some (S.testBit k):=by
 unfold f65;have e1:decide ((k:Int) < 0)=false:=by simp
 rw [e1,cond_false,zp9 S k hS hk]
def partsN (v:List Int) (S:Nat):List Nat:=((List.range (z2j v)).map (part v S)).filter fun y=>decide (y≠0)
def z3v (n:Nat):Nat:=2 ^ n-1
theorem zly (n:Nat):z3v n < 2 ^ n:=by have:=Nat.two_pow_pos n;simp only [z3v];omega
theorem zlz (n s:Nat):(z3v n).testBit s=decide (s < n):=by simp only [z3v];exact Nat.testBit_two_pow_sub_one n s
theorem lt62 {n S:Nat} (hn:n≤62) (h:S < 2 ^ n):S < 2 ^ 62:=Nat.lt_of_lt_of_le h (Nat.pow_le_pow_right (by omega) hn)
theorem zxx (N:Nat) {m:z1s} {n:Nat} (hm:MenuP m n):f35 N m=some ((z3v n:Nat):Int):=by
 have:=hm.few;have hp:=Nat.two_pow_pos n;unfold f35;rw [hm.secrets];have e1:decide ((n:Int) < 0)=false:=by simp
 have:=zkt (k:=n) (by omega);rw [e1,cond_false,shl1 (by omega),z09 (by omega) (by omega)];simp only [z3v];congr 1;omega
def zi3 (row:List Int) (n:Nat) (P:Nat->Bool):Int:=z1l n fun s=>if P s then row.getD s 0 else 0
def z1q (g:List (List Int)) (n:Nat) (P:Nat->Bool):Int:=g.foldl (fun b row=>max b (zi3 row n P)) 0
theorem zdc (g:List (List Int)) (row:List Int) (n:Nat) (P:Nat->Bool):z1q (g++[row]) n P=max (z1q g n P) (zi3 row n P):=by simp [z1q]
structure GainP (g:List (List Int)) (n:Nat):Prop where
 pos:1≤g.length
 few:g.length≤64
 row:∀ row∈g,z92 (n:Int) row=true
theorem gainP {g:List (List Int)} {n:Nat} (h:z5s g (n:Int)=true):GainP g n:=by
 simp only [z5s,zA,decide_eq_true_eq,len] at h;exact ⟨by omega,by omega,fun row hr=>List.all_eq_true.1 h.2 row hr⟩
theorem zcz {n:Nat} {row:List Int} (h:z92 (n:Int) row=true) (k:Nat) (P:Nat->Bool):0≤zi3 row k P∧zi3 row k P≤k*1024:=by
 have hr:=(ze2 h).2;constructor
 ·refine z3p fun i _=>?_
  have:=hr i;split <;> omega
 ·refine z3q fun i _=>?_
  have:=hr i;split <;> omega
theorem z8e {n:Nat} (P:Nat->Bool):{g:List (List Int)}->(∀ row∈g,z92 (n:Int) row=true)->0≤z1q g n P∧z1q g n P≤n*1024:=by
 intro g
 induction g using zkp with
 | h0=>intro _;simp only [z1q,List.foldl_nil];omega
 | h1 g row ih=>
  intro h;have h1:=ih (fun r hr=>h r (by simp [hr]));have h2:=zcz (h row (by simp)) n P;rw [zdc];omega
theorem zxw (N:Nat) (hN:400 < N) {g:List (List Int)} {n:Nat} (hg:GainP g n) (hn:n≤62) {S:Nat} (hS:S < 2 ^ 62):f36 N g (S:Int)=some (z1q g n S.testBit):=by
 have hgl:=hg.few;unfold f36;refine z26 (fun i b=>b=z1q (g.take i) n S.testBit) g.length ?_ ?_ N (by omega) _ (by simp [z1q])
 ·intro i b w hi hb hw;subst hb;have hri:=hg.row _ (List.getElem_mem hi);have hr1:=(ze2 hri).1;have hrl:g[i].length=n:=by simp only [len] at hr1;omega
  simp only [zoj];rw [z1h hi,cond_true,z0t hi];simp only [Option.bind_some];refine z26 (fun k x=>x=zi3 g[i] k S.testBit) n ?_ ?_ N (by omega) _ rfl
  ·intro k x w2 hk hx hw2;subst hx;have hb:=zcz hri k S.testBit;have hkg:k < g[i].length:=by omega
   have hgk:g[i].getD k 0=g[i][k]:=by rw [List.getD_eq_getElem?_getD,List.getElem?_eq_getElem hkg];rfl
   have hnum:=(ze2 hri).2 k;rw [hgk] at hnum;have e2:decide ((k:Int) < 0)=false:=by simp
   simp only [zoi];rw [z1h hkg,cond_true,z0t hkg];simp only [Option.bind_some];rw [e2,cond_false,zp9 S k hS (by omega),z09 (n:=(k:Int)+1) (by omega) (by omega)]
   cases hb:S.testBit k with
   | true=>
    rw [cond_true,z09 (by omega) (by omega)]
    exact hw2 _ (by simp only [zi3,z1l,hb,if_true,hgk])
   | false=>
    rw [cond_false];exact hw2 _ (by simp only [zi3,z1l,hb,Bool.false_eq_true,if_false];omega)
  ·intro x w2 hx;subst hx;simp only [zoi];rw [←hrl,z11,cond_false,z09 (by omega) (by omega),zdb,hrl];exact hw _ (by rw [z1y hi,zdc])
 ·intro b w hb;subst hb;simp only [zoj];rw [z11,cond_false,List.take_length]
theorem f40_eq (N:Nat) (hN:400 < N) {m:z1s} {g:List (List Int)} {n:Nat} (hm:MenuP m n) (hg:GainP g n) {S:Nat} (hS:S < 2 ^ 62):f40 N m g (S:Int)=some (z1q g n S.testBit):=by
 have hgl:=hg.few;have hn:=hm.few;unfold f40;refine z26 (fun i b=>b=z1q (g.take i) n S.testBit) g.length ?_ ?_ N (by omega) _ (by simp [z1q])
 ·intro i b w hi hb hw;subst hb;have hri:=hg.row _ (List.getElem_mem hi);have hr1:=(ze2 hri).1;have hrl:g[i].length=n:=by simp only [len] at hr1;omega
  simp only [zog];rw [z1h hi,cond_true,z0t hi];simp only [Option.bind_some];refine z26 (fun k x=>x=zi3 g[i] k S.testBit) n ?_ ?_ N (by omega) _ rfl
  ·intro k x w2 hk hx hw2;subst hx;have hb:=zcz hri k S.testBit;have hkg:k < g[i].length:=by omega
   have hgk:g[i].getD k 0=g[i][k]:=by rw [List.getD_eq_getElem?_getD,List.getElem?_eq_getElem hkg];rfl
   have hnum:=(ze2 hri).2 k;rw [hgk] at hnum;simp only [zof];have e1:decide ((k:Int) < m.1)=true:=by rw [hm.secrets];simp;omega
   rw [e1,cond_true,f65_eq N hS (by omega),z09 (n:=(k:Int)+1) (by omega) (by omega)];simp only [Option.bind_some]
   cases hb:S.testBit k with
   | true=>
    rw [cond_true,z0t hkg];simp only [Option.bind_some];rw [z09 (by omega) (by omega)]
    exact hw2 _ (by simp only [zi3,z1l,hb,if_true,hgk])
   | false=>
    rw [cond_false];exact hw2 _ (by simp only [zi3,z1l,hb,Bool.false_eq_true,if_false];omega)
  ·intro x w2 hx;subst hx;simp only [zof];have e1:decide ((n:Int) < m.1)=false:=by rw [hm.secrets];simp
   rw [e1,cond_false,z09 (by omega) (by omega),zdb];exact hw _ (by rw [z1y hi,zdc])
 ·intro b w hb;subst hb;simp only [zog];rw [z11,cond_false,List.take_length]
end Go.Kz
