/-
  The layer adaptive: sets of secrets, their parts, what an action earns on them; plain laws.
-/
import Derived.Test.YtnjfafnflbackaaKzF2
set_option linter.unusedVariables false
set_option linter.unusedSimpArgs false
namespace Go.Kz
theorem zd6 (a b:Int):zsa a b=max a b:=by simp only [zsa];split <;> omega
theorem minI_eq (a b:Int):minI a b=min a b:=by simp only [minI];split <;> omega
theorem pow62:(2:Nat) ^ 62=4611686018427387904:=by decide
theorem ipow (k:Nat):Int.pow 2 k=((2 ^ k:Nat):Int):=by
 show (2:Int) ^ k=_;push_cast;rfl
theorem zp5 (A k:Nat) (hA:A < 2 ^ 62) (hk:k < 64) :
  decide ((z0l (((((BitVec.ofInt 64 (Int.fdiv (A:Int) (Int.pow 2 (min (Int.toNat (k:Int)) 64)))).and (BitVec.ofInt 64 1)).toNat):Nat):Int))=1)=A.testBit k:=by
 have e1:min (Int.toNat (k:Int)) 64=k:=by simp;omega
 have e2:Int.fdiv (A:Int) (Int.pow 2 k)=((A / 2 ^ k:Nat):Int):=by
  rw [ipow,Int.fdiv_eq_ediv_of_nonneg _ (Int.natCast_nonneg _)];rfl
 rw [e1,e2];have e3:((BitVec.ofInt 64 ((A / 2 ^ k:Nat):Int)).and (BitVec.ofInt 64 1)).toNat=A / 2 ^ k % 2:=by
  show ((BitVec.ofInt 64 ((A / 2 ^ k:Nat):Int)) &&& (BitVec.ofInt 64 1)).toNat=_;rw [BitVec.toNat_and,BitVec.ofInt_natCast,BitVec.toNat_ofNat];have h1:(BitVec.ofInt 64 1).toNat=1:=by decide
  have h2:A / 2 ^ k < 2 ^ 64:=Nat.lt_of_le_of_lt (Nat.div_le_self _ _) (by omega);rw [h1,Nat.mod_eq_of_lt h2,Nat.and_one_is_mod]
 rw [e3,Nat.testBit_eq_decide_div_mod_eq];have h3:A / 2 ^ k % 2 < 2:=Nat.mod_lt _ (by omega);rw [z07 (by omega) (by omega)];rw [Bool.eq_iff_iff];simp only [decide_eq_true_eq];omega
theorem zkm {k:Nat} (h:k≤62):2 ^ k≤4611686018427387904:=by
 have:=Nat.pow_le_pow_right (n:=2) (by omega) h;rw [pow62] at this;exact this
theorem zf7 {a:Nat} (h:a≤4611686018427387904*2-1):z0l (a:Int)=(a:Int):=z07 (by omega) (by omega)
theorem shl1 {k:Nat} (hk:k≤62):z0l (1*(2 ^ (min (Int.toNat (k:Int)) 64)))=((2 ^ k:Nat):Int):=by
 have e1:min (Int.toNat (k:Int)) 64=k:=by simp;omega
 have h:=zkm hk;have e2:(1*2 ^ k:Int)=((2 ^ k:Nat):Int):=by push_cast;simp
 rw [e1,e2];exact zf7 (by omega)
theorem zka {a:Nat} (h:a < 2 ^ 62):(BitVec.ofInt 64 (a:Int)).toNat=a:=by
 rw [BitVec.ofInt_natCast,BitVec.toNat_ofNat,Nat.mod_eq_of_lt (by omega)]
theorem zu4 (X S k:Nat) (hX:X < 2 ^ 62) (hS:S < 2 ^ 62) (hk:k < 62) :
  z0l (((((BitVec.ofInt 64 (X:Int)).or (BitVec.ofInt 64 (Go.IntKind.i64.wrap ↑((BitVec.ofInt 64 (S:Int)).and (BitVec.ofInt 64 (Go.IntKind.i64.wrap (Int.mul 1 (Int.pow 2 (min (Int.toNat (k:Int)) 64)))))).toNat))).toNat):Nat):Int)=((X ||| (S &&& 2 ^ k):Nat):Int):=by
 have e1:min (Int.toNat (k:Int)) 64=k:=by simp;omega
 have hp:2 ^ k < 2 ^ 62:=Nat.pow_lt_pow_right (by omega) (by omega);have e2:Go.IntKind.i64.wrap (Int.mul 1 (Int.pow 2 k))=((2 ^ k:Nat):Int):=by
  have:Int.mul 1 (Int.pow 2 k)=((2 ^ k:Nat):Int):=by
   show (1:Int)*(2:Int) ^ k=_;push_cast;simp
  rw [this];exact zf7 (by omega)
 rw [e1,e2];have hand:S &&& 2 ^ k < 2 ^ 62:=Nat.lt_of_le_of_lt Nat.and_le_left hS;have e3:((BitVec.ofInt 64 (S:Int)).and (BitVec.ofInt 64 ((2 ^ k:Nat):Int))).toNat=S &&& 2 ^ k:=by
  show ((BitVec.ofInt 64 (S:Int)) &&& (BitVec.ofInt 64 ((2 ^ k:Nat):Int))).toNat=_;rw [BitVec.toNat_and,zka hS,zka hp]
 have e4:Go.IntKind.i64.wrap ((S &&& 2 ^ k:Nat):Int)=((S &&& 2 ^ k:Nat):Int):=z07 (n:=((S &&& 2 ^ k:Nat):Int)) (by omega) (by omega);rw [e3,e4];have hor:X ||| (S &&& 2 ^ k) < 2 ^ 62:=Nat.or_lt_two_pow hX hand;have e5:((BitVec.ofInt 64 (X:Int)).or (BitVec.ofInt 64 ((S &&& 2 ^ k:Nat):Int))).toNat=X ||| (S &&& 2 ^ k):=by
  show ((BitVec.ofInt 64 (X:Int)) ||| (BitVec.ofInt 64 ((S &&& 2 ^ k:Nat):Int))).toNat=_;rw [BitVec.toNat_or,zka hX,zka hand]
 rw [e5];exact z07 (by omega) (by omega)
def z7j (b:Nat->Bool):Nat->Nat
 | 0=>0
 | n+1=>z7j b n+if b n then 2 ^ n else 0
theorem zf0 (b:Nat->Bool):(n:Nat)->z7j b n < 2 ^ n
 | 0=>by simp [z7j]
 | n+1=>by
  have:=zf0 b n;simp only [z7j,Nat.pow_succ];split <;> omega
theorem zci (b:Nat->Bool) (i:Nat):(n:Nat)->(z7j b n).testBit i=(decide (i < n) && b i)
 | 0=>by simp [z7j]
 | n+1=>by
  have hl:=zf0 b n;have ih:=zci b i n;simp only [z7j];by_cases h1:i < n
  ·have e1:decide (i < n+1)=true:=by simp;omega
   have e2:decide (i < n)=true:=by simp [h1]
   rw [e1];rw [e2] at ih;split
   ·rw [Nat.add_comm,Nat.testBit_two_pow_add_gt h1,ih]
   ·exact ih
  ·by_cases h2:i=n
   ·subst h2;have e1:decide (i < i+1)=true:=by simp
    rw [e1,Bool.true_and];have e3:(z7j b i).testBit i=false:=Nat.testBit_lt_two_pow hl;split
    ·rename_i hb;rw [Nat.add_comm,Nat.testBit_two_pow_add_eq,e3,hb];rfl
    ·rename_i hb;rw [Nat.add_zero,e3];simp [hb]
   ·have e1:decide (i < n+1)=false:=by simp;omega
    rw [e1,Bool.false_and];apply Nat.testBit_lt_two_pow;have:2 ^ (n+1)≤2 ^ i:=Nat.pow_le_pow_right (by omega) (by omega);rw [Nat.pow_succ] at this;split <;> omega
theorem bitsN_or (b:Nat->Bool) (S k:Nat) (h:b k=S.testBit k):z7j b k ||| (S &&& 2 ^ k)=z7j b (k+1):=by
 apply Nat.eq_of_testBit_eq;intro i;rw [Nat.testBit_or,Nat.testBit_and,Nat.testBit_two_pow,zci,zci];by_cases h1:i < k
 ·have e:¬ k=i:=by omega
  have e2:i < k+1:=by omega
  simp [h1,e,e2]
 ·by_cases h2:k=i
  ·subst h2;simp [h]
  ·have e2:¬ i < k+1:=by omega
   simp [h1,h2,e2]
theorem zta {a b:Nat} (h:a≤b) (f:Nat->Bool):z7j f a < 2 ^ b:=Nat.lt_of_lt_of_le (zf0 f a) (Nat.pow_le_pow_right (by omega) h)
def z05 (m:z1i) (q:Nat):List Int:=m.2.1.getD q []
def part (v:List Int) (S c:Nat):Nat:=z7j (fun s=>S.testBit s && decide (v.getD s 0=(c:Int))) v.length
def z2f (v:List Int):Nat:=(top 0 v).toNat
def z51 (v:List Int) (S:Nat):List Int:=zdq (z2f v) fun c=>((part v S c:Nat):Int)
structure View (n:Nat) (v:List Int):Prop where
 len:v.length=n
 ok:okP v=true
structure MenuP (m:z1i) (n:Nat):Prop where
 secrets:m.1=(n:Int)
 pos:1≤n
 few:n≤62
 views:m.2.1.length≤8
 view:∀ v∈m.2.1,View n v
theorem zhx {m:z1i} (h:z41 m=true):MenuP m m.1.toNat:=by
 obtain ⟨m1,m2,m3,m4⟩:=z68.1 h;refine ⟨by omega,by omega,by omega,m3,fun v hv=>⟨?_,(m4 v hv).2⟩⟩;have:=(m4 v hv).1;simp only [len] at this;omega
theorem MenuP.at {m:z1i} {n q:Nat} (h:MenuP m n) (hq:q < m.2.1.length):m.2.1[q]=z05 m q∧View n (z05 m q):=by
 have e:z05 m q=m.2.1[q]:=by simp [z05,hq]
 rw [e];exact ⟨rfl,h.view _ (List.getElem_mem hq)⟩
theorem zzn (v:List Int) (S c s:Nat):(part v S c).testBit s=(decide (s < v.length) && (S.testBit s && decide (v.getD s 0=(c:Int)))):=zci _ _ _
theorem part_lt (v:List Int) (S c:Nat):part v S c < 2 ^ v.length:=zf0 _ _
theorem z57 {n:Nat} {v:List Int} (h:View n v):z2f v≤n:=by
 have:=(z2u h.ok).2.1;rw [←h.len];simp only [z2f];omega
theorem zt8 {n:Nat} {v:List Int} (h:View n v) {s:Nat} (hs:s < v.length):∃ c:Nat,v[s]=(c:Int)∧c < z2f v∧v.getD s 0=(c:Int):=by
 have:=(z2u h.ok).2.2 _ (List.getElem_mem hs);refine ⟨v[s].toNat,by omega,by simp only [z2f];omega,?_⟩;rw [List.getD_eq_getElem?_getD,List.getElem?_eq_getElem hs];simp;omega
theorem f93_eq (N:Nat) (hN:400 < N) {n:Nat} {v:List Int} (h:View n v) (hn:1≤n) (hn2:n≤62):f93 N v=some (top 0 v-1):=by
 have hl:=h.len;unfold f93;have e1:decide (len v < 1)=false:=by simp [len];omega
 rw [e1,cond_false];have h0:0 < v.length:=by omega
 rw [show (0:Int)=((0:Nat):Int) from rfl,z0s h0];simp only [Option.bind_some];have ha:=ok_at h.ok h0;simp only [List.take_zero,top] at ha;refine z34 (fun x:Int×Int=>∃ k:Nat,x.1=k∧1≤k∧k≤v.length∧x.2=top 0 (v.take k)-1) (fun x=>v.length-x.1.toNat) ?_ N (1,v[0]) ⟨1,rfl,by omega,by omega,?_⟩ (by simp;omega)
 ·rintro ⟨i,t⟩ w ⟨k,hi,hk1,hk,ht⟩ hw;simp only at hi ht;subst hi;subst ht;simp only [zsq];by_cases hlt:k < v.length
  ·obtain ⟨b1,b2,b3⟩:=z2u (zky h.ok k);obtain ⟨a1,a2⟩:=ok_at h.ok hlt;rw [z17 hlt,cond_true,z0s hlt];simp only [Option.bind_some];rw [z07 (by omega) (by omega)];refine hw _ ⟨k+1,by simp,by omega,by omega,?_⟩ (by simp;omega);rw [z1h hlt,z9u,zd6];simp only;omega
  ·have hk':k=v.length:=by omega
   subst hk';rw [z0v,cond_false,List.take_length];rfl
 ·rw [z1h h0];simp only [List.take_zero,List.nil_append,top];omega
theorem znx (N:Nat) (hN:400 < N) {n:Nat} {v:List Int} (h:View n v) (hn:1≤n) (hn2:n≤62) {S:Nat} (hS:S < 2 ^ 62):f76 N v (S:Int)=some (z51 v S):=by
 have hl:=h.len;obtain ⟨t1,t2,t3⟩:=z2u h.ok;have htn:((z2f v:Nat):Int)=top 0 v:=by simp only [z2f];omega
 have hroom:((z3e:Nat):Int)=4294967296:=rfl;unfold f76;rw [f93_eq N hN h hn hn2];simp only [Option.bind_some];have e0:z0l (top 0 v-1+1)=top 0 v:=by rw [z07 (by omega) (by omega)];omega
 rw [e0,z0h (by rw [hroom];simp;omega)];refine z2h (fun k o=>o=zdq (z2f v) fun c=>((z7j (fun s=>S.testBit s && decide (v.getD s 0=(c:Int))) k:Nat):Int)) v.length ?_ ?_ N (by omega) _ ?_
 ·intro k o w hk ho hw;subst ho;obtain ⟨c,hc1,hc2,hc3⟩:=zt8 h hk;simp only [zny];have hct:c < (zdq (z2f v) fun c=>((z7j (fun s=>S.testBit s && decide (v.getD s 0=(c:Int))) k:Nat):Int)).length:=by rw [z2v];exact hc2
  have e1:decide ((k:Int) < 0)=false:=by simp
  rw [z17 hk,cond_true,z0s hk];simp only [Option.bind_some];rw [hc1,z0h (z2m hct),z0s hct];simp only [Option.bind_some];rw [e1,cond_false,z0h (z2m hct),z4l,zu4 _ S k (zta (by omega) _) hS (by omega),z07 (by omega) (by omega),z5i,zkb,bitsN_or _ S k (by rw [hc3];simp)];refine hw _ (z58 fun d hd=>?_);by_cases hdc:d=c
  ·subst hdc;simp
  ·have:¬ v.getD k 0=(d:Int):=by rw [hc3];omega
   simp only [hdc,if_false,z7j,this,decide_false,Bool.and_false,Bool.false_eq_true,Nat.add_zero]
 ·intro o w ho;subst ho;simp only [zny];rw [z0v,cond_false];rfl
 ·have:(top 0 v).toNat=z2f v:=rfl;rw [this,zkc];rfl
theorem f65_eq (N:Nat) {S k:Nat} (hS:S < 2 ^ 62) (hk:k < 64):f65 N (S:Int) (k:Int)=some (S.testBit k):=by
 unfold f65;have e1:decide ((k:Int) < 0)=false:=by simp
 rw [e1,cond_false,zp5 S k hS hk]
theorem f77_eq (N:Nat) (hN:400 < N) {m:z1i} {n q:Nat} (hm:MenuP m n) (hq:q < m.2.1.length) {S c:Nat} (hS:S < 2 ^ 62):f77 N m (S:Int) (q:Int) (c:Int)=some ((part (z05 m q) S c:Nat):Int):=by
 obtain ⟨h1,hv⟩:=hm.at hq;have hl:=hv.len;have:=hm.few;unfold f77;refine z2h (fun k (t:Int)=>t=((z7j (fun s=>S.testBit s && decide ((z05 m q).getD s 0=(c:Int))) k:Nat):Int)) n ?_ ?_ N (by omega) _ rfl
 ·intro k t w hk ht hw;subst ht;have hkv:k < (z05 m q).length:=by omega
  have hb:=zta (a:=k) (b:=62) (by omega) (fun s=>S.testBit s && decide ((z05 m q).getD s 0=(c:Int)));rw [pow62] at hb;have hp:=zkm (k:=k) (by omega);have hpc:z0l (((z7j (fun s=>S.testBit s && decide ((z05 m q).getD s 0=(c:Int))) k:Nat):Int)+((2 ^ k:Nat):Int))=((z7j (fun s=>S.testBit s && decide ((z05 m q).getD s 0=(c:Int))) k+2 ^ k:Nat):Int):=by
   rw [←Int.natCast_add];exact zf7 (by omega)
  simp only [znw];have e1:decide ((k:Int) < m.1)=true:=by rw [hm.secrets];simp;omega
  have e2:decide ((k:Int) < 0)=false:=by simp
  rw [e1,cond_true,f65_eq N hS (by omega)];simp only [Option.bind_some];have e3:(z05 m q).getD k 0=(z05 m q)[k]:=by rw [List.getD_eq_getElem?_getD,List.getElem?_eq_getElem hkv];rfl
  cases hb:S.testBit k with
  | false=>
   simp only [cond_false,Option.bind_some];rw [z07 (by omega) (by omega)]
   exact hw _ (by simp only [z7j,hb,Bool.false_and,Bool.false_eq_true,if_false,Nat.add_zero])
  | true=>
   simp only [cond_true];rw [z0s hq,h1];simp only [Option.bind_some];rw [z0s hkv];simp only [Option.bind_some];by_cases he:(z05 m q)[k]=(c:Int)
   ·rw [decide_eq_true he,cond_true,e2,cond_false,shl1 (by omega),z07 (n:=(k:Int)+1) (by omega) (by omega),hpc];exact hw _ (by simp only [z7j,hb,e3,he,decide_true,Bool.and_true,if_true])
   ·rw [decide_eq_false he,cond_false,z07 (n:=(k:Int)+1) (by omega) (by omega)];exact hw _ (by simp only [z7j,hb,e3,he,decide_false,Bool.and_false,Bool.false_eq_true,if_false,Nat.add_zero])
 ·intro t w ht;subst ht;simp only [znw];have e1:decide ((n:Int) < m.1)=false:=by rw [hm.secrets];simp
  rw [e1,cond_false];simp only [part,hl]
def z26 (v:List Int) (S:Nat):List Nat:=((List.range (z2f v)).map (part v S)).filter fun y=>decide (y≠0)
def zpq (l:List Nat):List Int:=l.map fun (y:Nat)=>(y:Int)
theorem zc9 (l:List Nat):(zpq l).length=l.length:=by simp [zpq]
theorem f41_eq (N:Nat) (hN:400 < N) {m:z1i} {n q:Nat} (hm:MenuP m n) (hq:q < m.2.1.length) {S:Nat} (hS:S < 2 ^ 62):f41 N m (S:Int) (q:Int)=some (zpq (z26 (z05 m q) S)):=by
 obtain ⟨h1,hv⟩:=hm.at hq;have hl:=hv.len;have:=hm.few;have htl:=z57 hv;have htn:((z2f (z05 m q):Nat):Int)=top 0 (z05 m q):=by have:=(z2u hv.ok).1;simp only [z2f];omega
 unfold f41;rw [z0s hq,h1];simp only [Option.bind_some];rw [f44_eq N _ (by omega) (by omega) hv.ok];simp only [Option.bind_some];rw [←htn];refine z2h (fun k o=>o=zpq (((List.range k).map (part (z05 m q) S)).filter fun y=>decide (y≠0))) (z2f (z05 m q)) ?_ ?_ N (by omega) _ rfl
 ·intro k o w hk ho hw;subst ho;simp only [zoc];have hle:(zpq (((List.range k).map (part (z05 m q) S)).filter fun y=>decide (y≠0))).length≤k:=by
   rw [zc9];have:=List.length_filter_le (fun y=>decide (y≠0)) ((List.range k).map (part (z05 m q) S));simpa using this
  rw [dlt hk,cond_true,f77_eq N hN hm hq hS,z07 (n:=(k:Int)+1) (by omega) (by omega)];simp only [Option.bind_some];by_cases he:part (z05 m q) S k=0
  ·have e1:decide (((part (z05 m q) S k:Nat):Int)=0)=true:=by simp [he]
   rw [e1];simp only [Bool.not_true,cond_false];exact hw _ (by simp [List.range_succ,he])
  ·have e1:decide (((part (z05 m q) S k:Nat):Int)=0)=false:=by simp [he]
   rw [e1];simp only [Bool.not_false,cond_true];rw [z4v (by omega)];exact hw _ (by simp [List.range_succ,he,zpq])
 ·intro o w ho;subst ho;simp only [zoc];rw [dnlt,cond_false];rfl
def z6u (n:Nat):Nat:=2 ^ n-1
theorem zhl (n:Nat):z6u n < 2 ^ n:=by have:=Nat.two_pow_pos n;simp only [z6u];omega
theorem allS_bit (n s:Nat):(z6u n).testBit s=decide (s < n):=by simp only [z6u];exact Nat.testBit_two_pow_sub_one n s
theorem zsc {n S:Nat} (hn:n≤62) (h:S < 2 ^ n):S < 2 ^ 62:=Nat.lt_of_lt_of_le h (Nat.pow_le_pow_right (by omega) hn)
theorem zsw (N:Nat) {m:z1i} {n:Nat} (hm:MenuP m n):f35 N m=some ((z6u n:Nat):Int):=by
 have:=hm.few;have hp:=Nat.two_pow_pos n;unfold f35;rw [hm.secrets];have e1:decide ((n:Int) < 0)=false:=by simp
 have:=zkm (k:=n) (by omega);rw [e1,cond_false,shl1 (by omega),z07 (by omega) (by omega)];simp only [z6u];congr 1;omega
theorem f39_eq (N:Nat) {m:z1i} {n:Nat} (hm:MenuP m n):f39 N m=some ((z6u n:Nat):Int):=zsw N hm
def zht (row:List Int) (n:Nat) (P:Nat->Bool):Int:=z1r n fun s=>if P s then row.getD s 0 else 0
def z1m (g:List (List Int)) (n:Nat) (P:Nat->Bool):Int:=g.foldl (fun b row=>max b (zht row n P)) 0
theorem zd7 (g:List (List Int)) (row:List Int) (n:Nat) (P:Nat->Bool):z1m (g++[row]) n P=max (z1m g n P) (zht row n P):=by simp [z1m]
structure GainP (g:List (List Int)) (n:Nat):Prop where
 pos:1≤g.length
 few:g.length≤64
 row:∀ row∈g,z92 (n:Int) row=true
theorem gainP {g:List (List Int)} {n:Nat} (h:z5x g (n:Int)=true):GainP g n:=by
 simp only [z5x,zA,decide_eq_true_eq,len] at h;exact ⟨by omega,by omega,fun row hr=>List.all_eq_true.1 h.2 row hr⟩
theorem zcu {n:Nat} {row:List Int} (h:z92 (n:Int) row=true) (k:Nat) (P:Nat->Bool):0≤zht row k P∧zht row k P≤k*1024:=by
 have hr:=(zdv h).2;constructor
 ·refine z4f fun i _=>?_
  have:=hr i;split <;> omega
 ·refine z4c fun i _=>?_
  have:=hr i;split <;> omega
theorem zg7 {n:Nat} (P:Nat->Bool):{g:List (List Int)}->(∀ row∈g,z92 (n:Int) row=true)->0≤z1m g n P∧z1m g n P≤n*1024:=by
 intro g
 induction g using zfk with
 | h0=>intro _;simp only [z1m,List.foldl_nil];omega
 | h1 g row ih=>
  intro h;have h1:=ih (fun r hr=>h r (by simp [hr]));have h2:=zcu (h row (by simp)) n P;rw [zd7];omega
theorem zxt (N:Nat) (hN:400 < N) {g:List (List Int)} {n:Nat} (hg:GainP g n) (hn:n≤62) {S:Nat} (hS:S < 2 ^ 62):f36 N g (S:Int)=some (z1m g n S.testBit):=by
 have hgl:=hg.few;unfold f36;refine z2h (fun i b=>b=z1m (g.take i) n S.testBit) g.length ?_ ?_ N (by omega) _ (by simp [z1m])
 ·intro i b w hi hb hw;subst hb;have hri:=hg.row _ (List.getElem_mem hi);have hr1:=(zdv hri).1;have hrl:g[i].length=n:=by simp only [len] at hr1;omega
  simp only [zoh];rw [z17 hi,cond_true,z0s hi];simp only [Option.bind_some];refine z2h (fun k x=>x=zht g[i] k S.testBit) n ?_ ?_ N (by omega) _ rfl
  ·intro k x w2 hk hx hw2;subst hx;have hb:=zcu hri k S.testBit;have hkg:k < g[i].length:=by omega
   have hgk:g[i].getD k 0=g[i][k]:=by rw [List.getD_eq_getElem?_getD,List.getElem?_eq_getElem hkg];rfl
   have hnum:=(zdv hri).2 k;rw [hgk] at hnum;have e2:decide ((k:Int) < 0)=false:=by simp
   simp only [zog];rw [z17 hkg,cond_true,z0s hkg];simp only [Option.bind_some];rw [e2,cond_false,zp5 S k hS (by omega),z07 (n:=(k:Int)+1) (by omega) (by omega)]
   cases hb:S.testBit k with
   | true=>
    rw [cond_true,z07 (by omega) (by omega)]
    exact hw2 _ (by simp only [zht,z1r,hb,if_true,hgk])
   | false=>
    rw [cond_false];exact hw2 _ (by simp only [zht,z1r,hb,Bool.false_eq_true,if_false];omega)
  ·intro x w2 hx;subst hx;simp only [zog];rw [←hrl,z0v,cond_false,z07 (by omega) (by omega),zd6,hrl];exact hw _ (by rw [z1h hi,zd7])
 ·intro b w hb;subst hb;simp only [zoh];rw [z0v,cond_false,List.take_length]
theorem zxs (N:Nat) (hN:400 < N) {m:z1i} {g:List (List Int)} {n:Nat} (hm:MenuP m n) (hg:GainP g n) {S:Nat} (hS:S < 2 ^ 62):f40 N m g (S:Int)=some (z1m g n S.testBit):=by
 have hgl:=hg.few;have hn:=hm.few;unfold f40;refine z2h (fun i b=>b=z1m (g.take i) n S.testBit) g.length ?_ ?_ N (by omega) _ (by simp [z1m])
 ·intro i b w hi hb hw;subst hb;have hri:=hg.row _ (List.getElem_mem hi);have hr1:=(zdv hri).1;have hrl:g[i].length=n:=by simp only [len] at hr1;omega
  simp only [zoe];rw [z17 hi,cond_true,z0s hi];simp only [Option.bind_some];refine z2h (fun k x=>x=zht g[i] k S.testBit) n ?_ ?_ N (by omega) _ rfl
  ·intro k x w2 hk hx hw2;subst hx;have hb:=zcu hri k S.testBit;have hkg:k < g[i].length:=by omega
   have hgk:g[i].getD k 0=g[i][k]:=by rw [List.getD_eq_getElem?_getD,List.getElem?_eq_getElem hkg];rfl
   have hnum:=(zdv hri).2 k;rw [hgk] at hnum;simp only [zod];have e1:decide ((k:Int) < m.1)=true:=by rw [hm.secrets];simp;omega
   rw [e1,cond_true,f65_eq N hS (by omega),z07 (n:=(k:Int)+1) (by omega) (by omega)];simp only [Option.bind_some]
   cases hb:S.testBit k with
   | true=>
    rw [cond_true,z0s hkg];simp only [Option.bind_some];rw [z07 (by omega) (by omega)]
    exact hw2 _ (by simp only [zht,z1r,hb,if_true,hgk])
   | false=>
    rw [cond_false];exact hw2 _ (by simp only [zht,z1r,hb,Bool.false_eq_true,if_false];omega)
  ·intro x w2 hx;subst hx;simp only [zod];have e1:decide ((n:Int) < m.1)=false:=by rw [hm.secrets];simp
   rw [e1,cond_false,z07 (by omega) (by omega),zd6];exact hw _ (by rw [z1h hi,zd7])
 ·intro b w hb;subst hb;simp only [zoe];rw [z0v,cond_false,List.take_length]
end Go.Kz
