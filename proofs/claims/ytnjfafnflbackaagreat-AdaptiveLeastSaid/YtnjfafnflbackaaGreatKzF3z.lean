/-
  The layer adaptive: sets of secrets, their parts, what an action earns on them; plain laws.
-/
import Derived.Test.YtnjfafnflbackaaGreatKzF2z
set_option linter.unusedVariables false
set_option linter.unusedSimpArgs false
namespace Go.Kz
theorem ziv (a b:Int):zky a b=max a b:=by simp only [zky];split <;> omega
theorem zth (a b:Int):zxc a b=min a b:=by simp only [zxc];split <;> omega
theorem pow62:(2:Nat) ^ 62=4611686018427387904:=by decide
theorem ipow (k:Nat):Int.pow 2 k=((2 ^ k:Nat):Int):=by
 show (2:Int) ^ k=_;push_cast;rfl
theorem zmb (A k:Nat) (hA:A < 2 ^ 62) (hk:k < 64) :
  decide ((z0g (((((BitVec.ofInt 64 (Int.fdiv (A:Int) (Int.pow 2 (min (Int.toNat (k:Int)) 64)))).and (BitVec.ofInt 64 1)).toNat):Nat):Int))=1)=A.testBit k:=by
 have e1:min (Int.toNat (k:Int)) 64=k:=by simp;omega
 have e2:Int.fdiv (A:Int) (Int.pow 2 k)=((A / 2 ^ k:Nat):Int):=by
  rw [ipow,Int.fdiv_eq_ediv_of_nonneg _ (Int.natCast_nonneg _)];rfl
 rw [e1,e2];have e3:((BitVec.ofInt 64 ((A / 2 ^ k:Nat):Int)).and (BitVec.ofInt 64 1)).toNat=A / 2 ^ k % 2:=by
  show ((BitVec.ofInt 64 ((A / 2 ^ k:Nat):Int)) &&& (BitVec.ofInt 64 1)).toNat=_;rw [BitVec.toNat_and,BitVec.ofInt_natCast,BitVec.toNat_ofNat];have h1:(BitVec.ofInt 64 1).toNat=1:=by decide
  have h2:A / 2 ^ k < 2 ^ 64:=Nat.lt_of_le_of_lt (Nat.div_le_self _ _) (by omega);rw [h1,Nat.mod_eq_of_lt h2,Nat.and_one_is_mod]
 rw [e3,Nat.testBit_eq_decide_div_mod_eq];have h3:A / 2 ^ k % 2 < 2:=Nat.mod_lt _ (by omega);rw [z0c (by omega) (by omega)];rw [Bool.eq_iff_iff];simp only [decide_eq_true_eq];omega
theorem zig {k:Nat} (h:k≤62):2 ^ k≤4611686018427387904:=by
 have:=Nat.pow_le_pow_right (n:=2) (by omega) h;rw [pow62] at this;exact this
theorem ze4 {a:Nat} (h:a≤4611686018427387904*2-1):z0g (a:Int)=(a:Int):=z0c (by omega) (by omega)
theorem shl1 {k:Nat} (hk:k≤62):z0g (1*(2 ^ (min (Int.toNat (k:Int)) 64)))=((2 ^ k:Nat):Int):=by
 have e1:min (Int.toNat (k:Int)) 64=k:=by simp;omega
 have h:=zig hk;have e2:(1*2 ^ k:Int)=((2 ^ k:Nat):Int):=by push_cast;simp
 rw [e1,e2];exact ze4 (by omega)
theorem zi8 {a:Nat} (h:a < 2 ^ 62):(BitVec.ofInt 64 (a:Int)).toNat=a:=by
 rw [BitVec.ofInt_natCast,BitVec.toNat_ofNat,Nat.mod_eq_of_lt (by omega)]
theorem zra (X S k:Nat) (hX:X < 2 ^ 62) (hS:S < 2 ^ 62) (hk:k < 62) :
  z0g (((((BitVec.ofInt 64 (X:Int)).or (BitVec.ofInt 64 (Go.IntKind.i64.wrap ↑((BitVec.ofInt 64 (S:Int)).and (BitVec.ofInt 64 (Go.IntKind.i64.wrap (Int.mul 1 (Int.pow 2 (min (Int.toNat (k:Int)) 64)))))).toNat))).toNat):Nat):Int)=((X ||| (S &&& 2 ^ k):Nat):Int):=by
 have e1:min (Int.toNat (k:Int)) 64=k:=by simp;omega
 have hp:2 ^ k < 2 ^ 62:=Nat.pow_lt_pow_right (by omega) (by omega);have e2:Go.IntKind.i64.wrap (Int.mul 1 (Int.pow 2 k))=((2 ^ k:Nat):Int):=by
  have:Int.mul 1 (Int.pow 2 k)=((2 ^ k:Nat):Int):=by
   show (1:Int)*(2:Int) ^ k=_;push_cast;simp
  rw [this];exact ze4 (by omega)
 rw [e1,e2];have hand:S &&& 2 ^ k < 2 ^ 62:=Nat.lt_of_le_of_lt Nat.and_le_left hS;have e3:((BitVec.ofInt 64 (S:Int)).and (BitVec.ofInt 64 ((2 ^ k:Nat):Int))).toNat=S &&& 2 ^ k:=by
  show ((BitVec.ofInt 64 (S:Int)) &&& (BitVec.ofInt 64 ((2 ^ k:Nat):Int))).toNat=_;rw [BitVec.toNat_and,zi8 hS,zi8 hp]
 have e4:Go.IntKind.i64.wrap ((S &&& 2 ^ k:Nat):Int)=((S &&& 2 ^ k:Nat):Int):=z0c (n:=((S &&& 2 ^ k:Nat):Int)) (by omega) (by omega);rw [e3,e4];have hor:X ||| (S &&& 2 ^ k) < 2 ^ 62:=Nat.or_lt_two_pow hX hand;have e5:((BitVec.ofInt 64 (X:Int)).or (BitVec.ofInt 64 ((S &&& 2 ^ k:Nat):Int))).toNat=X ||| (S &&& 2 ^ k):=by
  show ((BitVec.ofInt 64 (X:Int)) ||| (BitVec.ofInt 64 ((S &&& 2 ^ k:Nat):Int))).toNat=_;rw [BitVec.toNat_or,zi8 hX,zi8 hand]
 rw [e5];exact z0c (by omega) (by omega)
def z6m (b:Nat->Bool):Nat->Nat
 | 0=>0
 | n+1=>z6m b n+if b n then 2 ^ n else 0
theorem zdy (b:Nat->Bool):(n:Nat)->z6m b n < 2 ^ n
 | 0=>by simp [z6m]
 | n+1=>by
  have:=zdy b n;simp only [z6m,Nat.pow_succ];split <;> omega
theorem zbe (b:Nat->Bool) (i:Nat):(n:Nat)->(z6m b n).testBit i=(decide (i < n) && b i)
 | 0=>by simp [z6m]
 | n+1=>by
  have hl:=zdy b n;have ih:=zbe b i n;simp only [z6m];by_cases h1:i < n
  ·have e1:decide (i < n+1)=true:=by simp;omega
   have e2:decide (i < n)=true:=by simp [h1]
   rw [e1];rw [e2] at ih;split
   ·rw [Nat.add_comm,Nat.testBit_two_pow_add_gt h1,ih]
   ·exact ih
  ·by_cases h2:i=n
   ·subst h2;have e1:decide (i < i+1)=true:=by simp
    rw [e1,Bool.true_and];have e3:(z6m b i).testBit i=false:=Nat.testBit_lt_two_pow hl;split
    ·rename_i hb;rw [Nat.add_comm,Nat.testBit_two_pow_add_eq,e3,hb];rfl
    ·rename_i hb;rw [Nat.add_zero,e3];simp [hb]
   ·have e1:decide (i < n+1)=false:=by simp;omega
    rw [e1,Bool.false_and];apply Nat.testBit_lt_two_pow;have:2 ^ (n+1)≤2 ^ i:=Nat.pow_le_pow_right (by omega) (by omega);rw [Nat.pow_succ] at this;split <;> omega
theorem zyd (b:Nat->Bool) (S k:Nat) (h:b k=S.testBit k):z6m b k ||| (S &&& 2 ^ k)=z6m b (k+1):=by
 apply Nat.eq_of_testBit_eq;intro i;rw [Nat.testBit_or,Nat.testBit_and,Nat.testBit_two_pow,zbe,zbe];by_cases h1:i < k
 ·have e:¬ k=i:=by omega
  have e2:i < k+1:=by omega
  simp [h1,e,e2]
 ·by_cases h2:k=i
  ·subst h2;simp [h]
  ·have e2:¬ i < k+1:=by omega
   simp [h1,h2,e2]
theorem zqd {a b:Nat} (h:a≤b) (f:Nat->Bool):z6m f a < 2 ^ b:=Nat.lt_of_lt_of_le (zdy f a) (Nat.pow_le_pow_right (by omega) h)
def z07 (m:z1m) (q:Nat):List Int:=m.2.1.getD q []
def part (v:List Int) (S c:Nat):Nat:=z6m (fun s=>S.testBit s && decide (v.getD s 0=(c:Int))) v.length
def z1z (v:List Int):Nat:=(top 0 v).toNat
def z9i (v:List Int) (S:Nat):List Int:=zmx (z1z v) fun c=>((part v S c:Nat):Int)
structure View (n:Nat) (v:List Int):Prop where
 len:v.length=n
 ok:okP v=true
structure MenuP (m:z1m) (n:Nat):Prop where
 secrets:m.1=(n:Int)
 pos:1≤n
 few:n≤62
 views:m.2.1.length≤8
 view:∀ v∈m.2.1,View n v
theorem ztk {m:z1m} (h:z4a m=true):MenuP m m.1.toNat:=by
 obtain ⟨m1,m2,m3,m4⟩:=zc5.1 h;refine ⟨by omega,by omega,by omega,m3,fun v hv=>⟨?_,(m4 v hv).2⟩⟩;have:=(m4 v hv).1;simp only [len] at this;omega
theorem MenuP.at {m:z1m} {n q:Nat} (h:MenuP m n) (hq:q < m.2.1.length):m.2.1[q]=z07 m q∧View n (z07 m q):=by
 have e:z07 m q=m.2.1[q]:=by simp [z07,hq]
 rw [e];exact ⟨rfl,h.view _ (List.getElem_mem hq)⟩
theorem zwu (v:List Int) (S c s:Nat):(part v S c).testBit s=(decide (s < v.length) && (S.testBit s && decide (v.getD s 0=(c:Int)))):=zbe _ _ _
theorem part_lt (v:List Int) (S c:Nat):part v S c < 2 ^ v.length:=zdy _ _
theorem z9t {n:Nat} {v:List Int} (h:View n v):z1z v≤n:=by
 have:=(z3e h.ok).2.1;rw [←h.len];simp only [z1z];omega
theorem zm4 {n:Nat} {v:List Int} (h:View n v) {s:Nat} (hs:s < v.length):∃ c:Nat,v[s]=(c:Int)∧c < z1z v∧v.getD s 0=(c:Int):=by
 have:=(z3e h.ok).2.2 _ (List.getElem_mem hs);refine ⟨v[s].toNat,by omega,by simp only [z1z];omega,?_⟩;rw [List.getD_eq_getElem?_getD,List.getElem?_eq_getElem hs];simp;omega
theorem f70_eq (N:Nat) (hN:400 < N) {n:Nat} {v:List Int} (h:View n v) (hn:1≤n) (hn2:n≤62):f70 N v=some (top 0 v-1):=by
 have hl:=h.len;unfold f70;have e1:decide (len v < 1)=false:=by simp [len];omega
 rw [e1,cond_false];have h0:0 < v.length:=by omega
 rw [show (0:Int)=((0:Nat):Int) from rfl,z0s h0];simp only [Option.bind_some];have ha:=ok_at h.ok h0;simp only [List.take_zero,top] at ha;refine z2r (fun x:Int×Int=>∃ k:Nat,x.1=k∧1≤k∧k≤v.length∧x.2=top 0 (v.take k)-1) (fun x=>v.length-x.1.toNat) ?_ N (1,v[0]) ⟨1,rfl,by omega,by omega,?_⟩ (by simp;omega)
 ·rintro ⟨i,t⟩ w ⟨k,hi,hk1,hk,ht⟩ hw;simp only at hi ht;subst hi;subst ht;simp only [zpr];by_cases hlt:k < v.length
  ·obtain ⟨b1,b2,b3⟩:=z3e (znh h.ok k);obtain ⟨a1,a2⟩:=ok_at h.ok hlt;rw [z1p hlt,cond_true,z0s hlt];simp only [Option.bind_some];rw [z0c (by omega) (by omega)];refine hw _ ⟨k+1,by simp,by omega,by omega,?_⟩ (by simp;omega);rw [z27 hlt,zam,ziv];simp only;omega
  ·have hk':k=v.length:=by omega
   subst hk';rw [z1e,cond_false,List.take_length];rfl
 ·rw [z27 h0];simp only [List.take_zero,List.nil_append,top];omega
theorem zuh (N:Nat) (hN:400 < N) {n:Nat} {v:List Int} (h:View n v) (hn:1≤n) (hn2:n≤62) {S:Nat} (hS:S < 2 ^ 62):f55 N v (S:Int)=some (z9i v S):=by
 have hl:=h.len;obtain ⟨t1,t2,t3⟩:=z3e h.ok;have htn:((z1z v:Nat):Int)=top 0 v:=by simp only [z1z];omega
 have hroom:((z31:Nat):Int)=4294967296:=rfl;unfold f55;rw [f70_eq N hN h hn hn2];simp only [Option.bind_some];have e0:z0g (top 0 v-1+1)=top 0 v:=by rw [z0c (by omega) (by omega)];omega
 rw [e0,z0x (by rw [hroom];simp;omega)];refine z2x (fun k o=>o=zmx (z1z v) fun c=>((z6m (fun s=>S.testBit s && decide (v.getD s 0=(c:Int))) k:Nat):Int)) v.length ?_ ?_ N (by omega) _ ?_
 ·intro k o w hk ho hw;subst ho;obtain ⟨c,hc1,hc2,hc3⟩:=zm4 h hk;simp only [zlf];have hct:c < (zmx (z1z v) fun c=>((z6m (fun s=>S.testBit s && decide (v.getD s 0=(c:Int))) k:Nat):Int)).length:=by rw [z7a];exact hc2
  have e1:decide ((k:Int) < 0)=false:=by simp
  rw [z1p hk,cond_true,z0s hk];simp only [Option.bind_some];rw [hc1,z0x (z5b hct),z0s hct];simp only [Option.bind_some];rw [e1,cond_false,z0x (z5b hct),z8x,zra _ S k (zqd (by omega) _) hS (by omega),z0c (by omega) (by omega),z92,zw7,zyd _ S k (by rw [hc3];simp)];refine hw _ (zqz fun d hd=>?_);by_cases hdc:d=c
  ·subst hdc;simp
  ·have:¬ v.getD k 0=(d:Int):=by rw [hc3];omega
   simp only [hdc,if_false,z6m,this,decide_false,Bool.and_false,Bool.false_eq_true,Nat.add_zero]
 ·intro o w ho;subst ho;simp only [zlf];rw [z1e,cond_false];rfl
 ·have:(top 0 v).toNat=z1z v:=rfl;rw [this,zw8];rfl
theorem zzb (N:Nat) {S k:Nat} (hS:S < 2 ^ 62) (hk:k < 64):f59 N (S:Int) (k:Int)=some (S.testBit k):=by
 unfold f59;have e1:decide ((k:Int) < 0)=false:=by simp
 rw [e1,cond_false,zmb S k hS hk]
theorem f60_eq (N:Nat) (hN:400 < N) {m:z1m} {n q:Nat} (hm:MenuP m n) (hq:q < m.2.1.length) {S c:Nat} (hS:S < 2 ^ 62):f60 N m (S:Int) (q:Int) (c:Int)=some ((part (z07 m q) S c:Nat):Int):=by
 obtain ⟨h1,hv⟩:=hm.at hq;have hl:=hv.len;have:=hm.few;unfold f60;refine z2x (fun k (t:Int)=>t=((z6m (fun s=>S.testBit s && decide ((z07 m q).getD s 0=(c:Int))) k:Nat):Int)) n ?_ ?_ N (by omega) _ rfl
 ·intro k t w hk ht hw;subst ht;have hkv:k < (z07 m q).length:=by omega
  have hb:=zqd (a:=k) (b:=62) (by omega) (fun s=>S.testBit s && decide ((z07 m q).getD s 0=(c:Int)));rw [pow62] at hb;have hp:=zig (k:=k) (by omega);have hpc:z0g (((z6m (fun s=>S.testBit s && decide ((z07 m q).getD s 0=(c:Int))) k:Nat):Int)+((2 ^ k:Nat):Int))=((z6m (fun s=>S.testBit s && decide ((z07 m q).getD s 0=(c:Int))) k+2 ^ k:Nat):Int):=by
   rw [←Int.natCast_add];exact ze4 (by omega)
  simp only [zld];have e1:decide ((k:Int) < m.1)=true:=by rw [hm.secrets];simp;omega
  have e2:decide ((k:Int) < 0)=false:=by simp
  rw [e1,cond_true,zzb N hS (by omega)];simp only [Option.bind_some];have e3:(z07 m q).getD k 0=(z07 m q)[k]:=by rw [List.getD_eq_getElem?_getD,List.getElem?_eq_getElem hkv];rfl
  cases hb:S.testBit k with
  | false=>
   simp only [cond_false,Option.bind_some];rw [z0c (by omega) (by omega)]
   exact hw _ (by simp only [z6m,hb,Bool.false_and,Bool.false_eq_true,if_false,Nat.add_zero])
  | true=>
   simp only [cond_true];rw [z0s hq,h1];simp only [Option.bind_some];rw [z0s hkv];simp only [Option.bind_some];by_cases he:(z07 m q)[k]=(c:Int)
   ·rw [decide_eq_true he,cond_true,e2,cond_false,shl1 (by omega),z0c (n:=(k:Int)+1) (by omega) (by omega),hpc];exact hw _ (by simp only [z6m,hb,e3,he,decide_true,Bool.and_true,if_true])
   ·rw [decide_eq_false he,cond_false,z0c (n:=(k:Int)+1) (by omega) (by omega)];exact hw _ (by simp only [z6m,hb,e3,he,decide_false,Bool.and_false,Bool.false_eq_true,if_false,Nat.add_zero])
 ·intro t w ht;subst ht;simp only [zld];have e1:decide ((n:Int) < m.1)=false:=by rw [hm.secrets];simp
  rw [e1,cond_false];simp only [part,hl]
def z28 (v:List Int) (S:Nat):List Nat:=((List.range (z1z v)).map (part v S)).filter fun y=>decide (y≠0)
def zj2 (l:List Nat):List Int:=l.map fun (y:Nat)=>(y:Int)
theorem z7n (l:List Nat):(zj2 l).length=l.length:=by simp [zj2]
theorem zzh (N:Nat) (hN:400 < N) {m:z1m} {n q:Nat} (hm:MenuP m n) (hq:q < m.2.1.length) {S:Nat} (hS:S < 2 ^ 62):f30 N m (S:Int) (q:Int)=some (zj2 (z28 (z07 m q) S)):=by
 obtain ⟨h1,hv⟩:=hm.at hq;have hl:=hv.len;have:=hm.few;have htl:=z9t hv;have htn:((z1z (z07 m q):Nat):Int)=top 0 (z07 m q):=by have:=(z3e hv.ok).1;simp only [z1z];omega
 unfold f30;rw [z0s hq,h1];simp only [Option.bind_some];rw [zzg N _ (by omega) (by omega) hv.ok];simp only [Option.bind_some];rw [←htn];refine z2x (fun k o=>o=zj2 (((List.range k).map (part (z07 m q) S)).filter fun y=>decide (y≠0))) (z1z (z07 m q)) ?_ ?_ N (by omega) _ rfl
 ·intro k o w hk ho hw;subst ho;simp only [zln];have hle:(zj2 (((List.range k).map (part (z07 m q) S)).filter fun y=>decide (y≠0))).length≤k:=by
   rw [z7n];have:=List.length_filter_le (fun y=>decide (y≠0)) ((List.range k).map (part (z07 m q) S));simpa using this
  rw [dlt hk,cond_true,f60_eq N hN hm hq hS,z0c (n:=(k:Int)+1) (by omega) (by omega)];simp only [Option.bind_some];by_cases he:part (z07 m q) S k=0
  ·have e1:decide (((part (z07 m q) S k:Nat):Int)=0)=true:=by simp [he]
   rw [e1];simp only [Bool.not_true,cond_false];exact hw _ (by simp [List.range_succ,he])
  ·have e1:decide (((part (z07 m q) S k:Nat):Int)=0)=false:=by simp [he]
   rw [e1];simp only [Bool.not_false,cond_true];rw [z5g (by omega)];exact hw _ (by simp [List.range_succ,he,zj2])
 ·intro o w ho;subst ho;simp only [zln];rw [dnlt,cond_false];rfl
def z2y (n:Nat):Nat:=2 ^ n-1
theorem zjp (n:Nat):z2y n < 2 ^ n:=by have:=Nat.two_pow_pos n;simp only [z2y];omega
theorem zyi (n s:Nat):(z2y n).testBit s=decide (s < n):=by simp only [z2y];exact Nat.testBit_two_pow_sub_one n s
theorem zxh {n S:Nat} (hn:n≤62) (h:S < 2 ^ n):S < 2 ^ 62:=Nat.lt_of_lt_of_le h (Nat.pow_le_pow_right (by omega) hn)
theorem zzj (N:Nat) {m:z1m} {n:Nat} (hm:MenuP m n):f24 N m=some ((z2y n:Nat):Int):=by
 have:=hm.few;have hp:=Nat.two_pow_pos n;unfold f24;rw [hm.secrets];have e1:decide ((n:Int) < 0)=false:=by simp
 have:=zig (k:=n) (by omega);rw [e1,cond_false,shl1 (by omega),z0c (by omega) (by omega)];simp only [z2y];congr 1;omega
theorem zzk (N:Nat) {m:z1m} {n:Nat} (hm:MenuP m n):f10 N m=some ((z2y n:Nat):Int):=zzj N hm
def sumP (row:List Int) (n:Nat) (P:Nat->Bool):Int:=z2z n fun s=>if P s then row.getD s 0 else 0
def leafP (g:List (List Int)) (n:Nat) (P:Nat->Bool):Int:=g.foldl (fun b row=>max b (sumP row n P)) 0
structure GainP (g:List (List Int)) (n:Nat):Prop where
 pos:1≤g.length
 few:g.length≤64
 row:∀ row∈g,rowOK (n:Int) row=true
end Go.Kz
