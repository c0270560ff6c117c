/-
  Words as sets of bits; the number of a word's last noughts; the members of a set: plain laws.
-/
import Derived.Test.YtoccnkcnkcngjaaDoorKzN1
import Derived.Test.YtoccnkcnkcngjaaDoorKzAR
set_option linter.unusedVariables false
set_option linter.unusedSimpArgs false
namespace Go.Kz
theorem u64_ofInt {a:Nat} (h:a < 2 ^ 64):(BitVec.ofInt 64 (a:Int)).toNat=a:=by
 rw [BitVec.toNat_ofInt,←Int.natCast_emod,Int.toNat_natCast,Nat.mod_eq_of_lt h]
theorem bv_and {a b:Nat} (ha:a < 2 ^ 64) (hb:b < 2 ^ 64):((BitVec.ofInt 64 (a:Int)).and (BitVec.ofInt 64 (b:Int))).toNat=a &&& b:=by
 show ((BitVec.ofInt 64 (a:Int)) &&& (BitVec.ofInt 64 (b:Int))).toNat=_
 rw [BitVec.toNat_and,u64_ofInt ha,u64_ofInt hb]
theorem bv_or {a b:Nat} (ha:a < 2 ^ 64) (hb:b < 2 ^ 64):((BitVec.ofInt 64 (a:Int)).or (BitVec.ofInt 64 (b:Int))).toNat=a ||| b:=by
 show ((BitVec.ofInt 64 (a:Int)) ||| (BitVec.ofInt 64 (b:Int))).toNat=_
 rw [BitVec.toNat_or,u64_ofInt ha,u64_ofInt hb]
theorem wu64_nat {a:Nat} (h:a < 2 ^ 64):wu64 (a:Int)=(a:Int):=wu64_of (by omega) (by have:a < 18446744073709551616:=h;omega)
theorem and_lt {a b n:Nat} (h:a < 2 ^ n):a &&& b < 2 ^ n:=Nat.lt_of_le_of_lt Nat.and_le_left h
theorem odd_part:(x:Nat)→0 < x→∃ k m,x=2 ^ k*(2*m+1)
 | x,h=>by
  by_cases ho:x % 2=1
  ·exact ⟨0,x / 2,by omega⟩
  ·obtain ⟨k,m,hk⟩:=odd_part (x / 2) (by omega)
   refine ⟨k+1,m,?_⟩
   rw [Nat.pow_succ,Nat.mul_assoc,Nat.mul_left_comm,←hk];omega
theorem odd_lt {k m n:Nat} (h:2 ^ k*(2*m+1) < 2 ^ n):k < n:=by
 rcases Nat.lt_or_ge k n with hk | hk
 ·exact hk
 ·exfalso
  have h1:2 ^ n≤2 ^ k:=Nat.pow_le_pow_right (by omega) hk
  have h2:2 ^ k*1≤2 ^ k*(2*m+1):=Nat.mul_le_mul_left _ (by omega)
  omega
theorem odd_bit (m i:Nat):(2*m+1).testBit i=(decide (i=0) || (2*m).testBit i):=by
 cases i with
 | zero=>simp [Nat.testBit_zero]
 | succ i=>
  rw [Nat.testBit_succ,Nat.testBit_succ]
  have e1:(2*m+1) / 2=m:=by omega
  have e2:(2*m) / 2=m:=by omega
  rw [e1,e2];simp
theorem even_bit (m:Nat):(2*m).testBit 0=false:=by simp [Nat.testBit_zero]
theorem and_neg {k m:Nat} (h:2 ^ k*(2*m+1) < 2 ^ 64):2 ^ k*(2*m+1) &&& (2 ^ 64-2 ^ k*(2*m+1))=2 ^ k:=by
 have hk:=odd_lt h
 have hp:2 ^ 64=2 ^ k*2 ^ (64-k):=by rw [←Nat.pow_add];congr 1;omega
 have hm:2*m+1 < 2 ^ (64-k):=by
  rw [hp] at h
  exact Nat.lt_of_mul_lt_mul_left h
 have e:2 ^ 64-2 ^ k*(2*m+1)=2 ^ k*(2 ^ (64-k)-(2*m+1)):=by rw [hp,Nat.mul_sub]
 rw [e]
 apply Nat.eq_of_testBit_eq
 intro i
 rw [Nat.testBit_and,Nat.testBit_two_pow_mul,Nat.testBit_two_pow_mul,Nat.testBit_two_pow,Nat.testBit_two_pow_sub_succ (by omega),odd_bit]
 by_cases hi:i < k
 ·have:¬ i ≥ k:=by omega
  have h2:¬ k=i:=by omega
  simp [this,h2]
 ·by_cases he:i=k
  ·subst he
   simp [even_bit];omega
  ·have h1:¬ i-k=0:=by omega
   have h2:¬ k=i:=by omega
   simp only [h1,h2,decide_false,Bool.false_or]
   cases (2*m).testBit (i-k) <;> simp
theorem and_pred {k m:Nat}:2 ^ k*(2*m+1) &&& (2 ^ k*(2*m+1)-1)=2 ^ k*(2*m):=by
 have hp:0 < 2 ^ k:=Nat.pos_of_ne_zero (by simp)
 have e:2 ^ k*(2*m+1)-1=2 ^ k*(2*m)+(2 ^ k-1):=by rw [Nat.mul_add];omega
 rw [e]
 apply Nat.eq_of_testBit_eq
 intro i
 rw [Nat.testBit_and,Nat.testBit_two_pow_mul,Nat.testBit_two_pow_mul,Nat.testBit_two_pow_mul_add _ (by omega),odd_bit]
 by_cases hi:i < k
 ·have:¬ i ≥ k:=by omega
  simp [this]
 ·have h1:i ≥ k:=by omega
  simp only [h1,decide_true,Bool.true_and,if_neg hi]
  by_cases h0:i-k=0
  ·rw [h0];simp [even_bit]
  ·simp [h0]
theorem tab_look:(List.range 64).all (fun k=>decide (idx [0,1,56,2,57,49,28,3,61,58,42,50,38,29,17,4,62,47,59,36,45,43,51,22,53,39,33,30,24,18,12,5,63,55,48,27,60,41,37,16,46,35,44,21,52,32,23,11,54,26,40,15,34,20,31,10,25,14,19,9,13,8,7,6] (((2 ^ k*285870213051353865 % 2 ^ 64 / 2 ^ 58:Nat):Int))=some (k:Int)))=true:=by kernel_rfl
theorem f30_eq (N:Nat) {k m:Nat} (h:2 ^ k*(2*m+1) < 2 ^ 64):f30 N ((2 ^ k*(2*m+1):Nat):Int)=some (k:Int):=by
 have hk:=odd_lt h
 have hp:0 < 2 ^ k:=Nat.pos_of_ne_zero (by simp)
 generalize hx:2 ^ k*(2*m+1)=x at h
 have hx0:0 < x:=by rw [←hx];exact Nat.mul_pos hp (by omega)
 have hx64:x < 18446744073709551616:=h
 unfold f30
 have e1:decide ((x:Int)=0)=false:=by simp;omega
 rw [e1,cond_false]
 have e2:Go.IntKind.u64.wrap (Int.sub 0 (x:Int))=((2 ^ 64-x:Nat):Int):=by
  show Go.IntKind.u64.wrap (0-(x:Int))=_
  simp only [IntKind.wrap,IntKind.min,IntKind.max,IntKind.bits,IntKind.signed]
  simp
  omega
 rw [e2,bv_and h (by omega),←hx,and_neg (by rw [hx];exact h)]
 have hk64:2 ^ k < 2 ^ 64:=Nat.pow_lt_pow_right (by omega) hk
 rw [wu64_nat hk64]
 have e3:wu64 (((2 ^ k:Nat):Int)*285870213051353865)=((2 ^ k*285870213051353865 % 2 ^ 64:Nat):Int):=by
  simp only [wu64,IntKind.wrap,IntKind.min,IntKind.max,IntKind.bits,IntKind.signed]
  simp
 rw [e3]
 have e4:Int.fdiv ((2 ^ k*285870213051353865 % 2 ^ 64:Nat):Int) (2 ^ (min (Int.toNat 58) 64))=((2 ^ k*285870213051353865 % 2 ^ 64 / 2 ^ 58:Nat):Int):=by
  rw [Int.fdiv_eq_ediv_of_nonneg _ (by simp)]
  rfl
 rw [e4,idxT_eq]
 have:=List.all_eq_true.1 tab_look k (List.mem_range.2 hk)
 have:=of_decide_eq_true this
 rw [this]
 simp only [Option.bind_some]
 rw [wi64_of (by omega) (by omega)]
def bitsL (x:Nat):List Nat:=(List.range 64).filter fun i=>x.testBit i
theorem bitsL_zero:bitsL 0=[]:=by simp [bitsL]
theorem bitsL_len (x:Nat):(bitsL x).length≤64:=by
 have:=List.length_filter_le (fun i=>x.testBit i) (List.range 64)
 simpa [bitsL] using this
theorem bitsL_odd {k m:Nat} (hk:k < 64):bitsL (2 ^ k*(2*m+1))=k :: bitsL (2 ^ k*(2*m)):=by
 have e:List.range 64=List.range k++(k :: (List.range (63-k)).map (fun i=>k+1+i)):=by
  have h1:(64:Nat)=(k+1)+(63-k):=by omega
  conv=>lhs;rw [h1]
  rw [List.range_add,List.range_succ,List.append_assoc]
  rfl
 simp only [bitsL]
 rw [e,List.filter_append,List.filter_append,List.filter_cons,List.filter_cons]
 have z1:∀ y:Nat,(List.range k).filter (fun i=>(2 ^ k*y).testBit i)=[]:=by
  intro y
  rw [List.filter_eq_nil_iff]
  intro i hi
  have:=List.mem_range.1 hi
  rw [Nat.testBit_two_pow_mul]
  have h2:¬ i ≥ k:=by omega
  simp [h2]
 have b1:(2 ^ k*(2*m+1)).testBit k=true:=by rw [Nat.testBit_two_pow_mul];simp [odd_bit]
 have b2:(2 ^ k*(2*m)).testBit k=false:=by rw [Nat.testBit_two_pow_mul];simp [even_bit]
 rw [z1,z1,if_pos b1,if_neg (by rw [b2];simp)]
 simp only [List.nil_append]
 congr 1
 apply List.filter_congr
 intro i hi
 obtain ⟨j,_,rfl⟩:=List.mem_map.1 hi
 rw [Nat.testBit_two_pow_mul,Nat.testBit_two_pow_mul,odd_bit]
 have:¬ k+1+j-k=0:=by omega
 simp [this]
def plc (j:Nat) (x:Nat):List Int:=(bitsL x).map fun i=>((64*j+i:Nat):Int)
theorem plc_len (j x:Nat):(plc j x).length≤64:=by simpa [plc] using bitsL_len x
theorem word_loop {R:Type} (N:Nat) (hN:100≤N) (j:Nat) (hj:j < 1000) (t10:List Int) (t11 t12:Int) (x:Nat) (hx:x < 2 ^ 64) (o:List Int) (ho:o.length < 100000) (kx:List Int→Option R) :
  iter (fun w=>f20_L7 N (j:Int) t10 t11 t12 w kx) N ((x:Int),o)=kx (o++plc j x):=by
 refine iter_rule (fun s:Int×List Int=>∃ y:Nat,s.1=(y:Int)∧y < 2 ^ 64∧s.2++plc j y=o++plc j x) (fun s=>(bitsL s.1.toNat).length) ?_ N _ ⟨x,rfl,hx,rfl⟩ (by
  have:=bitsL_len x;simp;omega)
 rintro ⟨t,s⟩ w ⟨y,hy,hlt,he⟩ hw
 simp only at hy he
 subst hy
 simp only [f20_L7]
 by_cases h0:y=0
 ·subst h0
  simp [plc,bitsL_zero] at he ⊢
  rw [he]
 ·obtain ⟨k,m,rfl⟩:=odd_part y (by omega)
  have hk:=odd_lt hlt
  have e1:(!decide (((2 ^ k*(2*m+1):Nat):Int)=0))=true:=by
   simp only [Bool.not_eq_true',decide_eq_false_iff_not];omega
  rw [e1,cond_true,f30_eq N hlt]
  simp only [Option.bind_some]
  have hlen:s.length+(plc j (2 ^ k*(2*m+1))).length=o.length+(plc j x).length:=by
   have:=congrArg List.length he
   simpa using this
  have hpl:=plc_len j x
  rw [chk_true (by simp [room];omega)]
  have hpos:0 < 2 ^ k*(2*m+1):=by omega
  have e2:Go.IntKind.u64.wrap (Int.sub ((2 ^ k*(2*m+1):Nat):Int) 1)=((2 ^ k*(2*m+1)-1:Nat):Int):=by
   show wu64 (((2 ^ k*(2*m+1):Nat):Int)-1)=_
   have:(((2 ^ k*(2*m+1):Nat):Int)-1)=((2 ^ k*(2*m+1)-1:Nat):Int):=by omega
   rw [this,wu64_nat (by omega)]
  have hev:2 ^ k*(2*m) < 2 ^ 64:=by rw [←and_pred];exact and_lt hlt
  rw [e2,bv_and hlt (by omega),and_pred,wu64_nat hev]
  rw [wi64_of (n:=(j:Int)*64) (by omega) (by omega),wi64_of (n:=(j:Int)*64+(k:Int)) (by omega) (by omega)]
  have hc:(j:Int)*64+(k:Int)=((64*j+k:Nat):Int):=by omega
  rw [hc]
  have hcons:plc j (2 ^ k*(2*m+1))=((64*j+k:Nat):Int) :: plc j (2 ^ k*(2*m)):=by simp only [plc,bitsL_odd hk,List.map_cons]
  refine hw _ ⟨_,rfl,hev,?_⟩ ?_
  ·simp only
   rw [List.append_assoc,List.singleton_append,←hcons];exact he
  ·simp only [Int.toNat_natCast]
   rw [bitsL_odd hk];simp
def memsA:Nat→List Nat→List Int
 | _,[]=>[]
 | j,x :: ws=>plc j x++memsA (j+1) ws
theorem memsA_snoc:(j:Nat)→(ws:List Nat)→(x:Nat)→memsA j (ws++[x])=memsA j ws++plc (j+ws.length) x
 | _,[],_=>by simp [memsA]
 | j,y :: ws,x=>by
  simp only [List.cons_append,memsA,memsA_snoc (j+1) ws x,List.append_assoc,List.length_cons]
  congr 3;omega
theorem memsA_len:(j:Nat)→(ws:List Nat)→(memsA j ws).length≤64*ws.length
 | _,[]=>by simp [memsA]
 | j,x :: ws=>by
  have:=memsA_len (j+1) ws
  have:=plc_len j x
  simp only [memsA,List.length_append,List.length_cons];omega
def hasB (ws:List Nat) (i:Nat):Bool:=(ws.getD (i / 64) 0).testBit (i % 64)
theorem memsA_eq (ws:List Nat):memsA 0 ws=((List.range (64*ws.length)).filter (hasB ws)).map fun (i:Nat)=>(i:Int):=by
 induction ws using rev_ind with
 | h0=>simp [memsA]
 | h1 ws x ih=>
  rw [memsA_snoc,ih]
  have e:64*(ws++[x]).length=64*ws.length+64:=by simp;omega
  rw [e,List.range_add,List.filter_append,List.map_append]
  congr 1
  ·congr 1
   apply List.filter_congr
   intro i hi
   have hi':=List.mem_range.1 hi
   have h1:i / 64 < ws.length:=by omega
   simp only [hasB,List.getD_eq_getElem?_getD]
   rw [List.getElem?_append_left h1]
  ·rw [List.filter_map,List.map_map]
   simp only [plc,Nat.zero_add,bitsL]
   congr 1
   apply List.filter_congr
   intro i hi
   have hi':=List.mem_range.1 hi
   simp only [Function.comp,hasB,List.getD_eq_getElem?_getD]
   have h1:(64*ws.length+i) / 64=ws.length:=by omega
   have h2:(64*ws.length+i) % 64=i:=by omega
   rw [h1,h2];simp
theorem mem_loop {R:Type} (N:Nat) (hN:100≤N) (ws:List Nat) (hw:∀ x∈ws,x < 2 ^ 64) (hl:ws.length < 80) (kx:List Int→Option R) :
  iter (fun w=>f20_L5 N (ws.map fun (x:Nat)=>(x:Int)) (len (ws.map fun (x:Nat)=>(x:Int))) w kx) N (0,([]:List Int))=kx (memsA 0 ws):=by
 refine iter_for (fun k s=>s=memsA 0 (ws.take k)) ws.length ?_ ?_ N (by omega) [] (by simp [memsA])
 ·intro k s w hk hs hw'
  subst hs
  have hk':k < (ws.map fun (x:Nat)=>(x:Int)).length:=by simpa using hk
  simp only [f20_L5]
  rw [dlt_len hk',cond_true,idx_lt hk']
  simp only [Option.bind_some,List.getElem_map]
  have hlen:=memsA_len 0 (ws.take k)
  simp only [List.length_take] at hlen
  rw [word_loop N hN k (by omega) _ _ _ ws[k] (hw _ (List.getElem_mem hk)) _ (by omega)]
  rw [wi64_nat (by omega)]
  apply hw'
  rw [take_succ hk,memsA_snoc]
  simp only [List.length_take,Nat.zero_add]
  congr 2;omega
 ·intro s w hs
  subst hs
  simp only [f20_L5]
  have:=dnlt_len (ws.map fun (x:Nat)=>(x:Int))
  simp only [List.length_map] at this
  rw [this,cond_false,List.take_length]
end Go.Kz
