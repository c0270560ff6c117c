/-
  Sets, their members, and the classes that have one: plain laws.
-/
import Derived.Test.YtoccnkcnkcngjaaDoorKzN2
set_option linter.unusedVariables false
set_option linter.unusedSimpArgs false
namespace Go.Kz
abbrev castL (W:List Nat):List Int:=W.map fun (x:Nat)=>(x:Int)
theorem castL_len (W:List Nat):(castL W).length=W.length:=by simp [castL]
def okM (m:Nat) (W:List Nat):Bool:=decide (W.length=(m+63) / 64) && (decide (m % 64=0) || decide (W.getD (W.length-1) 0 / 2 ^ (m % 64)=0))
def okS (n:Int) (W:List Nat):Bool:=if n < 0∨4096 < n then false else okM n.toNat W
theorem tdiv_nat (a:Nat):Int.tdiv (a:Int) 64=((a / 64:Nat):Int):=(Int.ofNat_tdiv a 64).symm
theorem tmod_nat (a:Nat):Int.tmod (a:Int) 64=((a % 64:Nat):Int):=(Int.ofNat_tmod a 64).symm
theorem fdiv_nat (a r:Nat) (h:r≤64):Int.fdiv (a:Int) (2 ^ (min (Int.toNat ((r:Nat):Int)) 64))=((a / 2 ^ r:Nat):Int):=by
 have e:min (Int.toNat ((r:Nat):Int)) 64=r:=by simp;omega
 have e2:((2:Int) ^ r)=((2 ^ r:Nat):Int):=by simp
 rw [e,e2,Int.fdiv_eq_ediv_of_nonneg _ (Int.natCast_nonneg _)]
 rfl
theorem f33_eq (N m:Nat) (h:m≤4096):f33 N (m:Int)=some (((m+63) / 64:Nat):Int):=by
 unfold f33
 rw [wi64_of (n:=(m:Int)+64) (by omega) (by omega)]
 have:(m:Int)+64-1=((m+63:Nat):Int):=by omega
 rw [this,wi64_of (n:=((m+63:Nat):Int)) (by omega) (by omega),tdiv_nat,wi64_of (by omega) (by omega)]
theorem f29_eq (N:Nat) (n:Int) (W:List Nat):f29 N (n,(castL W,()))=some (okS n W):=by
 unfold f29
 by_cases hn:n < 0∨4096 < n
 ·have e:okS n W=false:=by simp [okS,hn]
  rw [e]
  rcases hn with h | h
  ·simp [h]
  ·by_cases h0:n < 0
   ·simp [h0]
   ·simp [h,h0]
 ·have h0:¬ n < 0:=fun h=>hn (.inl h)
  have h1:¬ 4096 < n:=fun h=>hn (.inr h)
  obtain ⟨m,rfl⟩:=Int.eq_ofNat_of_zero_le (show 0≤n by omega)
  have e:okS (m:Int) W=okM m W:=by simp only [okS,if_neg hn,Int.toNat_natCast]
  rw [e]
  simp only [d_false h0,d_false h1,cond_false,Option.bind_some]
  rw [f33_eq N m (by omega)]
  simp only [Option.bind_some]
  by_cases hl:W.length=(m+63) / 64
  ·have e1:decide (len (castL W)=(((m+63) / 64:Nat):Int))=true:=by simp only [len,castL_len,hl,decide_true]
   rw [e1]
   simp only [Bool.not_true,cond_false,tmod_nat]
   by_cases h2:m % 64=0
   ·simp [okM,hl,h2]
   ·have e2:decide (((m % 64:Nat):Int)=0)=false:=by simp only [decide_eq_false_iff_not];omega
    have e3:decide (((m % 64:Nat):Int) < 0)=false:=by simp only [decide_eq_false_iff_not];omega
    have hpos:0 < W.length:=by omega
    rw [e2,cond_false]
    have e4:wi64 (len (castL W)-1)=((W.length-1:Nat):Int):=by
     simp only [len,castL_len]
     rw [wi64_of (by omega) (by omega)];omega
    rw [e4,idx_lt (by rw [castL_len];omega)]
    simp only [Option.bind_some,e3,cond_false,castL,List.getElem_map]
    rw [fdiv_nat _ _ (by omega)]
    simp only [okM,hl,decide_true,Bool.true_and,d_false h2,Bool.false_or]
    rw [List.getD_eq_getElem?_getD,List.getElem?_eq_getElem (by omega)]
    congr 1
    simp only [Option.getD_some,decide_eq_decide]
    generalize W[(m+63) / 64-1]'(by omega) / 2 ^ (m % 64)=z
    omega
  ·have e1:decide (len (castL W)=(((m+63) / 64:Nat):Int))=false:=by simp only [len,castL_len,decide_eq_false_iff_not];omega
   rw [e1]
   simp [okM,hl]
theorem mems_ok {m:Nat} {W:List Nat} (h:okM m W=true):memsA 0 W=((List.range m).filter (hasB W)).map fun (i:Nat)=>(i:Int):=by
 simp only [okM,Bool.and_eq_true,Bool.or_eq_true,decide_eq_true_eq] at h
 obtain ⟨hl,hz⟩:=h
 rw [memsA_eq]
 congr 1
 have e:64*W.length=m+(64*W.length-m):=by omega
 rw [e,List.range_add,List.filter_append]
 have:((List.range (64*W.length-m)).map (fun i=>m+i)).filter (hasB W)=[]:=by
  rw [List.filter_eq_nil_iff]
  intro i hi
  obtain ⟨j,hj,rfl⟩:=List.mem_map.1 hi
  have hj':=List.mem_range.1 hj
  rcases hz with hz | hz
  ·omega
  ·by_cases h0:m % 64=0
   ·omega
   ·have h1:(m+j) / 64=W.length-1:=by omega
    have h2:(m+j) % 64=m % 64+j:=by omega
    simp only [hasB,h1,h2]
    generalize W.getD (W.length-1) 0=x at hz
    have hx:x < 2 ^ (m % 64):=by
     rcases Nat.lt_or_ge x (2 ^ (m % 64)) with h | h
     ·exact h
     ·have:=Nat.div_pos h (Nat.pos_of_ne_zero (by simp));omega
    rw [Nat.testBit_lt_two_pow (Nat.lt_of_lt_of_le hx (Nat.pow_le_pow_right (by omega) (by omega)))]
    simp
 rw [this,List.append_nil]
theorem f20_eq (N:Nat) (hN:100≤N) (n:Int) (W:List Nat) (hw:∀ x∈W,x < 2 ^ 64):f20 N (n,(castL W,()))=some (if okS n W then memsA 0 W else []):=by
 unfold f20
 rw [f29_eq]
 simp only [Option.bind_some]
 cases h:okS n W with
 | false=>simp
 | true=>
  simp only [Bool.not_true,cond_false,if_true]
  have hl:W.length < 80:=by
   simp only [okS] at h
   split at h
   ·simp at h
   ·rename_i hh
    have h0:¬ n < 0:=fun h=>hh (.inl h)
    have h1:¬ 4096 < n:=fun h=>hh (.inr h)
    simp only [okM,Bool.and_eq_true,decide_eq_true_eq] at h
    omega
  exact mem_loop N hN W hw hl _
def codeS (p:List Int) (n:Int) (W:List Nat):Int:=if okP p && okS n W then (if n=p.length then 0 else 2) else 1
theorem f19_eq (N:Nat) (p:List Int) (n:Int) (W:List Nat) (hN:p.length < N) (hl:p.length < 4294967296):f19 N p (n,(castL W,()))=some (codeS p n W):=by
 unfold f19
 rw [f28_eq N p hN hl,f29_eq]
 simp only [Option.bind_some,codeS]
 cases okP p <;> cases okS n W <;> simp
 by_cases h:n=p.length
 ·simp [h,len]
 ·have:decide (n=len p)=false:=by simpa [len] using h
  rw [this];simp [h]
theorem codeS_zero {p:List Int} {n:Int} {W:List Nat} (h:codeS p n W=0):okP p=true∧okS n W=true∧n=(p.length:Int)∧okM p.length W=true:=by
 simp only [codeS] at h
 split at h
 ·rename_i h1
  split at h
  ·rename_i h2
   simp only [Bool.and_eq_true] at h1
   refine ⟨h1.1,h1.2,h2,?_⟩
   have:=h1.2
   simp only [okS] at this
   split at this
   ·simp at this
   ·subst h2;simpa using this
  ·simp at h
 ·simp at h
end Go.Kz
