/-
  The law on parts.
-/
import Derived.Test.YtoccnkcnkcngjaaDoorKzN5
set_option linter.unusedVariables false
set_option linter.unusedSimpArgs false
namespace Go.Kz
theorem fdiv_pow (a q:Nat):Int.fdiv (a:Int) (2 ^ q)=((a / 2 ^ q:Nat):Int):=by
 have e2:((2:Int) ^ q)=((2 ^ q:Nat):Int):=by simp
 rw [e2,Int.fdiv_eq_ediv_of_nonneg _ (Int.natCast_nonneg _)]
 rfl
theorem brs_mono {p:List Int} {x y c:Nat} (hn2:p.length≤64) (h:∀ j,y.testBit j=true→x.testBit j=true) (hb:brs p [y] c=true):brs p [x] c=true:=by
 obtain ⟨j,hj⟩:=(brs_iff hn2).1 hb
 obtain ⟨h1,h2,h3⟩:=(partL_mem hn2).1 hj
 exact (brs_iff hn2).2 ⟨j,(partL_mem hn2).2 ⟨h1,h j h2,h3⟩⟩
theorem law4 (l:List Int) (A D:Int) (hA:0≤A∧A≤18446744073709551615) (hD:0≤D∧D≤18446744073709551615):f4 100 l A D=some true:=by
 unfold f4
 rw [f5_100]
 simp only [Option.bind_some,Bool.not_true,cond_false]
 have hm:minI (len l) 64=((min l.length 64:Nat):Int):=by
  simp only [minI,len];split <;> omega
 rw [hm]
 generalize hmm:min l.length 64=m
 have hml:m≤l.length:=by omega
 have hm64:m≤64:=by omega
 rw [chk_true (by simp only [len,Bool.and_eq_true,decide_eq_true_eq];omega)]
 have hs:sub l 0 (m:Int)=l.take m:=by simp [sub]
 rw [hs,f11_eq 100 (l.take m) (by simp;omega) (by simp;omega)]
 simp only [Option.bind_some]
 have hp:=okP_ofL (l.take m)
 have hpl:(ofL (l.take m)).length=m:=by simp [ofL,clsA_length];omega
 generalize ofL (l.take m)=p at hp hpl
 have hn2:p.length≤64:=by omega
 have hlp:len p=(p.length:Int):=rfl
 by_cases hn:0 < p.length
 ·rw [d_true (show 0 < len p by rw [hlp];omega),cond_true]
  have e1:wi64 (64-len p)=((64-p.length:Nat):Int):=by rw [hlp,wi64_of (by omega) (by omega)];omega
  simp only [e1]
  rw [d_false (show ¬ ((64-p.length:Nat):Int) < 0 by omega)]
  simp only [cond_false]
  obtain ⟨a,rfl⟩:=Int.eq_ofNat_of_zero_le hA.1
  have e2:min (Int.toNat ((64-p.length:Nat):Int)) 64=64-p.length:=by simp
  simp only [e2]
  have e3:wu64 ((a:Int)*2 ^ (64-p.length))=((a*2 ^ (64-p.length) % 2 ^ 64:Nat):Int):=by
   have:(a:Int)*2 ^ (64-p.length)=((a*2 ^ (64-p.length):Nat):Int):=by simp
   rw [this]
   simp only [wu64,IntKind.wrap,IntKind.min,IntKind.max,IntKind.bits,IntKind.signed]
   simp
  simp only [e3,fdiv_pow]
  have hx:a*2 ^ (64-p.length) % 2 ^ 64 / 2 ^ (64-p.length) < 2 ^ p.length:=by
   rw [Nat.div_lt_iff_lt_mul (Nat.pos_of_ne_zero (by simp)),←Nat.pow_add]
   have:p.length+(64-p.length)=64:=by omega
   rw [this]
   exact Nat.mod_lt _ (by simp)
  generalize a*2 ^ (64-p.length) % 2 ^ 64 / 2 ^ (64-p.length)=x at hx
  have hx64:x < 2 ^ 64:=Nat.lt_of_lt_of_le hx (Nat.pow_le_pow_right (by omega) hn2)
  have hw:∀ (y:Nat),y < 2 ^ 64→∀ z∈[y],z < 2 ^ 64:=by
   intro y hy z hz
   simp only [List.mem_singleton] at hz
   subst hz;exact hy
  have f6':∀ y:Nat,y < 2 ^ p.length→f6 100 p (len p,([((y:Nat):Int)],()))=some (((((List.range (top 0 p).toNat).filter (brs p [y])).length:Nat):Int),0):=by
   intro y hy
   have h:=f6_eq 100 (by omega) p (p.length:Int) [y] (hw y (Nat.lt_of_lt_of_le hy (Nat.pow_le_pow_right (by omega) hn2))) hn2
   rw [ok_one hp hn hn2 hy,if_pos rfl,count_eq hp] at h
   exact h
  rw [f6' x hx]
  simp only [Option.bind_some,decide_true,Bool.not_true,cond_false]
  rw [d_false (show ¬ len p=0 by rw [hlp];omega)]
  simp only [cond_false]
  rw [f12_eq 100 p (by omega) (by omega),hp]
  simp only [if_true,Option.bind_some]
  rw [hlp]
  rw [parts_loop 100 (by omega) p x hp hn hn2 hx]
  have hinb:inb [((x:Nat):Int)] 0=true:=rfl
  have hidx:idx [((x:Nat):Int)] 0=some ((x:Nat):Int):=rfl
  simp only [hinb,hidx,chk_true,Option.bind_some]
  have hy:∃ y:Nat,((BitVec.ofInt 64 ((x:Nat):Int)).and (BitVec.ofInt 64 D).not).toNat=y∧y≤x∧∀ j,y.testBit j=true→x.testBit j=true:=by
   refine ⟨_,rfl,?_,?_⟩
   ·show ((BitVec.ofInt 64 ((x:Nat):Int)) &&& ~~~(BitVec.ofInt 64 D)).toNat≤x
    rw [BitVec.toNat_and,u64_ofInt hx64]
    exact Nat.and_le_left
   ·intro j hj
    have:((BitVec.ofInt 64 ((x:Nat):Int)) &&& ~~~(BitVec.ofInt 64 D)).toNat.testBit j=true:=hj
    rw [BitVec.toNat_and,u64_ofInt hx64,Nat.testBit_and,Bool.and_eq_true] at this
    exact this.1
  obtain ⟨y,hy1,hy2,hy3⟩:=hy
  rw [hy1,wu64_nat (by omega)]
  have h6:=f6' y (by omega)
  rw [hlp] at h6
  rw [h6]
  have hle:((List.range (top 0 p).toNat).filter (brs p [y])).length≤((List.range (top 0 p).toNat).filter (brs p [x])).length:=cnt_filter_le (fun c hc=>brs_mono hn2 hy3 hc) _
  simp only [Option.bind_some,decide_true,cond_true]
  rw [d_true (show ((((List.range (top 0 p).toNat).filter (brs p [y])).length:Nat):Int)≤((((List.range (top 0 p).toNat).filter (brs p [x])).length:Nat):Int) by omega)]
 ·have h0:p=[]:=List.eq_nil_of_length_eq_zero (by omega)
  subst h0
  have h:=f6_eq 100 (by omega) [] (0:Int) [] (by simp) (by simp)
  have hc:codeS [] 0 []=0:=by decide
  rw [hc,if_pos rfl] at h
  have h2:f6 100 [] (len ([]:List Int),(([]:List Int),()))=some (0,0):=h
  rw [h2]
  rfl
theorem law4F (l:List Int) (A D:Int) (hA:(Ty.int .u64).fits A) (hD:(Ty.int .u64).fits D):f4 100 l A D=some true:=law4 l A D hA hD
end Go.Kz
