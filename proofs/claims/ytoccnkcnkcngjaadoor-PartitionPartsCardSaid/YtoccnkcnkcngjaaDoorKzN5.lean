/-
  The parts of a set: plain laws; the law on parts.
-/
import Derived.Test.YtoccnkcnkcngjaaDoorKzN4
set_option linter.unusedVariables false
set_option linter.unusedSimpArgs false
namespace Go.Kz
def orL (l:List Nat) (w:Nat):Nat:=l.foldl (fun w i=>w ||| 2 ^ i) w
theorem orL_bit (l:List Nat):∀ (w j:Nat),(orL l w).testBit j=(w.testBit j || decide (j∈l)):=by
 induction l with
 | nil=>intro w j;simp [orL]
 | cons i l ih=>
  intro w j
  have:=ih (w ||| 2 ^ i) j
  simp only [orL,List.foldl_cons] at this ⊢
  rw [this,Nat.testBit_or,Nat.testBit_two_pow]
  by_cases h:j=i
  ·subst h;simp
  ·have h2:¬ i=j:=fun e=>h e.symm
   simp [h,h2]
theorem orL_lt (l:List Nat) (h:∀ i∈l,i < 64) {w:Nat} (hw:w < 2 ^ 64):orL l w < 2 ^ 64:=by
 apply Nat.lt_pow_two_of_testBit
 intro j hj
 rw [orL_bit,Nat.testBit_lt_two_pow (Nat.lt_of_lt_of_le hw (Nat.pow_le_pow_right (by omega) hj))]
 have:j∉l:=fun hm=>by have:=h j hm;omega
 simp [this]
theorem two_lt {i:Nat} (h:i < 64):2 ^ i < 2 ^ 64:=Nat.pow_lt_pow_right (by omega) h
theorem stepW_one {w i:Nat} (hw:w < 2 ^ 64) (hi:i < 64):stepW [(w:Int)] i=[((w ||| 2 ^ i:Nat):Int)]:=by
 have h0:i / 64=0:=by omega
 have e1:Int.tmod (i:Int) 64=(i:Int):=by rw [tmod_nat];omega
 have e2:Go.IntKind.u64.wrap (Int.mul 1 (Int.pow 2 (min ((i:Int)).toNat 64)))=((2 ^ i:Nat):Int):=by
  have e3:min ((i:Int)).toNat 64=i:=by simp;omega
  rw [e3]
  have e4:Int.mul 1 (Int.pow 2 i)=((2 ^ i:Nat):Int):=by
   show (1:Int)*(2:Int) ^ i=_
   simp
  rw [e4]
  exact wu64_nat (two_lt hi)
 have hlt:w ||| 2 ^ i < 2 ^ 64:=Nat.or_lt_two_pow hw (two_lt hi)
 simp only [stepW,h0,e1,e2]
 show [wu64 _]=_
 have:([(w:Int)]:List Int).getD 0 0=(w:Int):=rfl
 rw [this,bv_or hw (two_lt hi),wu64_nat hlt]
theorem foldW_one (l:List Nat):∀ {w:Nat},w < 2 ^ 64→(∀ i∈l,i < 64)→l.foldl stepW [(w:Int)]=[((orL l w:Nat):Int)]:=by
 induction l with
 | nil=>intro w _ _;rfl
 | cons i l ih=>
  intro w hw h
  have hi:=h i (by simp)
  rw [List.foldl_cons,stepW_one hw hi,ih (Nat.or_lt_two_pow hw (two_lt hi)) (fun j hj=>h j (by simp [hj]))]
  rfl
theorem has_one (x:Nat) {i:Nat} (h:i < 64):hasB [x] i=x.testBit i:=by
 have h0:i / 64=0:=by omega
 have h1:i % 64=i:=by omega
 simp only [hasB,h0,h1]
 rfl
theorem ok_one {p:List Int} {x:Nat} (hp:okP p=true) (hn:0 < p.length) (hn2:p.length≤64) (hx:x < 2 ^ p.length):codeS p (p.length:Int) [x]=0:=by
 have:okS (p.length:Int) [x]=true:=by
  have h1:¬ ((p.length:Int) < 0∨4096 < (p.length:Int)):=by omega
  simp only [okS,if_neg h1,Int.toNat_natCast,okM]
  have h2:[x].length=(p.length+63) / 64:=by simp only [List.length_cons,List.length_nil];omega
  rw [d_true h2,Bool.true_and]
  by_cases h3:p.length % 64=0
  ·simp [h3]
  ·have h4:p.length % 64=p.length:=by omega
   have h5:x / 2 ^ (p.length % 64)=0:=by rw [h4];exact Nat.div_eq_of_lt hx
   have h6:[x].getD ([x].length-1) 0 / 2 ^ (p.length % 64)=0:=h5
   show (decide (p.length % 64=0) || decide ([x].getD ([x].length-1) 0 / 2 ^ (p.length % 64)=0))=true
   rw [d_true h6,Bool.or_true]
 simp [codeS,hp,this]
theorem part_one {p:List Int} {x:Nat} (hp:okP p=true) (hn:0 < p.length) (hn2:p.length≤64) (hx:x < 2 ^ p.length) {c:Nat} (hc:c < (top 0 p).toNat) :
  partR p (p.length:Int) [x] (c:Int)=(((p.length:Int),([((orL (partL p [x] (c:Int)) 0:Nat):Int)],())),0):=by
 have h1:¬ ((c:Int) < 0∨top 0 p≤(c:Int)):=by omega
 simp only [partR,ok_one hp hn hn2 hx,if_true,if_neg h1]
 have:=foldW_one (partL p [x] (c:Int)) (w:=0) (by omega) (fun i hi=>by have:=partL_lt hi;omega)
 have e:List.replicate [x].length (0:Int)=[((0:Nat):Int)]:=rfl
 rw [e,this]
theorem partL_mem {p:List Int} {x c j:Nat} (hn2:p.length≤64):j∈partL p [x] (c:Int)↔j < p.length∧x.testBit j=true∧p.getD j 0=(c:Int):=by
 simp only [partL,List.mem_filter,List.mem_range,Bool.and_eq_true,decide_eq_true_eq]
 constructor
 ·rintro ⟨h1,h2,h3⟩;exact ⟨h1,by rw [←has_one x (by omega)];exact h2,h3⟩
 ·rintro ⟨h1,h2,h3⟩;exact ⟨h1,by rw [has_one x (by omega)];exact h2,h3⟩
theorem brs_iff {p:List Int} {x c:Nat} (hn2:p.length≤64):brs p [x] c=true↔∃ j,j∈partL p [x] (c:Int):=by
 simp only [brs,List.any_eq_true,List.mem_range,Bool.and_eq_true,decide_eq_true_eq]
 constructor
 ·rintro ⟨j,h1,h2,h3⟩;exact ⟨j,(partL_mem hn2).2 ⟨h1,by rw [←has_one x (by omega)];exact h3,h2⟩⟩
 ·rintro ⟨j,hj⟩
  obtain ⟨h1,h2,h3⟩:=(partL_mem hn2).1 hj
  exact ⟨j,h1,h3,by rw [has_one x (by omega)];exact h2⟩
theorem orL_zero {l:List Nat}:orL l 0=0↔l=[]:=by
 constructor
 ·intro h
  cases l with
  | nil=>rfl
  | cons i l=>
   have:=orL_bit (i :: l) 0 i
   rw [h] at this;simp at this
 ·rintro rfl;rfl
theorem cnt_filter_le {α:Type} {f g:α→Bool} (h:∀ x,f x=true→g x=true):(l:List α)→(l.filter f).length≤(l.filter g).length
 | []=>by simp
 | x :: l=>by
  have ih:=cnt_filter_le h l
  simp only [List.filter_cons]
  cases hf:f x with
  | true=>rw [h x hf];simp only [if_true,List.length_cons];omega
  | false=>
   cases g x with
   | true=>simp only [if_true,List.length_cons];simp;omega
   | false=>simpa using ih
def unionL (p:List Int) (x k:Nat):List Nat:=(List.range p.length).filter fun i=>x.testBit i && decide (p.getD i 0 < (k:Int))
theorem unionL_mem {p:List Int} {x k j:Nat}:j∈unionL p x k↔j < p.length∧x.testBit j=true∧p.getD j 0 < (k:Int):=by
 simp only [unionL,List.mem_filter,List.mem_range,Bool.and_eq_true,decide_eq_true_eq]
theorem parts_loop (N:Nat) (hN:100≤N) (p:List Int) (x:Nat) (hp:okP p=true) (hn:0 < p.length) (hn2:p.length≤64) (hx:x < 2 ^ p.length) (t9 t2:Int) (kret:Bool→Option Bool) (kx:Int→Int→Option Bool) :
  iter (fun w=>f4_L13 N t9 t2 (top 0 p) (p.length:Int) [(x:Int)] p w kret kx) N (0,0,0)=kx ((((List.range (top 0 p).toNat).filter (brs p [x])).length:Nat):Int) ((x:Nat):Int):=by
 obtain ⟨b1,b2,b3⟩:=top_bound hp
 have hcnt:∀ k,((List.range k).filter (brs p [x])).length≤k:=fun k=>by
  have:=List.length_filter_le (brs p [x]) (List.range k)
  simpa using this
 have hul:∀ k,∀ i∈unionL p x k,i < 64:=fun k i hi=>by have:=(unionL_mem.1 hi).1;omega
 refine iter_for (fun k s=>s=(((((List.range k).filter (brs p [x])).length:Nat):Int),((orL (unionL p x k) 0:Nat):Int))) (top 0 p).toNat ?_ ?_ N (by omega) (0,0) ?_
 ·intro k s w hk hs hw'
  subst hs
  simp only [f4_L13]
  rw [d_true (show (k:Int) < top 0 p by omega),cond_true]
  have hw1:∀ y∈[x],y < 2 ^ 64:=by
   intro y hy
   simp only [List.mem_singleton] at hy
   subst hy
   exact Nat.lt_of_lt_of_le hx (Nat.pow_le_pow_right (by omega) hn2)
  have h8:=f8_eq N hN p (p.length:Int) [x] (k:Int) hw1 hn2
  rw [part_one hp hn hn2 hx hk] at h8
  rw [show ([(x:Int)]:List Int)=castL [x] from rfl,h8]
  have hPl:orL (partL p [x] (k:Int)) 0 < 2 ^ 64:=orL_lt _ (fun i hi=>by have:=partL_lt hi;omega) (by omega)
  have hUl:orL (unionL p x k) 0 < 2 ^ 64:=orL_lt _ (hul k) (by omega)
  generalize hP:orL (partL p [x] (k:Int)) 0=P at hPl
  generalize hU:orL (unionL p x k) 0=U at hUl
  have hand:U &&& P=0:=by
   apply Nat.eq_of_testBit_eq
   intro j
   rw [Nat.testBit_and,←hU,←hP,orL_bit,orL_bit]
   simp only [Nat.zero_testBit,Bool.false_or]
   by_cases h1:j∈unionL p x k
   ·have h2:j∉partL p [x] (k:Int):=fun h=>by
     have:=(unionL_mem.1 h1).2.2
     have:=((partL_mem hn2).1 h).2.2
     omega
    simp [h2]
   ·simp [h1]
  have hor:U ||| P=orL (unionL p x (k+1)) 0:=by
   apply Nat.eq_of_testBit_eq
   intro j
   rw [Nat.testBit_or,←hU,←hP,orL_bit,orL_bit,orL_bit]
   simp only [Nat.zero_testBit,Bool.false_or]
   rw [Bool.eq_iff_iff]
   simp only [Bool.or_eq_true,decide_eq_true_eq,unionL_mem,partL_mem hn2]
   constructor
   ·rintro (⟨h1,h2,h3⟩ | ⟨h1,h2,h3⟩)
    ·exact ⟨h1,h2,by omega⟩
    ·exact ⟨h1,h2,by omega⟩
   ·rintro ⟨h1,h2,h3⟩
    by_cases h4:p.getD j 0 < (k:Int)
    ·exact .inl ⟨h1,h2,h4⟩
    ·exact .inr ⟨h1,h2,by omega⟩
  have hk2:=hcnt k
  have hinb:inb [((P:Nat):Int)] 0=true:=rfl
  have hidx:idx [((P:Nat):Int)] 0=some ((P:Nat):Int):=rfl
  have hl1:len [((P:Nat):Int)]=1:=rfl
  simp only [Option.bind_some,decide_true,Bool.not_true,cond_false,hl1,hinb,hidx,chk_true]
  rw [bv_and hUl hPl,hand,bv_or hUl hPl,hor]
  have e0:wu64 ((0:Nat):Int)=0:=by rw [wu64_nat (by omega)];rfl
  rw [e0]
  simp only [decide_true,Bool.not_true,cond_false]
  rw [wu64_nat (orL_lt _ (hul (k+1)) (by omega)),wi64_nat (by omega),wi64_nat (by omega)]
  by_cases hz:P=0
  ·subst hz
   have hb:brs p [x] k=false:=by
    cases hb:brs p [x] k with
    | false=>rfl
    | true=>
     obtain ⟨j,hj⟩:=(brs_iff hn2).1 hb
     rw [orL_zero.1 hP] at hj
     simp at hj
   have e1:(!decide (((0:Nat):Int)=0))=false:=rfl
   rw [e1,cond_false]
   apply hw'
   rw [List.range_succ,List.filter_append,List.filter_cons_of_neg (by rw [hb];simp),List.filter_nil,List.append_nil]
  ·have hb:brs p [x] k=true:=by
    rw [brs_iff hn2]
    cases hl:partL p [x] (k:Int) with
    | nil=>rw [hl] at hP;exact absurd hP.symm hz
    | cons j l=>exact ⟨j,by simp⟩
   have e1:(!decide (((P:Nat):Int)=0))=true:=by
    have:¬ ((P:Nat):Int)=0:=by omega
    rw [d_false this];rfl
   rw [e1,cond_true]
   apply hw'
   rw [List.range_succ,List.filter_append,List.filter_cons_of_pos hb,List.filter_nil,List.length_append]
   simp
 ·intro s w hs
  subst hs
  simp only [f4_L13]
  rw [d_false (show ¬ (((top 0 p).toNat:Nat):Int) < top 0 p by omega),cond_false]
  congr 2
  apply Nat.eq_of_testBit_eq
  intro j
  rw [orL_bit]
  simp only [Nat.zero_testBit,Bool.false_or]
  rw [Bool.eq_iff_iff]
  simp only [decide_eq_true_eq,unionL_mem]
  constructor
  ·rintro ⟨_,h2,_⟩;exact h2
  ·intro h
   have hj:j < p.length:=by
    rcases Nat.lt_or_ge j p.length with h1 | h1
    ·exact h1
    ·rw [Nat.testBit_lt_two_pow (Nat.lt_of_lt_of_le hx (Nat.pow_le_pow_right (by omega) h1))] at h;simp at h
   have hg:p.getD j 0=p[j]:=by rw [List.getD_eq_getElem?_getD,List.getElem?_eq_getElem hj];rfl
   have:=b3 p[j] (List.getElem_mem hj)
   exact ⟨hj,h,by rw [hg];omega⟩
 ·have e:orL (unionL p x 0) 0=0:=by
   rw [orL_zero]
   cases hl:unionL p x 0 with
   | nil=>rfl
   | cons j l=>
    have hm:j∈unionL p x 0:=by rw [hl];simp
    obtain ⟨h1,_,h3⟩:=unionL_mem.1 hm
    have hg:p.getD j 0=p[j]:=by rw [List.getD_eq_getElem?_getD,List.getElem?_eq_getElem h1];rfl
    have:=b3 p[j] (List.getElem_mem h1)
    rw [hg] at h3;omega
  rw [e];simp
end Go.Kz
