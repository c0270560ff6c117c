/-
  The functions that spell numbers, as functions on data.
-/
import Derived.Test.YtmoggdcmpoobpaaGreatDoorKzSQ
import Derived.Test.YtmoggdcmpoobpaaGreatDoorKzAR
set_option linter.unusedSimpArgs false
namespace Go.Kz
open Go.Proofs Go.RowKit
set_option linter.unusedVariables false
theorem z9w: Tryz.prog.globalNamed "internal/strconv.uint64pow10" = some 1 := by kernel_rfl
theorem zel{w:World}{g:z8}(h:Known w g): Lib.TabIs Tryz.prog w "internal/strconv.uint64pow10" .u64 Lib.pow10Tab := by
 obtain⟨_,h2,c,ty,fz,h3,h4⟩:=h 1 ⟨20,.int .u64,tab1⟩ rfl;obtain⟨b',off,c',e',fz',hp,ht,hb,_,_,hlen,ja⟩:=h2;simp only[N0,Value.pointer.injEq,zI,Addr.mk.injEq,Fy]at hp;obtain⟨rfl,rfl⟩:=hp;rw[h3]at hb;simp only[zI,Obj.cells.injEq]at hb;obtain⟨rfl,_⟩:=hb;unfold Lib.TabIs World.var?;rw[z9w];simp only[zK,h3,zI];have h4':c.size=20:=h4;apply C5.1;apply Z2o;intro i;by_cases hi:i<20
 ·have:=(ja i hi).1;have uk:c.toList.length=20:=by rw[vl];exact h4'
  have e0:qS (qS c.toList 0 (Ty.arr 20 (.int .u64)).size) (i*(Ty.int .u64).size) (Ty.int .u64).size=[c.toList[i]'(by omega)]:=by
   have e1:(Ty.arr 20 (.int .u64)).size=20:=rfl;have e2:(Ty.int .u64).size=1:=rfl;have e3:qS c.toList 0 20=c.toList:=by simp only[qS,Z3b];exact Z1y (by omega)
   rw[e1,e2,e3];simp only[qS,TB];rw[Z38 (by omega)];rfl
  have zej:[c.toList[i]'(by omega)]=[Value.int .u64 (List.get tab1 ⟨i,hi⟩)]:=e0.symm.trans this;simp only[N0,Fy]at zej;rw[uX (by rw[vl];omega),zej];have e:Lib.pow10Tab=tab1:=by decide
  rw[e];have hl:i<tab1.length:=hi;simp[uX hl]
 ·rw[Z3i (by rw[vl];omega),Z3i];have:Lib.pow10Tab.length=20:=by decide
  simp;omega
def Km:Nat->Nat->List UInt8
 |0,_=>[]
 |k+1,u=>cond (Nat.blt u 10) [UInt8.ofNat (48+u)] (Km k (u/10)++[UInt8.ofNat (48+u%10)])
theorem F4:∀(k u:Nat),u<10 ^ (k+1)->Km (k+1) u=Lib.decDigits u
 |0,u,h=>by
  have h':u<10:=by simpa using h
  have hb:Nat.blt u 10=true:=by simpa[Z3l]using h'
  rw[Lib.decDigits,dif_pos h']
  simp only[Km,hb,zB]
 |k+1,u,h=>by
  rw[Lib.decDigits];by_cases h':u<10
  ·have hb:Nat.blt u 10=true:=by simpa[Z3l]using h'
   rw[dif_pos h'];simp only[Km,hb,zB]
  ·have hb:Nat.blt u 10=false:=by
    cases hq:Nat.blt u 10 with
    |false=>rfl
    |true=>exact absurd (by simpa[Z3l]using hq) h'
   have:=F4 k (u/10) (by rw[Nat.pow_succ]at h;omega);rw[dif_neg h',Km,hb,zP,this]
def YI(n:Int):List UInt8:=match n with
 |.ofNat m=>Km 20 m
 |.negSucc m=>45::Km 20 (m+1)
theorem HD{n:Int}(h0 : -9223372036854775808<=n)(h1:n<=9223372036854775807):YI n=Lib.itoa n:=by
 cases n with
 |ofNat m=>
  have hm:m<10 ^ 20:=by have:(Int.ofNat m:Int)=(m:Int):=rfl;omega
  have:¬(Int.ofNat m)<0:=by have:(Int.ofNat m:Int)=(m:Int):=rfl;omega
  simp only[YI,Lib.itoa,qW this,F4 19 m hm];rfl
 |negSucc m=>
  have hm:m+1<10 ^ 20:=by have:Int.negSucc m = -((m:Int)+1):=rfl;omega
  have:(Int.negSucc m)<0:=Int.negSucc_lt_zero m;simp only[YI,Lib.itoa,yX this,F4 19 _ hm];rfl
def xr(l:List Int):List UInt8:=l.flatMap λn=>YI n++[32]
theorem GK:∀{l:List Int},(∀x∈l,-9223372036854775808<=x/\x<=9223372036854775807)->xr l=jQ l
 |[],_=>rfl
 |x::l,h=>by
  have:=GK (l:=l) λy hy=>h y (by simp[hy])
  have hx:=h x (by simp);simp only[xr,jQ,Z5c]at this⊢;rw[this,HD hx.1 hx.2]
def DR(l:List Int):Option (List UInt8):=zo (decide (l.length<=room)) (some (xr l))
theorem Xp{w:World}{g:z8}{l:List Int}{v:Value}(h:∃cs,zN w g none (.sl false (.int .i64)) l cs/\v=jh (Ty.sl false (.int .i64)).sk.isAgg cs):
  (l=[]/\∃a c,v=.slice a 0 c)\/∃b off c,v=.slice (some ⟨b,off,none⟩) l.length c/\b<w.heap.size/\(∀j,j<l.length->w.cell? ⟨b,off+j,none⟩=some (.int .i64 (l.getD j 0)))/\∀x∈l,-9223372036854775808<=x/\x<=9223372036854775807:=by
 obtain⟨cs,⟨a,cap,rfl,h1,h2,h3⟩,rfl⟩:=h;by_cases hl:l=[]
 ·subst hl;exact .inl ⟨rfl,a,cap,rfl⟩
 ·right;obtain⟨b,off,c,e,fz,rfl,ht,hb,hs,ja⟩:=h3 hl;refine⟨b,off,cap,rfl,(Z26.1 hb).1,λj hj=>?_,λx hx=>?_⟩
  ·have Zy:off+j<c.size:=by simp[Ty.size]at hs;omega
   have:=(ja j hj).1;simp only[qS,Ty.size,TB]at this;rw[Z38 (by rw[vl];exact Zy)]at this;simp only[Z2k,Z1z,N0,Fy]at this;simp only[World.cell?,hb];rw[Z3d Zy,<-Z4z,this];simp[List.getD,uX hj]
  ·obtain⟨i,hi,rfl⟩:=Gz.1 hx;exact(ja i hi).2
theorem P0{w w':World}{g:z8}(zS:∀b,g.tag b≠.zt->g.tag b=.ro/\b<w.heap.size)(hb:Below w.heap.size w w')(hd:w.drawn<=w'.drawn):Ext w g w' g:=
 ⟨hb.os,hb.tape,hb.output,hd,hb.size,λb qk _=>⟨hb.block b qk,rfl⟩⟩
theorem Di{w':World}{g:z8}{l:List UInt8}(ht:∀b,g.tag b≠.zt->b<w'.heap.size)(hl:l.length<=maxLen):Gv w' g (zQ [.str] l 0) (.string ⟨l.toArray⟩):=by
 refine⟨⟨λid o h=>by simp[zQ,zw,zR]at h,ht⟩,?_⟩;exact Wv (by simp) (by simpa[ByteArray.size]using hl)
theorem Rl{l:List Int}(hl:l.length<=room)(hr:∀x∈l,-9223372036854775808<=x/\x<=9223372036854775807):(jQ l).length<=maxLen:=by
 have:=len_sum (f:=λn=>Lib.itoa n++[32]) (m:=22) l λx hx=>by
  have h:=hr x hx;have:=Lib.itoa_length_le x h.1 h.2;simp;omega
 simp only[room]at hl;simp only[jQ,maxLen];omega
theorem z0m{f:Nat}(hen:∀args w,(callFunc f args).run Tryz.prog w=.ok (.enter f args) w)
  (h1:∀(b off n c:Nat)(zs:List Int)(w:World),zs.length=n->n<=4294967296->b<w.heap.size->(∀j,j<n->w.cell? ⟨b,off+j,none⟩=some (.int .i64 (zs.getD j 0)))->(∀x∈zs,-9223372036854775808<=x/\x<=9223372036854775807)->
   Lib.TabIs Tryz.prog w "internal/strconv.uint64pow10" .u64 Lib.pow10Tab->Calls Tryz.prog f #[.slice (some ⟨b, off, none⟩) n c] w λe w' =>e=.returned (.string ⟨(jQ zs).toArray⟩)/\Below w.heap.size w w'/\w.drawn<=w'.drawn)
  (h2:∀(a:Option Addr)(c:Nat)(w:World),Calls Tryz.prog f #[.slice a 0 c] w λe w'=>e=.returned (.string ⟨#[]⟩)/\Below w.heap.size w w'/\w.drawn<=w'.drawn) :
  qL Tryz.prog f (.pure (.pr (.val (.sl false (.int .i64))) .un) [.str] λd=>DR d.1):=by
 intro w g d vals r zS D5 hargs hF;obtain⟨l,⟨⟩⟩:=d
 match vals,hargs with
 |[v],hargs=>
  obtain⟨_,hv,_⟩:=hargs;simp only[DR]at hF;obtain⟨hc,hF⟩:=qB hF;simp only[zI]at hF;subst hF;have hl:l.length<=room:=DA hc;left;refine⟨hen _ _,?_⟩;rcases Xp hv with⟨rfl,a,c,rfl⟩|⟨b,off,c,rfl,hb,zZ,hr⟩
  ·refine(h2 a c w).mono ?_;rintro e w' ⟨rfl,hbw,hdw⟩;have hx:=P0 zS hbw hdw;exact⟨_,rfl,g,hx,Di (λb hb=>Z2r (zS b hb).2 hx.size) (by simp[xr,maxLen])⟩
  ·refine(h1 b off l.length c l w rfl hl hb zZ hr (zel D5)).mono ?_;rintro e w' ⟨rfl,hbw,hdw⟩;have hx:=P0 zS hbw hdw;refine⟨_,rfl,g,hx,?_⟩;rw[GK hr];exact Di (λb hb=>Z2r (zS b hb).2 hx.size) (Rl hl hr)
theorem LG:qL Tryz.prog 60 (.pure (.pr (.val (.sl false (.int .i64))) .un) [.str] λd=>DR d.1):=
 z0m (enters_of Tryz.func60 (by kernel_rfl) rfl) Tryz.spelled60 Tryz.spelled60z
end Go.Kz
