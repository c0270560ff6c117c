/-
  The functions that spell numbers, as functions on data.
-/
import Derived.Test.YtmoggdcmpoobpaaGreatDoorKzSQ
import Derived.Test.YtmoggdcmpoobpaaGreatDoorKzAR
set_option linter.unusedSimpArgs false
namespace Go.Kz
open Go.Proofs Go.RowKit
set_option linter.unusedVariables false
theorem zd0: Tryz.prog.globalNamed "internal/strconv.uint64pow10" = some 1 := by kernel_rfl
theorem zpy{w:World}{g:z8}(h:Known w g): Lib.TabIs Tryz.prog w "internal/strconv.uint64pow10" .u64 Lib.pow10Tab := by
 obtain⟨_,h2,c,ty,fz,h3,h4⟩:=h 1 ⟨20,.int .u64,tab1⟩ rfl;obtain⟨b',off,c',e',fz',hp,ht,hb,_,_,hlen,vw⟩:=h2;simp only[CA,Value.pointer.injEq,zI,Addr.mk.injEq,Dx]at hp;obtain⟨rfl,rfl⟩:=hp;rw[h3]at hb;simp only[zI,Obj.cells.injEq]at hb;obtain⟨rfl,_⟩:=hb;unfold Lib.TabIs World.var?;rw[zd0];simp only[zO,h3,zI];have h4':c.size=20:=h4;apply Z22.1;apply Z2v;intro i;by_cases hi:i<20
 ·have:=(vw i hi).1;have ZA:c.toList.length=20:=by rw[gT];exact h4'
  have e0:qi (qi c.toList 0 (Ty.arr 20 (.int .u64)).size) (i*(Ty.int .u64).size) (Ty.int .u64).size=[c.toList[i]'(by omega)]:=by
   have e1:(Ty.arr 20 (.int .u64)).size=20:=rfl;have e2:(Ty.int .u64).size=1:=rfl;have e3:qi c.toList 0 20=c.toList:=by simp only[qi,Z3g];exact Z21 (by omega)
   rw[e1,e2,e3];simp only[qi,Z2h];rw[Z2a (by omega)];rfl
  have zhb:[c.toList[i]'(by omega)]=[Value.int .u64 (List.get tab1 ⟨i,hi⟩)]:=e0.symm.trans this;simp only[CA,Dx]at zhb;rw[wV (by rw[gT];omega),zhb];have e:Lib.pow10Tab=tab1:=by decide
  rw[e];have hl:i<tab1.length:=hi;simp[wV hl]
 ·rw[Z2s (by rw[gT];omega),Z2s];have:Lib.pow10Tab.length=20:=by decide
  simp;omega
def Pk:Nat->Nat->List UInt8
 |0,_=>[]
 |k+1,u=>cond (Nat.blt u 10) [UInt8.ofNat (48+u)] (Pk k (u/10)++[UInt8.ofNat (48+u%10)])
theorem HH:∀(k u:Nat),u<10 ^ (k+1)->Pk (k+1) u=Lib.decDigits u
 |0,u,h=>by
  have h':u<10:=by simpa using h
  have hb:Nat.blt u 10=true:=by simpa[Z2w]using h'
  rw[Lib.decDigits,dif_pos h']
  simp only[Pk,hb,zJ]
 |k+1,u,h=>by
  rw[Lib.decDigits];by_cases h':u<10
  ·have hb:Nat.blt u 10=true:=by simpa[Z2w]using h'
   rw[dif_pos h'];simp only[Pk,hb,zJ]
  ·have hb:Nat.blt u 10=false:=by
    cases hq:Nat.blt u 10 with
    |false=>rfl
    |true=>exact absurd (by simpa[Z2w]using hq) h'
   have:=HH k (u/10) (by rw[Nat.pow_succ]at h;omega);rw[dif_neg h',Pk,hb,zU,this]
def WN(n:Int):List UInt8:=match n with
 |.ofNat m=>Pk 20 m
 |.negSucc m=>45::Pk 20 (m+1)
theorem z6x{n:Int}(h0 : -9223372036854775808<=n)(h1:n<=9223372036854775807):WN n=Lib.itoa n:=by
 cases n with
 |ofNat m=>
  have hm:m<10 ^ 20:=by have:(Int.ofNat m:Int)=(m:Int):=rfl;omega
  have:¬(Int.ofNat m)<0:=by have:(Int.ofNat m:Int)=(m:Int):=rfl;omega
  simp only[WN,Lib.itoa,qP this,HH 19 m hm];rfl
 |negSucc m=>
  have hm:m+1<10 ^ 20:=by have:Int.negSucc m = -((m:Int)+1):=rfl;omega
  have:(Int.negSucc m)<0:=Int.negSucc_lt_zero m;simp only[WN,Lib.itoa,qn this,HH 19 _ hm];rfl
def wv(l:List Int):List UInt8:=l.flatMap λn=>WN n++[32]
theorem DC:∀{l:List Int},(∀x∈l,-9223372036854775808<=x/\x<=9223372036854775807)->wv l=gb l
 |[],_=>rfl
 |x::l,h=>by
  have:=DC (l:=l) λy hy=>h y (by simp[hy])
  have hx:=h x (by simp);simp only[wv,gb,Z4f]at this⊢;rw[this,z6x hx.1 hx.2]
def K2(l:List Int):Option (List UInt8):=qV (decide (l.length<=room)) (some (wv l))
theorem NG{w:World}{g:z8}{l:List Int}{v:Value}(h:∃cs,zM w g none (.sl false (.int .i64)) l cs/\v=jl (Ty.sl false (.int .i64)).sk.isAgg cs):
  (l=[]/\∃a c,v=.slice a 0 c)\/∃b off c,v=.slice (some ⟨b,off,none⟩) l.length c/\b<w.heap.size/\(∀j,j<l.length->w.cell? ⟨b,off+j,none⟩=some (.int .i64 (l.getD j 0)))/\∀x∈l,-9223372036854775808<=x/\x<=9223372036854775807:=by
 obtain⟨cs,⟨a,cap,rfl,h1,h2,h3⟩,rfl⟩:=h;by_cases hl:l=[]
 ·subst hl;exact .inl ⟨rfl,a,cap,rfl⟩
 ·right;obtain⟨b,off,c,e,fz,rfl,ht,hb,hs,vw⟩:=h3 hl;refine⟨b,off,cap,rfl,(Z2p.1 hb).1,λj hj=>?_,λx hx=>?_⟩
  ·have gg:off+j<c.size:=by simp[Ty.size]at hs;omega
   have:=(vw j hj).1;simp only[qi,Ty.size,Z2h]at this;rw[Z2a (by rw[gT];exact gg)]at this;simp only[Z2u,Z29,CA,Dx]at this;simp only[World.cell?,hb];rw[Z5k gg,<-Z5j,this];simp[List.getD,wV hj]
  ·obtain⟨i,hi,rfl⟩:=Wl.1 hx;exact(vw i hi).2
theorem EU{w w':World}{g:z8}(ze:∀b,g.tag b≠.qw->g.tag b=.ro/\b<w.heap.size)(hb:Below w.heap.size w w')(hd:w.drawn<=w'.drawn):Ext w g w' g:=
 ⟨hb.os,hb.tape,hb.output,hd,hb.size,λb yP _=>⟨hb.block b yP,rfl⟩⟩
theorem RU{w':World}{g:z8}{l:List UInt8}(ht:∀b,g.tag b≠.qw->b<w'.heap.size)(hl:l.length<=maxLen):PA w' g (zK [.str] l 0) (.string ⟨l.toArray⟩):=by
 refine⟨⟨λid o h=>by simp[zK,zj,zT]at h,ht⟩,?_⟩;exact KN (by simp) (by simpa[ByteArray.size]using hl)
theorem z00{l:List Int}(hl:l.length<=room)(hr:∀x∈l,-9223372036854775808<=x/\x<=9223372036854775807):(gb l).length<=maxLen:=by
 have:=len_sum (f:=λn=>Lib.itoa n++[32]) (m:=22) l λx hx=>by
  have h:=hr x hx;have:=Lib.itoa_length_le x h.1 h.2;simp;omega
 simp only[room]at hl;simp only[gb,maxLen];omega
theorem z4i{f:Nat}(hen:∀args w,(callFunc f args).run Tryz.prog w=.ok (.enter f args) w)
  (h1:∀(b off n c:Nat)(zs:List Int)(w:World),zs.length=n->n<=4294967296->b<w.heap.size->(∀j,j<n->w.cell? ⟨b,off+j,none⟩=some (.int .i64 (zs.getD j 0)))->(∀x∈zs,-9223372036854775808<=x/\x<=9223372036854775807)->
   Lib.TabIs Tryz.prog w "internal/strconv.uint64pow10" .u64 Lib.pow10Tab->Calls Tryz.prog f #[.slice (some ⟨b, off, none⟩) n c] w λe w' =>e=.returned (.string ⟨(gb zs).toArray⟩)/\Below w.heap.size w w'/\w.drawn<=w'.drawn)
  (h2:∀(a:Option Addr)(c:Nat)(w:World),Calls Tryz.prog f #[.slice a 0 c] w λe w'=>e=.returned (.string ⟨#[]⟩)/\Below w.heap.size w w'/\w.drawn<=w'.drawn) :
  qe Tryz.prog f (.pure (.pr (.val (.sl false (.int .i64))) .un) [.str] λd=>K2 d.1):=by
 intro w g d vals r ze N6 hargs hF;obtain⟨l,⟨⟩⟩:=d
 match vals,hargs with
 |[v],hargs=>
  obtain⟨_,hv,_⟩:=hargs;simp only[K2]at hF;obtain⟨hc,hF⟩:=qT hF;simp only[zI]at hF;subst hF;have hl:l.length<=room:=X1 hc;left;refine⟨hen _ _,?_⟩;rcases NG hv with⟨rfl,a,c,rfl⟩|⟨b,off,c,rfl,hb,zZ,hr⟩
  ·refine(h2 a c w).mono ?_;rintro e w' ⟨rfl,hbw,hdw⟩;have hx:=EU ze hbw hdw;exact⟨_,rfl,g,hx,RU (λb hb=>Z3w (ze b hb).2 hx.size) (by simp[wv,maxLen])⟩
  ·refine(h1 b off l.length c l w rfl hl hb zZ hr (zpy N6)).mono ?_;rintro e w' ⟨rfl,hbw,hdw⟩;have hx:=EU ze hbw hdw;refine⟨_,rfl,g,hx,?_⟩;rw[DC hr];exact RU (λb hb=>Z3w (ze b hb).2 hx.size) (z00 hl hr)
theorem NK:qe Tryz.prog 60 (.pure (.pr (.val (.sl false (.int .i64))) .un) [.str] λd=>K2 d.1):=
 z4i (enters_of Tryz.func60 (by kernel_rfl) rfl) Tryz.spelled60 Tryz.spelled60z
end Go.Kz
