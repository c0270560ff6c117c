/-
  The functions that spell numbers, as functions on data.
-/
import Derived.Test.YtmoggdcmpoobpaaGreatDoorKzSQ
import Derived.Test.YtmoggdcmpoobpaaGreatDoorKzAR
set_option linter.unusedSimpArgs false
namespace Go.Kz
open Go.Proofs Go.RowKit
set_option linter.unusedVariables false
theorem z5c : Tryz.prog.globalNamed "internal/strconv.uint64pow10" = some 1 := by kernel_rfl
theorem Rl {w : World} {g : z8} (h : Known w g) : Lib.TabIs Tryz.prog w "internal/strconv.uint64pow10" .u64 Lib.pow10Tab := by
 obtain ⟨_,h2,c,ty,fz,h3,h4⟩:=h 1 ⟨20,.int .u64,tab1⟩ rfl;obtain ⟨b',off,c',e',fz',hp,ht,hb,_,_,hlen,jo⟩:=h2;simp only [Az,Value.pointer.injEq,zI,Addr.mk.injEq,Ds] at hp;obtain ⟨rfl,rfl⟩:=hp;rw [h3] at hb;simp only [zI,Obj.cells.injEq] at hb;obtain ⟨rfl,_⟩:=hb;unfold Lib.TabIs World.var?;rw [z5c];simp only [zB,h3,zI];have h4':c.size=20:=h4;apply Dr.1;apply Z2z;intro i;by_cases hi:i < 20
 ·have:=(jo i hi).1;have pO:c.toList.length=20:=by rw [vX];exact h4'
  have e0:qB (qB c.toList 0 (Ty.arr 20 (.int .u64)).size) (i*(Ty.int .u64).size) (Ty.int .u64).size=[c.toList[i]'(by omega)]:=by
   have e1:(Ty.arr 20 (.int .u64)).size=20:=rfl;have e2:(Ty.int .u64).size=1:=rfl;have e3:qB c.toList 0 20=c.toList:=by simp only [qB,Z3c];exact Z2d (by omega)
   rw [e1,e2,e3];simp only [qB,Z2a];rw [Z23 (by omega)];rfl
  have z9m:[c.toList[i]'(by omega)]=[Value.int .u64 (List.get tab1 ⟨i,hi⟩)]:=e0.symm.trans this;simp only [Az,Ds] at z9m;rw [gj (by rw [vX];omega),z9m];have e:Lib.pow10Tab=tab1:=by decide
  rw [e];have hl:i < tab1.length:=hi;simp [gj hl]
 ·rw [Z3i (by rw [vX];omega),Z3i];have:Lib.pow10Tab.length=20:=by decide
  simp;omega
def Wr:Nat->Nat->List UInt8
 | 0,_=>[]
 | k+1,u=>cond (Nat.blt u 10) [UInt8.ofNat (48+u)] (Wr k (u / 10)++[UInt8.ofNat (48+u % 10)])
theorem DT:∀ (k u:Nat),u < 10 ^ (k+1)->Wr (k+1) u=Lib.decDigits u
 | 0,u,h=>by
  have h':u < 10:=by simpa using h
  have hb:Nat.blt u 10=true:=by simpa [Z32] using h'
  rw [Lib.decDigits,dif_pos h']
  simp only [Wr,hb,zD]
 | k+1,u,h=>by
  rw [Lib.decDigits];by_cases h':u < 10
  ·have hb:Nat.blt u 10=true:=by simpa [Z32] using h'
   rw [dif_pos h'];simp only [Wr,hb,zD]
  ·have hb:Nat.blt u 10=false:=by
    cases hq:Nat.blt u 10 with
    | false=>rfl
    | true=>exact absurd (by simpa [Z32] using hq) h'
   have:=DT k (u / 10) (by rw [Nat.pow_succ] at h;omega);rw [dif_neg h',Wr,hb,zW,this]
def gQ (n:Int):List UInt8:=match n with
 | .ofNat m=>Wr 20 m
 | .negSucc m=>45 :: Wr 20 (m+1)
theorem X0 {n:Int} (h0 : -9223372036854775808<=n) (h1:n<=9223372036854775807):gQ n=Lib.itoa n:=by
 cases n with
 | ofNat m=>
  have hm:m < 10 ^ 20:=by have:(Int.ofNat m:Int)=(m:Int):=rfl;omega
  have:¬ (Int.ofNat m) < 0:=by have:(Int.ofNat m:Int)=(m:Int):=rfl;omega
  simp only [gQ,Lib.itoa,qQ this,DT 19 m hm];rfl
 | negSucc m=>
  have hm:m+1 < 10 ^ 20:=by have:Int.negSucc m = -((m:Int)+1):=rfl;omega
  have:(Int.negSucc m) < 0:=Int.negSucc_lt_zero m;simp only [gQ,Lib.itoa,yW this,DT 19 _ hm];rfl
def gL (l:List Int):List UInt8:=l.flatMap fun n=>gQ n++[32]
theorem Am:∀ {l:List Int},(∀ x∈l,-9223372036854775808<=x/\x<=9223372036854775807)->gL l=kD l
 | [],_=>rfl
 | x :: l,h=>by
  have:=Am (l:=l) fun y hy=>h y (by simp [hy])
  have hx:=h x (by simp);simp only [gL,kD,Z5i] at this ⊢;rw [this,X0 hx.1 hx.2]
def U4 (l:List Int):Option (List UInt8):=qR (decide (l.length<=room)) (some (gL l))
theorem U1 {w:World} {g:z8} {l:List Int} {v:Value} (h:∃ cs,zC w g none (.sl false (.int .i64)) l cs/\v=jA (Ty.sl false (.int .i64)).sk.isAgg cs) :
  (l=[]/\∃ a c,v = .slice a 0 c)\/∃ b off c,v = .slice (some ⟨b,off,none⟩) l.length c/\b < w.heap.size/\(∀ j,j < l.length->w.cell? ⟨b,off+j,none⟩=some (.int .i64 (l.getD j 0)))/\∀ x∈l,-9223372036854775808<=x/\x<=9223372036854775807:=by
 obtain ⟨cs,⟨a,cap,rfl,h1,h2,h3⟩,rfl⟩:=h;by_cases hl:l=[]
 ·subst hl;exact .inl ⟨rfl,a,cap,rfl⟩
 ·right;obtain ⟨b,off,c,e,fz,rfl,ht,hb,hs,jo⟩:=h3 hl;refine ⟨b,off,cap,rfl,(Z28.1 hb).1,fun j hj=>?_,fun x hx=>?_⟩
  ·have v7:off+j < c.size:=by simp [Ty.size] at hs;omega
   have:=(jo j hj).1;simp only [qB,Ty.size,Z2a] at this;rw [Z23 (by rw [vX];exact v7)] at this;simp only [Z2p,Z20,Az,Ds] at this;simp only [World.cell?,hb];rw [Z3d v7,<-Z54,this];simp [List.getD,gj hj]
  ·obtain ⟨i,hi,rfl⟩:=VI.1 hx;exact (jo i hi).2
theorem J9 {w w':World} {g:z8} (zH:∀ b,g.tag b≠.zn->g.tag b = .ro/\b < w.heap.size) (hb:Below w.heap.size w w') (hd:w.drawn<=w'.drawn):Ext w g w' g:=
 ⟨hb.os,hb.tape,hb.output,hd,hb.size,fun b qJ _=>⟨hb.block b qJ,rfl⟩⟩
theorem P6 {w':World} {g:z8} {l:List UInt8} (ht:∀ b,g.tag b≠.zn->b < w'.heap.size) (hl:l.length<=maxLen):Kg w' g (zx [.str] l 0) (.string ⟨l.toArray⟩):=by
 refine ⟨⟨fun id o h=>by simp [zx,zy,zF] at h,ht⟩,?_⟩;exact VM (by simp) (by simpa [ByteArray.size] using hl)
theorem Nt {l:List Int} (hl:l.length<=room) (hr:∀ x∈l,-9223372036854775808<=x/\x<=9223372036854775807):(kD l).length<=maxLen:=by
 have:=len_sum (f:=fun n=>Lib.itoa n++[32]) (m:=22) l fun x hx=>by
  have h:=hr x hx;have:=Lib.itoa_length_le x h.1 h.2;simp;omega
 simp only [room] at hl;simp only [kD,maxLen];omega
theorem S1 {f:Nat} (hen:∀ args w,(callFunc f args).run Tryz.prog w = .ok (.enter f args) w)
  (h1:∀ (b off n c:Nat) (zs:List Int) (w:World),zs.length=n->n<=4294967296->b < w.heap.size->(∀ j,j < n->w.cell? ⟨b,off+j,none⟩=some (.int .i64 (zs.getD j 0)))->(∀ x∈zs,-9223372036854775808<=x/\x<=9223372036854775807)->
   Lib.TabIs Tryz.prog w "internal/strconv.uint64pow10" .u64 Lib.pow10Tab -> Calls Tryz.prog f #[.slice (some ⟨b, off, none⟩) n c] w fun e w' => e = .returned (.string ⟨(kD zs).toArray⟩) /\ Below w.heap.size w w' /\ w.drawn <= w'.drawn)
  (h2:∀ (a:Option Addr) (c:Nat) (w:World),Calls Tryz.prog f #[.slice a 0 c] w fun e w'=>e = .returned (.string ⟨#[]⟩)/\Below w.heap.size w w'/\w.drawn<=w'.drawn) :
  qD Tryz.prog f (.pure (.pr (.val (.sl false (.int .i64))) .un) [.str] fun d=>U4 d.1):=by
 intro w g d vals r zH AU hargs hF;obtain ⟨l,⟨⟩⟩:=d
 match vals,hargs with
 | [v],hargs=>
  obtain ⟨_,hv,_⟩:=hargs;simp only [U4] at hF;obtain ⟨hc,hF⟩:=qC hF;simp only [zI] at hF;subst hF;have hl:l.length<=room:=AM hc;left;refine ⟨hen _ _,?_⟩;rcases U1 hv with ⟨rfl,a,c,rfl⟩ | ⟨b,off,c,rfl,hb,zQ,hr⟩
  ·refine (h2 a c w).mono ?_;rintro e w' ⟨rfl,OR,hdw⟩;have hx:=J9 zH OR hdw;exact ⟨_,rfl,g,hx,P6 (fun b hb=>Z21 (zH b hb).2 hx.size) (by simp [gL,maxLen])⟩
  ·refine (h1 b off l.length c l w rfl hl hb zQ hr (Rl AU)).mono ?_;rintro e w' ⟨rfl,OR,hdw⟩;have hx:=J9 zH OR hdw;refine ⟨_,rfl,g,hx,?_⟩;rw [Am hr];exact P6 (fun b hb=>Z21 (zH b hb).2 hx.size) (Nt hl hr)
theorem Hs:qD Tryz.prog 60 (.pure (.pr (.val (.sl false (.int .i64))) .un) [.str] fun d=>U4 d.1):=
 S1 (enters_of Tryz.func60 (by kernel_rfl) rfl) Tryz.spelled60 Tryz.spelled60z
end Go.Kz
