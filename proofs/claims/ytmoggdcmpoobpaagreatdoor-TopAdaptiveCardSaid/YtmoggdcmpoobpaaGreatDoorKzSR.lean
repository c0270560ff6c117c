/-
  The functions that spell numbers, as functions on data.
-/
import Derived.Test.YtmoggdcmpoobpaaGreatDoorKzSQ
import Derived.Test.YtmoggdcmpoobpaaGreatDoorKzAR
set_option linter.unusedSimpArgs false
namespace Go.Kz
open Go.Proofs Go.RowKit
set_option linter.unusedVariables false
theorem zb2 : Tryz.prog.globalNamed "internal/strconv.uint64pow10" = some 1 := by kernel_rfl
theorem zoi {w : World} {g : z8} (h : Known w g) : Lib.TabIs Tryz.prog w "internal/strconv.uint64pow10" .u64 Lib.pow10Tab := by
 obtain ⟨_,h2,c,ty,fz,h3,h4⟩:=h 1 ⟨20,.int .u64,tab1⟩ rfl;obtain ⟨b',off,c',e',fz',hp,ht,hb,_,_,hlen,js⟩:=h2;simp only [BL,Value.pointer.injEq,zI,Addr.mk.injEq,U6] at hp;obtain ⟨rfl,rfl⟩:=hp;rw [h3] at hb;simp only [zI,Obj.cells.injEq] at hb;obtain ⟨rfl,_⟩:=hb;unfold Lib.TabIs World.var?;rw [zb2];simp only [zP,h3,zI];have h4':c.size=20:=h4;apply Fm.1;apply Z3v;intro i;by_cases hi:i < 20
 ·have:=(js i hi).1;have gE:c.toList.length=20:=by rw [vf];exact h4'
  have e0:qS (qS c.toList 0 (Ty.arr 20 (.int .u64)).size) (i*(Ty.int .u64).size) (Ty.int .u64).size=[c.toList[i]'(by omega)]:=by
   have e1:(Ty.arr 20 (.int .u64)).size=20:=rfl;have e2:(Ty.int .u64).size=1:=rfl;have e3:qS c.toList 0 20=c.toList:=by simp only [qS,Z3c];exact Z2n (by omega)
   rw [e1,e2,e3];simp only [qS,Z2j];rw [Z2q (by omega)];rfl
  have zfx:[c.toList[i]'(by omega)]=[Value.int .u64 (List.get tab1 ⟨i,hi⟩)]:=e0.symm.trans this;simp only [BL,U6] at zfx;rw [wP (by rw [vf];omega),zfx];have e:Lib.pow10Tab=tab1:=by decide
  rw [e];have hl:i < tab1.length:=hi;simp [wP hl]
 ·rw [Z2g (by rw [vf];omega),Z2g];have:Lib.pow10Tab.length=20:=by decide
  simp;omega
def Ks:Nat->Nat->List UInt8
 | 0,_=>[]
 | k+1,u=>cond (Nat.blt u 10) [UInt8.ofNat (48+u)] (Ks k (u / 10)++[UInt8.ofNat (48+u % 10)])
theorem FM:∀ (k u:Nat),u < 10 ^ (k+1)->Ks (k+1) u=Lib.decDigits u
 | 0,u,h=>by
  have h':u < 10:=by simpa using h
  have hb:Nat.blt u 10=true:=by simpa [Z32] using h'
  rw [Lib.decDigits,dif_pos h']
  simp only [Ks,hb,zB]
 | k+1,u,h=>by
  rw [Lib.decDigits];by_cases h':u < 10
  ·have hb:Nat.blt u 10=true:=by simpa [Z32] using h'
   rw [dif_pos h'];simp only [Ks,hb,zB]
  ·have hb:Nat.blt u 10=false:=by
    cases hq:Nat.blt u 10 with
    | false=>rfl
    | true=>exact absurd (by simpa [Z32] using hq) h'
   have:=FM k (u / 10) (by rw [Z4p] at h;omega);rw [dif_neg h',Ks,hb,zU,this]
def VW (n:Int):List UInt8:=match n with
 | .ofNat m=>Ks 20 m
 | .negSucc m=>45 :: Ks 20 (m+1)
theorem z3z {n:Int} (h0 : -9223372036854775808<=n) (h1:n<=9223372036854775807):VW n=Lib.itoa n:=by
 cases n with
 | ofNat m=>
  have hm:m < 10 ^ 20:=by have:(Int.ofNat m:Int)=(m:Int):=rfl;omega
  have:¬ (Int.ofNat m) < 0:=by have:(Int.ofNat m:Int)=(m:Int):=rfl;omega
  simp only [VW,Lib.itoa,qZ this,FM 19 m hm];rfl
 | negSucc m=>
  have hm:m+1 < 10 ^ 20:=by have:Int.negSucc m = -((m:Int)+1):=rfl;omega
  have:(Int.negSucc m) < 0:=Int.negSucc_lt_zero m;simp only [VW,Lib.itoa,yQ this,FM 19 _ hm];rfl
def uy (l:List Int):List UInt8:=l.flatMap fun n=>VW n++[32]
theorem CS:∀ {l:List Int},(∀ x∈l,-9223372036854775808<=x/\x<=9223372036854775807)->uy l=gj l
 | [],_=>rfl
 | x :: l,h=>by
  have:=CS (l:=l) fun y hy=>h y (by simp [hy])
  have hx:=h x (by simp);simp only [uy,gj,Z5a] at this ⊢;rw [this,z3z hx.1 hx.2]
def GK (l:List Int):Option (List UInt8):=qW (decide (l.length<=room)) (some (uy l))
theorem MA {w:World} {g:z8} {l:List Int} {v:Value} (h:∃ cs,zH w g none (.sl false (.int .i64)) l cs/\v=vN (Ty.sl false (.int .i64)).sk.isAgg cs) :
  (l=[]/\∃ a c,v = .slice a 0 c)\/∃ b off c,v = .slice (some ⟨b,off,none⟩) l.length c/\b < w.heap.size/\(∀ j,j < l.length->w.cell? ⟨b,off+j,none⟩=some (.int .i64 (l.getD j 0)))/\∀ x∈l,-9223372036854775808<=x/\x<=9223372036854775807:=by
 obtain ⟨cs,⟨a,cap,rfl,h1,h2,h3⟩,rfl⟩:=h;by_cases hl:l=[]
 ·subst hl;exact .inl ⟨rfl,a,cap,rfl⟩
 ·right;obtain ⟨b,off,c,e,fz,rfl,ht,hb,hs,js⟩:=h3 hl;refine ⟨b,off,cap,rfl,(Z24.1 hb).1,fun j hj=>?_,fun x hx=>?_⟩
  ·have ZD:off+j < c.size:=by simp [Ty.size] at hs;omega
   have:=(js j hj).1;simp only [qS,Ty.size,Z2j] at this;rw [Z2q (by rw [vf];exact ZD)] at this;simp only [Z2s,Ti,BL,U6] at this;simp only [World.cell?,hb];rw [Z3d ZD,<-Z4z,this];simp [List.getD,wP hj]
  ·obtain ⟨i,hi,rfl⟩:=Jo.1 hx;exact (js i hi).2
theorem DA {w w':World} {g:z8} (zM:∀ b,g.tag b≠.zt->g.tag b = .ro/\b < w.heap.size) (hb:Below w.heap.size w w') (hd:w.drawn<=w'.drawn):Ext w g w' g:=
 ⟨hb.os,hb.tape,hb.output,hd,hb.size,fun b qx _=>⟨hb.block b qx,rfl⟩⟩
theorem Ow {w':World} {g:z8} {l:List UInt8} (ht:∀ b,g.tag b≠.zt->b < w'.heap.size) (hl:l.length<=maxLen):Gp w' g (zZ [.str] l 0) (.string ⟨l.toArray⟩):=by
 refine ⟨⟨fun id o h=>by simp [zZ,zj,zF] at h,ht⟩,?_⟩;exact WJ (by simp) (by simpa [ByteArray.size] using hl)
theorem Sh {l:List Int} (hl:l.length<=room) (hr:∀ x∈l,-9223372036854775808<=x/\x<=9223372036854775807):(gj l).length<=maxLen:=by
 have:=len_sum (f:=fun n=>Lib.itoa n++[32]) (m:=22) l fun x hx=>by
  have h:=hr x hx;have:=Lib.itoa_length_le x h.1 h.2;simp;omega
 simp only [room] at hl;simp only [gj,maxLen];omega
theorem z1f {f:Nat} (hen:∀ args w,(callFunc f args).run Tryz.prog w = .ok (.enter f args) w)
  (h1:∀ (b off n c:Nat) (zs:List Int) (w:World),zs.length=n->n<=4294967296->b < w.heap.size->(∀ j,j < n->w.cell? ⟨b,off+j,none⟩=some (.int .i64 (zs.getD j 0)))->(∀ x∈zs,-9223372036854775808<=x/\x<=9223372036854775807)->
   Lib.TabIs Tryz.prog w "internal/strconv.uint64pow10" .u64 Lib.pow10Tab -> Calls Tryz.prog f #[.slice (some ⟨b, off, none⟩) n c] w fun e w' => e = .returned (.string ⟨(gj zs).toArray⟩) /\ Below w.heap.size w w' /\ w.drawn <= w'.drawn)
  (h2:∀ (a:Option Addr) (c:Nat) (w:World),Calls Tryz.prog f #[.slice a 0 c] w fun e w'=>e = .returned (.string ⟨#[]⟩)/\Below w.heap.size w w'/\w.drawn<=w'.drawn) :
  qB Tryz.prog f (.pure (.pr (.val (.sl false (.int .i64))) .un) [.str] fun d=>GK d.1):=by
 intro w g d vals r zM Mv hargs hF;obtain ⟨l,⟨⟩⟩:=d
 match vals,hargs with
 | [v],hargs=>
  obtain ⟨_,hv,_⟩:=hargs;simp only [GK] at hF;obtain ⟨hc,hF⟩:=qm hF;simp only [zI] at hF;subst hF;have hl:l.length<=room:=BI hc;left;refine ⟨hen _ _,?_⟩;rcases MA hv with ⟨rfl,a,c,rfl⟩ | ⟨b,off,c,rfl,hb,zY,hr⟩
  ·refine (h2 a c w).mono ?_;rintro e w' ⟨rfl,hbw,hdw⟩;have hx:=DA zM hbw hdw;exact ⟨_,rfl,g,hx,Ow (fun b hb=>Z2o (zM b hb).2 hx.size) (by simp [uy,maxLen])⟩
  ·refine (h1 b off l.length c l w rfl hl hb zY hr (zoi Mv)).mono ?_;rintro e w' ⟨rfl,hbw,hdw⟩;have hx:=DA zM hbw hdw;refine ⟨_,rfl,g,hx,?_⟩;rw [CS hr];exact Ow (fun b hb=>Z2o (zM b hb).2 hx.size) (Sh hl hr)
theorem HB:qB Tryz.prog 276 (.pure (.pr (.val (.sl false (.int .i64))) .un) [.str] fun d=>GK d.1):=
 z1f (enters_of Tryz.func276 (by kernel_rfl) rfl) Tryz.spelled276 Tryz.spelled276z
end Go.Kz
