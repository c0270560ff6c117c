/-
  Partitions of channels, their meets and classes.
-/
import Derived.Test.YtmoggdcmpoobpaaGreatDoorKzV4
set_option linter.unusedVariables false
set_option linter.unusedSimpArgs false
set_option linter.unusedSectionVars false
namespace Go.Kz
def wZ (m y:Nat):List Int:=(List.range m).map fun i=>if i=y then 1 else 0
theorem QP (m y:Nat):(wZ m y).length=m:=by simp [wZ]
theorem Uj {m y j:Nat} (h:j < (wZ m y).length):(wZ m y)[j]=if j=y then 1 else 0:=by simp [wZ]
theorem N3 (N:Nat) (hN:200<=N) (m y:Nat) (hm:m<=16) (hy:y < m):f140 N (wZ m y)=some 1:=by
 have hl:=QP m y;refine zp.eq ?_;unfold f140;refine zp.up (fun k s=>s=if y < k then (1:Int) else 0) m ?_ ?_ N 0 (jE _) (by omega) _ (by rw [qQ (by omega)])
 ·rintro j s w hj rfl hw;have v7:j < (wZ m y).length:=by omega
  simp only [PO];rw [show decide ((j:Int) < len (wZ m y))=true from zP v7,zD,zJ v7,Uj];simp only [zB];by_cases e:j=y
  ·subst e;rw [yW rfl,qQ (by omega),show decide ((1:Int) < 0)=false from rfl,zW,zB,show zz ((1048576:Int)-0)=1048576 from by rw [zw (by omega) (by omega)];rfl,show decide ((1048576:Int) < 1)=false from rfl,zW,zk (by omega)];refine hw _ ?_;rw [yW (by omega),zw (by omega) (by omega)];rfl
  ·rw [qQ e,show decide ((0:Int) < 0)=false from rfl,zW,zB];have b:∀ t:Int,t=0\/t=1->decide (zz (1048576-t) < 0)=false:=fun t ht=>by
    rw [zw (by omega) (by omega)];exact qW (by omega)
   rw [b _ (by split <;> simp),zW,zk (by omega)];refine hw _ ?_;by_cases q:y < j
   ·rw [yW q,yW (by omega),zw (by omega) (by omega)];rfl
   ·rw [qQ q,qQ (by omega),zw (by omega) (by omega)];rfl
 ·rintro s w rfl;simp only [PO];rw [show decide ((m:Int) < len (wZ m y))=false by simp [len,hl],zW,yW hy];exact zp.ret rfl
theorem z0h (N:Nat) (hN:200<=N) (m y:Nat) (hm:m<=16) (hy:y < m):f79 N (wZ m y)=some (y:Int):=by
 have hl:=QP m y;refine zp.eq ?_;unfold f79;refine zp.up (fun k s=>s=if y < k then (y:Int) else -1) m ?_ ?_ N 0 (jE _) (by omega) _ (by rw [qQ (by omega)])
 ·rintro j s w hj rfl hw;have v7:j < (wZ m y).length:=by omega
  simp only [Dw];rw [show decide ((j:Int) < len (wZ m y))=true from zP v7,zD,zJ v7,Uj];simp only [zB];by_cases e:j=y
  ·subst e;rw [yW rfl,qQ (by omega),show decide ((0:Int) < 1)=true from rfl,zD,show decide ((0:Int)<=-1)=false from rfl,zW,zk (by omega)];refine hw _ ?_;rw [yW (by omega)]
  ·rw [qQ e,show decide ((0:Int) < 0)=false from rfl,zW,zk (by omega)];refine hw _ ?_;by_cases q:y < j
   ·rw [yW q,yW (by omega)]
   ·rw [qQ q,qQ (by omega)]
 ·rintro s w rfl;simp only [Dw];rw [show decide ((m:Int) < len (wZ m y))=false by simp [len,hl],zW,yW hy];exact zp.ret rfl
theorem Oe (N:Nat) (l:List (List Int)) (hl:l.length<=16) (hN:200<=N) (t:Int×(Int×Unit)) (h:∀ x∈l,f142 N x t.1 t.2.1=some false):f217 N l t=some (-1):=by
 refine zp.eq ?_;unfold f217;refine zp.Kp (fun _=>True) l.length ?_ ?_ N 0 (jE _) (by omega) trivial
 ·intro j w hj _ hw;simp only [PA];rw [show decide ((j:Int) < len l)=true from zP hj,zD,zJ hj];simp only [zB];rw [h _ (kK hj),zB,zW,zk (by omega)];exact hw trivial
 ·intro w _;simp only [PA];rw [show decide (((l.length:Nat):Int) < len l)=false from zM _,zW];exact zp.ret rfl
theorem Fo (N:Nat) (l:List (List Int)) (hl:l.length<=16) (hN:200<=N) (h:∀ x∈l,f171 N x=some false):G6 N l ()=some (-1):=by
 refine zp.eq ?_;unfold G6;refine zp.Kp (fun _=>True) l.length ?_ ?_ N 0 (jE _) (by omega) trivial
 ·intro j w hj _ hw;simp only [J6];rw [show decide ((j:Int) < len l)=true from zP hj,zD,zJ hj];simp only [zB];rw [h _ (kK hj),zB,zW,zk (by omega)];exact hw trivial
 ·intro w _;simp only [J6];rw [show decide (((l.length:Nat):Int) < len l)=false from zM _,zW];exact zp.ret rfl
theorem z0v (N:Nat) (hN:200<=N) (m:Nat) (hm:m<=16) (L:List Nat) (hl:L.length<=16) (h0:0 < L.length) (hL:∀ y∈L,y < m):f22 N (L.map (wZ m),())=some (AQ (L.map fun (y:Nat)=>(y:Int)),0):=by
 have r1:=vP;have rl:(L.map (wZ m)).length=L.length:=Jk ..;have rw_:∀ x∈L.map (wZ m),∃ y,y < m/\x=wZ m y:=fun x hx=>by
  obtain ⟨y,hy,rfl⟩:=Jo.1 hx;exact ⟨y,hL y hy,rfl⟩
 have h57:f57 N (L.map (wZ m),())=some true:=by
  have hi:0 < (L.map (wZ m)).length:=by omega
  obtain ⟨y,hy,e⟩:=rw_ _ (kK hi);unfold f57 zfo;rw [qW (show ¬ len (L.map (wZ m)) < 1 by simp only [len];omega),zW,zB,qW (show ¬ (256:Int) < len (L.map (wZ m)) by simp only [len];omega),zW];rw [show idx (L.map (wZ m)) 0=some (L.map (wZ m))[0] from zJ hi,e];simp only [zB,idT];rw [N3 N hN m y hm hy];simp only [zB];rw [qW (show ¬ len (wZ m y) < 1 by simp only [len,QP];omega),zW,zB,qW (show ¬ (256:Int) < len (wZ m y) by simp only [len,QP];omega),zW,zB,show decide ((1:Int) < 1)=false from rfl,zW];unfold f141;rw [Oe N _ (by omega) hN _ fun x hx=>by
   obtain ⟨z,hz,rfl⟩:=rw_ x hx;unfold f142;rw [show len (wZ m z)=len (wZ m y) by simp [len,QP],jg rfl,pE,zW,N3 N hN m z hm hz];rfl]
  rfl
 have h78:f78 N (L.map (wZ m),())=some true:=by
  unfold f78;rw [h57,zB,zD];unfold Io;have e:G6 N (L.map (wZ m)) ()=some (-1):=Fo N _ (by omega) hN fun x hx=>by
   obtain ⟨z,hz,rfl⟩:=rw_ x hx;unfold f171;rw [z0h N hN m z hm hz,zB,qW (by omega)]
  rw [show G6 N (L.map (wZ m),()).1 ()=some (-1) from e];rfl
 refine zp.eq ?_;unfold f22;rw [h57,zB,pE,zW,h78,zB,pE,zW];refine zp.up (fun k s=>s=(L.take k).map fun (y:Nat)=>(y:Int)) L.length ?_ ?_ N 0 (jE _) (by omega) _ rfl
 ·rintro j s w hj rfl hw;have v7:j < (L.map (wZ m)).length:=by omega
  simp only [DA];rw [show decide ((j:Int) < len (L.map (wZ m)))=true from zP v7,zD,zJ v7,Np];simp only [zB];rw [z0h N hN m _ hm (hL _ (kK hj)),zB];refine zp.qR (by simp only [jL,Jk,P0];omega) ?_;rw [zk (by omega)];refine hw _ ?_;rw [zo hj,RK];rfl
 ·rintro s w rfl;simp only [DA];rw [show decide (((L.length:Nat):Int) < len (L.map (wZ m)))=false by simp [len],zW,KJ,z0g N _ (by rw [Jk];omega) (by rw [Jk];omega)];exact zp.ret rfl
def JY (f:zf) (p:List Int) (S:Nat):List Int:=AQ (Q3 f p S)
theorem CB (f:zf) (p:List Int) (S:Nat):(JY f p S).length=S:=by rw [JY,x9,uC]
theorem SV (f:zf) (p:List Int) {S i j:Nat} (hi:i < S) (hj:j < S):(JY f p S).getD i 0=(JY f p S).getD j 0↔jr f p (i:Int)=jr f p (j:Int):=by
 have:=F0 (l:=Q3 f p S) (i:=i) (j:=j) (by rw [uC];exact hi) (by rw [uC];exact hj);rw [QH f p hi,QH f p hj] at this;exact this
theorem zfw (N:Nat) (hN:200<=N) (f:zf) (p:List Int) (S:Nat) (h0:0 < S) (MQ:S<=16) (ord:List Int) (ho:ord.Perm (vK (wQ f p S).length)) :
  f22 N ((List.range S).map (fun s=>ord.map fun k=>if k=xh f p S s then 1 else 0),())=some (JY f p S,0):=by
 have FV:=UD f p S;have hol:ord.length=(wQ f p S).length:=by rw [ho.length_eq];simp [vK]
 have hnd:ord.Nodup:=ho.nodup_iff.2 (Hi _);have Qv:∀ s,s < S->xh f p S s∈ord:=fun s hs=>by
  rw [ho.mem_iff,KW];have:=uX (YC f p hs);unfold xh;omega
 let g:Nat->Nat:=fun s=>posOf (xh f p S s) ord
 have hg:∀ s,s < S->g s < ord.length:=fun s hs=>uX (Qv s hs)
 have row:∀ s,s < S->(ord.map fun k=>if k=xh f p S s then (1:Int) else 0)=wZ ord.length (g s):=fun s hs=>by
  apply Z2y
  ·simp [wZ]
  ·intro i h1 h2;have hi:i < ord.length:=by simpa using h1
   have hq:=gN (Qv s hs);rw [gj (hg s hs),zI] at hq;rw [Uj,Np];have:ord[i]=xh f p S s↔i=g s:=by
    constructor
    ·intro e;exact BY hnd hi (hg s hs) (by rw [e];exact hq.symm)
    ·rintro rfl;exact hq
   simp only [this]
 have e:((List.range S).map fun s=>ord.map fun k=>if k=xh f p S s then (1:Int) else 0)=((List.range S).map g).map (wZ ord.length):=by
  rw [Z39];exact Z51 fun s hs=>row s (Nw.1 hs)
 rw [e,z0v N hN ord.length (by omega) ((List.range S).map g) (by simpa using MQ) (by simpa using h0) fun y hy=>by
  obtain ⟨s,hs,rfl⟩:=Jo.1 hy;exact hg s (Nw.1 hs)]
 congr 2;rw [Z39];refine OY (by simp [uC]) fun i j hi hj=>?_
 have vf:i < S:=by simpa using hi
 have v7:j < S:=by simpa using hj
 rw [QH f p vf,QH f p v7];simp only [Np,List.getElem_range,Function.comp,g];constructor
 ·intro e;have:=YU (Qv i vf) (Qv j v7) (by omega);unfold xh at this;exact YU (YC f p vf) (YC f p v7) (by omega)
 ·intro e;simp only [xh,e]
def Ua (a p:List Int):List Int:=AQ ((List.range a.length).map fun i=>a.getD i 0*((a.length:Int)+1)+p.getD i 0)
theorem M1 (a p:List Int):(Ua a p).length=a.length:=by rw [Ua,x9];simp
theorem xR {a:List Int} (h:xJ a=true) {i:Nat} (hi:i < a.length):0<=a.getD i 0/\a.getD i 0 < a.length:=by
 obtain ⟨b1,b2,b3⟩:=Nl h;have e:a.getD i 0=a[i]:=by rw [E0,gj hi];rfl
 have:=b3 _ (kK hi);rw [e];omega
theorem T3 {a p:List Int} (ha:xJ a=true) (hp:xJ p=true) (hl:p.length=a.length) {i j:Nat} (hi:i < a.length) (hj:j < a.length):(Ua a p).getD i 0=(Ua a p).getD j 0↔a.getD i 0=a.getD j 0/\p.getD i 0=p.getD j 0:=by
 unfold Ua;rw [F0 (by simpa using hi) (by simpa using hj)];simp only [Np,List.getElem_range];have a1:=xR ha hi;have a2:=xR ha hj;have p1:=xR hp (i:=i) (by omega);have p2:=xR hp (i:=j) (by omega);generalize a.getD i 0=x at *;generalize a.getD j 0=y at *;generalize p.getD i 0=u at *;generalize p.getD j 0=v at *;rw [hl] at p1 p2;generalize (a.length:Int)=n at *;constructor
 ·intro e;have:x=y:=by
   rcases Int.lt_trichotomy x y with h | h | h
   ·have:(x+1)*(n+1)<=y*(n+1):=Z29 (by omega) (by omega);rw [Z4u] at this;omega
   ·exact h
   ·have:(y+1)*(n+1)<=x*(n+1):=Z29 (by omega) (by omega);rw [Z4u] at this;omega
  subst this;exact ⟨rfl,by omega⟩
 ·rintro ⟨rfl,rfl⟩;rfl
theorem zfr (N:Nat) (hN:200<=N) (a p:List Int) (ha:xJ a=true) (hp:xJ p=true) (hl:p.length=a.length) (MQ:a.length<=16):f26 N a p=some (Ua a p,0):=by
 have r1:=vP;have rb:=xI;have e93:f93 N a p=some 0:=by
  unfold f93;rw [D7 N a (by omega) (by omega),D7 N p (by omega) (by omega),ha,hp];simp only [zB,pE,zW];rw [show len a=len p by simp [len,hl],jg rfl];rfl
 refine zp.eq ?_;unfold f26;rw [e93,zB,jg rfl,pE,zW];refine zp.qR (by simp only [zA,jL,len];omega) ?_;rw [show Int.toNat (len a)=a.length from rfl];refine zp.up (fun k s=>s.length=a.length/\∀ i (h:i < s.length),i < k->s[i]=a.getD i 0*((a.length:Int)+1)+p.getD i 0) a.length ?_ ?_ N 0 (jE _) (by omega) _ ⟨by simp,fun i h hi=>by omega⟩
 ·rintro j s w hj ⟨e1,e2⟩ hw;have v7:j < s.length:=by omega
  have a1:=xR ha hj;have p1:=xR hp (i:=j) (by omega);have ea:a[j]=a.getD j 0:=by rw [E0,gj hj];rfl
  have ep:p[j]'(by omega)=p.getD j 0:=by rw [E0,gj (by omega)];rfl
  simp only [DK];rw [show decide ((j:Int) < len a)=true from zP hj,zD,zJ hj,zJ (show j < p.length by omega)];simp only [zB];rw [ZF v7,qx rfl,zJ v7];simp only [zB];rw [zk (by omega),ea,ep];have hb:a.getD j 0*((a.length:Int)+1)<=16*17:=by
   have h1:a.getD j 0*((a.length:Int)+1)<=16*((a.length:Int)+1):=Z29 (by omega) (by omega);omega
  have Rp:0<=a.getD j 0*((a.length:Int)+1):=R3 (by omega) (by omega);rw [show len a=((a.length:Nat):Int) from rfl,zk (by omega),zw (n:=a.getD j 0*((a.length:Int)+1)) (by omega) (by omega),zw (by omega) (by omega)];refine hw _ ⟨by simp [wx,e1],fun i h hi=>?_⟩;simp only [wx,RV,Z4a];split
  ·rename_i e;subst e;rfl
  ·rename_i e;exact e2 i (by simpa [wx] using h) (by omega)
 ·rintro s w ⟨e1,e2⟩;simp only [DK];rw [show decide (((a.length:Nat):Int) < len a)=false from zM _,zW];have:s=(List.range a.length).map fun i=>a.getD i 0*((a.length:Int)+1)+p.getD i 0:=by
   apply Z2y
   ·simp [e1]
   ·intro i h1 h2;rw [e2 i h1 (by omega)];simp
  rw [this,z0g N _ (by simp;omega) (by simp;omega)];exact zp.ret rfl
def Qz (a:List Int) (s:Nat):List Nat:=(List.range a.length).filter fun i=>decide (a.getD i 0=a.getD s 0)
theorem zfq (N:Nat) (hN:200<=N) (a:List Int) (ha:xJ a=true) (MQ:a.length<=16) (s:Nat):f27 N a (a.getD s 0)=some (j8 (Qz a s)):=by
 have r1:=vP;refine zp.eq ?_;unfold f27;rw [D7 N a (by omega) (by omega),ha,zB,pE,zW];refine zp.up (fun k t=>t=j8 ((List.range k).filter fun i=>decide (a.getD i 0=a.getD s 0))) a.length ?_ ?_ N 0 (jE _) (by omega) _ rfl
 ·rintro j t w hj rfl hw;have ea:a[j]=a.getD j 0:=by rw [E0,gj hj];rfl
  have HT:((List.range j).filter fun i=>decide (a.getD i 0=a.getD s 0)).length<=j:=by have:=Z3l (fun i=>decide (a.getD i 0=a.getD s 0)) (List.range j);simpa using this
  simp only [DW];rw [show decide ((j:Int) < len a)=true from zP hj,zD,zJ hj];simp only [zB];rw [ea,zk (by omega)];by_cases h:a.getD j 0=a.getD s 0
  ·rw [jg h,zD];refine zp.qR (by simp only [jL,j8,Jk];omega) ?_;refine hw _ ?_;rw [RW,Z2t,List.filter_cons_of_pos (p:=fun i=>decide (a.getD i 0=a.getD s 0)) (jg h),Z4w];simp [j8]
  ·rw [qW h,zW];refine hw _ ?_;rw [RW,Z2t,List.filter_cons_of_neg (p:=fun i=>decide (a.getD i 0=a.getD s 0)) (by simpa using h),Z4w,AL]
 ·rintro t w rfl;simp only [DW];rw [show decide (((a.length:Nat):Int) < len a)=false from zM _,zW];exact zp.ret rfl
theorem z16 (N:Nat) (l:List Int) (hN:l.length < N) (hl:l.length < 4294967296):f13 N l l=some true:=by
 refine zp.eq ?_;unfold f13;rw [jg rfl,pE,zW];refine zp.Kp (fun _=>True) l.length ?_ ?_ N 0 (jE _) (by omega) trivial
 ·intro j w hj _ hw;simp only [G8];rw [show decide ((j:Int) < len l)=true from zP hj,zD,zJ hj,zB,zB,jg rfl,pE,zW,zk (by omega)];exact hw trivial
 ·intro w _;simp only [G8];rw [show decide (((l.length:Nat):Int) < len l)=false from zM _,zW];exact zp.ret rfl
end Go.Kz
namespace Go.Kz
abbrev AO:=Int×(List Int×Unit)
abbrev znc:=Int×(Int×(Int×(List Int×(List AO×Unit))))
def ui (zi9:Int) (L:List Nat) (asked:List AO):znc:=(1,(1048576,(zi9,(j8 L,(asked,())))))
theorem wW (L:List Nat):(j8 L).length=L.length:=by simp [j8]
theorem QK (L:List Nat) {j:Nat} (h:j < (j8 L).length):(j8 L)[j]=((L[j]'(by rw [wW] at h;exact h):Nat):Int):=by simp [j8]
theorem Uq (L:List Nat):decide (((L.length:Nat):Int) < len (j8 L))=false:=by simp [len,wW]
theorem zg0 (N:Nat) (hN:200<=N) (S:Nat) (h0:0 < S) (MQ:S<=16):f19 N 1 1048576 (S:Int)=some (ui 1 (List.range S) [],0):=by
 have r1:=vP;refine zp.eq ?_;unfold f19;simp only [show decide ((1:Int)=0)=false from rfl,show decide ((1:Int)=1)=true from rfl,show decide ((1048576:Int) < 1)=false from rfl,show decide ((1048576:Int) < 1048576)=false from rfl,A0,Z2b,pE,zD,zW,zB];rw [qW (show ¬ (S:Int) < 1 by omega),zW,zB,qW (show ¬ (4096:Int) < (S:Int) by omega),zW];refine zp.up (fun j s=>s=vK j) S ?_ ?_ N 0 (jE _) (by omega) _ rfl
 ·rintro j s w hj rfl hw;simp only [DC];rw [jg (show (j:Int) < (S:Int) by omega),zD];refine zp.qR (by simp only [jL,vK,Jk,Z48];omega) ?_;rw [zk (by omega)];refine hw _ ?_;rw [Pl]
 ·rintro s w rfl;simp only [DC];rw [qW (by omega),zW];exact zp.ret rfl
structure A4 (S:Nat) (L:List Nat):Prop where
 asc:L.Pairwise (· < ·)
 lt:∀ i∈L,i < S
 pos:0 < L.length
 len:L.length<=16
 s16:S<=16
theorem z83 (N:Nat) (hN:200<=N) {S:Nat} {L:List Nat} (h:A4 S L) (sp:Int) (h1:1<=sp) (h2:sp<=1048576) (q:List AO):f175 N (ui sp L q)=some true:=by
 have hl:=h.len;have h0:=h.pos;have hS:=h.s16;refine zp.eq ?_;unfold f175 ui;simp only [show decide ((1:Int)=0)=false from rfl,show decide ((1:Int)=1)=true from rfl,show decide ((1048576:Int) < 1)=false from rfl,show decide ((1048576:Int) < 1048576)=false from rfl,A0,Z2b,pE,zD,zW,zB];rw [qW (show ¬ sp < 1 by omega),zW,zB,qW (show ¬ (1048576:Int) < sp by omega),zW,qW (show ¬ len (j8 L) < 1 by simp only [len,wW];omega),zW,zB,qW (show ¬ (4096:Int) < len (j8 L) by simp only [len,wW];omega),zW];refine zp.Kp (fun _=>True) L.length ?_ ?_ N 0 (jE _) (by omega) trivial
 ·intro j w hj _ hw;have v7:j < (j8 L).length:=by rw [wW];exact hj
  have hi:=h.lt _ (kK hj);simp only [PC];rw [show decide ((j:Int) < len (j8 L))=true from zP v7,zD,zJ v7,QK];simp only [zB];rw [qW (show ¬ ((L[j]:Nat):Int) < 0 by omega),zW,zB,qW (show ¬ (4096:Int)<=((L[j]:Nat):Int) by omega),zW];have e:(cond (decide ((0:Int) < (j:Int))) ((idx (j8 L) (zz ((j:Int)-1))).bind fun ja=>some (decide (((L[j]:Nat):Int)<=ja))) (some false))=some false:=by
   by_cases h3:0 < j
   ·have hk:j-1 < (j8 L).length:=by omega
    rw [jg (show (0:Int) < (j:Int) by omega),zD,uu h3 (by omega),zJ hk,zB,QK];have:=Z4s.1 h.asc (j-1) j (by omega) hj (by omega);rw [qW (by omega)]
   ·rw [qW (show ¬ (0:Int) < (j:Int) by omega),zW]
  rw [e];simp only [zB,zW];rw [zk (by omega)];exact hw trivial
 ·intro w _;simp only [PC];rw [Uq,zW];exact zp.ret rfl
theorem z0y (N:Nat) (hN:200<=N) (vs:List qp) (hl:vs.length<=10) (h:(vs.any fun v=>decide (v.2.1=3))=false):Mf N vs ()=some false:=by
 rw [Z5p] at h;refine zp.eq ?_;unfold Mf;refine zp.then (P:=fun r=>r = -1) ?_ fun r hr=>?_
 ·unfold z0m;refine zp.Kp (fun _=>True) vs.length ?_ ?_ N 0 (jE _) (by omega) trivial
  ·intro j w hj _ hw;simp only [WA,f310];rw [show decide ((j:Int) < len vs)=true from zP hj,zD,zJ hj];simp only [zB];have:=h _ (kK hj);rw [Bool.not_eq_true] at this;rw [this,zW,zk (by omega)];exact hw trivial
  ·intro w _;simp only [WA];rw [show decide (((vs.length:Nat):Int) < len vs)=false from zM _,zW];exact zp.ret rfl
 ·subst hr;exact zp.ret rfl
theorem z81 (N:Nat) (hN:200<=N) {f:zf} (h:P2 N f) {S:Nat} (hS:zS (jD f.1 1)=(S:Int)) {L:List Nat} (hL:A4 S L):f177 N f (j8 L)=some true:=by
 have hv:=h.wf.vars;have hl:=hL.len;refine zp.eq ?_;unfold f177 f182;rw [VK N hN hv.len hv.Qy 1 (by omega) hv.sec,hS];simp only [zB];refine zp.then (P:=fun r=>r=false) ?_ fun r hr=>by subst hr;exact zp.ret rfl
 unfold f32 f102;refine zp.then (P:=fun r=>r = -1) ?_ fun r hr=>by subst hr;exact zp.ret rfl
 refine zp.Kp (fun _=>True) L.length ?_ ?_ N 0 (jE _) (by omega) trivial
 ·intro j w hj _ hw;have v7:j < (j8 L).length:=by rw [wW];exact hj
  have hi:=hL.lt _ (kK hj);simp only [PR,f262];rw [show decide ((j:Int) < len (j8 L))=true from zP v7,zD,zJ v7,QK];simp only [zB];rw [qW (show ¬ ((L[j]:Nat):Int) < 0 by omega),zW,zB,qW (show ¬ (S:Int)<=((L[j]:Nat):Int) by omega),zB,zW,zk (by omega)];exact hw trivial
 ·intro w _;simp only [PR];rw [Uq,zW];exact zp.ret rfl
theorem zfi (N:Nat) (hN:200<=N) {f:zf} (h:P2 N f) {p:List Int} (hp:Fits (jD f.1 2) p) {S:Nat} (hS:zS (jD f.1 1)=(S:Int)) {L:List Nat} (hL:A4 S L) (sp:Int) (h1:1<=sp) (h2:sp<=1048576) (q:List AO) :
  f84 N (ui sp L q) [f] (0,(p,()))=some 0:=by
 have hv:=h.wf.vars;refine zp.eq ?_;unfold f84;rw [z83 N hN hL sp h1 h2 q,zB,pE,zW];rw [show decide ((0:Int) < 0)=false from rfl,zW,zB,show decide (len [f]<=(0:Int))=false from rfl,zW,show idx [f] 0=some f from rfl,zB];unfold f176 f261;rw [Im N hN f h.wf,zB,jg rfl,pE,zW,z0y N hN f.1 hv.len h.zwp,zB,zW,zB,jg rfl,pE,zW];refine zp.bind (zp.bind (zp.mono (z0j N hN hv 2 (by omega) hv.pub p hp) fun r hr=>?_));refine zp.ret ?_;rw [hr,jg rfl,pE,zW];rw [show (ui sp L q).2.2.2.1=j8 L from rfl,z81 N hN h hS hL,zB,pE,zW];exact zp.ret rfl
theorem zfh (N:Nat) (hN:200<=N) {S:Nat} {L:List Nat} (hL:A4 S L) {s:Nat} (hs:s∈L):f85 N (j8 L) (s:Int)=some true:=by
 have hl:=hL.len;refine zp.eq ?_;unfold f85;refine zp.then (P:=fun r=>0<=r) ?_ fun r hr=>by rw [jg hr];exact zp.ret rfl
 unfold f178;refine zp.Kp (fun j=>∀ i (h:i < L.length),i < j->L[i]≠s) L.length ?_ ?_ N 0 (jE _) (by omega) (fun i h hi=>by omega)
 ·intro j w hj hinv hw;have v7:j < (j8 L).length:=by rw [wW];exact hj
  simp only [DE];rw [show decide ((j:Int) < len (j8 L))=true from zP v7,zD,zJ v7,QK];simp only [zB];refine zp.cond (fun _=>zp.ret (by omega)) fun h=>?_
  rw [zk (by omega)];refine hw fun i hi qJ=>?_
  by_cases e:i=j
  ·subst e;simp only [xB] at h;omega
  ·exact hinv i hi (by omega)
 ·intro w hinv;obtain ⟨i,hi,he⟩:=VI.1 hs;exact absurd he (hinv i hi hi)
theorem zfg (N:Nat) (hN:200<=N) {f:zf} (h:P2 N f) {S:Nat} (hS:zS (jD f.1 1)=(S:Int)):f90 N f=some (j8 (List.range S)):=by
 have hv:=h.wf.vars;have MQ:=h.sec;have r1:=vP;refine zp.eq ?_;unfold f90 f182;rw [VK N hN hv.len hv.Qy 1 (by omega) hv.sec,hS];simp only [zB];refine zp.up (fun j s=>s=vK j) S ?_ ?_ N 0 (jE _) (by omega) _ rfl
 ·rintro j s w hj rfl hw;simp only [Dz];rw [jg (show (j:Int) < (S:Int) by omega),zD];refine zp.qR (by simp only [jL,vK,Jk,Z48];omega) ?_;rw [zk (by omega)];refine hw _ ?_;rw [Pl]
 ·rintro s w rfl;simp only [Dz];rw [qW (by omega),zW];exact zp.ret rfl
theorem z7g (N:Nat) (hN:200<=N) (l:List pV) (x:pV) (hl:l.length<=100) (hs:∀ y∈l,y.1.length<=100):zp (f88 N l (x,())) fun _=>True:=by
 unfold f88;refine zp.Kp (fun _=>True) l.length ?_ ?_ N 0 (jE _) (by omega) trivial
 ·intro j w hj _ hw;simp only [Dy];rw [show decide ((j:Int) < len l)=true from zP hj,zD,zJ hj];simp only [zB];rw [zff N hN _ _ (hs _ (kK hj)),zB];refine zp.cond (fun _=>zp.ret trivial) fun _=>?_
  rw [zk (by omega)];exact hw trivial
 ·intro w _;simp only [Dy];rw [show decide (((l.length:Nat):Int) < len l)=false from zM _,zW];exact zp.ret trivial
structure Gu (q:List AO):Prop where
 few:q.length<=100
 short:∀ x∈q,x.2.1.length<=100
theorem z8e (N:Nat) (hN:200<=N) (a b:List Int) (ha:a.length<=100):zp (f13 N a b) fun _=>True:=by
 unfold f13;refine zp.cond (fun _=>zp.ret trivial) fun h=>?_
 simp only [HY,jL,len] at h;refine zp.Kp (fun _=>True) a.length ?_ ?_ N 0 (jE _) (by omega) trivial
 ·intro j w hj _ hw;simp only [G8];rw [show decide ((j:Int) < len a)=true from zP hj,zD,zJ hj,zJ (show j < b.length by omega)];simp only [zB];refine zp.cond (fun _=>zp.ret trivial) fun _=>?_
  rw [zk (by omega)];exact hw trivial
 ·intro w _;simp only [G8];rw [show decide (((a.length:Nat):Int) < len a)=false from zM _,zW];exact zp.ret trivial
theorem z0w (N:Nat) (hN:200<=N) (sp:Int) (L:List Nat) {q:List AO} (hq:Gu q) (x:AO):zp (f179 N (ui sp L q) x) fun _=>True:=by
 have hf:=hq.few;unfold f179 f263;rw [show (ui sp L q).2.2.2.2.1=q from rfl];refine zp.then (P:=fun _=>True) ?_ fun r _=>zp.ret trivial
 refine zp.then (P:=fun _=>True) ?_ fun r _=>zp.ret trivial
 unfold f311;refine zp.Kp (fun _=>True) q.length ?_ ?_ N 0 (jE _) (by omega) trivial
 ·intro j w hj _ hw;simp only [PQ];rw [show decide ((j:Int) < len q)=true from zP hj,zD,zJ hj];simp only [zB];refine zp.then (P:=fun _=>True) ?_ fun r _=>zp.cond (fun _=>zp.ret trivial) fun _=>by
   rw [zk (by omega)];exact hw trivial
  unfold f264 f265;refine zp.then (P:=fun _=>True) ?_ fun r _=>zp.ret trivial
  refine zp.then (P:=fun _=>True) ?_ fun r _=>zp.ret trivial
  refine zp.cond (fun _=>?_) fun _=>zp.ret trivial
  exact zp.then (z8e N hN _ _ (hq.short _ (kK hj))) fun _ _=>zp.ret trivial
 ·intro w _;simp only [PQ];rw [show decide (((q.length:Nat):Int) < len q)=false from zM _,zW];exact zp.ret trivial
theorem Mb (N:Nat) (x:AO) (h:x.2.1.length<=100):f183 N x=some x:=by
 unfold f183;rw [N4 N _ (by omega)];rfl
theorem zfe (N:Nat) (hN:5000<=N) {f:zf} (h:P2 N f) {p:List Int} (hp:Fits (jD f.1 2) p) {S:Nat} (hS:zS (jD f.1 1)=(S:Int)) {L:List Nat} (hL:A4 S L) (sp:Int) {q:List AO} (hq:Gu q) (HS:q.length<=99) (n:Int) (o:pV) :
  zp (f92 N (ui sp L q) f (0,(p,())) n o) fun r=>∃ q',r=ui (zz (sp*n)) (L.filter fun i=>decide (jr f p (i:Int)=o)) q'/\Gu q'/\q'.length<=q.length+1:=by
 have hl:=hL.len;have r1:=vP;have zad:p.length<=100:=by
  have h1:=hp.len;have h2:=xz f.1 2;have h3:=h.wf.vars.len;omega
 unfold f92;rw [show (ui sp L q).2.2.2.1=j8 L from rfl,show (ui sp L q).2.2.2.2.1=q from rfl,show (ui sp L q).2.2.1=sp from rfl];refine zp.up (fun j s=>s=j8 ((L.take j).filter fun i=>decide (jr f p (i:Int)=o))) L.length ?_ ?_ N 0 (jE _) (by omega) _ rfl
 ·rintro j s w hj rfl hw;have v7:j < (j8 L).length:=by rw [wW];exact hj
  have hi:=hL.lt _ (kK hj);have HT:((L.take j).filter fun (i:Nat)=>decide (jr f p (i:Int)=o)).length<=j:=by
   have:=Z3l (fun (i:Nat)=>decide (jr f p (i:Int)=o)) (L.take j);rw [P0] at this;omega
  simp only [D9];rw [show decide ((j:Int) < len (j8 L))=true from zP v7,zD,zJ v7,QK];simp only [zB];rw [Ii N hN h hp _ (by omega) (by omega)];simp only [zB];rw [show f77 N ((jr f p ((L[j]:Nat):Int)).1,(jr f p ((L[j]:Nat):Int)).2) o=_ from Dk N (by omega) (jr f p ((L[j]:Nat):Int)) o (by have:(jr f p ((L[j]:Nat):Int)).1.length<=8:=xS h.wf _;omega)];simp only [zB];have ez:=p7.zero (jr f p ((L[j]:Nat):Int)) o;rw [zk (by omega)];by_cases e:jr f p ((L[j]:Nat):Int)=o
  ·rw [jg (ez.2 e),zD];refine zp.qR (by simp only [jL,wW];omega) ?_;refine hw _ ?_;rw [zo hj,Z2t,List.filter_cons_of_pos (p:=fun (i:Nat)=>decide (jr f p (i:Int)=o)) (jg e),Z4w];simp [j8]
  ·rw [qW (fun c=>e (ez.1 c)),zW];refine hw _ ?_;rw [zo hj,Z2t,List.filter_cons_of_neg (p:=fun (i:Nat)=>decide (jr f p (i:Int)=o)) (by simpa using e),Z4w,AL]
 ·rintro s w rfl;simp only [D9];rw [Uq,zW,KJ];refine zp.up (fun j t=>t=q.take j) q.length ?_ ?_ N 0 (jE _) (by have:=hq.few;omega) _ rfl
  ·rintro j t w2 hj rfl hw2;simp only [D8];rw [show decide ((j:Int) < len q)=true from zP hj,zD,zJ hj];simp only [zB];rw [Mb N _ (hq.short _ (kK hj)),zB];refine zp.qR (by simp only [jL,P0];omega) ?_;rw [zk (by omega)];refine hw2 _ ?_;rw [zo hj]
  ·rintro t w2 rfl;simp only [D8];rw [show decide (((q.length:Nat):Int) < len q)=false from zM _,zW,KJ];refine zp.then (z0w N (by omega) sp L hq _) fun b _=>?_
   refine zp.cond (fun _=>?_) fun _=>?_
   ·rw [Mb N _ zad,zB];refine zp.qR (by simp only [jL];omega) ?_;refine zp.ret ⟨q++[(0,(p,()))],rfl,⟨by simp;omega,fun x hx=>?_⟩,by simp⟩;rcases Gt.1 hx with hx | hx
    ·exact hq.short x hx
    ·rw [EY.1 hx];exact zad
   ·exact zp.ret ⟨q,rfl,hq,by omega⟩
theorem zfs (N:Nat) (hN:5000<=N) {f:zf} (h:P2 N f) {p:List Int} (hp:Fits (jD f.1 2) p) {S:Nat} (hS:zS (jD f.1 1)=(S:Int)) {L:List Nat} (hL:A4 S L) (sp:Int) (h1:1<=sp) (h2:sp<=1048576) {q:List AO} (hq:Gu q) (HS:q.length<=99)
  {s:Nat} (hs:s∈L) {n:Nat} (hn:n=(jY [] (pA f p L)).length) (hb:(n:Int)<=Int.tdiv 1048576 sp) :
  zp (f25 N (ui sp L q) [f] (0,(p,())) (s:Int)) fun r=>r.2.2.2.2=0/\r.2.2.1=(n:Int)/\∃ q',r.1=ui (zz (sp*n)) (L.filter fun i=>decide (jr f p (i:Int)=jr f p (s:Int))) q'/\Gu q'/\q'.length<=q.length+1:=by
 have hl:=hL.len;have MQ:=h.sec;have hsS:=hL.lt s hs;unfold f25 zft;rw [zfi N (by omega) h hp hS hL sp h1 h2 q,zB,jg rfl,pE,zW,show (ui sp L q).2.2.2.1=j8 L from rfl,zfh N (by omega) hL hs,zB,pE,zW,show idx [f] (0:Int)=some f from rfl,zB];refine zp.then (P:=fun r=>r=(n:Int)) ?_ fun r hr=>?_
 ·unfold f86;rw [show (ui sp L q).1=1 from rfl,show decide ((1:Int)=1)=true from rfl,zD,show (ui sp L q).2.2.2.1=j8 L from rfl];refine zp.then (z0f N hN h hp L hl fun i hi=>by have:=hL.lt i hi;omega) fun r hr=>zp.ret ?_
  rw [hn,<-hr.length_eq]
 subst hr;rw [show (ui sp L q).2.2.1=sp from rfl,show (ui sp L q).2.1=1048576 from rfl,qW (show ¬ sp=0 by omega),zW];have ht:0<=Int.tdiv 1048576 sp/\Int.tdiv 1048576 sp<=1048576:=by
  rw [Z4v (by omega)];exact ⟨Z36 (by omega) (by omega),Z37 _ (by omega)⟩
 rw [zw (n:=Int.tdiv 1048576 sp) (by omega) (by omega),qW (show ¬ Int.tdiv 1048576 sp < (n:Int) by omega),zW,Ii N hN h hp (s:Int) (by omega) (by omega),zB,zfg N (by omega) h hS,zB];refine zp.then (z0f N hN h hp (List.range S) (by simp;omega) fun i hi=>by have:=Nw.1 hi;omega) fun r5 hr5=>?_
 have hle:=ZX [] (pA f p (List.range S));have e5:(pA f p (List.range S)).length=S:=by simp [pA]
 rw [e5] at hle;simp only [He] at hle;have hr5l:=hr5.length_eq;refine zp.then (z7g N (by omega) r5 _ (by omega) fun y hy=>?_) fun r6 _=>?_
 ·rw [hr5.mem_iff,YD] at hy;obtain ⟨i,_,rfl⟩:=Jo.1 hy;have:(jr f p (i:Int)).1.length<=8:=xS h.wf _;omega
 simp only [idT];refine zp.then (zfe N hN h hp hS hL sp hq HS n _) fun r7 hr7=>?_
 exact zp.ret ⟨rfl,rfl,hr7⟩
end Go.Kz
namespace Go.Kz
theorem MP {x:Int} (h:(Ty.int .u8).fits x):0<=x/\x<=255:=h
theorem SR:∀ (k:Nat) (n:Int),0<=n->kI n (List.replicate k 0)=true
 | 0,_,_=>rfl
 | k+1,n,h=>by
  simp only [Z4f,kI,zA,jL];exact ⟨⟨by omega,h⟩,SR k _ (by omega)⟩
theorem Dc {a:List Int} {s:Nat} (hs:s < a.length):s∈Qz a s:=by
 unfold Qz;rw [Z30,Nw];exact ⟨hs,jg rfl⟩
theorem Hq {a:List Int} {s:Nat} (hs:s < a.length) (MQ:a.length<=16):A4 a.length (Qz a s) where
 asc:=List.Pairwise.filter _ List.pairwise_lt_range
 lt:=fun i hi=>Nw.1 (Z30.1 hi).1
 pos:=List.length_pos_of_mem (Dc hs)
 len:=by
  have:=Z3l (fun i=>decide (a.getD i 0=a.getD s 0)) (List.range a.length);rw [Z48] at this;exact Z1e this MQ
 s16:=MQ
theorem z8k (S s:Nat):Qz (List.replicate S 0) s=List.range S:=by
 have e:∀ i,(List.replicate S (0:Int)).getD i 0=0:=fun i=>by
  rw [E0,List.getElem?_replicate];split <;> rfl
 unfold Qz;simp only [e,A0,Z5o];exact List.filter_eq_self.2 fun _ _=>rfl
theorem z5m (f:zf) (p:List Int) {S:Nat} (L:List Nat) (hL:∀ i∈L,i < S):(jY [] (L.map fun i=>(JY f p S).getD i 0)).length=(jY [] (pA f p L)).length:=by
 let g:pV->Int:=fun o=>(posOf o (wQ f p S):Int)
 have e:(L.map fun i=>(JY f p S).getD i 0)=(pA f p L).map g:=by
  unfold pA;rw [Z39];refine Z51 fun i hi=>?_
  have hl:i < (Q3 f p S).length:=by rw [uC];exact hL i hi
  have q:=CE hl;rw [QH f p (hL i hi)] at q;rw [JY,E0,q];rfl
 rw [e];refine z69 fun x hx y hy h=>?_
 obtain ⟨i,hi,rfl⟩:=Jo.1 hx;obtain ⟨j,hj,rfl⟩:=Jo.1 hy;exact YU (YC f p (hL i hi)) (YC f p (hL j hj)) (by simp only [g] at h;omega)
theorem z1j (f:zf) (p:List Int) {a:List Int} (ha:xJ a=true) {s:Nat} (hs:s < a.length):((Qz a s).filter fun (i:Nat)=>decide (jr f p (i:Int)=jr f p (s:Int)))=Qz (Ua a (JY f p a.length)) s:=by
 unfold Qz;rw [List.filter_filter,M1];refine Z4m fun i hi=>?_
 have vf:=Nw.1 hi;have e1:=T3 ha (P8 (Q3 f p a.length)) (CB f p a.length) vf hs;have e2:=SV f p vf hs;rw [Z40];simp only [zA,jL];rw [show Ua a (AQ (Q3 f p a.length))=Ua a (JY f p a.length) from rfl,show AQ (Q3 f p a.length)=JY f p a.length from rfl] at e1;rw [e1,e2];exact And.comm
theorem z6e (N:Nat) (hN:5000<=N) (k14:f14 N=some true) (k7:f7 N=some true) (f:zf) (qs:List Int) (t:Int) (hqs:∀ x∈qs,0<=x/\x<=255) (ht:0<=t/\t<=255):f4 N f qs t=some true:=by
 refine zp.eq ?_;unfold f4;rw [k14,zB,pE,zW,k7,zB,pE,zB,zW];refine zp.then (zg1 N (by omega) f) fun r2 A8=>?_
 cases r2 with
 | false=>
  simp only [Z2b,zD,zB]
  exact zp.ret rfl
 | true=>
 obtain ⟨hw,hc,MQ,h64⟩:=A8 rfl;have hv:=hw.vars;simp only [pE,zW,zB];by_cases h6:(6:Int) < len qs
 ·rw [jg h6,zD,zB,zD];exact zp.ret rfl
 rw [qW h6,zW,z0x N (by omega) f.1 hv.len];simp only [zB]
 cases h3:(f.1.any fun v=>decide (v.2.1=3)) with
 | true=>
  rw [zD]
  exact zp.ret rfl
 | false=>
 have h:P2 N f:=⟨hw,hc,MQ,h64,Sa 3 h3,h3⟩;have q1:=vE (l:=jD f.1 1) (u6 hv.Qy 1);have q2:=vE (l:=jD f.1 2) (u6 hv.Qy 2);have r1:=vP;have rb:=xI;rw [zW,G7 N (by omega) hv.len hv.Qy 1 (by omega) hv.sec,G7 N (by omega) hv.len hv.Qy 2 (by omega) hv.pub];simp only [zB];obtain ⟨S,hS⟩:∃ S:Nat,zS (jD f.1 1)=(S:Int):=⟨(zS (jD f.1 1)).toNat,by omega⟩;generalize hP:zS (jD f.1 2)=P at q2 h64;rw [hS] at q1 MQ ⊢;rw [qW (show ¬ (S:Int)=0 by omega),zW,zg0 N (by omega) S (by omega) (by omega),zB,jg rfl,pE,zW];refine zp.qR (by simp only [zA,jL];omega) ?_;rw [zw (n:=t) (by omega) (by omega),RV];obtain ⟨s,hs⟩:∃ s:Nat,Int.tmod t (S:Int)=(s:Int):=⟨(Int.tmod t (S:Int)).toNat,by
  have:=Z4b (S:Int) ht.1;omega⟩
 have hsS:s < S:=by
  have:=Int.tmod_lt_of_pos t (show (0:Int) < (S:Int) by omega);omega
 rw [hs];have h6':qs.length<=6:=by simp only [len] at h6;omega
 refine zp.up (fun j (u:Int×znc×List Int)=>1<=u.1/\u.1<=1048576/\u.2.2.length=S/\xJ u.2.2=true/\∃ q,u.2.1=ui u.1 (Qz u.2.2 s) q/\Gu q/\q.length<=j) qs.length ?_ ?_ N 0 (jE _) (by omega) _ ⟨by simp,by simp,by simp,SR S 0 (Z3y 0),[],by rw [z8k],⟨by simp,by simp⟩,by simp⟩
 ·rintro j ⟨sp,ac,a⟩ w hj ⟨s1,s2,al,aok,q,e1,hq,hql⟩ GG;simp only at s1 s2 al aok e1;subst e1;subst al;have hx:=hqs _ (kK hj);have hL:=Hq hsS (by omega:a.length<=16);simp only [DJ];rw [show decide ((j:Int) < len qs)=true from zP hj,zD,zJ hj,zB,qW (show ¬ P=0 by omega),zW];rw [zw (n:=qs[j]) (by omega) (by omega)];have t0:=Z4b P hx.1;have t1:=Int.tmod_lt_of_pos qs[j] (show 0 < P by omega);rw [zfz N (by omega) hv 2 (by omega) hv.pub (Int.tmod qs[j] P) t0 (by omega),zB];have hp:Fits (jD f.1 2) (Ku (jD f.1 2) (Int.tmod qs[j] P) (jD f.1 2).length):=EP (u6 hv.Qy 2) _;simp only;generalize Ku (jD f.1 2) (Int.tmod qs[j] P) (jD f.1 2).length=p at hp;refine zp.then (zfx N hN h hp hS) fun r8 hr8=>?_
  obtain ⟨c8,ord,ho,e8⟩:=hr8;rw [show (r8.1.1,r8.1.2)=r8.1 from rfl,e8,zfw N (by omega) f p a.length (by omega) (by omega) ord ho,zB,show (ui sp (Qz a s) q).2.2.2.1=j8 (Qz a s) from rfl,zfv N (by omega) a.length (by omega) (by omega) (Qz a s) hL.len hL.lt,zB];simp only;rw [show Qz a s=(List.range a.length).filter (fun i=>decide (a.getD i 0=a.getD s 0)) from rfl,zfu N (by omega) (JY f p a.length) (P8 _) a.length (CB f p _) (by omega) (by omega) (fun i=>decide (a.getD i 0=a.getD s 0)),zB,show (List.range a.length).filter (fun i=>decide (a.getD i 0=a.getD s 0))=Qz a s from rfl];simp only;rw [c8,z5m f p (Qz a s) hL.lt];simp only [A0,pE,zW,zB];rw [qW (show ¬ sp=0 by omega),zW];obtain ⟨n,hn⟩:∃ n,n=(jY [] (pA f p (Qz a s))).length:=⟨_,rfl⟩;rw [<-hn];have htd:0<=Int.tdiv 1048576 sp/\Int.tdiv 1048576 sp<=1048576/\Int.tdiv 1048576 sp*sp<=1048576:=by
   rw [Z4v (by omega)];exact ⟨Z36 (by omega) (by omega),Z37 _ (by omega),Int.ediv_mul_le _ (by omega)⟩
  rw [zw (n:=Int.tdiv 1048576 sp) (by omega) (by omega)];by_cases hb:Int.tdiv 1048576 sp < (n:Int)
  ·rw [jg hb,zD];exact zp.ret rfl
  rw [qW hb,zW];refine zp.then (zfs N hN h hp hS hL sp s1 s2 hq (by omega) (Dc hsS) hn (by omega)) fun r12 ztb=>?_
  obtain ⟨c12,n12,q',e12,hq',hql'⟩:=ztb;have hsp:(n:Int)*sp<=1048576:=by
   have:(n:Int)*sp<=Int.tdiv 1048576 sp*sp:=Z29 (by omega) (by omega);omega
  have Zo:1<=n:=by
   have hm:jr f p (s:Int)∈jY [] (pA f p (Qz a s)):=by
    rw [YD];exact Jo.2 ⟨s,Dc hsS,rfl⟩
   have:=List.length_pos_of_mem hm;omega
  have hsp1:1*sp<=(n:Int)*sp:=Z29 (by omega) (by omega);have hcom:sp*(n:Int)=(n:Int)*sp:=Int.mul_comm ..;rw [z1j f p aok hsS] at e12;rw [c12,n12,e12];simp only [A0,pE,zW,zB];rw [zfr N (by omega) a (JY f p a.length) aok (P8 _) (CB f p _) (by omega),zB];have hml:=M1 a (JY f p a.length);have Ta:xJ (Ua a (JY f p a.length))=true:=P8 _;simp only [ui,A0,pE,zW,zB,len,hml];generalize Ua a (JY f p a.length)=M at hml Ta;have hsM:s < M.length:=by omega
  rw [ZF hsM,qx rfl,zJ hsM,zB];have eM:M[s]=M.getD s 0:=by rw [E0,gj hsM];rfl
  have pO:=(Hq hsM (by omega)).len;rw [eM,zfq N (by omega) M Ta (by omega) s,zB,z16 N _ (by rw [wW];omega) (by rw [wW];omega),zB,zB,pE,zW,zw (n:=sp*(n:Int)) (by omega) (by omega),zk (by omega)];refine GG _ ⟨by simp only;omega,by simp only;omega,hml,Ta,q',rfl,hq',by omega⟩
 ·rintro ⟨sp,ac,a⟩ w _;simp only [DJ];rw [show decide (((qs.length:Nat):Int) < len qs)=false from zM _,zW];exact zp.ret rfl
theorem z6f:f14 100000=some true:=by kernel_rfl
theorem zdn:f7 100000=some true:=by kernel_rfl
theorem law4 (f:zf) (qs:List Int) (t:Int) (hq:(Ty.sl false (.int .u8)).fits qs) (ht:(Ty.int .u8).fits t):f4 100000 f qs t=some true:=z6e 100000 (by omega) z6f zdn f qs t (fun x hx=>MP (hq x hx)) (MP ht)
end Go.Kz
