/-
  Networks of arcs, third part: how they stand in lists, and how an arc is laid. Plain facts, no program.
-/
import Derived.Test.YtafhchecfmiieaaKzE2
set_option linter.unusedVariables false
set_option linter.unusedSimpArgs false
namespace Go.Kz
def upF {α:Type} (D:Nat→α) (v:Nat) (c:α):Nat→α:=fun x=>if x=v then c else D x
theorem upF_self {α:Type} (D:Nat→α) (v:Nat) (c:α):upF D v c v=c:=by simp [upF]
theorem upF_ne {α:Type} (D:Nat→α) {v x:Nat} (c:α) (h:x≠v):upF D v c x=D x:=by simp [upF,h]
theorem map_set_range {α:Type} {n v:Nat} (D:Nat→α) (c:α):((List.range n).map D).set v c=(List.range n).map (upF D v c):=by
 apply List.ext_getElem?
 intro i
 by_cases hi:i < n
 ·by_cases e:v=i
  ·subst e
   rw [List.getElem?_set_self (by simpa using hi),List.getElem?_map,List.getElem?_range hi]
   simp [upF_self]
  ·rw [List.getElem?_set_ne e,List.getElem?_map,List.getElem?_map,List.getElem?_range hi]
   simp [upF_ne D c (Ne.symm e)]
 ·rw [List.getElem?_eq_none (by simp;omega),List.getElem?_eq_none (by simp;omega)]
theorem map_range_get {α:Type} {n x:Nat} (D:Nat→α) (h:x < n):((List.range n).map D)[x]? = some (D x):=by
 rw [List.getElem?_map,List.getElem?_range h];rfl
theorem map_range_set {α:Type} {n v:Nat} {D D':Nat→α} (h:∀ x,x < n→x≠v→D x=D' x):((List.range n).map D).set v (D' v)=(List.range n).map D':=by
 rw [map_set_range]
 refine List.map_congr_left fun x hx=>?_
 by_cases e:x=v
 ·subst e;exact upF_self _ _ _
 ·rw [upF_ne D _ e];exact h x (List.mem_range.1 hx) e
theorem idx_map_range {α:Type} {n x:Nat} (D:Nat→α) (h:x < n):idx ((List.range n).map D) (x:Int)=some (D x):=map_range_get D h
theorem inb_map_range {α:Type} {n x:Nat} (D:Nat→α) (h:x < n):inb ((List.range n).map D) (x:Int)=true:=inb_lt (by simpa using h)
abbrev ArcD:=Int×(Int×(Int×Unit))
namespace Nw
def arcD (W:Nw) (r:Nat→Nat→Int) (v i:Nat):ArcD:=((W.hd v i:Int),(r v i,((W.bk v i:Int),())))
def row (W:Nw) (r:Nat→Nat→Int) (v:Nat):List ArcD:=(List.range (W.deg v)).map (W.arcD r v)
def enc (W:Nw) (r:Nat→Nat→Int):List (List ArcD):=(List.range W.N).map (W.row r)
theorem enc_len (W:Nw) (r:Nat→Nat→Int):(W.enc r).length=W.N:=by simp [enc]
theorem row_len (W:Nw) (r:Nat→Nat→Int) (v:Nat):(W.row r v).length=W.deg v:=by simp [row]
theorem enc_idx {W:Nw} (r:Nat→Nat→Int) {v:Nat} (h:v < W.N):Go.Kz.idx (W.enc r) (v:Int)=some (W.row r v):=idx_map_range _ h
theorem enc_inb {W:Nw} (r:Nat→Nat→Int) {v:Nat} (h:v < W.N):inb (W.enc r) (v:Int)=true:=inb_map_range _ h
theorem row_idx {W:Nw} (r:Nat→Nat→Int) {v i:Nat} (h:i < W.deg v):Go.Kz.idx (W.row r v) (i:Int)=some (W.arcD r v i):=idx_map_range _ h
theorem row_inb {W:Nw} (r:Nat→Nat→Int) {v i:Nat} (h:i < W.deg v):inb (W.row r v) (i:Int)=true:=inb_map_range _ h
theorem row_set {W:Nw} {r r':Nat→Nat→Int} {v i:Nat} (h:∀ j,j < W.deg v→j≠i→r v j=r' v j):setI (W.row r v) (i:Int) (W.arcD r' v i)=W.row r' v:=
 map_range_set (D:=W.arcD r v) (D':=W.arcD r' v) fun j hj hne=>by unfold arcD;rw [h j hj hne]
theorem enc_set {W:Nw} {r r':Nat→Nat→Int} {v:Nat} (h:∀ x,x < W.N→x≠v→∀ j,j < W.deg x→r x j=r' x j):setI (W.enc r) (v:Int) (W.row r' v)=W.enc r':=
 map_range_set (D:=W.row r) (D':=W.row r') fun x hx hne=>List.map_congr_left fun j hj=>by unfold arcD;rw [h x hx hne j (List.mem_range.1 hj)]
def up1 (r:Nat→Nat→Int) (d:Nat×Nat) (c:Int):Nat→Nat→Int:=fun v i=>if (v,i)=d then c else r v i
theorem up1_self (r:Nat→Nat→Int) (d:Nat×Nat) (c:Int):up1 r d c d.1 d.2=c:=by simp [up1]
theorem up1_ne (r:Nat→Nat→Int) {d e:Nat×Nat} (c:Int) (h:e≠d):up1 r d c e.1 e.2=r e.1 e.2:=by unfold up1;rw [if_neg h]
theorem enc_up1 {W:Nw} (r:Nat→Nat→Int) (d:Nat×Nat) (c:Int):setI (W.enc r) (d.1:Int) (setI (W.row r d.1) (d.2:Int) ((W.hd d.1 d.2:Int),(c,((W.bk d.1 d.2:Int),()))))=W.enc (up1 r d c):=by
 have e1:(((W.hd d.1 d.2:Nat):Int),(c,(((W.bk d.1 d.2:Nat):Int),())))=W.arcD (up1 r d c) d.1 d.2:=by unfold arcD;rw [up1_self]
 rw [e1,row_set (r':=up1 r d c) fun j hj hne=>?_,enc_set (r':=up1 r d c) fun x hx hne j hj=>?_]
 ·exact (up1_ne r (d:=d) (e:=(x,j)) c fun e=>hne (congrArg Prod.fst e)).symm
 ·exact (up1_ne r (d:=d) (e:=(d.1,j)) c fun e=>hne (congrArg Prod.snd e)).symm
theorem push_up {W:Nw} {ld:Nat→Nat→Bool} (hW:W.Ok ld) (r:Nat→Nat→Int) {d:Nat×Nat} (hd:W.Is d) (a:Int) :
  up1 (up1 r d (r d.1 d.2-a)) (W.rev d) (r (W.rev d).1 (W.rev d).2+a)=W.push r d a:=by
 funext v i
 unfold up1 push
 have hne:=ne_rev hW hd
 by_cases h1:(v,i)=d
 ·have:(v,i)≠W.rev d:=fun e=>hne (by rw [←h1] at e ⊢;exact congrArg Prod.fst e)
  rw [if_neg this,if_pos h1,if_pos h1,←h1]
 ·by_cases h2:(v,i)=W.rev d
  ·rw [if_pos h2,if_neg h1,if_pos h2,←h2]
  ·rw [if_neg h2,if_neg h1,if_neg h1,if_neg h2]
def link (W:Nw) (u v:Nat):Nw where
 N:=W.N
 deg:=upF (upF W.deg u (W.deg u+1)) v (W.deg v+1)
 hd:=fun x i=>if x=u∧i=W.deg u then v else if x=v∧i=W.deg v then u else W.hd x i
 bk:=fun x i=>if x=u∧i=W.deg u then W.deg v else if x=v∧i=W.deg v then W.deg u else W.bk x i
def linkR (W:Nw) (r:Nat→Nat→Int) (u v:Nat) (c:Int):Nat→Nat→Int:=fun x i=>if x=u∧i=W.deg u then c else if x=v∧i=W.deg v then 0 else r x i
section
variable {W:Nw} {u v:Nat}
theorem link_deg (h:u≠v) (x:Nat):(W.link u v).deg x=if x=u then W.deg u+1 else if x=v then W.deg v+1 else W.deg x:=by
 show upF (upF W.deg u (W.deg u+1)) v (W.deg v+1) x=_
 unfold upF
 by_cases h1:x=u
 ·subst h1;rw [if_neg h,if_pos rfl,if_pos rfl]
 ·by_cases h2:x=v
  ·subst h2;simp [Ne.symm h]
  ·simp [h1,h2]
theorem link_is (h:u≠v) (hu:u < W.N) (hv:v < W.N) (d:Nat×Nat):(W.link u v).Is d↔W.Is d∨d=(u,W.deg u)∨d=(v,W.deg v):=by
 obtain ⟨x,i⟩:=d
 unfold Is
 rw [show (W.link u v).N=W.N from rfl]
 simp only
 rw [link_deg h]
 by_cases h1:x=u
 ·subst h1
  rw [if_pos rfl]
  simp only [Prod.mk.injEq,true_and,h,false_and,or_false]
  omega
 ·rw [if_neg h1]
  by_cases h2:x=v
  ·subst h2
   rw [if_pos rfl]
   simp only [Prod.mk.injEq,true_and,Ne.symm h,false_and,false_or]
   omega
  ·rw [if_neg h2]
   simp [h1,h2]
theorem link_old {d:Nat×Nat} (hd:W.Is d) (r:Nat→Nat→Int) (c:Int):(W.link u v).hd d.1 d.2=W.hd d.1 d.2∧(W.link u v).bk d.1 d.2=W.bk d.1 d.2∧(W.link u v).rev d=W.rev d∧W.linkR r u v c d.1 d.2=r d.1 d.2:=by
 have h1:¬ (d.1=u∧d.2=W.deg u):=fun h=>by have:=hd.2;rw [h.1,h.2] at this;omega
 have h2:¬ (d.1=v∧d.2=W.deg v):=fun h=>by have:=hd.2;rw [h.1,h.2] at this;omega
 have e1:(W.link u v).hd d.1 d.2=W.hd d.1 d.2:=by show (if _ then _ else _)=_;rw [if_neg h1,if_neg h2]
 have e2:(W.link u v).bk d.1 d.2=W.bk d.1 d.2:=by show (if _ then _ else _)=_;rw [if_neg h1,if_neg h2]
 refine ⟨e1,e2,?_,?_⟩
 ·unfold rev;rw [e1,e2]
 ·unfold linkR;rw [if_neg h1,if_neg h2]
theorem link_new (h:u≠v) (r:Nat→Nat→Int) (c:Int):(W.link u v).hd u (W.deg u)=v∧(W.link u v).hd v (W.deg v)=u∧(W.link u v).rev (u,W.deg u)=(v,W.deg v)∧(W.link u v).rev (v,W.deg v)=(u,W.deg u)∧W.linkR r u v c u (W.deg u)=c∧W.linkR r u v c v (W.deg v)=0:=by
 have h1:¬ (v=u∧W.deg v=W.deg u):=fun e=>h e.1.symm
 refine ⟨?_,?_,?_,?_,?_,?_⟩
 ·show (if _ then _ else _)=_;rw [if_pos ⟨rfl,rfl⟩]
 ·show (if _ then _ else _)=_;rw [if_neg h1,if_pos ⟨rfl,rfl⟩]
 ·show ((if _ then _ else _),(if _ then _ else _))=_;rw [if_pos ⟨rfl,rfl⟩,if_pos ⟨rfl,rfl⟩]
 ·show ((if _ then _ else _),(if _ then _ else _))=_;rw [if_neg h1,if_neg h1,if_pos ⟨rfl,rfl⟩,if_pos ⟨rfl,rfl⟩]
 ·unfold linkR;rw [if_pos ⟨rfl,rfl⟩]
 ·unfold linkR;rw [if_neg h1,if_pos ⟨rfl,rfl⟩]
theorem link_row {r:Nat→Nat→Int} {c:Int} (h:u≠v) (x:Nat) :
  (W.link u v).row (W.linkR r u v c) x=if x=u then W.row r u++[((v:Int),(c,((W.deg v:Int),())))] else if x=v then W.row r v++[((u:Int),(0,((W.deg u:Int),())))] else W.row r x:=by
 have hold:∀ x i,i < W.deg x→(W.link u v).arcD (W.linkR r u v c) x i=W.arcD r x i:=by
  intro x i hi
  have h1:¬ (x=u∧i=W.deg u):=fun h=>by rw [h.1,h.2] at hi;omega
  have h2:¬ (x=v∧i=W.deg v):=fun h=>by rw [h.1,h.2] at hi;omega
  have e1:(W.link u v).hd x i=W.hd x i:=by show (if _ then _ else _)=_;rw [if_neg h1,if_neg h2]
  have e2:(W.link u v).bk x i=W.bk x i:=by show (if _ then _ else _)=_;rw [if_neg h1,if_neg h2]
  unfold arcD
  rw [e1,e2]
  unfold linkR
  rw [if_neg h1,if_neg h2]
 unfold row
 rw [link_deg h]
 have h1:¬ (v=u∧W.deg v=W.deg u):=fun e=>h e.1.symm
 by_cases e1:x=u
 ·subst e1
  rw [if_pos rfl,if_pos rfl,List.range_succ,List.map_append]
  congr 1
  ·exact List.map_congr_left fun i hi=>hold _ i (List.mem_range.1 hi)
  ·show [_]=[_]
   unfold arcD link linkR
   simp
 ·rw [if_neg e1,if_neg e1]
  by_cases e2:x=v
  ·subst e2
   rw [if_pos rfl,if_pos rfl,List.range_succ,List.map_append]
   congr 1
   ·exact List.map_congr_left fun i hi=>hold _ i (List.mem_range.1 hi)
   ·show [_]=[_]
    unfold arcD link linkR
    simp [e1]
  ·rw [if_neg e2,if_neg e2]
   exact List.map_congr_left fun i hi=>hold _ i (List.mem_range.1 hi)
theorem link_enc {r:Nat→Nat→Int} {c:Int} (h:u≠v) :
  setI (setI (W.enc r) (u:Int) (W.row r u++[((v:Int),(c,((W.deg v:Int),())))])) (v:Int) (W.row r v++[((u:Int),(0,((W.deg u:Int),())))])=(W.link u v).enc (W.linkR r u v c):=by
 show (((List.range W.N).map (W.row r)).set u _).set v _=(List.range W.N).map _
 rw [map_set_range,map_set_range]
 refine List.map_congr_left fun x _=>?_
 rw [link_row h]
 unfold upF
 by_cases e1:x=u
 ·subst e1;rw [if_neg h,if_pos rfl,if_pos rfl]
 ·by_cases e2:x=v
  ·subst e2;simp [Ne.symm h]
  ·simp [e1,e2]
end
def Has (W:Nw) (v u:Nat):Prop:=∃ i,W.Is (v,i)∧W.hd v i=u
end Nw
structure LayI (n:Nat) (E:List (Nat×Nat)) (F T:Nat→Bool) (C:Nat→Int) (most:Int) (c:Nat) (W:Nw) (r:Nat→Nat→Int):Prop where
 N:W.N=2*n+2
 ok:W.Ok (ldF n)
 res:W.Res (ldF n) (capF n C most) r
 zero:∀ d,W.Laid (ldF n) d→W.sent r d=0
 sound:∀ d,W.Laid (ldF n) d→ArcF n E F T d.1 (W.hd d.1 d.2)
 uniq:∀ v,v < n→∀ i,i < W.deg (2*v)→W.hd (2*v) i=2*v+1→i=0
 one:∀ v,v < n→0 < W.deg (2*v)→W.hd (2*v) 0=2*v+1
 small:∀ v,W.deg v≤c
theorem LayI.start (n:Nat) (E:List (Nat×Nat)) (F T:Nat→Bool) (C:Nat→Int) (most:Int):LayI n E F T C most 0 ⟨2*n+2,fun _=>0,fun _ _=>0,fun _ _=>0⟩ (fun _ _=>0):=by
 refine ⟨rfl,⟨?_,?_,?_⟩,⟨?_,?_⟩,?_,?_,?_,?_,fun v=>Nat.le_refl _⟩
 all_goals first
  | (intro d hd;exact absurd hd.2 (Nat.not_lt_zero _))
  | (intro d hd;exact absurd hd.1.2 (Nat.not_lt_zero _))
  | (intro v hv i hi;exact absurd hi (Nat.not_lt_zero _))
  | (intro v hv hi;exact absurd hi (Nat.not_lt_zero _))
section
variable {n:Nat} {E:List (Nat×Nat)} {F T:Nat→Bool} {C:Nat→Int} {most:Int} {c:Nat} {W:Nw} {r:Nat→Nat→Int} {u v:Nat}
theorem LayI.link (h:LayI n E F T C most c W r) (ha:ArcF n E F T u v) (hc:0≤capF n C most u v) (h0:(∃ k,k < n∧u=2*k∧v=2*k+1∧W.deg (2*k)=0)∨((∀ k,k < n→¬ (u=2*k∧v=2*k+1))∧∀ k,k < n→0 < W.deg (2*k))) :
  LayI n E F T C most (c+1) (W.link u v) (W.linkR r u v (capF n C most u v)):=by
 obtain ⟨l1,l2,hun,hvn⟩:=ha.ld
 have hne:u≠v:=fun e=>by rw [e] at l1;rw [e] at l2;rw [l1] at l2;cases l2
 have hu:u < W.N:=by rw [h.N];exact hun
 have hv:v < W.N:=by rw [h.N];exact hvn
 obtain ⟨n1,n2,n3,n4,n5,n6⟩:=Nw.link_new (W:=W) hne r (capF n C most u v)
 have his:=Nw.link_is (W:=W) hne hu hv
 have hold:=fun {d:Nat×Nat} (hd:W.Is d)=>Nw.link_old (u:=u) (v:=v) hd r (capF n C most u v)
 have laid:∀ d,(W.link u v).Laid (ldF n) d→W.Laid (ldF n) d∨d=(u,W.deg u):=by
  rintro d ⟨hd,hl⟩
  rcases (his d).1 hd with hd | rfl | rfl
  ·left;rw [(hold hd).1] at hl;exact ⟨hd,hl⟩
  ·right;rfl
  ·rw [show (W.link u v).hd (v,W.deg v).1 (v,W.deg v).2=u from n2,l2] at hl;cases hl
 refine ⟨h.N,⟨fun d hd=>?_,fun d hd=>?_,fun d hd=>?_⟩,⟨fun d hd=>?_,fun d hd hl=>?_⟩,fun d hd=>?_,fun d hd=>?_,fun k hk i hi he=>?_,fun k hk hp=>?_,fun x=>?_⟩
 ·rcases (his d).1 hd with hd | rfl | rfl
  ·rw [(hold hd).2.2.1];exact (his _).2 (.inl (h.ok.is d hd))
  ·rw [n3];exact (his _).2 (.inr (.inr rfl))
  ·rw [n4];exact (his _).2 (.inr (.inl rfl))
 ·rcases (his d).1 hd with hd | rfl | rfl
  ·rw [(hold hd).2.2.1,(hold (h.ok.is d hd)).2.2.1];exact h.ok.inv d hd
  ·rw [n3,n4]
  ·rw [n4,n3]
 ·rcases (his d).1 hd with hd | rfl | rfl
  ·rw [(hold hd).1];exact h.ok.one d hd
  ·simp only [n1,l1,l2];rfl
  ·simp only [n2,l1,l2];rfl
 ·rcases (his d).1 hd with hd | rfl | rfl
  ·rw [(hold hd).2.2.2];exact h.res.pos d hd
  ·simp only [n5];exact hc
  ·simp only [n6];exact Int.le_refl _
 ·rcases (his d).1 hd with hd' | rfl | rfl
  ·rw [(hold hd').1] at hl ⊢
   rw [(hold hd').2.2.1,(hold hd').2.2.2,(hold (h.ok.is d hd')).2.2.2];exact h.res.tot d hd' hl
  ·rw [n3];simp only [n1,n5,n6];omega
  ·rw [show (W.link u v).hd (v,W.deg v).1 (v,W.deg v).2=u from n2,l2] at hl;cases hl
 ·rcases laid d hd with hd | rfl
  ·unfold Nw.sent
   rw [(hold hd.1).2.2.1,(hold (h.ok.is d hd.1)).2.2.2];exact h.zero d hd
  ·unfold Nw.sent;rw [n3];exact n6
 ·rcases laid d hd with hd | rfl
  ·rw [(hold hd.1).1];exact h.sound d hd
  ·simp only [n1];exact ha
 ·have hd:=(his (2*k,i)).1 ⟨by show 2*k < W.N;rw [h.N];omega,hi⟩
  rcases hd with hd | hd | hd
  ·exact h.uniq k hk i hd.2 (by rw [←(hold hd).1];exact he)
  ·simp only [Prod.mk.injEq] at hd
   obtain ⟨e1,e2⟩:=hd
   rw [e1,e2,n1] at he
   rcases h0 with ⟨k',hk',e3,e4,e5⟩ | ⟨e3,_⟩
   ·rw [e2,e3];exact e5
   ·exact absurd ⟨e1.symm,by omega⟩ (e3 k hk)
  ·simp only [Prod.mk.injEq] at hd
   obtain ⟨e1,e2⟩:=hd
   rw [e1,e2,n2] at he
   exfalso
   rw [←e1] at ha he
   rw [he] at ha
   generalize hx:2*k+1=x at ha
   generalize hy:2*k=y at ha
   cases ha with
   | thru j _=>omega
   | edge a b _ _ hab _=>omega
   | first j _ _=>omega
   | last j _ _=>omega
 ·rw [Nw.link_deg hne] at hp
  by_cases hz:W.deg (2*k)=0
  ·rcases h0 with ⟨k',hk',e3,e4,e5⟩ | ⟨_,e4⟩
   ·by_cases e:2*k=u
    ·have:k=k':=by omega
     subst this
     have:=n1
     rw [←e,hz] at this
     rw [←e,this];exact e4
    ·rw [if_neg e] at hp
     by_cases e':2*k=v
     ·omega
     ·rw [if_neg e'] at hp;omega
   ·have:=e4 k hk;omega
  ·have hd:W.Is (2*k,0):=⟨by show 2*k < W.N;rw [h.N];omega,Nat.pos_of_ne_zero hz⟩
   have:=(hold hd).1
   rw [show (W.link u v).hd (2*k) 0=(W.link u v).hd (2*k,0).1 (2*k,0).2 from rfl,this]
   exact h.one k hk (Nat.pos_of_ne_zero hz)
 ·rw [Nw.link_deg hne]
  have h1:=h.small u
  have h2:=h.small v
  have h3:=h.small x
  split
  ·omega
  ·split <;> omega
theorem Nw.Has.old (hne:u≠v) (hu:u < W.N) (hv:v < W.N) {x y:Nat} (h:W.Has x y):(W.link u v).Has x y:=by
 obtain ⟨i,h1,h2⟩:=h
 exact ⟨i,(Nw.link_is hne hu hv _).2 (.inl h1),by rw [←h2];exact (Nw.link_old (d:=(x,i)) h1 (fun _ _=>0) 0).1⟩
theorem Nw.Has.new (hne:u≠v) (hu:u < W.N) (hv:v < W.N):(W.link u v).Has u v:=
 ⟨W.deg u,(Nw.link_is hne hu hv _).2 (.inr (.inl rfl)),(Nw.link_new (W:=W) hne (fun _ _=>0) 0).1⟩
theorem Nw.link_pos (hne:u≠v) {x:Nat} (h:0 < W.deg x):0 < (W.link u v).deg x:=by
 rw [Nw.link_deg hne]
 split
 ·omega
 ·split <;> omega
theorem LayI.done (h:LayI n E F T C most c W r) (hc:c≤400) (hp:∀ k,k < n→0 < W.deg (2*k)) (hA:∀ x y,ArcF n E F T x y→W.Has x y):Lay n E F T W∧Flw n C most W r:=by
 refine ⟨⟨h.N,h.ok,fun v hv=>⟨hp v hv,h.one v hv (hp v hv)⟩,h.uniq,h.sound,fun v u ha=>hA v u ha,fun v=>Nat.le_trans (h.small v) hc⟩,⟨h.res,fun v hv=>?_⟩⟩
 unfold Nw.out
 refine lsm_zero fun i hi=>?_
 have hd:W.Is (v,i):=⟨by rw [h.N];show v < _;omega,List.mem_range.1 hi⟩
 cases hl:ldF n v (W.hd v i)
 ·have h1:=h.ok.one _ hd
  have h2:W.Laid (ldF n) (W.rev (v,i)):=⟨h.ok.is _ hd,by
   rw [show W.hd (W.rev (v,i)).1 (W.rev (v,i)).2=(W.rev (W.rev (v,i))).1 from rfl,h.ok.inv _ hd]
   simp only at h1
   rw [hl] at h1
   show ldF n (W.hd v i) v=true
   cases h3:ldF n (W.hd v i) v
   ·rw [h3] at h1;cases h1
   ·rfl⟩
  have h3:=h.zero _ h2
  unfold Nw.sent at h3
  rw [h.ok.inv _ hd] at h3
  have h4:=Res.fl_not (r:=r) (d:=(v,i)) hl
  rw [h4,h3];rfl
 ·have h2:W.Laid (ldF n) (v,i):=⟨hd,hl⟩
  rw [(Res.fl_laid h.res h2).1];exact h.zero _ h2
theorem LayI.out0 (h:LayI n E F T C most c W r):W.out (ldF n) r (2*n)=0:=by
 unfold Nw.out
 refine lsm_zero fun i hi=>?_
 have hd:W.Is (2*n,i):=⟨by rw [h.N];show 2*n < _;omega,List.mem_range.1 hi⟩
 have h2:W.Laid (ldF n) (2*n,i):=⟨hd,by show ldF n (2*n) _=true;simp [ldF]⟩
 rw [(Res.fl_laid h.res h2).1];exact h.zero _ h2
end
end Go.Kz
