/-
  Networks of arcs, second part: many arcs at once, chains of arcs, the network of a graph, cuts and what is sent. Plain facts, no program.
-/
import Derived.Test.YtafhchecfmiieaaKzE1
set_option linter.unusedVariables false
set_option linter.unusedSimpArgs false
namespace Go.Kz
theorem lsm_sub {α:Type} [DecidableEq α] {f:α→Int} {l m:List α} (hl:l.Nodup) (hm:m.Nodup) (hs:∀ x∈m,x∈l) (h:∀ x∈l,x∉m→f x=0):lsm f l=lsm f m:=by
 have h1:(l.filter (fun x=>decide (x∈m))++l.filter fun x=>!decide (x∈m)).Perm l:=List.filter_append_perm _ l
 rw [←lsm_perm f h1,lsm_app,lsm_zero (l:=l.filter fun x=>!decide (x∈m)) fun x hx=>?_,Int.add_zero]
 ·refine lsm_perm f (Nw.perm_of (hl.filter _) hm fun x=>?_)
  rw [List.mem_filter,decide_eq_true_eq]
  exact ⟨fun h=>h.2,fun h=>⟨hs x h,h⟩⟩
 ·rw [List.mem_filter] at hx
  exact h x hx.1 (by simpa using hx.2)
theorem lsm_filter {α:Type} (f:α→Int) (p:α→Bool):(l:List α)→lsm (fun x=>if p x then f x else 0) l=lsm f (l.filter p)
 | []=>rfl
 | x :: l=>by
  cases h:p x
  ·rw [List.filter_cons_of_neg (by rw [h];exact Bool.false_ne_true)]
   simp only [lsm,h]
   rw [lsm_filter f p l];simp
  ·rw [List.filter_cons_of_pos h]
   simp only [lsm,h]
   rw [lsm_filter f p l];simp
namespace Nw
variable {W:Nw} {ld:Nat→Nat→Bool} {cap:Nat→Nat→Int} {r:Nat→Nat→Int}
def pushes (W:Nw) (r:Nat→Nat→Int) (l:List (Nat×Nat)) (a:Int):Nat→Nat→Int:=l.foldl (fun r d=>W.push r d a) r
theorem pushes_cons (W:Nw) (r:Nat→Nat→Int) (d:Nat×Nat) (l:List (Nat×Nat)) (a:Int):W.pushes r (d :: l) a=W.pushes (W.push r d a) l a:=rfl
theorem pushes_app (W:Nw) (r:Nat→Nat→Int) (l m:List (Nat×Nat)) (a:Int):W.pushes r (l++m) a=W.pushes (W.pushes r l a) m a:=List.foldl_append ..
theorem pushes_res (hW:W.Ok ld) {a:Int} (ha:0≤a):{l:List (Nat×Nat)}→{r:Nat→Nat→Int}→W.Res ld cap r→(∀ d∈l,W.Is d)→l.Nodup→(∀ d∈l,a≤r d.1 d.2)→W.Res ld cap (W.pushes r l a)
 | [],_,h,_,_,_=>h
 | d :: l,r,h,h1,h2,h3=>by
  have hn:=List.nodup_cons.1 h2
  have hd:=h1 d (by simp)
  have hr:=h.pos _ (hW.is d hd)
  rw [show W.pushes r (d :: l) a=W.pushes (W.push r d a) l a from rfl]
  refine pushes_res hW ha (h.push hW hd (h3 d (by simp)) (by omega)) (fun e he=>h1 e (by simp [he])) hn.2 fun e he=>?_
  have h4:=h3 e (by simp [he])
  by_cases e2:e=W.rev d
  ·subst e2;rw [push_rev hW r hd];omega
  ·rw [push_ne W r a (fun e3:e=d=>hn.1 (e3 ▸ he)) e2];exact h4
theorem rev_ld (hW:W.Ok ld) {d:Nat×Nat} (hd:W.Is d) (h:ld d.1 (W.hd d.1 d.2)=true):ld (W.rev d).1 (W.hd (W.rev d).1 (W.rev d).2)=false:=by
 have h1:=hW.one d hd
 rw [show W.hd (W.rev d).1 (W.rev d).2=(W.rev (W.rev d)).1 from rfl,hW.inv d hd,show (W.rev d).1=W.hd d.1 d.2 from rfl]
 rw [h] at h1
 cases h2:ld (W.hd d.1 d.2) d.1
 ·rfl
 ·rw [h2] at h1;cases h1
def sent (W:Nw) (r:Nat→Nat→Int) (d:Nat×Nat):Int:=r (W.rev d).1 (W.rev d).2
def Laid (W:Nw) (ld:Nat→Nat→Bool) (d:Nat×Nat):Prop:=W.Is d∧ld d.1 (W.hd d.1 d.2)=true
theorem laid_ne (hW:W.Ok ld) {d e:Nat×Nat} (hd:W.Laid ld d) (he:W.Laid ld e):e≠W.rev d:=fun h=>by
 have h1:=rev_ld hW hd.1 hd.2
 rw [←h,he.2] at h1
 cases h1
theorem sent_push (hW:W.Ok ld) (r:Nat→Nat→Int) {d e:Nat×Nat} (hd:W.Laid ld d) (he:W.Laid ld e) (a:Int):W.sent (W.push r d a) e=W.sent r e+(if e=d then a else 0):=by
 unfold sent
 by_cases h:e=d
 ·subst h;rw [push_rev hW r hd.1,if_pos rfl]
 ·rw [push_ne W r a (fun e3=>laid_ne hW he hd e3.symm) (fun e3=>h ((rev_eq hW hd.1 he.1).1 e3)),if_neg h,Int.add_zero]
theorem pushes_back (hW:W.Ok ld) {a:Int} (ha:0≤a):{l:List (Nat×Nat)}→{r:Nat→Nat→Int}→W.Res ld cap r→(∀ d∈l,W.Laid ld d)→l.Nodup→(∀ d∈l,a≤W.sent r d)→
  W.Res ld cap (W.pushes r l (-a))∧∀ e,W.Laid ld e→W.sent (W.pushes r l (-a)) e=W.sent r e-(if e∈l then a else 0)
 | [],_,h,_,_,_=>⟨h,fun e _=>by simp [pushes]⟩
 | d :: l,r,h,h1,h2,h3=>by
  have hn:=List.nodup_cons.1 h2
  have hd:=h1 d (by simp)
  have hr:=h.pos _ hd.1
  have h5:a≤r (W.rev d).1 (W.rev d).2:=h3 d (by simp)
  have key:=pushes_back hW ha (l:=l) (h.push hW hd.1 (a:=-a) (by omega) (by omega)) (fun e he=>h1 e (by simp [he])) hn.2 fun e he=>by
   rw [sent_push hW r hd (h1 e (by simp [he])),if_neg fun e3:e=d=>hn.1 (e3 ▸ he),Int.add_zero]
   exact h3 e (by simp [he])
  refine ⟨key.1,fun e he=>?_⟩
  rw [pushes_cons,key.2 e he,sent_push hW r hd he]
  by_cases e1:e=d
  ·subst e1
   rw [if_pos rfl,if_neg hn.1,if_pos (by simp)];omega
  ·rw [if_neg e1]
   by_cases e2:e∈l
   ·rw [if_pos e2,if_pos (by simp [e2])];omega
   ·rw [if_neg e2,if_neg (by simp [e1,e2])];omega
theorem out_pushes (hW:W.Ok ld) (a:Int) {v:Nat} (hv:v < W.N):{l:List (Nat×Nat)}→{r:Nat→Nat→Int}→(∀ d∈l,W.Is d)→
  W.out ld (W.pushes r l a) v=W.out ld r v+lsm (fun d=>(if v=d.1 then a else 0)-(if v=W.hd d.1 d.2 then a else 0)) l
 | [],_,_=>by simp [pushes,lsm]
 | d :: l,r,h=>by
  rw [pushes_cons,out_pushes hW a hv fun e he=>h e (by simp [he]),out_push hW r (h d (by simp)) a hv]
  simp only [lsm];omega
def Chn (W:Nw):Nat→List (Nat×Nat)→Nat→Prop
 | x,[],y=>x=y
 | x,d :: l,y=>d.1=x∧W.Chn (W.hd d.1 d.2) l y
theorem Chn.app {x y z:Nat}:{l m:List (Nat×Nat)}→W.Chn x l y→W.Chn y m z→W.Chn x (l++m) z
 | [],_,h,k=>by cases h;exact k
 | _ :: _,_,h,k=>⟨h.1,Chn.app h.2 k⟩
theorem Chn.split {x z:Nat}:{l m:List (Nat×Nat)}→W.Chn x (l++m) z→∃ y,W.Chn x l y∧W.Chn y m z
 | [],_,h=>⟨x,rfl,h⟩
 | d :: l,m,h=>by
  obtain ⟨y,h1,h2⟩:=Chn.split (l:=l) h.2
  exact ⟨y,⟨h.1,h1⟩,h2⟩
theorem Chn.sum {v:Nat} {a:Int} {y:Nat}:{x:Nat}→{l:List (Nat×Nat)}→W.Chn x l y→lsm (fun d=>(if v=d.1 then a else 0)-(if v=W.hd d.1 d.2 then a else 0)) l=(if v=x then a else 0)-(if v=y then a else 0)
 | _,[],h=>by cases h;simp [lsm]
 | x,d :: l,h=>by
  simp only [lsm]
  rw [Chn.sum h.2,h.1];omega
def Chb (W:Nw):Nat→List (Nat×Nat)→Nat→Prop
 | x,[],s=>x=s
 | x,d :: l,s=>W.hd d.1 d.2=x∧W.Chb d.1 l s
theorem Chb.sum {v:Nat} {a:Int} {s:Nat}:{x:Nat}→{l:List (Nat×Nat)}→W.Chb x l s→lsm (fun d=>(if v=d.1 then a else 0)-(if v=W.hd d.1 d.2 then a else 0)) l=(if v=s then a else 0)-(if v=x then a else 0)
 | _,[],h=>by cases h;simp [lsm]
 | x,d :: l,h=>by
  simp only [lsm]
  rw [Chb.sum h.2,h.1];omega
end Nw
def ldF (n v u:Nat):Bool:=decide (v=2*n) || (decide (v % 2=0) && decide (u=v+1)) || (decide (v % 2=1) && (decide (u=2*n+1) || (!decide (u+1=v) && decide (u % 2=0) && !decide (u=2*n))))
def capF (n:Nat) (C:Nat→Int) (most:Int) (v _u:Nat):Int:=if v < 2*n∧v % 2=0 then C (v / 2) else most
inductive ArcF (n:Nat) (E:List (Nat×Nat)) (F T:Nat→Bool):Nat→Nat→Prop
 | thru (k:Nat):k < n→ArcF n E F T (2*k) (2*k+1)
 | edge (a b:Nat):a < n→b < n→a≠b→(a,b)∈E→ArcF n E F T (2*a+1) (2*b)
 | first (k:Nat):k < n→F k=true→ArcF n E F T (2*n) (2*k)
 | last (k:Nat):k < n→T k=true→ArcF n E F T (2*k+1) (2*n+1)
theorem ArcF.ld {n:Nat} {E:List (Nat×Nat)} {F T:Nat→Bool} {v u:Nat} (h:ArcF n E F T v u):ldF n v u=true∧ldF n u v=false∧v < 2*n+2∧u < 2*n+2:=by
 cases h with
 | thru k hk=>
  refine ⟨?_,?_,by omega,by omega⟩
  ·simp [ldF]
  ·unfold ldF
   rw [decide_eq_false (show ¬ 2*k+1=2*n by omega),decide_eq_false (show ¬ (2*k+1) % 2=0 by omega),decide_eq_false (show ¬ 2*k=2*n+1 by omega),decide_eq_true (show 2*k+1=2*k+1 from rfl)];simp
 | edge a b ha hb hab he=>
  refine ⟨?_,?_,by omega,by omega⟩
  ·unfold ldF
   rw [decide_eq_true (show (2*a+1) % 2=1 by omega),decide_eq_false (show ¬ 2*b+1=2*a+1 by omega),decide_eq_true (show (2*b) % 2=0 by omega),decide_eq_false (show ¬ 2*b=2*n by omega)];simp
  ·unfold ldF
   rw [decide_eq_false (show ¬ 2*b=2*n by omega),decide_eq_false (show ¬ 2*a+1=2*b+1 by omega),decide_eq_false (show ¬ (2*b) % 2=1 by omega)];simp
 | first k hk _=>
  refine ⟨?_,?_,by omega,by omega⟩
  ·simp [ldF]
  ·unfold ldF
   rw [decide_eq_false (show ¬ 2*k=2*n by omega),decide_eq_false (show ¬ 2*n=2*k+1 by omega),decide_eq_false (show ¬ (2*k) % 2=1 by omega)];simp
 | last k hk _=>
  refine ⟨?_,?_,by omega,by omega⟩
  ·unfold ldF
   rw [decide_eq_true (show (2*k+1) % 2=1 by omega)];simp
  ·unfold ldF
   rw [decide_eq_false (show ¬ 2*n+1=2*n by omega),decide_eq_false (show ¬ (2*n+1) % 2=0 by omega),decide_eq_false (show ¬ 2*k+1=2*n+1 by omega),decide_eq_false (show ¬ (2*k+1) % 2=0 by omega)];simp
structure Lay (n:Nat) (E:List (Nat×Nat)) (F T:Nat→Bool) (W:Nw):Prop where
 N:W.N=2*n+2
 ok:W.Ok (ldF n)
 one:∀ v,v < n→0 < W.deg (2*v)∧W.hd (2*v) 0=2*v+1
 uniq:∀ v,v < n→∀ i,i < W.deg (2*v)→W.hd (2*v) i=2*v+1→i=0
 sound:∀ d,W.Laid (ldF n) d→ArcF n E F T d.1 (W.hd d.1 d.2)
 compl:∀ v u,ArcF n E F T v u→∃ i,W.Is (v,i)∧W.hd v i=u
 small:∀ v,W.deg v≤400
inductive Rch (E:List (Nat×Nat)) (F C:Nat→Bool):Nat→Prop
 | base (v:Nat):F v=true→C v=false→Rch E F C v
 | step (u v:Nat):Rch E F C u→(u,v)∈E→C v=false→Rch E F C v
def Sep (E:List (Nat×Nat)) (F T C:Nat→Bool):Prop:=∀ v,Rch E F C v→T v=false
theorem Rch.out {E:List (Nat×Nat)} {F C:Nat→Bool} {v:Nat} (h:Rch E F C v):C v=false:=by cases h <;> assumption
def thruL (n:Nat):List (Nat×Nat):=(List.range n).map fun k=>(2*k,0)
theorem thru_nodup (n:Nat):(thruL n).Nodup:=Nw.nodup_map List.nodup_range fun x _ y _ e=>by have:=congrArg Prod.fst e;simp only at this;omega
structure Flw (n:Nat) (C:Nat→Int) (most:Int) (W:Nw) (r:Nat→Nat→Int):Prop where
 res:W.Res (ldF n) (capF n C most) r
 keep:∀ v,v < 2*n→W.out (ldF n) r v=0
section
variable {n:Nat} {E:List (Nat×Nat)} {F T:Nat→Bool} {W:Nw} {C:Nat→Int} {most:Int} {r:Nat→Nat→Int}
theorem Lay.laid_of (hL:Lay n E F T W) {v u:Nat} (h:ArcF n E F T v u):∃ i,W.Laid (ldF n) (v,i)∧W.hd v i=u:=by
 obtain ⟨i,h1,h2⟩:=hL.compl v u h
 exact ⟨i,⟨h1,by show ldF n v (W.hd v i)=true;rw [h2];exact h.ld.1⟩,h2⟩
theorem Lay.thru (hL:Lay n E F T W) {k:Nat} (hk:k < n):W.Laid (ldF n) (2*k,0):=
 ⟨⟨by rw [hL.N];show 2*k < _;omega,(hL.one k hk).1⟩,by show ldF n (2*k) (W.hd (2*k) 0)=true;rw [(hL.one k hk).2];exact (ArcF.thru (E:=E) (F:=F) (T:=T) k hk).ld.1⟩
theorem Lay.even (hL:Lay n E F T W) {k:Nat} (hk:k < n) {i:Nat} (h:W.Laid (ldF n) (2*k,i)):i=0:=by
 refine hL.uniq k hk i h.1.2 ?_
 generalize hu:W.hd (2*k) i=u
 have h1:ArcF n E F T (2*k) u:=hu ▸ hL.sound _ h
 generalize hv:2*k=v at h1
 cases h1 with
 | thru j _=>rfl
 | edge a b _ _ _ _=>omega
 | first j _ _=>omega
 | last j _ _=>omega
theorem Res.fl_laid {ld:Nat→Nat→Bool} {cap:Nat→Nat→Int} (h:W.Res ld cap r) {d:Nat×Nat} (hd:W.Laid ld d):W.fl ld r d=W.sent r d∧W.sent r d=cap d.1 (W.hd d.1 d.2)-r d.1 d.2:=by
 refine ⟨by unfold Nw.fl;rw [if_pos hd.2];rfl,?_⟩
 have:=h.tot d hd.1 hd.2
 unfold Nw.sent;omega
theorem Res.fl_not {ld:Nat→Nat→Bool} {d:Nat×Nat} (hd:ld d.1 (W.hd d.1 d.2)=false):W.fl ld r d = - r d.1 d.2:=by
 unfold Nw.fl;rw [hd];simp
theorem Flw.across (hL:Lay n E F T W) (h:Flw n C most W r) {S:Nat→Bool} (h1:S (2*n)=true) (h2:S (2*n+1)=false) :
  W.out (ldF n) r (2*n)=lsm (fun d=>if S d.1 && !S (W.hd d.1 d.2) then W.fl (ldF n) r d else 0) W.darts:=by
 rw [←Nw.cut hL.ok r S]
 rw [lsm_sub (m:=[2*n]) List.nodup_range (by simp) (fun x hx=>by rw [List.mem_singleton] at hx;rw [List.mem_range,hL.N];omega) fun x hx hn=>?_]
 ·simp [lsm,h1]
 ·rw [List.mem_range,hL.N] at hx
  rw [List.mem_singleton] at hn
  by_cases e:x=2*n+1
  ·rw [e,h2];simp
  ·rw [h.keep x (by omega)];simp
theorem Flw.weak (hL:Lay n E F T W) (h:Flw n C most W r) {K:Nat→Bool} (hK:Sep E F T K) (hC:∀ k,k < n→0≤C k) :
  W.out (ldF n) r (2*n)≤lsm C ((List.range n).filter K):=by
 classical
 let S:Nat→Bool:=fun x=>decide (x=2*n∨(x < 2*n∧(Rch E F K (x / 2)∨(x % 2=0∧K (x / 2)=true))))
 have hS1:S (2*n)=true:=decide_eq_true (.inl rfl)
 have hS2:S (2*n+1)=false:=decide_eq_false fun h=>by rcases h with h | h <;> omega
 rw [h.across hL hS1 hS2]
 have e1:lsm C ((List.range n).filter K)=lsm (fun d=>if d∈thruL n∧K (d.1 / 2)=true then C (d.1 / 2) else 0) W.darts:=by
  rw [←lsm_filter,lsm_sub (l:=W.darts) (m:=thruL n) W.darts_nodup (thru_nodup n) (fun x hx=>?_) fun x hx hn=>by rw [if_neg fun h=>hn h.1]]
  ·unfold thruL
   rw [lsm_map]
   refine lsm_congr fun k hk=>?_
   have:(2*k,0)∈(List.range n).map fun k=>(2*k,0):=List.mem_map.2 ⟨k,hk,rfl⟩
   simp only [thruL,this,true_and,show 2*k / 2=k from by omega]
  ·obtain ⟨k,hk,rfl⟩:=List.mem_map.1 hx
   exact Nw.mem_darts.2 (hL.thru (List.mem_range.1 hk)).1
 rw [e1]
 refine lsm_le fun d hd=>?_
 have hd:=Nw.mem_darts.1 hd
 have hr0:(0:Int)≤if d∈thruL n∧K (d.1 / 2)=true then C (d.1 / 2) else 0:=by
  split
  ·next h1=>
   obtain ⟨k,hk,rfl⟩:=List.mem_map.1 h1.1
   have:=hC k (List.mem_range.1 hk)
   simpa [show 2*k / 2=k from by omega] using this
  ·exact Int.le_refl _
 by_cases hc:(S d.1 && !S (W.hd d.1 d.2))=true
 ·rw [if_pos hc]
  rw [Bool.and_eq_true,Bool.not_eq_true'] at hc
  cases hl:ldF n d.1 (W.hd d.1 d.2)
  ·rw [Res.fl_not hl]
   have:=h.res.pos d hd
   omega
  ·have hlaid:W.Laid (ldF n) d:=⟨hd,hl⟩
   obtain ⟨f1,f2⟩:=Res.fl_laid h.res hlaid
   rw [f1,f2]
   have hpos:=h.res.pos d hd
   have hs:=hL.sound d hlaid
   obtain ⟨hc1,hc2⟩:=hc
   have hc1:=of_decide_eq_true hc1
   have hc2:=of_decide_eq_false hc2
   generalize hv:d.1=v at hs hc1 hc2 hpos
   generalize hu:W.hd v d.2=u at hs hc2
   cases hs with
   | thru k hk=>
    have hi:d=(2*k,0):=by
     have:W.Laid (ldF n) (2*k,d.2):=by rw [←hv];exact hlaid
     rw [←hL.even hk this,←hv]
    have hKk:K k=true:=by
     cases hKk:K k
     ·exfalso
      rcases hc1 with h1 | ⟨h1,h2 | h2⟩
      ·omega
      ·rw [show 2*k / 2=k from by omega] at h2
       exact hc2 (.inr ⟨by omega,.inl (by rw [show (2*k+1) / 2=k from by omega];exact h2)⟩)
      ·rw [show 2*k / 2=k from by omega,hKk] at h2
       exact Bool.false_ne_true h2.2
     ·rfl
    rw [if_pos ⟨by rw [hi];exact List.mem_map.2 ⟨k,List.mem_range.2 hk,rfl⟩,by rw [show 2*k / 2=k from by omega];exact hKk⟩]
    unfold capF
    rw [if_pos ⟨by omega,by omega⟩]
    omega
   | edge a b ha hb hab he=>
    exfalso
    rcases hc1 with h1 | ⟨h1,h2 | h2⟩
    ·omega
    ·rw [show (2*a+1) / 2=a from by omega] at h2
     refine hc2 (.inr ⟨by omega,?_⟩)
     rw [show 2*b / 2=b from by omega]
     cases hKb:K b
     ·exact .inl (.step a b h2 he hKb)
     ·exact .inr ⟨by omega,rfl⟩
    ·omega
   | first k hk hF=>
    exfalso
    refine hc2 (.inr ⟨by omega,?_⟩)
    rw [show 2*k / 2=k from by omega]
    cases hKb:K k
    ·exact .inl (.base k hF hKb)
    ·exact .inr ⟨by omega,rfl⟩
   | last k hk hT=>
    exfalso
    rcases hc1 with h1 | ⟨h1,h2 | h2⟩
    ·omega
    ·rw [show (2*k+1) / 2=k from by omega] at h2
     rw [hK k h2] at hT
     exact Bool.false_ne_true hT
    ·omega
 ·rw [if_neg hc];exact hr0
theorem Flw.strong (hL:Lay n E F T W) (h:Flw n C most W r) (hE:∀ e∈E,e.1 < n∧e.2 < n) (hF:∀ k,F k=true→k < n) (hT:∀ k,T k=true→k < n) {R:Nat→Bool} (h1:R (2*n)=true) (h2:R (2*n+1)=false)
  (hcl:∀ d,W.Is d→R d.1=true→0 < r d.1 d.2→R (W.hd d.1 d.2)=true) (hC:∀ k,k < n→0≤C k) (hm0:0≤most) (hm:W.out (ldF n) r (2*n) < most) :
  W.out (ldF n) r (2*n)=lsm C ((List.range n).filter fun k=>R (2*k) && !R (2*k+1))∧Sep E F T (fun k=>R (2*k) && !R (2*k+1))∧∀ k,k < n→R (2*k)=true→R (2*k+1)=false→C k < most:=by
 have hx:=h.across hL h1 h2
 have hfl:∀ d,W.Is d→R d.1=true→R (W.hd d.1 d.2)=false→W.fl (ldF n) r d=if ldF n d.1 (W.hd d.1 d.2) then capF n C most d.1 (W.hd d.1 d.2) else 0:=by
  intro d hd r1 r2
  have hr:r d.1 d.2=0:=by
   have:=h.res.pos d hd
   by_cases hp:0 < r d.1 d.2
   ·have:=hcl d hd r1 hp
    rw [r2] at this;cases this
   ·omega
  cases hl:ldF n d.1 (W.hd d.1 d.2)
  ·rw [Res.fl_not hl,hr];rfl
  ·obtain ⟨f1,f2⟩:=Res.fl_laid h.res ⟨hd,hl⟩
   rw [f1,f2,hr];simp
 have hcap:∀ v u,0≤capF n C most v u:=fun v u=>by
  unfold capF
  split
  ·next h=>exact hC _ (by omega)
  ·exact hm0
 have hnn:∀ d∈W.darts,0≤if R d.1 && !R (W.hd d.1 d.2) then W.fl (ldF n) r d else 0:=by
  intro d hd
  split
  ·next hc=>
   rw [Bool.and_eq_true,Bool.not_eq_true'] at hc
   rw [hfl d (Nw.mem_darts.1 hd) hc.1 hc.2]
   split
   ·exact hcap _ _
   ·exact Int.le_refl _
  ·exact Int.le_refl _
 have hty:∀ v u,ArcF n E F T v u→R v=true→R u=false→∃ k,k < n∧v=2*k∧u=2*k+1∧C k < most:=by
  intro v u ha r1 r2
  obtain ⟨i,hlaid,hu⟩:=hL.laid_of ha
  have h3:=lsm_ge hnn (Nw.mem_darts.2 hlaid.1)
  rw [←hx] at h3
  simp only [hu,r1,r2,Bool.not_false,Bool.and_self,if_true] at h3
  rw [hfl _ hlaid.1 r1 (by rw [hu];exact r2),if_pos hlaid.2] at h3
  simp only [hu] at h3
  unfold capF at h3
  cases ha with
  | thru k hk=>
   rw [if_pos ⟨by omega,by omega⟩,show 2*k / 2=k from by omega] at h3
   exact ⟨k,hk,rfl,rfl,by omega⟩
  | edge a b _ _ _ _=>rw [if_neg (by omega)] at h3;omega
  | first k _ _=>rw [if_neg (by omega)] at h3;omega
  | last k _ _=>rw [if_neg (by omega)] at h3;omega
 refine ⟨?_,?_,fun k hk r1 r2=>?_⟩
 ·rw [hx,lsm_sub (l:=W.darts) (m:=thruL n) W.darts_nodup (thru_nodup n) (fun x hx=>?_) fun d hd hn=>?_,←lsm_filter]
  ·unfold thruL
   rw [lsm_map]
   refine lsm_congr fun k hk=>?_
   have hk:=List.mem_range.1 hk
   show (if (R (2*k) && !R (W.hd (2*k) 0))=true then W.fl (ldF n) r (2*k,0) else 0)=_
   rw [(hL.one k hk).2]
   cases hc:(R (2*k) && !R (2*k+1))
   ·rfl
   ·rw [if_pos rfl,if_pos rfl]
    rw [Bool.and_eq_true,Bool.not_eq_true'] at hc
    have hth:=hL.thru hk
    rw [hfl _ hth.1 hc.1 (by show R (W.hd (2*k) 0)=false;rw [(hL.one k hk).2];exact hc.2),if_pos hth.2]
    unfold capF
    rw [if_pos ⟨by show 2*k < _;omega,by show 2*k % 2=0;omega⟩,show (2*k,0).1 / 2=k from by show 2*k / 2=k;omega]
  ·obtain ⟨k,hk,rfl⟩:=List.mem_map.1 hx
   exact Nw.mem_darts.2 (hL.thru (List.mem_range.1 hk)).1
  ·cases hc:(R d.1 && !R (W.hd d.1 d.2))
   ·rfl
   ·rw [if_pos rfl]
    rw [Bool.and_eq_true,Bool.not_eq_true'] at hc
    have hd:=Nw.mem_darts.1 hd
    rw [hfl d hd hc.1 hc.2]
    cases hl:ldF n d.1 (W.hd d.1 d.2)
    ·rfl
    ·exfalso
     obtain ⟨k,hk,e1,e2,_⟩:=hty _ _ (hL.sound d ⟨hd,hl⟩) hc.1 hc.2
     have:W.Laid (ldF n) (2*k,d.2):=by rw [←e1];exact ⟨hd,hl⟩
     have e3:=hL.even hk this
     refine hn (List.mem_map.2 ⟨k,List.mem_range.2 hk,?_⟩)
     rw [←e1,←e3]
 ·have hin:∀ k,k < n→R (2*k)=true→(R (2*k) && !R (2*k+1))=false→R (2*k+1)=true:=fun k _ r1 r2=>by
   rw [r1] at r2;simpa using r2
  have key:∀ v,Rch E F (fun k=>R (2*k) && !R (2*k+1)) v→v < n∧R (2*v+1)=true:=by
   intro v hv
   induction hv with
   | base v hf hc=>
    have hvn:=hF v hf
    refine ⟨hvn,hin v hvn ?_ hc⟩
    cases hr:R (2*v)
    ·obtain ⟨k,hk,e,_⟩:=hty _ _ (.first v hvn hf) h1 hr
     omega
    ·rfl
   | step u v hu he hc ih=>
    have hvn:=(hE _ he).2
    by_cases e:u=v
    ·subst e;exact ih
    ·refine ⟨hvn,hin v hvn ?_ hc⟩
     cases hr:R (2*v)
     ·obtain ⟨k,hk,e,_⟩:=hty _ _ (.edge u v ih.1 hvn e he) ih.2 hr
      omega
     ·rfl
  intro v hv
  obtain ⟨k1,k2⟩:=key v hv
  cases ht:T v
  ·rfl
  ·obtain ⟨k,hk,e,_⟩:=hty _ _ (.last v k1 ht) k2 h2
   omega
 ·obtain ⟨j,hj,e1,e2,e3⟩:=hty _ _ (.thru k hk) r1 r2
  have:j=k:=by omega
  subst this;exact e3
end
end Go.Kz
