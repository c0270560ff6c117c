/-
  Networks of arcs, second part: many arcs at once, chains of arcs, the network of a graph, cuts and what is sent. Plain facts, no program.
-/
import Derived.Test.YtafhchecfmiieaaKzE1
set_option linter.unusedVariables false
set_option linter.unusedSimpArgs false
namespace Go.Kz
namespace Nw
variable {W:Nw} {ld:Nat→Nat→Bool} {cap:Nat→Nat→Int} {r:Nat→Nat→Int}
def sent (W:Nw) (r:Nat→Nat→Int) (d:Nat×Nat):Int:=r (W.rev d).1 (W.rev d).2
def Laid (W:Nw) (ld:Nat→Nat→Bool) (d:Nat×Nat):Prop:=W.Is d∧ld d.1 (W.hd d.1 d.2)=true
def Chn (W:Nw):Nat→List (Nat×Nat)→Nat→Prop
 | x,[],y=>x=y
 | x,d :: l,y=>d.1=x∧W.Chn (W.hd d.1 d.2) l y
theorem Chn.app {x y z:Nat}:{l m:List (Nat×Nat)}→W.Chn x l y→W.Chn y m z→W.Chn x (l++m) z
 | [],_,h,k=>by cases h;exact k
 | _ :: _,_,h,k=>⟨h.1,Chn.app h.2 k⟩
theorem Chn.split {x z:Nat}:{l m:List (Nat×Nat)}→W.Chn x (l++m) z→∃ y,W.Chn x l y∧W.Chn y m z
 | [],_,h=>⟨x,rfl,h⟩
 | d :: l,m,h=>by
  obtain ⟨y,h1,h2⟩:=Chn.split (l:=l) h.2
  exact ⟨y,⟨h.1,h1⟩,h2⟩
theorem Chn.sum {v:Nat} {a:Int} {y:Nat}:{x:Nat}→{l:List (Nat×Nat)}→W.Chn x l y→lsm (fun d=>(if v=d.1 then a else 0)-(if v=W.hd d.1 d.2 then a else 0)) l=(if v=x then a else 0)-(if v=y then a else 0)
 | _,[],h=>by cases h;simp [lsm]
 | x,d :: l,h=>by
  simp only [lsm]
  rw [Chn.sum h.2,h.1];omega
def Chb (W:Nw):Nat→List (Nat×Nat)→Nat→Prop
 | x,[],s=>x=s
 | x,d :: l,s=>W.hd d.1 d.2=x∧W.Chb d.1 l s
theorem Chb.sum {v:Nat} {a:Int} {s:Nat}:{x:Nat}→{l:List (Nat×Nat)}→W.Chb x l s→lsm (fun d=>(if v=d.1 then a else 0)-(if v=W.hd d.1 d.2 then a else 0)) l=(if v=s then a else 0)-(if v=x then a else 0)
 | _,[],h=>by cases h;simp [lsm]
 | x,d :: l,h=>by
  simp only [lsm]
  rw [Chb.sum h.2,h.1];omega
end Nw
def ldF (n v u:Nat):Bool:=decide (v=2*n) || (decide (v % 2=0) && decide (u=v+1)) || (decide (v % 2=1) && (decide (u=2*n+1) || (!decide (u+1=v) && decide (u % 2=0) && !decide (u=2*n))))
def capF (n:Nat) (C:Nat→Int) (most:Int) (v _u:Nat):Int:=if v < 2*n∧v % 2=0 then C (v / 2) else most
inductive ArcF (n:Nat) (E:List (Nat×Nat)) (F T:Nat→Bool):Nat→Nat→Prop
 | thru (k:Nat):k < n→ArcF n E F T (2*k) (2*k+1)
 | edge (a b:Nat):a < n→b < n→a≠b→(a,b)∈E→ArcF n E F T (2*a+1) (2*b)
 | first (k:Nat):k < n→F k=true→ArcF n E F T (2*n) (2*k)
 | last (k:Nat):k < n→T k=true→ArcF n E F T (2*k+1) (2*n+1)
theorem ArcF.ld {n:Nat} {E:List (Nat×Nat)} {F T:Nat→Bool} {v u:Nat} (h:ArcF n E F T v u):ldF n v u=true∧ldF n u v=false∧v < 2*n+2∧u < 2*n+2:=by
 cases h with
 | thru k hk=>
  refine ⟨?_,?_,by omega,by omega⟩
  ·simp [ldF]
  ·unfold ldF
   rw [decide_eq_false (show ¬ 2*k+1=2*n by omega),decide_eq_false (show ¬ (2*k+1) % 2=0 by omega),decide_eq_false (show ¬ 2*k=2*n+1 by omega),decide_eq_true (show 2*k+1=2*k+1 from rfl)];simp
 | edge a b ha hb hab he=>
  refine ⟨?_,?_,by omega,by omega⟩
  ·unfold ldF
   rw [decide_eq_true (show (2*a+1) % 2=1 by omega),decide_eq_false (show ¬ 2*b+1=2*a+1 by omega),decide_eq_true (show (2*b) % 2=0 by omega),decide_eq_false (show ¬ 2*b=2*n by omega)];simp
  ·unfold ldF
   rw [decide_eq_false (show ¬ 2*b=2*n by omega),decide_eq_false (show ¬ 2*a+1=2*b+1 by omega),decide_eq_false (show ¬ (2*b) % 2=1 by omega)];simp
 | first k hk _=>
  refine ⟨?_,?_,by omega,by omega⟩
  ·simp [ldF]
  ·unfold ldF
   rw [decide_eq_false (show ¬ 2*k=2*n by omega),decide_eq_false (show ¬ 2*n=2*k+1 by omega),decide_eq_false (show ¬ (2*k) % 2=1 by omega)];simp
 | last k hk _=>
  refine ⟨?_,?_,by omega,by omega⟩
  ·unfold ldF
   rw [decide_eq_true (show (2*k+1) % 2=1 by omega)];simp
  ·unfold ldF
   rw [decide_eq_false (show ¬ 2*n+1=2*n by omega),decide_eq_false (show ¬ (2*n+1) % 2=0 by omega),decide_eq_false (show ¬ 2*k+1=2*n+1 by omega),decide_eq_false (show ¬ (2*k+1) % 2=0 by omega)];simp
structure Lay (n:Nat) (E:List (Nat×Nat)) (F T:Nat→Bool) (W:Nw):Prop where
 N:W.N=2*n+2
 ok:W.Ok (ldF n)
 one:∀ v,v < n→0 < W.deg (2*v)∧W.hd (2*v) 0=2*v+1
 uniq:∀ v,v < n→∀ i,i < W.deg (2*v)→W.hd (2*v) i=2*v+1→i=0
 sound:∀ d,W.Laid (ldF n) d→ArcF n E F T d.1 (W.hd d.1 d.2)
 compl:∀ v u,ArcF n E F T v u→∃ i,W.Is (v,i)∧W.hd v i=u
 small:∀ v,W.deg v≤400
inductive Rch (E:List (Nat×Nat)) (F C:Nat→Bool):Nat→Prop
 | base (v:Nat):F v=true→C v=false→Rch E F C v
 | step (u v:Nat):Rch E F C u→(u,v)∈E→C v=false→Rch E F C v
def Sep (E:List (Nat×Nat)) (F T C:Nat→Bool):Prop:=∀ v,Rch E F C v→T v=false
theorem Rch.out {E:List (Nat×Nat)} {F C:Nat→Bool} {v:Nat} (h:Rch E F C v):C v=false:=by cases h <;> assumption
structure Flw (n:Nat) (C:Nat→Int) (most:Int) (W:Nw) (r:Nat→Nat→Int):Prop where
 res:W.Res (ldF n) (capF n C most) r
 keep:∀ v,v < 2*n→W.out (ldF n) r v=0
section
variable {n:Nat} {E:List (Nat×Nat)} {F T:Nat→Bool} {W:Nw} {C:Nat→Int} {most:Int} {r:Nat→Nat→Int}
theorem Lay.thru (hL:Lay n E F T W) {k:Nat} (hk:k < n):W.Laid (ldF n) (2*k,0):=
 ⟨⟨by rw [hL.N];show 2*k < _;omega,(hL.one k hk).1⟩,by show ldF n (2*k) (W.hd (2*k) 0)=true;rw [(hL.one k hk).2];exact (ArcF.thru (E:=E) (F:=F) (T:=T) k hk).ld.1⟩
theorem Res.fl_laid {ld:Nat→Nat→Bool} {cap:Nat→Nat→Int} (h:W.Res ld cap r) {d:Nat×Nat} (hd:W.Laid ld d):W.fl ld r d=W.sent r d∧W.sent r d=cap d.1 (W.hd d.1 d.2)-r d.1 d.2:=by
 refine ⟨by unfold Nw.fl;rw [if_pos hd.2];rfl,?_⟩
 have:=h.tot d hd.1 hd.2
 unfold Nw.sent;omega
theorem Res.fl_not {ld:Nat→Nat→Bool} {d:Nat×Nat} (hd:ld d.1 (W.hd d.1 d.2)=false):W.fl ld r d = - r d.1 d.2:=by
 unfold Nw.fl;rw [hd];simp
end
end Go.Kz
