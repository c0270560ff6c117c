/-
  Networks of arcs with reverse arcs: sums over arcs, what is sent, cuts. Plain facts, no program.
-/
import Derived.Test.YtafhchecfmiieaaKzAR
set_option linter.unusedVariables false
set_option linter.unusedSimpArgs false
namespace Go.Kz
def lsm {α:Type} (f:α→Int):List α→Int
 | []=>0
 | x :: l=>f x+lsm f l
theorem lsm_app {α:Type} (f:α→Int):(l m:List α)→lsm f (l++m)=lsm f l+lsm f m
 | [],m=>by simp [lsm]
 | x :: l,m=>by simp only [List.cons_append,lsm,lsm_app f l m];omega
theorem lsm_perm {α:Type} (f:α→Int) {l m:List α} (h:l.Perm m):lsm f l=lsm f m:=by
 induction h with
 | nil=>rfl
 | cons x _ ih=>simp only [lsm,ih]
 | swap x y l=>simp only [lsm];omega
 | trans _ _ h1 h2=>rw [h1,h2]
theorem lsm_map {α β:Type} (f:β→Int) (g:α→β):(l:List α)→lsm f (l.map g)=lsm (fun x=>f (g x)) l
 | []=>rfl
 | x :: l=>by simp only [List.map_cons,lsm,lsm_map f g l]
theorem lsm_congr {α:Type} {f g:α→Int}:{l:List α}→(∀ x∈l,f x=g x)→lsm f l=lsm g l
 | [],_=>rfl
 | x :: l,h=>by simp only [lsm];rw [h x (by simp),lsm_congr fun y hy=>h y (by simp [hy])]
theorem lsm_le {α:Type} {f g:α→Int}:{l:List α}→(∀ x∈l,f x≤g x)→lsm f l≤lsm g l
 | [],_=>Int.le_refl _
 | x :: l,h=>by simp only [lsm];have:=h x (by simp);have:=lsm_le fun y hy=>h y (List.mem_cons_of_mem x hy);omega
theorem lsm_neg {α:Type} (f:α→Int):(l:List α)→lsm (fun x=>- f x) l = - lsm f l
 | []=>rfl
 | x :: l=>by simp only [lsm,lsm_neg f l];omega
theorem lsm_add {α:Type} (f g:α→Int):(l:List α)→lsm (fun x=>f x+g x) l=lsm f l+lsm g l
 | []=>rfl
 | x :: l=>by simp only [lsm,lsm_add f g l];omega
theorem lsm_zero {α:Type} {f:α→Int} {l:List α} (h:∀ x∈l,f x=0):lsm f l=0:=by
 induction l with
 | nil=>rfl
 | cons x l ih=>simp only [lsm];rw [h x (by simp),ih fun y hy=>h y (by simp [hy])];rfl
theorem lsm_nonneg {α:Type} {f:α→Int} {l:List α} (h:∀ x∈l,0≤f x):0≤lsm f l:=by
 induction l with
 | nil=>exact Int.le_refl _
 | cons x l ih=>simp only [lsm];have:=h x (by simp);have:=ih fun y hy=>h y (by simp [hy]);omega
theorem lsm_flatMap {α β:Type} (f:β→Int) (g:α→List β):(l:List α)→lsm f (l.flatMap g)=lsm (fun x=>lsm f (g x)) l
 | []=>rfl
 | x :: l=>by simp only [List.flatMap_cons,lsm_app,lsm,lsm_flatMap f g l]
theorem lsm_one {α:Type} [DecidableEq α] {f g:α→Int} {l:List α} (hn:l.Nodup) {x:α} (hx:x∈l) {c:Int} (h1:g x=f x+c) (h2:∀ y∈l,y≠x→g y=f y):lsm g l=lsm f l+c:=by
 induction l with
 | nil=>cases hx
 | cons y l ih=>
  have hn':=List.nodup_cons.1 hn
  simp only [lsm]
  by_cases e:y=x
  ·subst e
   rw [h1,lsm_congr (f:=g) (g:=f) fun z hz=>h2 z (by simp [hz]) fun e=>hn'.1 (e ▸ hz)]
   omega
  ·have hxl:x∈l:=(List.mem_cons.1 hx).resolve_left fun h=>e h.symm
   rw [h2 y (by simp) e,ih hn'.2 hxl fun z hz=>h2 z (by simp [hz])]
   omega
theorem lsm_ge {α:Type} {f:α→Int} {l:List α} (h:∀ x∈l,0≤f x) {x:α} (hx:x∈l):f x≤lsm f l:=by
 induction l with
 | nil=>cases hx
 | cons y l ih=>
  simp only [lsm]
  have h1:=h y (by simp)
  have h2:0≤lsm f l:=lsm_nonneg fun z hz=>h z (by simp [hz])
  rcases List.mem_cons.1 hx with e | hx
  ·subst e;omega
  ·have:=ih (fun z hz=>h z (by simp [hz])) hx;omega
theorem lsm_const {α:Type} (c:Int):(l:List α)→lsm (fun _=>c) l=c*l.length
 | []=>by simp [lsm]
 | x :: l=>by simp only [lsm,lsm_const c l,List.length_cons,Int.natCast_add,Int.mul_add];simp;omega
theorem lsm_pos {α:Type} {f:α→Int} {l:List α} (h:0 < lsm f l):∃ x∈l,0 < f x:=by
 induction l with
 | nil=>simp [lsm] at h
 | cons x l ih=>
  simp only [lsm] at h
  by_cases hx:0 < f x
  ·exact ⟨x,by simp,hx⟩
  ·obtain ⟨y,hy,h2⟩:=ih (by omega)
   exact ⟨y,by simp [hy],h2⟩
structure Nw where
 N:Nat
 deg:Nat→Nat
 hd:Nat→Nat→Nat
 bk:Nat→Nat→Nat
namespace Nw
def Is (W:Nw) (d:Nat×Nat):Prop:=d.1 < W.N∧d.2 < W.deg d.1
def rev (W:Nw) (d:Nat×Nat):Nat×Nat:=(W.hd d.1 d.2,W.bk d.1 d.2)
structure Ok (W:Nw) (ld:Nat→Nat→Bool):Prop where
 is:∀ d,W.Is d→W.Is (W.rev d)
 inv:∀ d,W.Is d→W.rev (W.rev d)=d
 one:∀ d,W.Is d→ld d.1 (W.hd d.1 d.2) = !ld (W.hd d.1 d.2) d.1
def darts (W:Nw):List (Nat×Nat):=(List.range W.N).flatMap fun v=>(List.range (W.deg v)).map fun i=>(v,i)
theorem mem_darts {W:Nw} {d:Nat×Nat}:d∈W.darts↔W.Is d:=by
 unfold darts Is
 simp only [List.mem_flatMap,List.mem_range,List.mem_map]
 constructor
 ·rintro ⟨v,hv,i,hi,rfl⟩;exact ⟨hv,hi⟩
 ·rintro ⟨h1,h2⟩;exact ⟨d.1,h1,d.2,h2,rfl⟩
theorem nodup_flat {α β:Type} {g:α→List β}:{l:List α}→l.Nodup→(∀ x∈l,(g x).Nodup)→(∀ x∈l,∀ y∈l,∀ z,z∈g x→z∈g y→x=y)→(l.flatMap g).Nodup
 | [],_,_,_=>List.nodup_nil
 | x :: l,h,h1,h2=>by
  have hn:=List.nodup_cons.1 h
  rw [List.flatMap_cons]
  refine List.nodup_append.2 ⟨h1 x (by simp),nodup_flat hn.2 (fun y hy=>h1 y (by simp [hy])) (fun y hy z hz=>h2 y (by simp [hy]) z (by simp [hz])),fun a ha b hb e=>?_⟩
  subst e
  obtain ⟨y,hy,hb⟩:=List.mem_flatMap.1 hb
  exact hn.1 ((h2 x (by simp) y (by simp [hy]) a ha hb) ▸ hy)
theorem nodup_map {α β:Type} {g:α→β}:{l:List α}→l.Nodup→(∀ x∈l,∀ y∈l,g x=g y→x=y)→(l.map g).Nodup
 | [],_,_=>List.nodup_nil
 | x :: l,h,h1=>by
  have hn:=List.nodup_cons.1 h
  rw [List.map_cons]
  refine List.nodup_cons.2 ⟨fun hm=>?_,nodup_map hn.2 fun y hy z hz=>h1 y (by simp [hy]) z (by simp [hz])⟩
  obtain ⟨y,hy,e⟩:=List.mem_map.1 hm
  exact hn.1 ((h1 x (by simp) y (by simp [hy]) e.symm) ▸ hy)
theorem darts_nodup (W:Nw):W.darts.Nodup:=by
 refine nodup_flat List.nodup_range (fun v _=>nodup_map List.nodup_range fun i _ j _ e=>by simpa using e) fun x _ y _ z hx hy=>?_
 obtain ⟨i,_,rfl⟩:=List.mem_map.1 hx
 obtain ⟨j,_,e⟩:=List.mem_map.1 hy
 exact (Prod.mk.inj e).1.symm
theorem perm_of {α:Type} [DecidableEq α]:{l m:List α}→l.Nodup→m.Nodup→(∀ x,x∈l↔x∈m)→l.Perm m
 | l,m,h1,h2,h=>by
  rw [List.perm_iff_count]
  intro a
  have c1:∀ {l:List α},l.Nodup→l.count a=if a∈l then 1 else 0:=by
   intro l hl
   split
   ·next h=>exact Nat.le_antisymm (List.nodup_iff_count.1 hl a) (List.count_pos_iff.2 h)
   ·next h=>exact List.count_eq_zero_of_not_mem h
  rw [c1 h1,c1 h2]
  simp only [h a]
theorem darts_rev {W:Nw} {ld:Nat→Nat→Bool} (h:W.Ok ld):(W.darts.map W.rev).Perm W.darts:=by
 refine perm_of (nodup_map W.darts_nodup fun x hx y hy e=>?_) W.darts_nodup fun d=>?_
 ·rw [←h.inv x (mem_darts.1 hx),←h.inv y (mem_darts.1 hy),e]
 ·constructor
  ·intro hd
   obtain ⟨x,hx,rfl⟩:=List.mem_map.1 hd
   exact mem_darts.2 (h.is x (mem_darts.1 hx))
  ·intro hd
   exact List.mem_map.2 ⟨W.rev d,mem_darts.2 (h.is d (mem_darts.1 hd)),h.inv d (mem_darts.1 hd)⟩
theorem anti {W:Nw} {ld:Nat→Nat→Bool} (h:W.Ok ld) {f:Nat×Nat→Int} (hf:∀ d,W.Is d→f (W.rev d) = - f d):lsm f W.darts=0:=by
 have h1:=lsm_perm f (darts_rev h)
 rw [lsm_map,lsm_congr (g:=fun d=>- f d) fun d hd=>hf d (mem_darts.1 hd),lsm_neg] at h1
 omega
def fl (W:Nw) (ld:Nat→Nat→Bool) (r:Nat→Nat→Int) (d:Nat×Nat):Int:=
 if ld d.1 (W.hd d.1 d.2) then r (W.rev d).1 (W.rev d).2 else-r d.1 d.2
theorem fl_rev {W:Nw} {ld:Nat→Nat→Bool} (h:W.Ok ld) (r:Nat→Nat→Int) {d:Nat×Nat} (hd:W.Is d):W.fl ld r (W.rev d) = - W.fl ld r d:=by
 have h1:=h.one d hd
 have h2:=h.inv d hd
 unfold fl
 rw [show W.hd (W.rev d).1 (W.rev d).2=(W.rev (W.rev d)).1 from rfl,h2,show (W.rev d).1=W.hd d.1 d.2 from rfl,show (W.rev d).2=W.bk d.1 d.2 from rfl]
 cases h3:ld d.1 (W.hd d.1 d.2) <;> rw [h3] at h1 <;> cases h4:ld (W.hd d.1 d.2) d.1 <;> simp_all
def out (W:Nw) (ld:Nat→Nat→Bool) (r:Nat→Nat→Int) (v:Nat):Int:=lsm (fun i=>W.fl ld r (v,i)) (List.range (W.deg v))
theorem sum_out (W:Nw) (ld:Nat→Nat→Bool) (r:Nat→Nat→Int) (S:Nat→Bool) :
  lsm (fun v=>if S v then W.out ld r v else 0) (List.range W.N)=lsm (fun d=>if S d.1 then W.fl ld r d else 0) W.darts:=by
 unfold darts
 rw [lsm_flatMap]
 refine lsm_congr fun v _=>?_
 rw [lsm_map]
 cases h:S v
 ·rw [if_neg Bool.false_ne_true]
  exact (lsm_zero fun i _=>by show (if S v then _ else _)=_;rw [h,if_neg Bool.false_ne_true]).symm
 ·rw [if_pos rfl]
  exact lsm_congr fun i _=>by show _=(if S v then _ else _);rw [h,if_pos rfl]
theorem cut {W:Nw} {ld:Nat→Nat→Bool} (h:W.Ok ld) (r:Nat→Nat→Int) (S:Nat→Bool) :
  lsm (fun v=>if S v then W.out ld r v else 0) (List.range W.N)=lsm (fun d=>if S d.1 && !S (W.hd d.1 d.2) then W.fl ld r d else 0) W.darts:=by
 rw [sum_out]
 have h1:=anti h (f:=fun d=>if S d.1 && S (W.hd d.1 d.2) then W.fl ld r d else 0) fun d hd=>by
  show (if S (W.rev d).1 && S (W.rev (W.rev d)).1 then W.fl ld r (W.rev d) else 0)=_
  rw [h.inv d hd,fl_rev h r hd,show (W.rev d).1=W.hd d.1 d.2 from rfl,Bool.and_comm]
  split <;> simp
 have h2:=lsm_add (fun d=>if S d.1 && S (W.hd d.1 d.2) then W.fl ld r d else 0) (fun d=>if S d.1 && !S (W.hd d.1 d.2) then W.fl ld r d else 0) W.darts
 rw [h1,Int.zero_add] at h2
 rw [←h2]
 refine lsm_congr fun d _=>?_
 cases S d.1 <;> cases S (W.hd d.1 d.2) <;> simp
structure Res (W:Nw) (ld:Nat→Nat→Bool) (cap:Nat→Nat→Int) (r:Nat→Nat→Int):Prop where
 pos:∀ d,W.Is d→0≤r d.1 d.2
 tot:∀ d,W.Is d→ld d.1 (W.hd d.1 d.2)=true→r d.1 d.2+r (W.rev d).1 (W.rev d).2=cap d.1 (W.hd d.1 d.2)
def push (W:Nw) (r:Nat→Nat→Int) (d:Nat×Nat) (a:Int):Nat→Nat→Int:=fun v i=>
 if (v,i)=d then r v i-a else if (v,i)=W.rev d then r v i+a else r v i
theorem ne_rev {W:Nw} {ld:Nat→Nat→Bool} (h:W.Ok ld) {d:Nat×Nat} (hd:W.Is d):d.1≠W.hd d.1 d.2:=fun e=>by
 have h1:=h.one d hd
 rw [←e] at h1
 cases h2:ld d.1 d.1 <;> rw [h2] at h1 <;> cases h1
theorem push_at (W:Nw) (r:Nat→Nat→Int) (d:Nat×Nat) (a:Int):W.push r d a d.1 d.2=r d.1 d.2-a:=by simp [push]
theorem push_rev {W:Nw} {ld:Nat→Nat→Bool} (h:W.Ok ld) (r:Nat→Nat→Int) {d:Nat×Nat} (hd:W.Is d) (a:Int):W.push r d a (W.rev d).1 (W.rev d).2=r (W.rev d).1 (W.rev d).2+a:=by
 unfold push
 rw [if_neg fun e=>ne_rev h hd (congrArg Prod.fst e).symm,if_pos rfl]
theorem push_ne (W:Nw) (r:Nat→Nat→Int) {d e:Nat×Nat} (a:Int) (h1:e≠d) (h2:e≠W.rev d):W.push r d a e.1 e.2=r e.1 e.2:=by
 unfold push
 rw [if_neg h1,if_neg h2]
theorem rev_eq {W:Nw} {ld:Nat→Nat→Bool} (h:W.Ok ld) {d e:Nat×Nat} (hd:W.Is d) (he:W.Is e):W.rev e=W.rev d↔e=d:=by
 constructor
 ·intro e1
  rw [←h.inv e he,e1,h.inv d hd]
 ·rintro rfl;rfl
theorem rev_eq' {W:Nw} {ld:Nat→Nat→Bool} (h:W.Ok ld) {d e:Nat×Nat} (hd:W.Is d) (he:W.Is e):W.rev e=d↔e=W.rev d:=by
 constructor
 ·rintro rfl;exact (h.inv e he).symm
 ·rintro rfl;exact h.inv d hd
theorem Res.push {W:Nw} {ld:Nat→Nat→Bool} {cap:Nat→Nat→Int} {r:Nat→Nat→Int} (hW:W.Ok ld) (h:W.Res ld cap r) {d:Nat×Nat} (hd:W.Is d) {a:Int} (h1:a≤r d.1 d.2) (h2 : - a≤r (W.rev d).1 (W.rev d).2):W.Res ld cap (W.push r d a):=by
 refine ⟨fun e he=>?_,fun e he hl=>?_⟩
 ·by_cases e1:e=d
  ·subst e1;rw [push_at];omega
  ·by_cases e2:e=W.rev d
   ·subst e2;rw [push_rev hW r hd];omega
   ·rw [push_ne W r a e1 e2];exact h.pos e he
 ·rw [←h.tot e he hl]
  by_cases e1:e=d
  ·subst e1;rw [push_at,push_rev hW r hd];omega
  ·by_cases e2:e=W.rev d
   ·subst e2
    rw [push_rev hW r hd,hW.inv d hd,push_at];omega
   ·rw [push_ne W r a e1 e2,push_ne W r a (fun e3=>e2 ((rev_eq' hW hd he).1 e3)) (fun e3=>e1 ((rev_eq hW hd he).1 e3))]
theorem fl_push {W:Nw} {ld:Nat→Nat→Bool} (hW:W.Ok ld) (r:Nat→Nat→Int) {d e:Nat×Nat} (hd:W.Is d) (he:W.Is e) (a:Int) :
  W.fl ld (W.push r d a) e=W.fl ld r e+(if e=d then a else 0)-(if e=W.rev d then a else 0):=by
 have key:∀ e,W.Is e→e≠W.rev d→W.fl ld (W.push r d a) e=W.fl ld r e+(if e=d then a else 0):=by
  intro e he hne
  by_cases e1:e=d
  ·subst e1
   unfold fl
   rw [push_at,push_rev hW r hd,if_pos rfl]
   split <;> omega
  ·unfold fl
   rw [push_ne W r a e1 hne,push_ne W r a (fun e3=>hne ((rev_eq' hW hd he).1 e3)) (fun e3=>e1 ((rev_eq hW hd he).1 e3)),if_neg e1]
   omega
 by_cases e2:e=W.rev d
 ·have h1:=key d hd fun e3=>ne_rev hW hd (congrArg Prod.fst e3)
  rw [if_pos rfl] at h1
  rw [e2,fl_rev hW _ hd,fl_rev hW _ hd,h1,if_neg fun e3=>ne_rev hW hd (congrArg Prod.fst e3).symm,if_pos rfl]
  omega
 ·rw [key e he e2,if_neg e2];omega
theorem out_push {W:Nw} {ld:Nat→Nat→Bool} (hW:W.Ok ld) (r:Nat→Nat→Int) {d:Nat×Nat} (hd:W.Is d) (a:Int) {v:Nat} (hv:v < W.N) :
  W.out ld (W.push r d a) v=W.out ld r v+(if v=d.1 then a else 0)-(if v=W.hd d.1 d.2 then a else 0):=by
 have hne:=ne_rev hW hd
 unfold out
 by_cases e1:v=d.1
 ·subst e1
  rw [if_pos rfl,if_neg hne,Int.sub_zero]
  refine lsm_one List.nodup_range (x:=d.2) (List.mem_range.2 hd.2) ?_ fun i hi hid=>?_
  ·have h1:=fl_push (d:=d) (e:=(d.1,d.2)) hW r hd hd a
   rw [if_pos rfl,if_neg fun e3=>hne (congrArg Prod.fst e3)] at h1
   omega
  ·have h1:=fl_push (d:=d) (e:=(d.1,i)) hW r hd ⟨hv,List.mem_range.1 hi⟩ a
   rw [if_neg fun e3=>hid (congrArg Prod.snd e3),if_neg fun e3=>hne (congrArg Prod.fst e3)] at h1
   omega
 ·rw [if_neg e1]
  by_cases e2:v=W.hd d.1 d.2
  ·subst e2
   rw [if_pos rfl,Int.add_zero]
   have hr:=hW.is d hd
   rw [Int.sub_eq_add_neg]
   refine lsm_one List.nodup_range (x:=(W.rev d).2) (List.mem_range.2 hr.2) ?_ fun i hi hid=>?_
   ·have h1:=fl_push (d:=d) (e:=W.rev d) hW r hd hr a
    rw [if_neg fun e3=>e1 (congrArg Prod.fst e3),if_pos rfl] at h1
    show W.fl ld (W.push r d a) (W.rev d)=W.fl ld r (W.rev d)+_
    omega
   ·have h1:=fl_push (d:=d) (e:=(W.hd d.1 d.2,i)) hW r hd ⟨hv,List.mem_range.1 hi⟩ a
    rw [if_neg fun e3=>e1 (congrArg Prod.fst e3),if_neg fun e3=>hid (congrArg Prod.snd e3)] at h1
    omega
  ·rw [if_neg e2,Int.add_zero,Int.sub_zero]
   refine lsm_congr fun i hi=>?_
   have h1:=fl_push (d:=d) (e:=(v,i)) hW r hd ⟨hv,List.mem_range.1 hi⟩ a
   rw [if_neg fun e3=>e1 (congrArg Prod.fst e3),if_neg fun e3=>e2 (congrArg Prod.fst e3)] at h1
   omega
end Nw
end Go.Kz
