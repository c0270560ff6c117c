/-
  Layer 07, plain: the greatest flow.
-/
import Derived.Test.YtafhchecfmiieaaKzE6
set_option linter.unusedVariables false
set_option linter.unusedSimpArgs false
namespace Go.Kz
theorem Yld.iterM {α R:Type} {Q:R→Prop} {F:(α→Option R)→α→Option R} (Inv:Nat→α→Prop)
  (step:∀ (m:Nat) (x:α) (w:α→Option R),Inv m x→(∀ m' x',m' < m→Inv m' x'→Yld (w x') Q)→Yld (F w x) Q):∀ (N m:Nat) (x:α),m < N→Inv m x→Yld (Go.Kz.iter F N x) Q
 | 0,m,x,h,_=>by omega
 | N+1,m,x,h,hI=>by
  show Yld (F (Go.Kz.iter F N) x) Q
  exact step m x _ hI fun m' x' hm hI'=>Yld.iterM Inv step N m' x' (by omega) hI'
section
variable {n:Nat} {E:List (Nat×Nat)} {F T:Nat→Bool} {W:Nw} {C:Nat→Int} {most:Int} {r:Nat→Nat→Int}
theorem Res.le {ld:Nat→Nat→Bool} {cap:Nat→Nat→Int} (hW:W.Ok ld) (h:W.Res ld cap r) {mx:Int} (hc:∀ v u,cap v u≤mx) {d:Nat×Nat} (hd:W.Is d):0≤r d.1 d.2∧r d.1 d.2≤mx:=by
 refine ⟨h.pos d hd,?_⟩
 have hr:=hW.is d hd
 have h1:=h.pos _ hr
 cases hl:ld d.1 (W.hd d.1 d.2)
 ·have h2:=hW.one d hd
  rw [hl] at h2
  have h3:ld (W.rev d).1 (W.hd (W.rev d).1 (W.rev d).2)=true:=by
   rw [show W.hd (W.rev d).1 (W.rev d).2=(W.rev (W.rev d)).1 from rfl,hW.inv d hd]
   show ld (W.hd d.1 d.2) d.1=true
   cases h4:ld (W.hd d.1 d.2) d.1
   ·rw [h4] at h2;cases h2
   ·rfl
  have h4:=h.tot _ hr h3
  rw [hW.inv d hd] at h4
  have:=hc (W.rev d).1 (W.hd (W.rev d).1 (W.rev d).2)
  omega
 ·have h4:=h.tot _ hd hl
  have:=hc d.1 (W.hd d.1 d.2)
  omega
theorem Flw.more (hL:Lay n E F T W) (h:Flw n C most W r) {l:List (Nat×Nat)} (hl:W.Chb (2*n+1) l (2*n)) (hi:∀ d∈l,W.Is d) (hn:l.Nodup) {a:Int} (ha:0≤a) (har:∀ d∈l,a≤r d.1 d.2) :
  Flw n C most W (W.pushes r l a)∧W.out (ldF n) (W.pushes r l a) (2*n)=W.out (ldF n) r (2*n)+a:=by
 have ho:∀ v,v < 2*n+2→W.out (ldF n) (W.pushes r l a) v=W.out (ldF n) r v+((if v=2*n then a else 0)-(if v=2*n+1 then a else 0)):=fun v hv=>by
  rw [Nw.out_pushes hL.ok a (by rw [hL.N];exact hv) hi,hl.sum]
 refine ⟨⟨Nw.pushes_res hL.ok ha h.res hi hn har,fun v hv=>?_⟩,?_⟩
 ·rw [ho v (by omega),h.keep v hv,if_neg (by omega),if_neg (by omega)];rfl
 ·rw [ho _ (by omega),if_pos rfl,if_neg (by omega)];omega
theorem f31_min {P I:Nat→Int} {l:List (Nat×Nat)} {x:Nat} (hN:W.N=2*n+2) (hl:l≠[]) (hp:Pth P I (2*n) x l) (hx:x < W.N) (hi:∀ d∈l,W.Is d∧0 < r d.1 d.2) (hll:l.length≤3000)
  {R:Type} {Q:R→Prop} (T0:Int) {kx:Int→Option R} (hk:∀ a,1≤a→(∀ d∈l,a≤r d.1 d.2)→Yld (kx a) Q) :
  Yld (iter (fun w=>f31_L6 10000000000000000 (wayL W.N P I) ((2*n:Nat):Int) T0 (W.enc r) w kx) 10000000000000000 ((x:Int),-1)) Q:=by
 refine Yld.iterM (fun m (st:Int×Int)=>∃ (l1 l2:List (Nat×Nat)) (y:Nat) (t:Int),st=((y:Int),t)∧y < W.N∧m=l2.length∧Pth P I (2*n) y l2∧l=l1++l2∧((l1=[]∧t = -1)∨(1≤t∧∀ d∈l1,t≤r d.1 d.2))) ?_ 10000000000000000 l.length _ (by omega) ⟨[],l,x,-1,rfl,hx,rfl,hp,rfl,.inl ⟨rfl,rfl⟩⟩
 rintro m st w ⟨l1,l2,y,t,rfl,hy,rfl,hp2,hl2,ht⟩ hw
 simp only [f31_L6]
 cases l2 with
 | nil=>
  have e:y=2*n:=hp2
  subst e
  rw [d_true rfl,Bool.not_true,cond_false]
  rw [List.append_nil] at hl2
  subst hl2
  rcases ht with ⟨h1,_⟩ | ⟨h1,h2⟩
  ·exact absurd h1 hl
  ·exact hk t h1 h2
 | cons d l2=>
  obtain ⟨k1,k2,k3,k4⟩:=hp2
  have hd:=hi d (by rw [hl2];simp)
  rw [d_false (show ¬ (y:Int)=((2*n:Nat):Int) by omega),Bool.not_false,cond_true]
  have e1:[P y,I y]=[(d.1:Int),(d.2:Int)]:=by rw [k2,k3]
  simp only [way_inb P I hy,way_idx P I hy,e1,chk_true,Option.bind_some]
  simp only [show inb [(d.1:Int),(d.2:Int)] 0=true from rfl,show inb [(d.1:Int),(d.2:Int)] 1=true from rfl,show idx [(d.1:Int),(d.2:Int)] 0=some (d.1:Int) from rfl,show idx [(d.1:Int),(d.2:Int)] 1=some (d.2:Int) from rfl,chk_true,Option.bind_some,Nw.enc_inb r hd.1.1,Nw.enc_idx r hd.1.1,Nw.row_inb r hd.1.2,Nw.row_idx r hd.1.2]
  have ea:W.arcD r d.1 d.2=((W.hd d.1 d.2:Int),(r d.1 d.2,((W.bk d.1 d.2:Int),()))):=rfl
  simp only [ea]
  rw [bindc]
  have app:l=(l1++[d])++l2:=by rw [hl2];simp
  by_cases hc:t < 0∨r d.1 d.2 < t
  ·rw [show (decide (t < 0) || decide (r d.1 d.2 < t))=true from by simpa using hc,cond_true]
   refine hw l2.length _ (by simp) ⟨l1++[d],l2,d.1,r d.1 d.2,rfl,hd.1.1,rfl,k4,app,.inr ⟨hd.2,fun e he=>?_⟩⟩
   rcases List.mem_append.1 he with he | he
   ·rcases ht with ⟨h1,_⟩ | ⟨h1,h2⟩
    ·rw [h1] at he;cases he
    ·have:=h2 e he
     rcases hc with hc | hc <;> omega
   ·rw [List.mem_singleton] at he;subst he;exact Int.le_refl _
  ·rw [show (decide (t < 0) || decide (r d.1 d.2 < t))=false from by simpa using hc,cond_false]
   refine hw l2.length _ (by simp) ⟨l1++[d],l2,d.1,t,rfl,hd.1.1,rfl,k4,app,.inr ?_⟩
   rcases ht with ⟨_,h1⟩ | ⟨h1,h2⟩
   ·exact absurd (.inl (by omega)) hc
   ·refine ⟨h1,fun e he=>?_⟩
    rcases List.mem_append.1 he with he | he
    ·exact h2 e he
    ·rw [List.mem_singleton] at he;subst he;omega
theorem f31_push {P I:Nat→Int} {l:List (Nat×Nat)} {x:Nat} {ld:Nat→Nat→Bool} {cap:Nat→Nat→Int} (hW:W.Ok ld) (hR:W.Res ld cap r) {mx:Int} (hc:∀ v u,cap v u≤mx) (hmx:mx≤1000000000000000) (hp:Pth P I (2*n) x l) (hx:x < W.N) (hi:∀ d∈l,W.Is d) (hn:l.Nodup) (hll:l.length≤3000)
  {a:Int} (ha:0≤a) (har:∀ d∈l,a≤r d.1 d.2) {R:Type} {Q:R→Prop} (T0:Int) {kx:Int→Int→List (List ArcD)→Option R} (hk:Yld (kx ((2*n:Nat):Int) T0 (W.enc (W.pushes r l a))) Q) :
  Yld (iter (fun w=>f31_L12 10000000000000000 a (wayL W.N P I) w kx) 10000000000000000 ((x:Int),((2*n:Nat):Int),T0,W.enc r)) Q:=by
 refine Yld.iterM (fun m (st:Int×Int×Int×List (List ArcD))=>∃ (l1 l2:List (Nat×Nat)) (y:Nat),st=((y:Int),((2*n:Nat):Int),T0,W.enc (W.pushes r l1 a))∧y < W.N∧m=l2.length∧Pth P I (2*n) y l2∧l=l1++l2) ?_ 10000000000000000 l.length _ (by omega) ⟨[],l,x,rfl,hx,rfl,hp,rfl⟩
 rintro m st w ⟨l1,l2,y,rfl,hy,rfl,hp2,hl2⟩ hw
 simp only [f31_L12]
 cases l2 with
 | nil=>
  have e:y=2*n:=hp2
  subst e
  rw [d_true rfl,Bool.not_true,cond_false]
  rw [List.append_nil] at hl2
  subst hl2
  exact hk
 | cons d l2=>
  obtain ⟨k1,k2,k3,k4⟩:=hp2
  have hd:=hi d (by rw [hl2];simp)
  have app:l=(l1++[d])++l2:=by rw [hl2];simp
  rw [d_false (show ¬ (y:Int)=((2*n:Nat):Int) by omega),Bool.not_false,cond_true]
  have e1:[P y,I y]=[(d.1:Int),(d.2:Int)]:=by rw [k2,k3]
  simp only [way_inb P I hy,way_idx P I hy,e1,chk_true,Option.bind_some]
  simp only [show inb [(d.1:Int),(d.2:Int)] 0=true from rfl,show inb [(d.1:Int),(d.2:Int)] 1=true from rfl,show idx [(d.1:Int),(d.2:Int)] 0=some (d.1:Int) from rfl,show idx [(d.1:Int),(d.2:Int)] 1=some (d.2:Int) from rfl,chk_true,Option.bind_some]
  have n1:l1.Nodup:=by rw [hl2] at hn;exact (List.nodup_append.1 hn).1
  have n2:(l1++[d]).Nodup:=by rw [app] at hn;exact (List.nodup_append.1 hn).1
  have r1:=Nw.pushes_res hW ha hR (l:=l1) (fun e he=>hi e (by rw [hl2];simp [he])) n1 (fun e he=>har e (by rw [hl2];simp [he]))
  have r2:=Nw.pushes_res hW ha hR (l:=l1++[d]) (fun e he=>hi e (by rw [app];exact List.mem_append.2 (.inl he))) n2 (fun e he=>har e (by rw [app];exact List.mem_append.2 (.inl he)))
  rw [Nw.pushes_app] at r2
  have b1:=Res.le hW r2 hc hd
  have b2:=Res.le hW r2 hc (hW.is d hd)
  rw [show W.pushes (W.pushes r l1 a) [d] a=W.push (W.pushes r l1 a) d a from rfl] at b1 b2
  rw [Nw.push_at] at b1
  rw [Nw.push_rev hW _ hd] at b2
  rw [f48_eq hW hd a _ _ (by omega) (by omega)]
  simp only [Option.bind_some]
  refine hw l2.length _ (by simp) ⟨l1++[d],l2,d.1,?_,hd.1,rfl,k4,app⟩
  rw [Nw.pushes_app];rfl
theorem f31_ok (hL:Lay n E F T W) (hn:n≤500) (h:Flw n C most W r) {B:Int} (hB:∀ r,Flw n C most W r→W.out (ldF n) r (2*n)≤B) (h0:0≤W.out (ldF n) r (2*n)) (hBm:B≤1000000000000000) (hc:∀ v u,capF n C most v u≤1000000000000000) :
  Yld (f31 10000000000000000 ((2*n:Nat):Int) ((2*n+1:Nat):Int) (W.enc r)) fun x=>∃ r' P I D,x=(((),((),())),(((),(((2*n:Nat):Int),(((2*n+1:Nat):Int),()))),(W.enc r',(wayL W.N P I,()))))∧Flw n C most W r'∧SchQ W r' (2*n) P I D []∧P (2*n+1) < 0:=by
 unfold f31
 refine Yld.iterM (fun m (st:Int×Int×List (List ArcD))=>∃ r,st=(((2*n:Nat):Int),((2*n+1:Nat):Int),W.enc r)∧Flw n C most W r∧0≤W.out (ldF n) r (2*n)∧(m:Int)=B-W.out (ldF n) r (2*n)) ?_ 10000000000000000 (B-W.out (ldF n) r (2*n)).toNat _ ?_ ⟨r,rfl,h,h0,?_⟩
 ·rintro m st w ⟨r,rfl,h,h0,hm⟩ hw
  simp only [f31_L1]
  refine Yld.then (f47_ok hL.ok (by rw [hL.N];omega) (fun v=>Nat.le_trans (hL.small v) (by omega)) (by rw [hL.N];omega) _) ?_
  rintro _ ⟨P,I,D,rfl,hs⟩
  have hT:2*n+1 < W.N:=by rw [hL.N];omega
  simp only [way_inb P I hT,way_idx P I hT,chk_true,Option.bind_some]
  simp only [show inb [P (2*n+1),I (2*n+1)] 0=true from rfl,show idx [P (2*n+1),I (2*n+1)] 0=some (P (2*n+1)) from rfl,chk_true,Option.bind_some]
  refine Yld.cond (fun hc0=>?_) fun hc0=>?_
  ·rw [decide_eq_true_eq] at hc0
   exact Yld.ret ⟨r,P,I,D,rfl,h,hs,hc0⟩
  ·rw [decide_eq_false_iff_not] at hc0
   obtain ⟨l,p1,p2,p3,p4,p5⟩:=hs.toSch.path (D (2*n+1)) (2*n+1) (Nat.le_refl _) hT (by omega)
   have hcap:=hs.cap (2*n+1) hT (by omega)
   have hNN:=hL.N
   have hne:l≠[]:=fun e=>by rw [e] at p1;have:2*n+1=2*n:=p1;omega
   refine f31_min hL.N hne p1 hT (fun d hd=>⟨(p3 d hd).1,(p3 d hd).2.1⟩) (by omega) _ fun a ha har=>?_
   have hmore:=h.more hL p2 (fun d hd=>(p3 d hd).1) p4 (by omega:(0:Int)≤a) har
   refine f31_push hL.ok h.res hc (Int.le_refl _) p1 hT (fun d hd=>(p3 d hd).1) p4 (by omega) (by omega) har _ ?_
   refine hw (B-W.out (ldF n) (W.pushes r l a) (2*n)).toNat _ ?_ ⟨_,rfl,hmore.1,by omega,?_⟩
   ·have:=hB _ hmore.1;omega
   ·have:=hB _ hmore.1;omega
 ·omega
 ·have:=hB _ h;omega
end
end Go.Kz
