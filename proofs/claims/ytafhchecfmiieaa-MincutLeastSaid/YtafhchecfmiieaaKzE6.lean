/-
  Layer 07, plain: the search in a network.
-/
import Derived.Test.YtafhchecfmiieaaKzE5
set_option linter.unusedVariables false
set_option linter.unusedSimpArgs false
namespace Go.Kz
def wayL (n:Nat) (P I:Nat→Int):List (List Int):=(List.range n).map fun x=>[P x,I x]
theorem way_get {n x:Nat} (P I:Nat→Int) (h:x < n):(wayL n P I)[x]? = some [P x,I x]:=map_range_get _ h
theorem way_idx {n x:Nat} (P I:Nat→Int) (h:x < n):idx (wayL n P I) (x:Int)=some [P x,I x]:=way_get P I h
theorem way_inb {n x:Nat} (P I:Nat→Int) (h:x < n):inb (wayL n P I) (x:Int)=true:=inb_some (way_get P I h)
theorem way_set {n x:Nat} (P I:Nat→Int) (a b:Int):setI (wayL n P I) (x:Int) [a,b]=wayL n (upF P x a) (upF I x b):=by
 show ((List.range n).map fun x=>[P x,I x]).set x [a,b]=_
 rw [map_set_range]
 refine List.map_congr_left fun y _=>?_
 unfold upF
 by_cases e:y=x
 ·rw [if_pos e,if_pos e,if_pos e]
 ·rw [if_neg e,if_neg e,if_neg e]
theorem il_app (q:List Nat) (v:Nat):il q++[(v:Int)]=il (q++[v]):=by simp [il]
theorem sub1_il (u:Nat) (q:List Nat):sub (il (u :: q)) 1 (len (il (u :: q)))=il q:=by
 unfold sub
 rw [len_eq,il_len,show (1:Int).toNat=1 from rfl,Int.toNat_natCast,List.length_cons]
 rw [show (il (u :: q)).drop 1=il q from rfl,List.take_of_length_le (by rw [il_len];omega)]
theorem cnt_le {p q:Nat→Bool}:{n:Nat}→(∀ x,x < n→q x=true→p x=true)→(List.range n).countP q≤(List.range n).countP p
 | 0,_=>Nat.le_refl _
 | n+1,h=>by
  rw [List.range_succ,List.countP_append,List.countP_append]
  have h1:=cnt_le (n:=n) fun x hx=>h x (by omega)
  have h2:List.countP q [n]≤List.countP p [n]:=by
   simp only [List.countP_cons,List.countP_nil,Nat.zero_add]
   by_cases hq:q n=true
   ·rw [if_pos hq,if_pos (h n (by omega) hq)];exact Nat.le_refl _
   ·rw [if_neg hq];omega
  omega
theorem cnt_lt {p q:Nat→Bool}:{n:Nat}→(∀ x,x < n→q x=true→p x=true)→∀ v,v < n→p v=true→q v=false→(List.range n).countP q+1≤(List.range n).countP p
 | 0,_,v,hv,_,_=>by omega
 | n+1,h,v,hv,hp,hq=>by
  rw [List.range_succ,List.countP_append,List.countP_append]
  simp only [List.countP_cons,List.countP_nil,Nat.zero_add]
  by_cases e:v=n
  ·subst e
   have h1:=cnt_le (n:=v) fun x hx=>h x (by omega)
   rw [hp,hq]
   simp only [if_pos,Bool.false_eq_true,if_false]
   omega
  ·have h1:=cnt_lt (n:=n) (fun x hx=>h x (by omega)) v (by omega) hp hq
   have h2:(if q n=true then 1 else 0)≤(if p n=true then 1 else 0):=by
    by_cases hqn:q n=true
    ·rw [if_pos hqn,if_pos (h n (by omega) hqn)];exact Nat.le_refl _
    ·rw [if_neg hqn];omega
   omega
theorem cnt_n (n:Nat) (p:Nat→Bool):(List.range n).countP p≤n:=by
 have:=List.countP_le_length (p:=p) (l:=List.range n)
 simpa using this
def unl (n:Nat) (D:Nat→Int):Nat:=(List.range n).countP fun x=>decide (D x < 0)
theorem unl_push {n:Nat} {D:Nat→Int} {v:Nat} {c:Int} (hv:v < n) (h:D v < 0) (hc:0≤c):unl n (upF D v c)+1≤unl n D:=by
 refine cnt_lt (fun x hx h'=>?_) v hv (by simpa using h) (by rw [upF_self];simpa using hc)
 by_cases e:x=v
 ·subst e;simpa using h
 ·rwa [upF_ne D _ e] at h'
structure Sch (W:Nw) (r:Nat→Nat→Int) (s:Nat) (P I:Nat→Int) (D:Nat→Nat):Prop where
 low:∀ x,x < W.N→P x = -1∨0≤P x
 src:P s=(s:Int)
 par:∀ x,x < W.N→x≠s→0≤P x→∃ d:Nat×Nat,P x=(d.1:Int)∧I x=(d.2:Int)∧W.Is d∧W.hd d.1 d.2=x∧0 < r d.1 d.2∧0≤P d.1∧D d.1 < D x
 cap:∀ x,x < W.N→0≤P x→D x+unl W.N P≤W.N
structure SchQ (W:Nw) (r:Nat→Nat→Int) (s:Nat) (P I:Nat→Int) (D:Nat→Nat) (q:List Nat):Prop extends Sch W r s P I D where
 qlt:∀ y∈q,y < W.N∧0≤P y
 done:∀ x,x < W.N→0≤P x→x∉q→∀ i,i < W.deg x→0 < r x i→0≤P (W.hd x i)
structure SchT (W:Nw) (r:Nat→Nat→Int) (s u k:Nat) (P I:Nat→Int) (D:Nat→Nat) (q:List Nat):Prop extends Sch W r s P I D where
 ulab:0≤P u
 qlt:∀ y∈q,y < W.N∧0≤P y
 seen:∀ i,i < k→0 < r u i→0≤P (W.hd u i)
 done:∀ x,x < W.N→0≤P x→x∉q→x≠u→∀ i,i < W.deg x→0 < r x i→0≤P (W.hd x i)
section
variable {W:Nw} {ld:Nat→Nat→Bool} {r:Nat→Nat→Int} {s u k:Nat} {P I:Nat→Int} {D:Nat→Nat} {q:List Nat}
theorem SchQ.turn (h:SchQ W r s P I D (u :: q)):SchT W r s u 0 P I D q:=
 ⟨h.toSch,(h.qlt u (by simp)).2,fun y hy=>h.qlt y (by simp [hy]),fun i hi=>by omega,fun x hx h0 hq hu=>h.done x hx h0 (by simp [hq,hu])⟩
theorem SchT.out (h:SchT W r s u k P I D q) (hk:W.deg u≤k):SchQ W r s P I D q:=
 ⟨h.toSch,h.qlt,fun x hx h0 hq i hi hr=>by
  by_cases e:x=u
  ·subst e;exact h.seen i (by omega) hr
  ·exact h.done x hx h0 hq e i hi hr⟩
theorem SchT.skip (h:SchT W r s u k P I D q) (hs:0 < r u k→0≤P (W.hd u k)):SchT W r s u (k+1) P I D q:=
 ⟨h.toSch,h.ulab,h.qlt,fun i hi hr=>by
  rcases Nat.lt_succ_iff_lt_or_eq.1 hi with h' | rfl
  ·exact h.seen i h' hr
  ·exact hs hr,h.done⟩
theorem SchT.push (hW:W.Ok ld) (h:SchT W r s u k P I D q) (hd:W.Is (u,k)) (hr:0 < r u k) (hp:P (W.hd u k) < 0) :
  SchT W r s u (k+1) (upF P (W.hd u k) (u:Int)) (upF I (W.hd u k) (k:Int)) (upF D (W.hd u k) (D u+1)) (q++[W.hd u k]):=by
 have hv:=(hW.is _ hd).1
 generalize hvv:W.hd u k=v at hp
 have hv:v < W.N:=by rw [←hvv];exact hv
 have hu:=h.ulab
 have huv:u≠v:=fun e=>by rw [e] at hu;omega
 have key:∀ x,0≤P x→upF P v (u:Int) x=P x:=fun x hx=>upF_ne P _ fun e=>by subst e;omega
 have keyD:∀ x,0≤P x→upF D v (D u+1) x=D x:=fun x hx=>upF_ne D _ fun e=>by subst e;omega
 have hun:=unl_push (c:=(u:Int)) hv hp (by omega)
 have pos:∀ x,0≤P x→0≤upF P v (u:Int) x:=fun x hx=>by rw [key x hx];exact hx
 have hs0:0≤P s:=by rw [h.src];omega
 refine ⟨⟨fun x hx=>?_,?_,fun x hx hxs h0=>?_,fun x hx h0=>?_⟩,pos u hu,fun y hy=>?_,fun i hi hri=>?_,fun x hx h0 hq hxu i hi hri=>?_⟩
 ·by_cases e:x=v
  ·subst e;rw [upF_self];right;omega
  ·rw [upF_ne P _ e];exact h.low x hx
 ·rw [key s hs0];exact h.src
 ·by_cases e:x=v
  ·subst e
   refine ⟨(u,k),upF_self _ _ _,upF_self _ _ _,hd,hvv,hr,pos u hu,?_⟩
   rw [keyD u hu,upF_self];omega
  ·rw [upF_ne P _ e] at h0
   obtain ⟨d,h1,h2,h3,h4,h5,h6,h7⟩:=h.par x hx hxs h0
   refine ⟨d,by rw [upF_ne P _ e];exact h1,by rw [upF_ne I _ e];exact h2,h3,h4,h5,pos _ h6,?_⟩
   rw [keyD _ h6,upF_ne D _ e];exact h7
 ·by_cases e:x=v
  ·subst e
   rw [upF_self]
   have:=h.cap u hd.1 hu
   omega
  ·rw [upF_ne P _ e] at h0
   rw [upF_ne D _ e]
   have:=h.cap x hx h0
   omega
 ·rcases List.mem_append.1 hy with hy | hy
  ·exact ⟨(h.qlt y hy).1,pos y (h.qlt y hy).2⟩
  ·rw [List.mem_singleton] at hy;subst hy;exact ⟨hv,by rw [upF_self];omega⟩
 ·rcases Nat.lt_succ_iff_lt_or_eq.1 hi with h' | rfl
  ·exact pos _ (h.seen i h' hri)
  ·rw [hvv,upF_self];omega
 ·have hxv:x≠v:=fun e=>hq (by simp [e])
  rw [upF_ne P _ hxv] at h0
  exact pos _ (h.done x hx h0 (fun h'=>hq (by simp [h'])) hxu i hi hri)
theorem f47_fill (n:Nat) (hn:n≤2000) {R:Type} {Q:R→Prop} (S T:Int) (o:List (List ArcD)) {kx:List (List Int)→Option R} (hkx:Yld (kx (wayL n (fun _=>-1) (fun _=>-1))) Q) (P I:Nat→Int) :
  Yld (iter (fun w=>f47_L3 10000000000000000 (n:Int) S T o w kx) 10000000000000000 (0,wayL n P I)) Q:=by
 refine Yld.up (fun k (l:List (List Int))=>∃ P I,l=wayL n P I∧∀ x,x < k→P x = -1∧I x = -1) n ?_ ?_ 10000000000000000 0 (Nat.zero_le _) (by omega) _ ⟨P,I,rfl,fun x hx=>by omega⟩
 ·rintro k l w hk ⟨P,I,rfl,hP⟩ hw
  simp only [f47_L3]
  rw [d_true (show (k:Int) < (n:Int) by omega),wi64_nat (by omega),chk_true (way_inb P I hk),way_idx P I hk]
  simp only [Option.bind_some,cond_true]
  rw [way_set]
  refine hw _ ⟨_,_,rfl,fun x hx=>?_⟩
  by_cases e:x=k
  ·subst e;exact ⟨upF_self _ _ _,upF_self _ _ _⟩
  ·rw [upF_ne P _ e,upF_ne I _ e];exact hP x (by omega)
 ·rintro l w ⟨P,I,rfl,hP⟩
  simp only [f47_L3]
  rw [d_false (show ¬ (n:Int) < (n:Int) by omega)]
  have e:wayL n P I=wayL n (fun _=>-1) (fun _=>-1):=List.map_congr_left fun x hx=>by rw [(hP x (List.mem_range.1 hx)).1,(hP x (List.mem_range.1 hx)).2]
  rw [e];exact hkx
theorem f47_ok (hW:W.Ok ld) (hN:W.N≤2000) (hdeg:∀ v,W.deg v≤1000) (hs:s < W.N) (T:Int) :
  Yld (f47 10000000000000000 (s:Int) T (W.enc r)) fun x=>∃ P I D,x=(((),((),())),(((),((s:Int),(T,()))),(W.enc r,(wayL W.N P I,()))))∧SchQ W r s P I D []:=by
 unfold f47
 have e0:len (W.enc r)=(W.N:Int):=by rw [len_eq,Nw.enc_len]
 have e1:(List.replicate (Int.toNat (W.N:Int)) (List.replicate 2 0:List Int):List (List Int))=wayL W.N (fun _=>0) (fun _=>0):=by
  rw [Int.toNat_natCast]
  apply List.ext_getElem?
  intro i
  by_cases hi:i < W.N
  ·rw [way_get _ _ hi,List.getElem?_replicate_of_lt hi];rfl
  ·rw [List.getElem?_eq_none (by simp;omega),List.getElem?_eq_none (by simp [wayL];omega)]
 rw [e0,ckn (by omega),e1,show len (wayL W.N (fun _=>0) (fun _=>0))=(W.N:Int) from by rw [len_eq];simp [wayL]]
 refine f47_fill W.N hN _ _ _ ?_ _ _
 rw [chk_true (way_inb _ _ hs),way_idx _ _ hs]
 simp only [Option.bind_some]
 rw [way_set]
 have hst:SchQ W r s (upF (fun _=>-1) s (s:Int)) (upF (fun _=>-1) s (-1)) (fun _=>0) [s]:=by
  refine ⟨⟨fun x hx=>?_,upF_self _ _ _,fun x hx hxs h0=>?_,fun x hx h0=>?_⟩,fun y hy=>?_,fun x hx h0 hq=>?_⟩
  ·by_cases e:x=s
   ·subst e;rw [upF_self];right;omega
   ·rw [upF_ne _ _ e];left;rfl
  ·rw [upF_ne _ _ hxs] at h0;omega
  ·have:=cnt_n W.N (fun x=>decide (upF (fun _=>-1) s (s:Int) x < 0))
   unfold unl;omega
  ·rw [List.mem_singleton] at hy;subst hy;exact ⟨hs,by rw [upF_self];omega⟩
  ·by_cases e:x=s
   ·subst e;simp at hq
   ·rw [upF_ne _ _ e] at h0;omega
 refine Yld.iter (fun (st:List (List Int)×List Int)=>∃ P I D q,st=(wayL W.N P I,il q)∧SchQ W r s P I D q∧unl W.N P+q.length≤W.N+1) (fun st=>(st.1.countP fun x=>decide (x.getD 0 0 < 0))+st.2.length) ?_ 10000000000000000 _ ⟨_,_,_,[s],rfl,hst,?_⟩ ?_
 ·rintro st w ⟨P,I,D,q,rfl,h,hq⟩ hw
  simp only [f47_L9]
  cases q with
  | nil=>
   rw [d_false (show ¬ 0 < len (il []) by simp [len_eq,il])]
   exact Yld.ret ⟨P,I,D,rfl,h⟩
  | cons u q=>
   have hun:=(h.qlt u (by simp)).1
   rw [d_true (show 0 < len (il (u :: q)) by rw [len_eq,il_len,List.length_cons];omega),chk_true (show inb (il (u :: q)) 0=true from inb_lt (k:=0) (by rw [il_len,List.length_cons];omega)),show idx (il (u :: q)) 0=some (u:Int) from rfl]
   simp only [cond_true,Option.bind_some]
   rw [chk_true (by simp only [Bool.and_eq_true,decide_eq_true_eq,len_eq,il_len,List.length_cons];omega),chk_true (Nw.enc_inb r hun),Nw.enc_idx r hun,sub1_il]
   simp only [Option.bind_some]
   rw [show len (W.row r u)=(W.deg u:Int) from by rw [len_eq,Nw.row_len]]
   refine Yld.up (fun k (st:List Int×List (List Int))=>∃ P' I' D' q',st=(il q',wayL W.N P' I')∧SchT W r s u k P' I' D' q'∧unl W.N P'+q'.length≤unl W.N P+q.length) (W.deg u) ?_ ?_ 10000000000000000 0 (Nat.zero_le _) (by have:=hdeg u;omega) _ ⟨P,I,D,q,rfl,h.turn,Nat.le_refl _⟩
   ·rintro k st w2 hk ⟨P',I',D',q',rfl,ht,hu'⟩ hw2
    have hd:W.Is (u,k):=⟨hun,hk⟩
    have hv:=(hW.is _ hd).1
    have hv:W.hd u k < W.N:=hv
    simp only [f47_L13]
    rw [d_true (show (k:Int) < (W.deg u:Int) by omega),wi64_nat (by have:=hdeg u;omega)]
    simp only [Nw.enc_idx r hun,Nw.row_inb r hk,Nw.row_idx r hk,chk_true,Option.bind_some,cond_true]
    have ea:W.arcD r u k=((W.hd u k:Int),(r u k,((W.bk u k:Int),()))):=rfl
    simp only [ea]
    by_cases hc:0 < r u k
    ·rw [d_true hc,cond_true,chk_true (way_inb P' I' hv),way_idx P' I' hv]
     simp only [Option.bind_some]
     rw [show inb [P' (W.hd u k),I' (W.hd u k)] 0=true from rfl,show idx [P' (W.hd u k),I' (W.hd u k)] 0=some (P' (W.hd u k)) from rfl]
     simp only [chk_true,Option.bind_some]
     by_cases hp:P' (W.hd u k) < 0
     ·rw [d_true hp,cond_true,chk_true (way_inb P' I' hv)]
      have hq1:=hu'
      simp only [List.length_cons] at hq
      rw [ck0' (by rw [il_len];omega),il_app,way_set]
      refine hw2 (_,_) ⟨_,_,_,_,rfl,ht.push hW hd hc hp,?_⟩
      have:=unl_push (c:=(u:Int)) hv hp (by omega)
      rw [List.length_append,List.length_singleton];omega
     ·rw [d_false hp,cond_false]
      exact hw2 (_,_) ⟨_,_,_,_,rfl,ht.skip fun _=>by omega,hu'⟩
    ·rw [d_false hc,cond_false]
     simp only [Option.bind_some,cond_false]
     exact hw2 (_,_) ⟨_,_,_,_,rfl,ht.skip fun h=>absurd h hc,hu'⟩
   ·rintro st w2 ⟨P',I',D',q',rfl,ht,hu'⟩
    simp only [f47_L13]
    rw [d_false (show ¬ ((W.deg u:Nat):Int) < (W.deg u:Int) by omega)]
    simp only [List.length_cons] at hq
    refine hw (_,_) ⟨P',I',D',q',rfl,ht.out (Nat.le_refl _),by omega⟩ ?_
    have ec:∀ P I:Nat→Int,((wayL W.N P I).countP fun x=>decide (x.getD 0 0 < 0))=unl W.N P:=fun P I=>by unfold wayL unl;rw [List.countP_map];rfl
    simp only [ec,il_len,List.length_cons]
    omega
 ·have:=cnt_n W.N (fun x=>decide (upF (fun _=>-1) s (s:Int) x < 0))
  simp only [List.length_singleton];unfold unl;omega
 ·have ec:∀ P I:Nat→Int,((wayL W.N P I).countP fun x=>decide (x.getD 0 0 < 0))=unl W.N P:=fun P I=>by unfold wayL unl;rw [List.countP_map];rfl
  have:=cnt_n W.N (fun x=>decide (upF (fun _=>-1) s (s:Int) x < 0))
  simp only [ec,List.length_singleton]
  unfold unl;omega
def Pth (P I:Nat→Int) (s:Nat):Nat→List (Nat×Nat)→Prop
 | x,[]=>x=s
 | x,d :: l=>x≠s∧P x=(d.1:Int)∧I x=(d.2:Int)∧Pth P I s d.1 l
theorem Sch.path (h:Sch W r s P I D):∀ (m x:Nat),D x≤m→x < W.N→0≤P x→∃ l,Pth P I s x l∧W.Chb x l s∧(∀ d∈l,W.Is d∧0 < r d.1 d.2∧D (W.hd d.1 d.2)≤D x)∧l.Nodup∧l.length≤D x:=by
 intro m
 induction m with
 | zero=>
  intro x hD hx h0
  by_cases e:x=s
  ·exact ⟨[],e,e,by simp,List.nodup_nil,Nat.zero_le _⟩
  ·obtain ⟨d,_,_,_,_,_,_,h7⟩:=h.par x hx e h0
   omega
 | succ m ih=>
  intro x hD hx h0
  by_cases e:x=s
  ·exact ⟨[],e,e,by simp,List.nodup_nil,Nat.zero_le _⟩
  ·obtain ⟨d,h1,h2,h3,h4,h5,h6,h7⟩:=h.par x hx e h0
   obtain ⟨l,k1,k2,k3,k4,k5⟩:=ih d.1 (by omega) h3.1 h6
   refine ⟨d :: l,⟨e,h1,h2,k1⟩,⟨h4,k2⟩,fun y hy=>?_,List.nodup_cons.2 ⟨fun hm=>?_,k4⟩,by simp only [List.length_cons];omega⟩
   ·rcases List.mem_cons.1 hy with rfl | hy
    ·exact ⟨h3,h5,by rw [h4];exact Nat.le_refl _⟩
    ·obtain ⟨j1,j2,j3⟩:=k3 y hy
     exact ⟨j1,j2,by omega⟩
   ·have:=(k3 d hm).2.2
    rw [h4] at this;omega
end
end Go.Kz
