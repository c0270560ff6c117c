/-
  Layer 07, plain: flows taken apart. First what is taken along arcs, and plain facts on chains.
-/
import Derived.Test.YtafhchecfmiieaaKzE8
set_option linter.unusedVariables false
set_option linter.unusedSimpArgs false
namespace Go.Kz
theorem lsm_lt {α:Type} {f g:α→Int} {c:Int} {l:List α} (h:∀ x∈l,f x≤g x) {x:α} (hx:x∈l) (hc:f x+c≤g x):lsm f l+c≤lsm g l:=by
 induction l with
 | nil=>cases hx
 | cons y l ih=>
  simp only [lsm]
  rcases List.mem_cons.1 hx with e | hx
  ·subst e
   have:=lsm_le (l:=l) fun z hz=>h z (by simp [hz])
   omega
  ·have:=ih (fun z hz=>h z (by simp [hz])) hx
   have:=h y (by simp)
   omega
theorem nodup_len {l:List Nat} {N:Nat} (h:l.Nodup) (hl:∀ x∈l,x < N):l.length≤N:=by
 have h1:((List.range N).filter fun x=>decide (x∈l)).Perm l:=Nw.perm_of (List.nodup_range.filter _) h fun x=>by
  rw [List.mem_filter,List.mem_range,decide_eq_true_eq]
  exact ⟨fun h=>h.2,fun h=>⟨hl x h,h⟩⟩
 rw [←h1.length_eq]
 have:=List.length_filter_le (fun x=>decide (x∈l)) (List.range N)
 rwa [List.length_range] at this
theorem sub_nat {α:Type} (l:List α) {a b:Nat}:sub l (a:Int) (b:Int)=(l.drop a).take (b-a):=rfl
theorem sub_end {α:Type} (l:List α) {a:Nat}:sub l (a:Int) (len l)=l.drop a:=by
 rw [len_eq,sub_nat,List.take_of_length_le (by simp)]
theorem sub_start {α:Type} (l:List α) {b:Nat}:sub l 0 (b:Int)=l.take b:=by
 show (l.drop 0).take (b-0)=_
 simp
theorem il_drop (l:List Nat) (k:Nat):(il l).drop k=il (l.drop k):=by simp [il,List.map_drop]
theorem il_take (l:List Nat) (k:Nat):(il l).take k=il (l.take k):=by simp [il,List.map_take]
namespace Nw
variable {W:Nw}
theorem Chn.last {y:Nat}:{x:Nat}→{l:List (Nat×Nat)}→W.Chn x l y→l≠[]→∃ d∈l,W.hd d.1 d.2=y
 | _,[],_,h=>absurd rfl h
 | x,[d],h,_=>⟨d,by simp,h.2⟩
 | x,d :: e :: l,h,_=>by
  obtain ⟨z,hz,hz2⟩:=Chn.last (l:=e :: l) h.2 (by simp)
  exact ⟨z,by simp only [List.mem_cons] at hz ⊢;exact .inr hz,hz2⟩
theorem Chn.nodes {y:Nat}:{x:Nat}→{l:List (Nat×Nat)}→W.Chn x l y→l.map Prod.fst++[y]=x :: l.map fun d=>W.hd d.1 d.2
 | _,[],h=>by cases h;rfl
 | x,d :: l,h=>by
  rw [List.map_cons,List.map_cons,List.cons_append,Chn.nodes h.2,h.1]
theorem Chn.head {x y:Nat} {d:Nat×Nat} {l:List (Nat×Nat)} (h:W.Chn x (d :: l) y):x=d.1:=h.1.symm
end Nw
def tot (W:Nw) (ld:Nat→Nat→Bool) (r:Nat→Nat→Int):Int:=lsm (fun d=>if ld d.1 (W.hd d.1 d.2) then W.sent r d else 0) W.darts
section
variable {W:Nw} {ld:Nat→Nat→Bool} {cap:Nat→Nat→Int} {r:Nat→Nat→Int}
theorem tot_nonneg (hW:W.Ok ld) (h:W.Res ld cap r):0≤tot W ld r:=lsm_nonneg fun d hd=>by
 split
 ·exact h.pos _ (hW.is d (Nw.mem_darts.1 hd))
 ·exact Int.le_refl _
theorem tot_le (hW:W.Ok ld) (h:W.Res ld cap r) {mx:Int} (hm:0≤mx) (hc:∀ v u,cap v u≤mx) (hdeg:∀ v,W.deg v≤400):tot W ld r≤(400*mx)*W.N:=by
 unfold tot Nw.darts
 rw [lsm_flatMap]
 have e:(400*mx)*(W.N:Int)=lsm (fun _=>400*mx) (List.range W.N):=by rw [lsm_const,List.length_range]
 rw [e]
 refine lsm_le fun v hv=>?_
 rw [lsm_map]
 have h1:lsm (fun i=>if ld v (W.hd v i) then W.sent r (v,i) else 0) (List.range (W.deg v))≤lsm (fun _=>mx) (List.range (W.deg v)):=lsm_le fun i hi=>by
  have hd:W.Is (v,i):=⟨List.mem_range.1 hv,List.mem_range.1 hi⟩
  split
  ·exact (Res.le hW h hc (hW.is _ hd)).2
  ·exact hm
 rw [lsm_const,List.length_range] at h1
 have h2:mx*(W.deg v:Int)≤mx*400:=Int.mul_le_mul_of_nonneg_left (by have:=hdeg v;omega) hm
 have h3:mx*400=400*mx:=Int.mul_comm _ _
 exact Int.le_trans h1 (by omega)
theorem tot_back (hW:W.Ok ld) (h:W.Res ld cap r) {l:List (Nat×Nat)} {a:Int} (ha:1≤a) (hl:∀ d∈l,W.Laid ld d) (hn:l.Nodup) (hs:∀ d∈l,a≤W.sent r d) (hne:l≠[]):tot W ld (W.pushes r l (-a))+1≤tot W ld r:=by
 have hb:=(Nw.pushes_back hW (by omega) h hl hn hs).2
 obtain ⟨x,l',rfl⟩:=List.exists_cons_of_ne_nil hne
 have hx:=hl x (by simp)
 refine lsm_lt (fun d hd=>?_) (x:=x) (Nw.mem_darts.2 hx.1) ?_
 ·split
  ·next h1=>rw [hb d ⟨Nw.mem_darts.1 hd,h1⟩];split <;> omega
  ·exact Int.le_refl _
 ·rw [if_pos hx.2,if_pos hx.2,hb x hx,if_pos (by simp)];omega
end
section
variable {n:Nat} {W:Nw} {ld:Nat→Nat→Bool} {cap:Nat→Nat→Int} {r:Nat→Nat→Int}
theorem f51_ok (hW:W.Ok ld) (h:W.Res ld cap r) {mx:Int} (hc:∀ v u,cap v u≤mx) (hmx:mx≤1000000000000000) {L:List (Nat×Nat)} (hne:L≠[]) (hL:∀ d∈L,W.Laid ld d∧0 < W.sent r d) (hn:L.Nodup) (hll:L.length≤3000) (S T:Int) :
  Yld (f51 10000000000000000 (il (L.map Prod.fst)) (il (L.map Prod.snd)) S T (W.enc r)) fun x=>∃ a,1≤a∧(∀ d∈L,a≤W.sent r d)∧x=(((),(a,())),(((),(S,(T,()))),(W.enc (W.pushes r L (-a)),()))):=by
 unfold f51
 have l1:len (il (L.map Prod.fst))=(L.length:Int):=by rw [len_eq,il_len,List.length_map]
 rw [l1]
 have g1:∀ k (hk:k < L.length),idx (il (L.map Prod.fst)) (k:Int)=some (L[k].1:Int):=fun k hk=>by rw [il_idx (by simpa using hk)];simp
 have g2:∀ k (hk:k < L.length),idx (il (L.map Prod.snd)) (k:Int)=some (L[k].2:Int):=fun k hk=>by rw [il_idx (by simpa using hk)];simp
 refine Yld.up (fun k (t:Int)=>(k=0∧t = -1)∨(1≤t∧∀ d∈L.take k,t≤W.sent r d)) L.length ?_ ?_ 10000000000000000 0 (Nat.zero_le _) (by omega) _ (.inl ⟨rfl,rfl⟩)
 ·intro k t w hk ht hw
  obtain ⟨hd,hs⟩:=hL _ (List.getElem_mem hk)
  have htk:=take_succ hk
  simp only [f51_L3]
  rw [d_true (show (k:Int) < (L.length:Int) by omega),wi64_nat (k:=k) (by omega),g1 k hk,g2 k hk]
  generalize L[k]=d at hd hs htk
  have hr:=hW.is d hd.1
  have ea:W.arcD r d.1 d.2=(((W.rev d).1:Int),(r d.1 d.2,(((W.rev d).2:Int),()))):=rfl
  have er:W.arcD r (W.rev d).1 (W.rev d).2=(((W.rev (W.rev d)).1:Int),(W.sent r d,(((W.rev (W.rev d)).2:Int),()))):=rfl
  simp only [cond_true,Option.bind_some,Nw.enc_inb r hd.1.1,Nw.enc_idx r hd.1.1,Nw.row_inb r hd.1.2,Nw.row_idx r hd.1.2,ea,Nw.enc_inb r hr.1,Nw.enc_idx r hr.1,Nw.row_inb r hr.2,Nw.row_idx r hr.2,er,chk_true]
  rw [bindc]
  by_cases hcc:t < 0∨W.sent r d < t
  ·rw [show (decide (t < 0) || decide (W.sent r d < t))=true from by simpa using hcc,cond_true]
   refine hw _ (.inr ⟨hs,fun e he=>?_⟩)
   rw [htk] at he
   rcases List.mem_append.1 he with he | he
   ·rcases ht with ⟨h1,_⟩ | ⟨h1,h2⟩
    ·rw [h1] at he;simp at he
    ·have:=h2 e he
     rcases hcc with hc | hc <;> omega
   ·rw [List.mem_singleton] at he;subst he;exact Int.le_refl _
  ·rw [show (decide (t < 0) || decide (W.sent r d < t))=false from by simpa using hcc,cond_false]
   refine hw _ (.inr ?_)
   rcases ht with ⟨_,h1⟩ | ⟨h1,h2⟩
   ·exact absurd (.inl (by omega)) hcc
   ·refine ⟨h1,fun e he=>?_⟩
    rw [htk] at he
    rcases List.mem_append.1 he with he | he
    ·exact h2 e he
    ·rw [List.mem_singleton] at he;subst he;omega
 ·intro a w ht
  simp only [f51_L3]
  rw [d_false (show ¬ ((L.length:Nat):Int) < (L.length:Int) by omega),cond_false]
  rw [List.take_length] at ht
  have ha:1≤a∧∀ d∈L,a≤W.sent r d:=ht.resolve_left fun h=>hne (List.length_eq_zero_iff.1 h.1)
  refine Yld.up (fun k (s:Int×Int×List (List ArcD))=>s=(S,T,W.enc (W.pushes r (L.take k) (-a)))) L.length ?_ ?_ 10000000000000000 0 (Nat.zero_le _) (by omega) _ rfl
  ·rintro k s w2 hk rfl hw2
   have hd:=hL _ (List.getElem_mem hk)
   have htk:=take_succ hk
   have pre:∀ k,W.Res ld cap (W.pushes r (L.take k) (-a)):=fun k=>(Nw.pushes_back hW (by omega) h (fun d hd=>(hL d (List.mem_of_mem_take hd)).1) (hn.sublist (List.take_sublist _ _)) (fun d hd=>ha.2 d (List.mem_of_mem_take hd))).1
   have p1:=pre k
   have p2:=pre (k+1)
   simp only [f51_L11]
   rw [d_true (show (k:Int) < (L.length:Int) by omega),wi64_nat (k:=k) (by omega),g1 k hk,g2 k hk]
   have hax:=(hL _ (List.getElem_mem hk)).1
   have hab:=Res.le hW h hc (hW.is _ hax.1)
   have hal:=ha.2 _ (List.getElem_mem hk)
   generalize L[k]=d at hd htk hax hab hal
   rw [htk,Nw.pushes_app] at p2
   have e3:W.pushes (W.pushes r (L.take k) (-a)) [d] (-a)=W.push (W.pushes r (L.take k) (-a)) d (-a):=rfl
   rw [e3] at p2
   have b1:=Res.le hW p2 hc hd.1.1
   have b2:=Res.le hW p2 hc (hW.is d hd.1.1)
   rw [Nw.push_at] at b1
   rw [Nw.push_rev hW _ hd.1.1] at b2
   simp only [cond_true,Option.bind_some]
   unfold Nw.sent at hal
   rw [wi64_of (n:=0-a) (by omega) (by omega),show (0-a:Int) = -a from by omega,f48_eq hW hd.1.1 (-a) _ _ (by omega) (by omega)]
   simp only [Option.bind_some]
   refine hw2 _ ?_
   rw [htk,Nw.pushes_app];rfl
  ·rintro s w2 rfl
   simp only [f51_L11]
   rw [d_false (show ¬ ((L.length:Nat):Int) < (L.length:Int) by omega),cond_false,List.take_length]
   exact Yld.ret ⟨a,ha.1,ha.2,rfl⟩
theorem f50_ok (l:List Nat) (x:Nat) (hl:l.length≤3000):(x∉l∧f50 10000000000000000 (il l) (x:Int)=some (-1))∨∃ k,∃ hk:k < l.length,l[k]=x∧f50 10000000000000000 (il l) (x:Int)=some (k:Int):=by
 have key:Yld (f50 10000000000000000 (il l) (x:Int)) fun y=>(x∉l∧y = -1)∨∃ k,∃ hk:k < l.length,l[k]=x∧y=(k:Int):=by
  unfold f50
  rw [show len (il l)=(l.length:Int) from by rw [len_eq,il_len]]
  refine Yld.upI (fun k=>x∉l.take k) l.length ?_ ?_ 10000000000000000 0 (Nat.zero_le _) (by omega) (by simp)
  ·intro k w hk hI hw
   simp only [f50_L2]
   rw [d_true (show (k:Int) < (l.length:Int) by omega),wi64_nat (k:=k) (by omega),il_idx hk]
   simp only [cond_true,Option.bind_some]
   refine Yld.cond (fun hc=>?_) fun hc=>?_
   ·rw [decide_eq_true_eq] at hc
    exact Yld.ret (.inr ⟨k,hk,by omega,rfl⟩)
   ·rw [decide_eq_false_iff_not] at hc
    refine hw fun hm=>?_
    rw [take_succ hk] at hm
    rcases List.mem_append.1 hm with hm | hm
    ·exact hI hm
    ·rw [List.mem_singleton] at hm;exact hc (by omega)
  ·intro w hI
   simp only [f50_L2]
   rw [d_false (show ¬ ((l.length:Nat):Int) < (l.length:Int) by omega),cond_false]
   rw [List.take_length] at hI
   exact Yld.ret (.inl ⟨hI,rfl⟩)
 obtain ⟨y,h1,h2⟩:=key
 rcases h2 with ⟨h2,rfl⟩ | ⟨k,hk,h2,rfl⟩
 ·exact .inl ⟨h2,h1⟩
 ·exact .inr ⟨k,hk,h2,h1⟩
end
def wk (E:List (Nat×Nat)):List Nat→Prop
 | []=>True
 | [_]=>True
 | a :: b :: l=>(a,b)∈E∧wk E (b :: l)
structure IsP (n:Nat) (E:List (Nat×Nat)) (A B:Nat→Bool) (p:List Nat):Prop where
 ne:p≠[]
 first:∀ h:p≠[],A (p.head h)=true
 last:∀ h:p≠[],B (p.getLast h)=true
 walk:wk E p
 nodup:p.Nodup
 lt:∀ x∈p,x < n
def evB (n v:Nat):Bool:=decide (v % 2=0) && !decide (v=2*n)
def evn (n:Nat) (l:List Nat):List Nat:=(l.filter (evB n)).map fun v=>v / 2
theorem evn_cons_even {n k:Nat} (hk:k < n) (l:List Nat):evn n (2*k :: l)=k :: evn n l:=by
 unfold evn
 rw [List.filter_cons_of_pos (by simp [evB];omega),List.map_cons]
 congr 1;omega
theorem evn_cons_odd {n v:Nat} (hv:v % 2=1) (l:List Nat):evn n (v :: l)=evn n l:=by
 unfold evn
 rw [List.filter_cons_of_neg (by simp [evB,hv])]
theorem evn_src (n:Nat) (l:List Nat):evn n (2*n :: l)=evn n l:=by
 unfold evn
 rw [List.filter_cons_of_neg (by simp [evB])]
theorem evn_nodup {n:Nat} {l:List Nat} (h:l.Nodup):(evn n l).Nodup:=by
 refine Nw.nodup_map (h.filter _) fun x hx y hy e=>?_
 have h1:=(List.mem_filter.1 hx).2
 have h2:=(List.mem_filter.1 hy).2
 simp only [evB,Bool.and_eq_true,decide_eq_true_eq] at h1 h2
 omega
theorem mem_evn {n k:Nat} {l:List Nat} (h:k∈evn n l):2*k∈l:=by
 obtain ⟨v,hv,rfl⟩:=List.mem_map.1 h
 obtain ⟨h1,h2⟩:=List.mem_filter.1 hv
 simp only [evB,Bool.and_eq_true,decide_eq_true_eq] at h2
 rw [show 2*(v / 2)=v from by omega];exact h1
section
variable {n:Nat} {E:List (Nat×Nat)} {F T:Nat→Bool} {W:Nw} {C:Nat→Int} {most:Int} {r:Nat→Nat→Int}
theorem chain_walk (hL:Lay n E F T W):∀ (l:List (Nat×Nat)) (x k:Nat),k < n→(x=2*k∨x=2*k+1)→W.Chn x l (2*n+1)→(∀ d∈l,W.Laid (ldF n) d)→
  wk E (k :: evn n (l.map fun d=>W.hd d.1 d.2))∧T ((k :: evn n (l.map fun d=>W.hd d.1 d.2)).getLast (by simp))=true∧∀ y∈evn n (l.map fun d=>W.hd d.1 d.2),y < n:=by
 intro l
 induction l with
 | nil=>
  intro x k hk hx hc _
  have:x=2*n+1:=hc
  omega
 | cons d l ih=>
  intro x k hk hx hc hl
  have hs:=hL.sound d (hl d (by simp))
  obtain ⟨h1,h2⟩:=hc
  rw [List.map_cons]
  generalize hu:W.hd d.1 d.2=u at hs h2
  rw [h1] at hs
  have hl':∀ e∈l,W.Laid (ldF n) e:=fun e he=>hl e (by simp [he])
  rcases hx with hx | hx
  ·cases hs with
   | thru j hj=>
    rw [evn_cons_odd (by omega)]
    exact ih (2*j+1) k hk (.inr (by omega)) h2 hl'
   | edge a b _ _ _ _=>omega
   | first j hj _=>omega
   | last j hj _=>omega
  ·cases hs with
   | thru j hj=>omega
   | edge a b ha hb hab he=>
    have e1:a=k:=by omega
    subst e1
    rw [evn_cons_even hb]
    obtain ⟨i1,i2,i3⟩:=ih (2*b) b hb (.inl rfl) h2 hl'
    refine ⟨⟨he,i1⟩,?_,fun y hy=>?_⟩
    ·rw [List.getLast_cons (by simp)];exact i2
    ·rcases List.mem_cons.1 hy with rfl | hy
     ·exact hb
     ·exact i3 y hy
   | first j hj _=>omega
   | last j hj hT=>
    have e1:j=k:=by omega
    subst e1
    cases l with
    | nil=>
     rw [evn_cons_odd (by omega)]
     exact ⟨trivial,hT,fun y hy=>by simp [evn] at hy⟩
    | cons e l=>
     exfalso
     have hs2:=hL.sound e (hl' e (by simp))
     generalize hv:W.hd e.1 e.2=v at hs2
     rw [h2.1] at hs2
     generalize hw:2*n+1=w at hs2
     cases hs2 with
     | thru _ _=>omega
     | edge _ _ _ _ _ _=>omega
     | first _ _ _=>omega
     | last _ _ _=>omega
theorem chain_path (hL:Lay n E F T W) {l:List (Nat×Nat)} (hc:W.Chn (2*n) l (2*n+1)) (hl:∀ d∈l,W.Laid (ldF n) d) (hn:(l.map Prod.fst++[2*n+1]).Nodup) :
  IsP n E F T (evn n (l.map Prod.fst++[2*n+1]))∧∀ k∈evn n (l.map Prod.fst++[2*n+1]),(2*k,0)∈l:=by
 have hnod:=evn_nodup (n:=n) hn
 have hmem:∀ k∈evn n (l.map Prod.fst++[2*n+1]),k < n→(2*k,0)∈l:=by
  intro k hk hkn
  rcases List.mem_append.1 (mem_evn hk) with h | h
  ·obtain ⟨d,hd,e⟩:=List.mem_map.1 h
   have h2:W.Laid (ldF n) (2*k,d.2):=by rw [←e];exact hl d hd
   have:=hL.even hkn h2
   rw [←e,←this];exact hd
  ·rw [List.mem_singleton] at h;omega
 rw [hc.nodes,evn_src] at hnod hmem ⊢
 cases l with
 | nil=>
  have:2*n=2*n+1:=hc
  omega
 | cons d l=>
  have hs:=hL.sound d (hl d (by simp))
  obtain ⟨h1,h2⟩:=hc
  rw [List.map_cons] at hnod hmem ⊢
  generalize hu:W.hd d.1 d.2=u at hs h2 hnod hmem
  rw [h1] at hs
  generalize hv:2*n=v at hs
  cases hs with
  | thru j hj=>omega
  | edge a b _ _ _ _=>omega
  | first k hk hF=>
   rw [evn_cons_even hk] at hnod hmem ⊢
   obtain ⟨i1,i2,i3⟩:=chain_walk hL l (2*k) k hk (.inl rfl) h2 fun e he=>hl e (by simp [he])
   have hlt:∀ x∈k :: evn n (l.map fun d=>W.hd d.1 d.2),x < n:=fun x hx=>by
    rcases List.mem_cons.1 hx with rfl | hx
    ·exact hk
    ·exact i3 x hx
   exact ⟨⟨by simp,fun _=>hF,fun _=>i2,i1,hnod,hlt⟩,fun x hx=>hmem x hx (hlt x hx)⟩
  | last j hj _=>omega
theorem Flw.goes (hL:Lay n E F T W) (h:Flw n C most W r) {v:Nat} (hv:v < 2*n) {d:Nat×Nat} (hd:W.Laid (ldF n) d) (hs:0 < W.sent r d) (he:W.hd d.1 d.2=v):∃ i,W.Laid (ldF n) (v,i)∧0 < W.sent r (v,i):=by
 apply Classical.byContradiction
 intro hno
 have hall:∀ i,W.Is (v,i)→W.fl (ldF n) r (v,i)≤0:=by
  intro i hi
  cases hl:ldF n v (W.hd v i)
  ·rw [Res.fl_not hl];have:=h.res.pos _ hi;simp only at this ⊢;omega
  ·rw [(Res.fl_laid h.res ⟨hi,hl⟩).1]
   exact Int.not_lt.1 fun hp=>hno ⟨i,⟨hi,hl⟩,hp⟩
 have hr:=hL.ok.is d hd.1
 have hrv:W.rev d=(v,(W.rev d).2):=by rw [←he];rfl
 have h0:=h.keep v hv
 unfold Nw.out at h0
 have h1:=lsm_lt (f:=fun i=>W.fl (ldF n) r (v,i)) (g:=fun _=>(0:Int)) (c:=1) (l:=List.range (W.deg v)) (fun i hi=>hall i ⟨by rw [hL.N];show v < _;omega,List.mem_range.1 hi⟩) (x:=(W.rev d).2) (List.mem_range.2 (by have:=hr.2;rw [hrv] at this;exact this)) (by
  show W.fl (ldF n) r (v,(W.rev d).2)+1≤0
  rw [←hrv,Nw.fl_rev hL.ok r hd.1,(Res.fl_laid h.res hd).1];omega)
 rw [h0,lsm_zero (f:=fun _=>(0:Int)) fun _ _=>rfl] at h1
 omega
theorem src_laid (hL:Lay n E F T W) {i:Nat} (hi:i < W.deg (2*n)):W.Laid (ldF n) (2*n,i):=⟨⟨by rw [hL.N];show 2*n < _;omega,hi⟩,by show ldF n (2*n) _=true;simp [ldF]⟩
theorem Flw.out_pos (hL:Lay n E F T W) (h:Flw n C most W r) {i:Nat} (hi:W.Laid (ldF n) (2*n,i)) (hs:0 < W.sent r (2*n,i)):0 < W.out (ldF n) r (2*n):=by
 unfold Nw.out
 refine Int.lt_of_lt_of_le ?_ (lsm_ge (f:=fun i=>W.fl (ldF n) r (2*n,i)) (fun j hj=>?_) (List.mem_range.2 hi.1.2))
 ·show 0 < W.fl (ldF n) r (2*n,i);rw [(Res.fl_laid h.res hi).1];exact hs
 ·have:=src_laid hL (List.mem_range.1 hj)
  rw [(Res.fl_laid h.res this).1];exact h.res.pos _ (hL.ok.is _ this.1)
theorem Flw.pos_out (hL:Lay n E F T W) (h:Flw n C most W r) (hp:0 < W.out (ldF n) r (2*n)):∃ i,W.Laid (ldF n) (2*n,i)∧0 < W.sent r (2*n,i):=by
 obtain ⟨i,hi,hs⟩:=lsm_pos hp
 have:=src_laid hL (List.mem_range.1 hi)
 exact ⟨i,this,by rw [(Res.fl_laid h.res this).1] at hs;exact hs⟩
theorem Flw.out_zero (hL:Lay n E F T W) (h:Flw n C most W r) (hs:∀ i,W.Laid (ldF n) (2*n,i)→W.sent r (2*n,i)≤0):W.out (ldF n) r (2*n)=0:=by
 unfold Nw.out
 refine lsm_zero fun i hi=>?_
 have:=src_laid hL (List.mem_range.1 hi)
 have h1:=hs i this
 have h2:=h.res.pos _ (hL.ok.is _ this.1)
 rw [(Res.fl_laid h.res this).1]
 unfold Nw.sent at *;omega
end
end Go.Kz
