/-
  Layer 07, plain: the flow of a network as paths.
-/
import Derived.Test.YtafhchecfmiieaaKzE9
set_option linter.unusedVariables false
set_option linter.unusedSimpArgs false
namespace Go.Kz
abbrev FlowD:=List Int×(Int×Unit)
def flD (fs:List (List Nat×Int)):List FlowD:=fs.map fun f=>(il f.1,(f.2,()))
theorem flD_len (fs:List (List Nat×Int)):(flD fs).length=fs.length:=by simp [flD]
theorem flD_app (fs:List (List Nat×Int)) (f:List Nat×Int):flD fs++[(il f.1,(f.2,()))]=flD (fs++[f]):=by simp [flD]
def thru (k:Nat) (fs:List (List Nat×Int)):Int:=lsm (fun f=>if k∈f.1 then f.2 else 0) fs
def amt (fs:List (List Nat×Int)):Int:=lsm Prod.snd fs
section
variable {n:Nat} {E:List (Nat×Nat)} {F T:Nat→Bool} {W:Nw} {C:Nat→Int} {most:Int} {r:Nat→Nat→Int}
structure Wlk (n:Nat) (C:Nat→Int) (most:Int) (W:Nw) (r0 r:Nat→Nat→Int) (L:List (Nat×Nat)) (at_:Nat):Prop where
 flw:Flw n C most W r
 out:W.out (ldF n) r (2*n)=W.out (ldF n) r0 (2*n)
 less:∀ d,W.Laid (ldF n) d→W.sent r d≤W.sent r0 d
 chn:W.Chn (2*n) L at_
 laid:∀ d∈L,W.Laid (ldF n) d∧0 < W.sent r d
 nodup:(L.map Prod.fst++[at_]).Nodup
 lt:at_ < W.N
theorem Wlk.len {r0 r:Nat→Nat→Int} {L:List (Nat×Nat)} {v:Nat} (h:Wlk n C most W r0 r L v):L.length+1≤W.N:=by
 have:=nodup_len h.nodup (N:=W.N) fun x hx=>by
  rcases List.mem_append.1 hx with hx | hx
  ·obtain ⟨d,hd,rfl⟩:=List.mem_map.1 hx
   exact (h.laid d hd).1.1.1
  ·rw [List.mem_singleton] at hx;subst hx;exact h.lt
 simpa using this
theorem Wlk.goes (hL:Lay n E F T W) {r0 r:Nat→Nat→Int} {L:List (Nat×Nat)} {v:Nat} (h:Wlk n C most W r0 r L v) (hp:0 < W.out (ldF n) r0 (2*n)) (hv:v≠2*n+1):∃ i,W.Laid (ldF n) (v,i)∧0 < W.sent r (v,i):=by
 by_cases e:v=2*n
 ·subst e
  exact h.flw.pos_out hL (by rw [h.out];exact hp)
 ·have hvn:v < 2*n:=by have:=h.lt;have:=hL.N;omega
  have hne:L≠[]:=fun e2=>by
   have:=h.chn
   rw [e2] at this
   exact e this.symm
  obtain ⟨d,hd,he⟩:=h.chn.last hne
  exact h.flw.goes hL hvn (h.laid d hd).1 (h.laid d hd).2 he
theorem Wlk.step (hL:Lay n E F T W) {r0 r:Nat→Nat→Int} {L:List (Nat×Nat)} {v i:Nat} (h:Wlk n C most W r0 r L v) (hi:W.Laid (ldF n) (v,i)) (hs:0 < W.sent r (v,i)) (hno:W.hd v i∉L.map Prod.fst++[v]) :
  Wlk n C most W r0 r (L++[(v,i)]) (W.hd v i):=by
 refine ⟨h.flw,h.out,h.less,h.chn.app ⟨rfl,rfl⟩,fun d hd=>?_,?_,(hL.ok.is _ hi.1).1⟩
 ·rcases List.mem_append.1 hd with hd | hd
  ·exact h.laid d hd
  ·rw [List.mem_singleton] at hd;subst hd;exact ⟨hi,hs⟩
 ·rw [List.map_append]
  refine List.nodup_append.2 ⟨h.nodup,by simp,fun a ha b hb e=>?_⟩
  rw [List.mem_singleton] at hb
  subst hb;subst e
  exact hno ha
theorem Wlk.circle (hL:Lay n E F T W) {r0 r:Nat→Nat→Int} {L:List (Nat×Nat)} {v i k:Nat} (h:Wlk n C most W r0 r L v) (hi:W.Laid (ldF n) (v,i)) (hs:0 < W.sent r (v,i)) {a:Int} (ha:1≤a) (hk:k < (L++[(v,i)]).length) (hkt:((L++[(v,i)])[k]).1=W.hd v i) (hal:∀ d∈(L++[(v,i)]).drop k,a≤W.sent r d) :
  Wlk n C most W r0 (W.pushes r ((L++[(v,i)]).drop k) (-a)) (L.take k) (W.hd v i)∧tot W (ldF n) (W.pushes r ((L++[(v,i)]).drop k) (-a))+1≤tot W (ldF n) r:=by
 generalize hLL:L++[(v,i)]=LL at *
 have hall:∀ d∈LL,W.Laid (ldF n) d∧0 < W.sent r d:=fun d hd=>by
  rw [←hLL] at hd
  rcases List.mem_append.1 hd with hd | hd
  ·exact h.laid d hd
  ·rw [List.mem_singleton] at hd;subst hd;exact ⟨hi,hs⟩
 have hfst:LL.map Prod.fst=L.map Prod.fst++[v]:=by rw [←hLL];simp
 have hnd:LL.Nodup:=by
  have:=h.nodup
  rw [←hfst] at this
  exact (List.Pairwise.of_map Prod.fst (fun a b hab he=>hab (congrArg Prod.fst he)) this)
 have hchn:W.Chn (2*n) LL (W.hd v i):=by rw [←hLL];exact h.chn.app ⟨rfl,rfl⟩
 have hsplit:=hchn
 rw [←List.take_append_drop k LL] at hsplit
 obtain ⟨y,c1,c2⟩:=hsplit.split
 have hdk:LL.drop k=LL[k] :: LL.drop (k+1):=List.drop_eq_getElem_cons hk
 have hy:y=W.hd v i:=by
  rw [hdk] at c2
  rw [c2.head,hkt]
 have hmem:∀ d∈LL.drop k,d∈LL:=fun d hd=>List.mem_of_mem_drop hd
 have hndk:(LL.drop k).Nodup:=hnd.sublist (List.drop_sublist _ _)
 have hb:=Nw.pushes_back hL.ok (by omega) h.flw.res (fun d hd=>(hall d (hmem d hd)).1) hndk hal
 have hout:∀ x,x < W.N→W.out (ldF n) (W.pushes r (LL.drop k) (-a)) x=W.out (ldF n) r x:=fun x hx=>by
  rw [Nw.out_pushes hL.ok (-a) hx fun d hd=>(hall d (hmem d hd)).1.1,c2.sum,hy];omega
 have hNN:=hL.N
 have hkL:k≤L.length:=by rw [←hLL] at hk;simp at hk;omega
 have htk:L.take k=LL.take k:=by rw [←hLL,List.take_append_of_le_length hkL]
 refine ⟨⟨⟨hb.1,fun x hx=>by rw [hout x (by omega)];exact h.flw.keep x hx⟩,by rw [hout _ (by omega)];exact h.out,fun d hd=>?_,?_,fun d hd=>?_,?_,(hL.ok.is _ hi.1).1⟩,?_⟩
 ·rw [hb.2 d hd]
  have:=h.less d hd
  split <;> omega
 ·rw [htk,←hy];exact c1
 ·have hdL:d∈L:=List.mem_of_mem_take hd
  obtain ⟨p1,p2⟩:=h.laid d hdL
  refine ⟨p1,?_⟩
  rw [hb.2 d p1,if_neg,Int.sub_zero]
  ·exact p2
  ·intro hd2
   rw [htk] at hd
   have h3:(LL.take k++LL.drop k).Nodup:=by rw [List.take_append_drop];exact hnd
   exact (List.nodup_append.1 h3).2.2 d hd d hd2 rfl
 ·have h3:(L.take k).map Prod.fst++[W.hd v i]=(LL.map Prod.fst).take (k+1):=by
   rw [htk,←List.map_take,List.take_succ_eq_append_getElem hk,List.map_append,←hkt];rfl
  rw [h3,hfst]
  exact h.nodup.sublist (List.take_sublist _ _)
 ·exact tot_back hL.ok h.flw.res ha (fun d hd=>(hall d (hmem d hd)).1) hndk hal (by rw [hdk];exact List.cons_ne_nil _ _)
theorem f32_walk (hL:Lay n E F T W) (hn:n≤12) {mx:Int} (hc:∀ v u,capF n C most v u≤mx) (hmx:0≤mx∧mx≤20000000) (o:List FlowD) {r0:Nat→Nat→Int} (h0:Flw n C most W r0) (hp:0 < W.out (ldF n) r0 (2*n))
  {R:Type} {Q:R→Prop} {kx:Int→Int→List (List ArcD)→List Int→List Int→Option R}
  (hk:∀ r L,Wlk n C most W r0 r L (2*n+1)→Yld (kx ((2*n:Nat):Int) ((2*n+1:Nat):Int) (W.enc r) (il (L.map Prod.fst++[2*n+1])) (il (L.map Prod.snd))) Q) :
  Yld (iter (fun w=>f32_L5 10000000000000000 o w kx) 10000000000000000 (((2*n:Nat):Int),il [2*n],((2*n:Nat):Int),((2*n+1:Nat):Int),W.enc r0,([]:List Int))) Q:=by
 have hNN:=hL.N
 have ht0:=tot_le hL.ok h0.res hmx.1 hc hL.small
 have ht1:=tot_nonneg hL.ok h0.res
 have ht2:(400*mx)*(W.N:Int)≤(400*20000000)*26:=by
  have e1:(400*mx)*(W.N:Int)≤(400*mx)*26:=Int.mul_le_mul_of_nonneg_left (by omega) (by omega)
  omega
 refine Yld.iterM (fun m (s:Int×List Int×Int×Int×List (List ArcD)×List Int)=>∃ (v:Nat) (L:List (Nat×Nat)) (r:Nat→Nat→Int),s=((v:Int),il (L.map Prod.fst++[v]),((2*n:Nat):Int),((2*n+1:Nat):Int),W.enc r,il (L.map Prod.snd))∧Wlk n C most W r0 r L v∧(m:Int)=30*tot W (ldF n) r+(29-(L.length:Int))) ?_ 10000000000000000 (30*tot W (ldF n) r0+29).toNat _ (by omega) ⟨2*n,[],r0,rfl,⟨h0,rfl,fun d _=>Int.le_refl _,rfl,by simp,by simp,by omega⟩,by simp;omega⟩
 rintro m s w ⟨v,L,r,rfl,h,hm⟩ hw
 simp only [f32_L5]
 have hll:=h.len
 by_cases e:v=2*n+1
 ·subst e
  rw [d_true rfl,Bool.not_true,cond_false]
  exact hk r L h
 ·rw [d_false (show ¬ (v:Int)=((2*n+1:Nat):Int) by omega),Bool.not_false,cond_true]
  refine Yld.then (f49_ok hL.N (by omega) hL.ok h.lt (Nat.le_trans (hL.small v) (by omega))) ?_
  rintro _ (⟨i,hi,hs,rfl⟩ | ⟨hno,_⟩)
  ·have hto:=(hL.ok.is _ hi.1).1
   have ea:W.arcD r v i=((W.hd v i:Int),(r v i,((W.bk v i:Int),()))):=rfl
   simp only [Nw.enc_inb r h.lt,Nw.enc_idx r h.lt,Nw.row_inb r hi.1.2,Nw.row_idx r hi.1.2,chk_true,Option.bind_some,ea]
   have hll2:(L.map Prod.fst++[v]).length=L.length+1:=by simp
   have e3:il (L.map Prod.snd)++[(i:Int)]=il ((L++[(v,i)]).map Prod.snd):=by rw [il_app];simp
   have e0:(L++[(v,i)]).map Prod.fst=L.map Prod.fst++[v]:=by simp
   rcases f50_ok (L.map Prod.fst++[v]) (W.hd v i) (by omega) with ⟨hnm,h50⟩ | ⟨k,hkl,hkv,h50⟩
   ·rw [h50]
    simp only [Option.bind_some]
    rw [ck0' (by rw [il_len,List.length_map];omega),d_true (show (-1:Int) < 0 by omega),cond_true,ck0' (by rw [il_len];omega),il_app,e3]
    have hl4:wi64 (len (il (L.map Prod.fst++[v]++[W.hd v i]))-1)=((L.length+1:Nat):Int):=by
     rw [len_eq,il_len,List.length_append,hll2,List.length_singleton,wi64_of (by omega) (by omega)];omega
    have hlt:L.length+1 < (L.map Prod.fst++[v]++[W.hd v i]).length:=by rw [List.length_append,hll2];simp
    have hg:(L.map Prod.fst++[v]++[W.hd v i])[L.length+1]=W.hd v i:=by
     rw [List.getElem_append_right (by omega)];simp
    rw [hl4,chk_true (inb_some (il_get hlt)),il_idx hlt,hg]
    simp only [Option.bind_some]
    have hst:=h.step hL hi hs hnm
    have hlen:=hst.len
    simp only [List.length_append,List.length_singleton] at hlen
    have ht:=tot_nonneg hL.ok h.flw.res
    refine hw (m-1) _ (by omega) ⟨W.hd v i,L++[(v,i)],r,by rw [e0],hst,?_⟩
    simp only [List.length_append,List.length_singleton];omega
   ·rw [h50]
    simp only [Option.bind_some]
    rw [ck0' (by rw [il_len,List.length_map];omega),d_false (show ¬ (k:Int) < 0 by omega),cond_false,e3,←e0]
    have hkl':k < (L++[(v,i)]).length:=by simp;rw [hll2] at hkl;omega
    have l1:len (il ((L++[(v,i)]).map Prod.fst))=((L.length+1:Nat):Int):=by rw [len_eq,il_len];simp
    have l2:len (il ((L++[(v,i)]).map Prod.snd))=((L.length+1:Nat):Int):=by rw [len_eq,il_len];simp
    rw [hll2] at hkl
    rw [sub_end,sub_end,il_drop,il_drop,←List.map_drop,←List.map_drop,l1,l2]
    rw [chk_true (by simp;omega),chk_true (by simp;omega)]
    have hall:∀ d∈(L++[(v,i)]).drop k,W.Laid (ldF n) d∧0 < W.sent r d:=fun d hd=>by
     rcases List.mem_append.1 (List.mem_of_mem_drop hd) with hd | hd
     ·exact h.laid d hd
     ·rw [List.mem_singleton] at hd;subst hd;exact ⟨hi,hs⟩
    have hnd:(L++[(v,i)]).Nodup:=by
     have:=h.nodup
     rw [←e0] at this
     exact (List.Pairwise.of_map Prod.fst (fun a b hab he=>hab (congrArg Prod.fst he)) this)
    have hne:(L++[(v,i)]).drop k≠[]:=by
     intro he
     have:=congrArg List.length he
     rw [List.length_drop] at this
     simp only [List.length_nil] at this;omega
    refine Yld.then (f51_ok hL.ok h.flw.res hc (by omega) hne hall (hnd.sublist (List.drop_sublist _ _)) (by rw [List.length_drop];simp;omega) _ _) ?_
    rintro _ ⟨a,ha,hal,rfl⟩
    have hkt:((L++[(v,i)])[k]'hkl').1=W.hd v i:=by
     rw [←hkv]
     have e5:((L++[(v,i)]).map Prod.fst)[k]'(by simpa using hkl')=((L++[(v,i)])[k]'hkl').1:=by rw [List.getElem_map]
     rw [←e5]
     congr 1
    obtain ⟨c1,c2⟩:=h.circle hL hi hs ha hkl' hkt hal
    simp only
    rw [wi64_of (n:=(k:Int)+1) (by omega) (by omega),wi64_of (n:=(k:Int)+1-0-1) (by omega) (by omega)]
    rw [chk_true (by simp;omega),chk_true (by simp;omega),chk_true (by simp;omega),show (0:Int)+((k:Int)+1-0-1)=(k:Int) from by omega,show (k:Int)+1=((k+1:Nat):Int) from by omega]
    rw [il_idx (by simpa using hkl'),sub_start,sub_start,il_take,il_take,←List.map_take,←List.map_take]
    simp only [Option.bind_some]
    have hkL:k≤L.length:=by omega
    have e6:(L++[(v,i)]).take k=L.take k:=List.take_append_of_le_length hkL
    have e7:((L++[(v,i)]).take (k+1)).map Prod.fst=(L.take k).map Prod.fst++[W.hd v i]:=by
     rw [List.take_succ_eq_append_getElem hkl',List.map_append,e6,←hkt];rfl
    have e8:(((L++[(v,i)]).map Prod.fst)[k]'(by simpa using hkl'):Nat)=W.hd v i:=by rw [List.getElem_map,hkt]
    rw [e7,e6,e8]
    have ht:=tot_nonneg hL.ok c1.flw.res
    have hcl:=c1.len
    refine hw (30*tot W (ldF n) (W.pushes r ((L++[(v,i)]).drop k) (-a))+(29-((L.take k).length:Int))).toNat _ ?_ ⟨W.hd v i,L.take k,_,rfl,c1,?_⟩
    ·have:((L.take k).length:Int) ≥ 0:=by omega
     omega
    ·omega
  ·obtain ⟨i,hi,hs⟩:=h.goes hL hp e
   exact absurd hs (Int.not_lt.2 (hno i hi))
theorem f32_even (hn:n≤1000) {l:List Nat} (hl:l.length≤3000) (hlt:∀ x∈l,x < 4000) (t10 T0:Int) (o2:List (List ArcD)) (o4:List FlowD) {R:Type} {Q:R→Prop} {kx:List Int→Option R} (hk:Yld (kx (il (evn n l))) Q) :
  Yld (iter (fun w=>f32_L18 10000000000000000 t10 (len (il l)) ((2*n:Nat):Int) T0 o2 (il l) o4 w kx) 10000000000000000 (0,([]:List Int))) Q:=by
 refine Yld.up (fun k (s:List Int)=>s=il (evn n (l.take k))) l.length ?_ ?_ 10000000000000000 0 (Nat.zero_le _) (by omega) _ (by simp [evn,il])
 ·rintro k s w hk rfl hw
  simp only [f32_L18]
  have hv:=hlt _ (List.getElem_mem hk)
  have htk:=take_succ hk
  rw [d_true (show (k:Int) < len (il l) by rw [len_eq,il_len];omega),wi64_nat (k:=k) (by omega),cond_true,chk_true (inb_some (il_get hk)),il_idx hk]
  generalize l[k]=v at hv htk
  have hll:(evn n (l.take k)).length≤3000:=by
   unfold evn
   rw [List.length_map]
   have:=List.length_filter_le (evB n) (l.take k)
   rw [List.length_take] at this
   omega
  rw [Option.bind_some,show Int.tmod (v:Int) 2=((v % 2:Nat):Int) from (Int.ofNat_tmod v 2).symm,show Int.tdiv (v:Int) 2=((v / 2:Nat):Int) from (Int.ofNat_tdiv v 2).symm,wi64_of (by omega) (by omega),bindc']
  have eb:(decide (((v % 2:Nat):Int)=0) && !(decide ((v:Int)=((2*n:Nat):Int))))=evB n v:=by
   unfold evB
   rw [decide_eq_decide.2 (show ((v % 2:Nat):Int)=0↔v % 2=0 by omega),decide_eq_decide.2 (show (v:Int)=((2*n:Nat):Int)↔v=2*n by omega)]
  rw [eb]
  have app:evn n (l.take (k+1))=evn n (l.take k)++evn n [v]:=by rw [htk];unfold evn;rw [List.filter_append,List.map_append]
  cases hb:evB n v
  ·rw [cond_false]
   refine hw _ ?_
   rw [app,show evn n [v]=[] from by unfold evn;rw [List.filter_cons_of_neg (by rw [hb];exact Bool.false_ne_true)];rfl,List.append_nil]
  ·rw [cond_true,ck0' (by rw [il_len];omega),il_app]
   refine hw _ ?_
   rw [app,show evn n [v]=[v / 2] from by unfold evn;rw [List.filter_cons_of_pos hb];rfl]
 ·rintro s w rfl
  simp only [f32_L18]
  rw [d_false (show ¬ ((l.length:Nat):Int) < len (il l) by rw [len_eq,il_len];omega),cond_false,List.take_length]
  exact hk
theorem f32_ok (hL:Lay n E F T W) (hn:n≤12) {mx:Int} (hc:∀ v u,capF n C most v u≤mx) (hmx:0≤mx∧mx≤20000000) {r0:Nat→Nat→Int} (h0:Flw n C most W r0) (hF:0≤W.out (ldF n) r0 (2*n)∧W.out (ldF n) r0 (2*n)≤1000000000) :
  Yld (f32 10000000000000000 ((2*n:Nat):Int) ((2*n+1:Nat):Int) (W.enc r0)) fun x=>∃ r fs,x=(((),((),())),(((),(((2*n:Nat):Int),(((2*n+1:Nat):Int),()))),(W.enc r,(flD fs,()))))∧
   (∀ f∈fs,IsP n E F T f.1∧1≤f.2)∧amt fs=W.out (ldF n) r0 (2*n)∧∀ k,k < n→thru k fs≤W.sent r0 (2*k,0):=by
 have hNN:=hL.N
 unfold f32
 refine Yld.iterM (fun m (s:Int×Int×List (List ArcD)×List FlowD)=>∃ (r:Nat→Nat→Int) (fs:List (List Nat×Int)),s=(((2*n:Nat):Int),((2*n+1:Nat):Int),W.enc r,flD fs)∧Flw n C most W r∧(∀ f∈fs,IsP n E F T f.1∧1≤f.2)∧amt fs+W.out (ldF n) r (2*n)=W.out (ldF n) r0 (2*n)∧(∀ k,k < n→thru k fs+W.sent r (2*k,0)≤W.sent r0 (2*k,0))∧(fs.length:Int)≤amt fs∧0≤W.out (ldF n) r (2*n)∧(m:Int)=W.out (ldF n) r (2*n)) ?_ 10000000000000000 (W.out (ldF n) r0 (2*n)).toNat _ (by omega) ⟨r0,[],rfl,h0,by simp,by simp [amt,lsm],fun k _=>by simp [thru,lsm],by simp [amt,lsm],hF.1,by omega⟩
 rintro m s w ⟨r,fs,rfl,h,hfs,hsum,hth,hlen,hpos,hm⟩ hw
 simp only [f32_L2]
 refine Yld.then (f49_ok hL.N (by omega) hL.ok (by omega) (Nat.le_trans (hL.small _) (by omega))) ?_
 rintro _ (⟨i,hi,hs,rfl⟩ | ⟨hno,rfl⟩)
 ·have hop:=h.out_pos hL hi hs
  rw [d_true (show (0:Int)≤((i:Nat):Int) by omega),cond_true]
  simp only
  refine f32_walk hL hn hc hmx _ h hop ?_
  intro r1 L hW1
  have hll:=hW1.len
  have hl1:len (il (L.map Prod.fst++[2*n+1]))=((L.length+1:Nat):Int):=by rw [len_eq,il_len];simp
  rw [hl1,wi64_of (n:=((L.length+1:Nat):Int)-1) (by omega) (by omega),show ((L.length+1:Nat):Int)-1=((L.length:Nat):Int) from by omega,chk_true (by simp;omega),sub_start,il_take]
  rw [show (L.map Prod.fst++[2*n+1]).take L.length=L.map Prod.fst from by rw [List.take_append_of_le_length (by simp),List.take_of_length_le (by simp)]]
  have hne:L≠[]:=fun e=>by
   have:=hW1.chn
   rw [e] at this
   have:2*n=2*n+1:=this
   omega
  have hnd:L.Nodup:=by
   have:=(List.nodup_append.1 hW1.nodup).1
   exact (List.Pairwise.of_map Prod.fst (fun a b hab he=>hab (congrArg Prod.fst he)) this)
  refine Yld.then (f51_ok hL.ok hW1.flw.res hc (by omega) hne hW1.laid hnd (by omega) _ _) ?_
  rintro _ ⟨a,ha,hal,rfl⟩
  simp only
  rw [←hl1]
  refine f32_even (by omega) (by simp;omega) (fun x hx=>?_) _ _ _ _ ?_
  ·rcases List.mem_append.1 hx with hx | hx
   ·obtain ⟨d,hd,rfl⟩:=List.mem_map.1 hx
    have:=(hW1.laid d hd).1.1.1;omega
   ·rw [List.mem_singleton] at hx;omega
  ·obtain ⟨p1,p2⟩:=chain_path hL hW1.chn (fun d hd=>(hW1.laid d hd).1) hW1.nodup
   have hb:=Nw.pushes_back hL.ok (by omega) hW1.flw.res (fun d hd=>(hW1.laid d hd).1) hnd hal
   have hout:∀ x,x < W.N→W.out (ldF n) (W.pushes r1 L (-a)) x=W.out (ldF n) r1 x+((if x=2*n then -a else 0)-(if x=2*n+1 then -a else 0)):=fun x hx=>by
    rw [Nw.out_pushes hL.ok (-a) hx fun d hd=>(hW1.laid d hd).1.1,hW1.chn.sum]
   have hflw:Flw n C most W (W.pushes r1 L (-a)):=⟨hb.1,fun x hx=>by rw [hout x (by omega),hW1.flw.keep x hx,if_neg (by omega),if_neg (by omega)];rfl⟩
   have hso:=hout (2*n) (by omega)
   rw [if_pos rfl,if_neg (by omega),hW1.out] at hso
   have hge:0≤W.out (ldF n) (W.pushes r1 L (-a)) (2*n):=by
    unfold Nw.out
    refine lsm_nonneg fun j hj=>?_
    have:=src_laid hL (List.mem_range.1 hj)
    rw [(Res.fl_laid hflw.res this).1];exact hflw.res.pos _ (hL.ok.is _ this.1)
   have hamt:amt (fs++[(evn n (L.map Prod.fst++[2*n+1]),a)])=amt fs+a:=by unfold amt;rw [lsm_app];simp [lsm]
   rw [chk_true (decide_eq_true (show Nat.succ (flD fs).length≤room by rw [flD_len];simp only [room];omega))]
   rw [flD_app fs (evn n (L.map Prod.fst++[2*n+1]),a)]
   refine hw (W.out (ldF n) (W.pushes r1 L (-a)) (2*n)).toNat _ (by omega) ⟨_,_,rfl,hflw,fun f hf=>?_,by omega,fun k hk=>?_,?_,hge,by omega⟩
   ·rcases List.mem_append.1 hf with hf | hf
    ·exact hfs f hf
    ·rw [List.mem_singleton] at hf;subst hf;exact ⟨p1,ha⟩
   ·have h1:=hth k hk
    have h2:=hL.thru hk
    have h3:=hW1.less _ h2
    have h4:=hb.2 _ h2
    unfold thru at h1 ⊢
    rw [lsm_app]
    simp only [lsm]
    by_cases hin:k∈evn n (L.map Prod.fst++[2*n+1])
    ·rw [if_pos (p2 k hin)] at h4
     rw [if_pos hin];omega
    ·rw [if_neg hin]
     have:0≤(if (2*k,0)∈L then a else 0:Int):=by split <;> omega
     omega
   ·rw [hamt];simp only [List.length_append,List.length_singleton];omega
 ·have hz:=h.out_zero hL hno
  rw [d_false (show ¬ (0:Int)≤-1 by omega),cond_false]
  refine Yld.ret ⟨r,fs,rfl,hfs,by omega,fun k hk=>?_⟩
  have h1:=hth k hk
  have h2:=h.res.pos _ (hL.ok.is _ (hL.thru hk).1)
  unfold Nw.sent at *
  omega
end
end Go.Kz
