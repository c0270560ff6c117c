/-
  The layer adaptive: the separator's plan; the model's hardness; plain laws.
-/
import Derived.Test.YtnjfafnflbackaaGreatKzW3z
set_option linter.unusedVariables false
set_option linter.unusedSimpArgs false
namespace Go.Kz
abbrev zvl:=Int->z1m->List Int->z82->List z14->Option ((Unit×(Unit×Unit))×((z1m×(Unit×(Unit×Unit)))×((List Int)×(z82×(List z14×Unit)))))
def PostT (m:z1m) (p:List Int) (n:Nat) (M:z82) (s:List z14) (y:(Unit×(Unit×Unit))×((z1m×(Unit×(Unit×Unit)))×((List Int)×(z82×(List z14×Unit))))):Prop:=
 ∃ M',y=(((),((),())),((m,((),((),()))),(p,(M',(s,())))))∧HM m.2.1 p n M'∧zvi M M'
def zms (m:z1m) (p:List Int) (n l:Nat) (r:zvl) (S:Nat):Prop:=
 ∀ M,HM m.2.1 p n M->∀ s:List z14,s.length+(z4c m.2.1 p n l S s.length).length≤100000->Yld (r (S:Int) m p M s) (PostT m p n M (s++z4c m.2.1 p n l S s.length))
def zjs (vs:List (List Int)) (p:List Int) (n l q:Nat) (v:List Int) (S:Nat) (s:List z14) (k:Nat):List z14:=
 s++(((q:Nat):Int),((go vs p n l v S s.length k).1++List.replicate (z1z v-k) (-1),())) :: (go vs p n l v S s.length k).2
theorem zkw (vs:List (List Int)) (p:List Int) (n l S:Nat) (s:List z14):zjs vs p n l (qH vs p n S) (vs.getD (qH vs p n S) []) S s (z1z (vs.getD (qH vs p n S) []))=s++z4c vs p n (l+1) S s.length:=by
 rw [zav];simp only [zjs,Nat.sub_self,List.replicate_zero,List.append_nil]
theorem zti (vs:List (List Int)) (p:List Int) (n l q:Nat) (v:List Int) (S:Nat) (s:List z14) {j k:Nat} (h:j≤k):(zjs vs p n l q v S s j).length≤(zjs vs p n l q v S s k).length:=by
 have:=zu1 vs p n l v S s.length j (k-j);rw [show j+(k-j)=k by omega] at this;simp only [zjs,List.length_append,List.length_cons];omega
theorem zgt {R:Type} (N:Nat) (hN:5000 < N) {m:z1m} {p:List Int} {n:Nat} (hs:Sep m p n) {l S:Nat} (hS:S < 2 ^ n) {q:Nat} (hq:q < m.2.1.length) (s:List z14)
  (r:zvl) (hr:∀ c,c < z1z (z07 m q)->z0e n (part (z07 m q) S c) p=true->zms m p n l r (part (z07 m q) S c))
  (hlen:(zjs m.2.1 p n l q (z07 m q) S s (z1z (z07 m q))).length≤100000) (M:z82) (hM:HM m.2.1 p n M) {Q:R->Prop}
  {F:(Int×List z14×z1m×List Int×z82->Option R)->Int×List z14×z1m×List Int×z82->Option R}
  (hF:∀ (w:Int×List z14×z1m×List Int×z82->Option R) (c:Nat) (s':List z14) (M':z82),c < z1z (z07 m q)->F w ((c:Int),s',m,p,M') =
   (idx (z9i (z07 m q) S) (c:Int)).bind fun x_1=>
   (f53 N p x_1).bind fun r_4=>
   cond (!r_4)
    (chk (inb s' (s.length:Int)) <|
    (idx s' (s.length:Int)).bind fun x_2=>
    (idx s' (s.length:Int)).bind fun x_3=>
    (idx s' (s.length:Int)).bind fun x_4=>
    chk (inb x_4.2.1 (c:Int)) <|
    (idx s' (s.length:Int)).bind fun x_5=>
    (idx x_5.2.1 (c:Int)).bind fun x_6=>
    (idx x_5.2.1 (c:Int)).bind fun x_7=>
    (idx s' (s.length:Int)).bind fun x_8=>
    (r x_1 m p M' (zar s' (s.length:Int) (x_8.1,((zar x_5.2.1 (c:Int) (len s')),x_8.2.2)))).bind fun r_5=>
    w ((z0g ((c:Int)+1)),r_5.2.2.2.2.1,r_5.2.1.1,r_5.2.2.1,r_5.2.2.2.1))
    (w ((z0g ((c:Int)+1)),s',m,p,M')))
  (hE:∀ (w:Int×List z14×z1m×List Int×z82->Option R) (M':z82),HM m.2.1 p n M'->zvi M M'->Yld (F w ((z1z (z07 m q):Int),zjs m.2.1 p n l q (z07 m q) S s (z1z (z07 m q)),m,p,M')) Q) :
  Yld (iter F N (0,zjs m.2.1 p n l q (z07 m q) S s 0,m,p,M)) Q:=by
 obtain ⟨e1,hv⟩:=hs.menu.at hq;have hn:=hs.menu.few;have htl:=z9t hv;have hpl:(z9i (z07 m q) S).length=z1z (z07 m q):=z7a _ _;refine Yld.iter (fun x=>∃ (c:Nat) (M':z82),x=((c:Int),zjs m.2.1 p n l q (z07 m q) S s c,m,p,M')∧c≤z1z (z07 m q)∧HM m.2.1 p n M'∧zvi M M') (fun x=>z1z (z07 m q)-x.1.toNat) ?_ N _ ⟨0,M,rfl,Nat.zero_le _,hM,fun _ h=>h⟩ (by simp;omega);rintro x w ⟨c,M',rfl,hc,hM',hsub⟩ hw;by_cases hct:c < z1z (z07 m q)
 ·have hcl:c < (z9i (z07 m q) S).length:=by rw [hpl];exact hct
  have hget:(z9i (z07 m q) S)[c]=((part (z07 m q) S c:Nat):Int):=z8x ..;have hfl:=zd0 m.2.1 p n l (z07 m q) S s.length c;have hle:=zti m.2.1 p n l q (z07 m q) S s (j:=c+1) (k:=z1z (z07 m q)) (by omega);have hsucc:zjs m.2.1 p n l q (z07 m q) S s (c+1)=s++(((q:Nat):Int),((go m.2.1 p n l (z07 m q) S s.length c).1++gx m.2.1 p n l (z07 m q) S s.length c :: List.replicate (z1z (z07 m q)-(c+1)) (-1),())) :: ((go m.2.1 p n l (z07 m q) S s.length c).2++ge m.2.1 p n l (z07 m q) S s.length c):=by
   simp only [zjs,zca,List.append_assoc,List.singleton_append]
  rw [hF w c _ M' hct,z0s hcl,hget];simp only [Option.bind_some];rw [zzd N (by omega) hs.view hn (zxh hn (z21 hv S c)),z0c (n:=(c:Int)+1) (by omega) (by omega)];simp only [Option.bind_some]
  cases hst:z0e n (part (z07 m q) S c) p with
  | false=>
   simp only [Bool.not_false,Bool.not_true,cond_false];refine hw _ ⟨c+1,M',?_,by omega,hM',hsub⟩ (by simp;omega);rw [hsucc];have hx:gx m.2.1 p n l (z07 m q) S s.length c = -1:=by simp [gx,zbq,hst]
   have hge:ge m.2.1 p n l (z07 m q) S s.length c=[]:=by simp [ge,zbq,hst]
   rw [hx,hge,List.append_nil,←zkf c _ hct]
   simp [zjs]
  | true=>
   simp only [Bool.not_true,Bool.not_false,cond_true];have hx:gx m.2.1 p n l (z07 m q) S s.length c=((s.length+1+(go m.2.1 p n l (z07 m q) S s.length c).2.length:Nat):Int):=by simp [gx,zbq,hst]
   have hge:ge m.2.1 p n l (z07 m q) S s.length c=z4c m.2.1 p n l (part (z07 m q) S c) (s.length+1+(go m.2.1 p n l (z07 m q) S s.length c).2.length):=by simp [ge,zbq,hst]
   rw [hx,hge] at hsucc;generalize hacc:go m.2.1 p n l (z07 m q) S s.length c=acc at *;have hmid:zjs m.2.1 p n l q (z07 m q) S s c=s++(((q:Nat):Int),(acc.1++List.replicate (z1z (z07 m q)-c) (-1),())) :: acc.2:=by simp only [zjs,hacc]
   rw [hsucc] at hle;simp only [List.length_append,List.length_cons] at hle;have hsl:s.length < (s++(((q:Nat):Int),(acc.1++List.replicate (z1z (z07 m q)-c) (-1),())) :: acc.2).length:=by simp
   have hsg:(s++(((q:Nat):Int),(acc.1++List.replicate (z1z (z07 m q)-c) (-1),())) :: acc.2)[s.length]'hsl=(((q:Nat):Int),(acc.1++List.replicate (z1z (z07 m q)-c) (-1),())):=by simp
   have hcn:c < (acc.1++List.replicate (z1z (z07 m q)-c) (-1)).length:=by rw [List.length_append,hfl,List.length_replicate];omega
   rw [hmid,z0x (z5b hsl),z0s hsl,hsg];simp only [Option.bind_some];rw [z0x (z5b hcn),z0s hcn];simp only [Option.bind_some];rw [z92,z92,zsk];have hset:(acc.1++List.replicate (z1z (z07 m q)-c) (-1)).set c (len (s++(((q:Nat):Int),(acc.1++List.replicate (z1z (z07 m q)-c) (-1),())) :: acc.2))=acc.1++((s.length+1+acc.2.length:Nat):Int) :: List.replicate (z1z (z07 m q)-(c+1)) (-1):=by
    rw [zkf c _ hct];have hll:len (s++(((q:Nat):Int),(acc.1 ++ -1 :: List.replicate (z1z (z07 m q)-(c+1)) (-1),())) :: acc.2)=((s.length+1+acc.2.length:Nat):Int):=by
     simp only [len,List.length_append,List.length_cons];omega
    rw [hll]
    conv=>lhs;rw [show c=acc.1.length from hfl.symm]
    rw [zsk];simp only [hfl]
   rw [hset];have hnl:(s++(((q:Nat):Int),(acc.1++((s.length+1+acc.2.length:Nat):Int) :: List.replicate (z1z (z07 m q)-(c+1)) (-1),())) :: acc.2).length=s.length+1+acc.2.length:=by
    simp only [List.length_append,List.length_cons];omega
   have hsp:=hr c hct hst M' hM' (s++(((q:Nat):Int),(acc.1++((s.length+1+acc.2.length:Nat):Int) :: List.replicate (z1z (z07 m q)-(c+1)) (-1),())) :: acc.2);rw [hnl] at hsp;refine Yld.then (hsp (by omega)) ?_;rintro y ⟨M2,hy,hM2,hsub2⟩;subst hy;simp only;refine hw _ ⟨c+1,M2,?_,by omega,hM2,fun x hx=>hsub2 x (hsub x hx)⟩ (by simp;omega);rw [hsucc];simp
 ·have he:c=z1z (z07 m q):=by omega
  subst he;exact hE w M' hM' hsub
theorem zme {R:Type} (N:Nat) (hN:5000 < N) {m:z1m} {p:List Int} {n:Nat} (hs:Sep m p n) {S:Nat} (hS:S < 2 ^ n) (hsp:z0e n S p=true) (M:z82) (hM:HM m.2.1 p n M) {Q:R->Prop}
  {F:(Int×z1m×List Int×z82->Option R)->Int×z1m×List Int×z82->Option R} {K:Int->z1m->List Int->z82->Option R}
  (hF:∀ (w:Int×z1m×List Int×z82->Option R) (q:Nat) (M':z82),F w ((q:Int),m,p,M')=(f54 N (f23 N) (S:Int) (q:Int) m p M').bind fun r=>
   (f23 N (S:Int) r.2.1.1 r.2.2.1 r.2.2.2.1).bind fun r_1=>
   cond (!(decide (r.1.2.1=(z0g (r_1.1.2.1-1)))))
    (w ((z0g ((q:Int)+1)),r_1.2.1.1,r_1.2.2.1,r_1.2.2.2.1))
    (K (q:Int) r_1.2.1.1 r_1.2.2.1 r_1.2.2.2.1))
  (hK:∀ M',HM m.2.1 p n M'->zvi M M'->Yld (K (qH m.2.1 p n S:Int) m p M') Q):Yld (iter F N (0,m,p,M)) Q:=by
 have h0:=z30 hsp;have ha:=z9g hs hS h0 hsp;have hv8:=hs.menu.views;have hn:=hs.menu.few;have hb:=z7v hs.menu.view hs.joint hS h0;have hcl:=z4u n S;refine Yld.iter (fun x=>∃ (q:Nat) (M':z82),x=((q:Int),m,p,M')∧q≤qH m.2.1 p n S∧HM m.2.1 p n M'∧zvi M M') (fun x=>m.2.1.length-x.1.toNat) ?_ N _ ⟨0,M,rfl,Nat.zero_le _,hM,fun _ h=>h⟩ (by simp;omega);rintro x w ⟨q,M',rfl,hq,hM',hsub⟩ hw;have hlt:=ha.lt;have hql:q < m.2.1.length:=by omega
 obtain ⟨e1,hv⟩:=hs.menu.at hql;rw [hF];refine Yld.then (zzc N hN hs hS h0 hql (fun hspv c hc hp=>zur N hN hs (z21 hv S c) hp) M' hM') ?_;rintro y ⟨M2,hy,hM2,hsub2,_⟩;subst hy;simp only [zs2];refine Yld.then (zur N hN hs hS h0 M2 hM2) ?_;rintro y ⟨M3,hy,hM3,hsub3,_⟩;subst hy;simp only [zs2];have hsub':zvi M M3:=fun x hx=>hsub3 x (hsub2 x (hsub x hx))
 rw [z0c (n:=HH m.2.1 p n S-1) (by omega) (by omega),z0c (n:=(q:Int)+1) (by omega) (by omega)];by_cases he:q=qH m.2.1 p n S
 ·have hval:(if z0e n S (z07 m q)=true then za1 (z07 m q) S (HH m.2.1 p n) else -1)=HH m.2.1 p n S-1:=by
   rw [he,if_pos ha.split,ha.val]
  rw [decide_eq_true hval];simp only [Bool.not_true,cond_false];rw [he];exact hK M3 hM3 hsub'
 ·have hnot:=List.not_of_lt_findIdx (p:=fun v=>decide (wQ m.2.1 p n S v=HH m.2.1 p n S-1)) (xs:=m.2.1) (show q < m.2.1.findIdx _ from Nat.lt_of_le_of_ne hq he);have hval:¬ (if z0e n S (z07 m q)=true then za1 (z07 m q) S (HH m.2.1 p n) else -1)=HH m.2.1 p n S-1:=by
   intro h;have h2:decide (wQ m.2.1 p n S m.2.1[q]=HH m.2.1 p n S-1)=true:=by
    rw [e1];exact decide_eq_true h
   rw [h2] at hnot;exact absurd hnot (by simp)
  rw [decide_eq_false hval];simp only [Bool.not_false,cond_true];exact hw _ ⟨q+1,M3,by simp,by omega,hM3,hsub'⟩ (by simp;omega)
theorem zlp (N:Nat) (hN:5000 < N) (hrep:zyk N) {m:z1m} {p:List Int} {n:Nat} (hs:Sep m p n):∀ (k l S:Nat),S < 2 ^ n->z0e n S p=true->zcg n S≤l->l < k->zms m p n l (zfh N k) S
 | 0,_,_,_,_,_,h=>absurd h (by omega)
 | k+1,0,S,hS,hsp,hc,_=>by have:=z4k hS (z30 hsp);omega
 | k+1,l+1,S,hS,hsp,hc,hk=>by
  intro M hM s hlen;have h0:=z30 hsp;have ha:=z9g hs hS h0 hsp;have hn:=hs.menu.few;have hv8:=hs.menu.views;have hqv:m.2.1.getD (qH m.2.1 p n S) []=z07 m (qH m.2.1 p n S):=rfl;obtain ⟨e1,hv⟩:=hs.menu.at ha.lt;have htl:=z9t hv;have hpl:(z9i (z07 m (qH m.2.1 p n S)) S).length=z1z (z07 m (qH m.2.1 p n S)):=z7a _ _;have hlen1:len (z9i (z07 m (qH m.2.1 p n S)) S)=((z1z (z07 m (qH m.2.1 p n S)):Nat):Int):=by simp only [len,hpl]
  have hfull:=zkw m.2.1 p n l S s;rw [hqv] at hfull;show Yld (zlq N (zfh N k) (S:Int) m p M s) _;unfold zlq;refine zme N hN hs hS hsp M hM (K:=fun t7_1 o0_2 o1_2 o2_2=>
   (idx o0_2.2.1 t7_1).bind fun x=>
   (f55 N x (S:Int)).bind fun r_2=>
   (f56 N ((-1) :: ([]:List Int)) (len r_2)).bind fun r_3=>
   chk (decide ((Nat.succ (List.length s))≤z31)) <|
   iter (fun w=>z6y N (zfh N k) (len s) (len r_2) r_2 w
    (fun o0_4 o1_4 o2_4 o3_3=>
     some (((),((),())),((o0_4,((),((),()))),(o1_4,(o2_4,(o3_3,()))))))) N (0,(s++((t7_1,(r_3,())) :: ([]:List z14))),o0_2,o1_2,o2_2)) (fun w q M'=>rfl) (fun M' hM' hsub=>?_)
  rw [z0s ha.lt,e1];simp only [Option.bind_some];rw [zuh N (by omega) hv hs.menu.pos hn (zxh hn hS)];simp only [Option.bind_some];rw [hlen1,hrep _ (by omega)];simp only [Option.bind_some];rw [z5g (by omega)];have hmid0:s++[((qH m.2.1 p n S:Int),List.replicate (z1z (z07 m (qH m.2.1 p n S))) (-1),())]=zjs m.2.1 p n l (qH m.2.1 p n S) (z07 m (qH m.2.1 p n S)) S s 0:=by simp [zjs,go]
  rw [hmid0];refine zgt N hN hs hS ha.lt s (zfh N k) (fun c hct hst=>by
   have:=z4j hv ha.split c;exact zlp N hN hrep hs k l _ (z21 hv S c) hst (by omega) (by omega)) (by rw [hfull,List.length_append];exact hlen) M' hM' ?_ ?_
  ·intro w2 c s' M2 hct;have hcl:c < (z9i (z07 m (qH m.2.1 p n S)) S).length:=by rw [hpl];exact hct
   simp only [z6y];rw [dlt hct,cond_true,z0x (z5b hcl)]
  ·intro w2 M2 hM2 hsub2;simp only [z6y];rw [dnlt,cond_false,hfull];exact Yld.ret ⟨M2,rfl,hM2,fun x hx=>hsub2 x (hsub x hx)⟩
 termination_by k=>k
theorem f25_ok (N:Nat) (hN:5000 < N) (hrep:zyk N) {m:z1m} {p:List Int} {n:Nat} (hs:Sep m p n) {l S:Nat} (hS:S < 2 ^ n) (hsp:z0e n S p=true) (hc:zcg n S≤l+1) (hl:l≤100) (M:z82) (hM:HM m.2.1 p n M) (hlen:(z4c m.2.1 p n (l+1) S 0).length≤100000) :
  Yld (f25 N (S:Int) m p M) (PostT m p n M (z4c m.2.1 p n (l+1) S 0)):=by
 have h0:=z30 hsp;have ha:=z9g hs hS h0 hsp;have hn:=hs.menu.few;have hv8:=hs.menu.views;have hqv:m.2.1.getD (qH m.2.1 p n S) []=z07 m (qH m.2.1 p n S):=rfl;obtain ⟨e1,hv⟩:=hs.menu.at ha.lt;have htl:=z9t hv;have hpl:(z9i (z07 m (qH m.2.1 p n S)) S).length=z1z (z07 m (qH m.2.1 p n S)):=z7a _ _;have hlen1:len (z9i (z07 m (qH m.2.1 p n S)) S)=((z1z (z07 m (qH m.2.1 p n S)):Nat):Int):=by simp only [len,hpl]
 have hfull:=(zkw m.2.1 p n l S []).trans (List.nil_append _);rw [hqv] at hfull;unfold f25;refine zme N hN hs hS hsp M hM (K:=fun t7_1 o0_2 o1_2 o2_2=>
   (idx o0_2.2.1 t7_1).bind fun x=>
   (f55 N x (S:Int)).bind fun r_2=>
   (f56 N ((-1) :: ([]:List Int)) (len r_2)).bind fun r_3=>
   iter (fun w=>zhn N 0 (len r_2) r_2 w
    (fun o0_4 o1_4 o2_4 o3_1=>
     some (((),((),())),((o0_4,((),((),()))),(o1_4,(o2_4,(o3_1,()))))))) N (0,((t7_1,(r_3,())) :: ([]:List z14)),o0_2,o1_2,o2_2)) (fun w q M'=>rfl) (fun M' hM' hsub=>?_)
 rw [z0s ha.lt,e1];simp only [Option.bind_some];rw [zuh N (by omega) hv hs.menu.pos hn (zxh hn hS)];simp only [Option.bind_some];rw [hlen1,hrep _ (by omega)];simp only [Option.bind_some];have hmid0:[((qH m.2.1 p n S:Int),List.replicate (z1z (z07 m (qH m.2.1 p n S))) (-1),())]=zjs m.2.1 p n l (qH m.2.1 p n S) (z07 m (qH m.2.1 p n S)) S [] 0:=by simp [zjs,go]
 rw [hmid0];refine zgt N hN hs hS ha.lt [] (f25v1 N) (fun c hct hst=>by
  have:=z4j hv ha.split c;exact zlp N hN hrep hs N l _ (z21 hv S c) hst (by omega) (by omega)) (by rw [hfull];exact hlen) M' hM' ?_ ?_
 ·intro w2 c s' M2 hct;have hcl:c < (z9i (z07 m (qH m.2.1 p n S)) S).length:=by rw [hpl];exact hct
  simp only [zhn];rw [dlt hct,cond_true,z0x (z5b hcl)];rfl
 ·intro w2 M2 hM2 hsub2;simp only [zhn];rw [dnlt,cond_false,hfull];exact Yld.ret ⟨M2,rfl,hM2,fun x hx=>hsub2 x (hsub x hx)⟩
theorem zkx (v:List Int) (S:Nat) (h:Nat->Int):(k:Nat)->((((List.range k).map (part v S)).filter fun y=>decide (y≠0)).foldl (fun b y=>max b (h y)) 0)=(List.range k).foldl (fun b c=>max b (if part v S c=0 then 0 else h (part v S c))) 0
 | 0=>rfl
 | k+1=>by
  rw [List.range_succ,List.map_append,List.filter_append,List.foldl_append,List.foldl_append];rw [zkx v S h k];have hnn:0≤(List.range k).foldl (fun b c=>max b (if part v S c=0 then 0 else h (part v S c))) 0:=z98 _ _ 0;by_cases h0:part v S k=0
  ·simp [h0];omega
  ·simp [h0]
theorem zsa {n:Nat} {v:List Int} (hv:View n v) {S:Nat} (hS:S < 2 ^ n) (h0:S≠0):decide (len (zj2 (z28 v S)) < 2) = !z0e n S v:=by
 have hlen:(z28 v S).length=((List.range (z1z v)).filter fun c=>decide (part v S c≠0)).length:=by
  simp only [z28,List.filter_map,List.length_map];rfl
 have hmem:∀ c,c∈(List.range (z1z v)).filter (fun c=>decide (part v S c≠0))↔c < z1z v∧part v S c≠0:=by
  intro c;simp
 have hnd:((List.range (z1z v)).filter fun c=>decide (part v S c≠0)).Nodup:=List.nodup_range.filter _;generalize (List.range (z1z v)).filter (fun c=>decide (part v S c≠0))=L at *
 cases hsp:z0e n S v with
 | false=>
  obtain ⟨c0,hc0,hw0,hz⟩:=zbw hv hS h0 hsp;have hall:∀ c∈L,c=c0:=by
   intro c hc;obtain ⟨h1,h2⟩:=(hmem c).1 hc;apply Classical.byContradiction;intro hne;exact h2 (hz c h1 hne)
  have:L.length≤1:=by
   match L,hnd,hall with
   | [],_,_=>simp
   | [a],_,_=>simp
   | a :: b :: L,hnd,hall=>
    have e1:=hall a (by simp);have e2:=hall b (by simp);subst e1;rw [List.nodup_cons] at hnd;exact absurd (by rw [e2];simp) hnd.1
  simp only [len,z7n,hlen,Bool.not_false,decide_eq_true_eq]
  omega
 | true=>
  obtain ⟨r,s,hr,hsn,b1,b2,hne⟩:=z5h hsp;have hpb:∀ x,x < n->S.testBit x=true->(v.getD x 0).toNat∈L:=by
   intro x hx hb;refine (hmem _).2 ⟨zfs hv hx,fun e=>?_⟩;have:=z2q hv S (v.getD x 0).toNat hx;rw [e,hb] at this;simp at this
  have h1:=hpb r hr b1;have h2:=hpb s hsn b2;have hne2:(v.getD r 0).toNat≠(v.getD s 0).toNat:=by
   have:=zd4 hv hr;have:=zd4 hv hsn;omega
  have:2≤L.length:=by
   match L,h1,h2 with
   | [],h1,_=>simp at h1
   | [a],h1,h2=>
    simp only [List.mem_singleton] at h1 h2
    exact absurd (h1.trans h2.symm) hne2
   | a :: b :: L,_,_=>simp
  simp only [len,z7n,hlen,Bool.not_true,decide_eq_false_iff_not];omega
def zyl (vs:List (List Int)) (p:List Int) (n:Nat) (M:z82):Prop:=∀ x v,lk M x=some v->∃ S:Nat,x=(S:Int)∧v=HH vs p n S
theorem zz8 (N:Nat) (hN:5000 < N) {m:z1m} {p:List Int} {n:Nat} (hs:Sep m p n):∀ (k S:Nat),S < 2 ^ n->S≠0->zcg n S < k->∀ M,zyl m.2.1 p n M->
  Yld (f8R N k m (S:Int) p M) fun y=>∃ M',y=(((),((),(HH m.2.1 p n S,()))),(p,(M',())))∧zyl m.2.1 p n M'
 | 0,S,hS,h0,h=>by have:=z5u n S;omega
 | k+1,S,hS,h0,hk=>by
  intro M hM;have hn:=hs.menu.few;have hv8:=hs.menu.views;show Yld (f8B N (f8R N k) m (S:Int) p M) _;unfold f8B;simp only [zit keyI,znm keyI]
  cases hl:lk M (S:Int) with
  | some v=>
   obtain ⟨T,hT,hv⟩:=hM _ _ hl;have:T=S:=by omega
   subst this;simp only [Option.isSome_some,cond_true,Option.getD_some];subst hv
   exact Yld.ret ⟨M,rfl,hM⟩
  | none=>
   simp only [Option.isSome_none,cond_false];rw [zzi N (by omega) hs.menu hs.view (zxh hn hS)];simp only [Option.bind_some]
   cases hsp:z0e n S p with
   | false=>
    simp only [Bool.not_false,cond_true];have hz:HH m.2.1 p n S=0:=by rw [zga hs.menu.view hs.joint hS h0,hsp];rfl
    exact Yld.ret ⟨M,by rw [hz],hM⟩
   | true=>
    simp only [Bool.not_true,cond_false];refine Yld.up (fun q s=>s.1=(m.2.1.take q).foldl (z3q n S (HH m.2.1 p n)) 1000∧zyl m.2.1 p n s.2.1∧s.2.2=p)
     m.2.1.length ?_ ?_ N 0 (by omega) (by omega) _ ⟨rfl,hM,rfl⟩
    ·rintro q ⟨t,M',b⟩ w hq ⟨h1,h2,h3⟩ hw;simp only at h1 h2 h3;subst h1;subst h3;obtain ⟨e1,hv⟩:=hs.menu.at hq;have htk:(m.2.1.take (q+1)).foldl (z3q n S (HH m.2.1 b n)) 1000=z3q n S (HH m.2.1 b n) ((m.2.1.take q).foldl (z3q n S (HH m.2.1 b n)) 1000) (z07 m q):=by
      rw [z27 hq,List.foldl_append,e1];rfl
     simp only [zlb];rw [z1p hq,cond_true,zzh N (by omega) hs.menu hq (zxh hn hS)];simp only [Option.bind_some];rw [zsa hv hS h0,z0c (n:=(q:Int)+1) (by omega) (by omega)]
     cases hspv:z0e n S (z07 m q) with
     | false=>
      simp only [Bool.not_false,cond_true]
      refine hw ⟨_,M',b⟩ ⟨by rw [htk];simp only [z3q,hspv,Bool.false_eq_true,if_false],h2,rfl⟩
     | true=>
      simp only [Bool.not_true,cond_false];have hpl:=zgv hv S;have hil:len (zj2 (z28 (z07 m q) S))=((z28 (z07 m q) S).length:Int):=by simp only [len,z7n]
      rw [hil];refine Yld.up (fun c s=>s.1=((z28 (z07 m q) S).take c).foldl (fun b' y=>max b' (HH m.2.1 b n y)) 0∧zyl m.2.1 b n s.2.1∧s.2.2=b) (z28 (z07 m q) S).length ?_ ?_ N 0 (by omega) (by omega) _ ⟨rfl,h2,rfl⟩
      ·rintro c ⟨t2,M2,b2⟩ w2 hc ⟨g1,g2,g3⟩ hw2;simp only at g1 g2 g3;subst g1;subst g3;have hci:c < (zj2 (z28 (z07 m q) S)).length:=by rw [z7n];exact hc
       have hge:(zj2 (z28 (z07 m q) S))[c]=(((z28 (z07 m q) S)[c]:Nat):Int):=by simp [zj2]
       obtain ⟨hne,d,hd,hde⟩:=zri (List.getElem_mem hc);have hcp:=z4j hv hspv d;rw [hde] at hcp;have hlt:=z21 hv S d;rw [hde] at hlt;simp only [zfe];rw [dlt hc,cond_true,z0x (z5b hci),z0s hci,hge];simp only [Option.bind_some];refine Yld.then (zz8 N hN hs k _ hlt hne (by omega) M2 g2) ?_;rintro y ⟨M3,hy,g4⟩;subst hy;simp only;rw [z0c (by omega) (by omega),ziv];refine hw2 ⟨_,M3,b2⟩ ⟨by rw [z27 hc,List.foldl_append];rfl,g4,rfl⟩
      ·rintro ⟨t2,M2,b2⟩ w2 ⟨g1,g2,g3⟩;simp only at g1 g2 g3;subst g1;subst g3;simp only [zfe];have hmx:((z28 (z07 m q) S).take (z28 (z07 m q) S).length).foldl (fun b' y=>max b' (HH m.2.1 b2 n y)) 0=za1 (z07 m q) S (HH m.2.1 b2 n):=by
        rw [List.take_length];exact zkx (z07 m q) S (HH m.2.1 b2 n) (z1z (z07 m q))
       have hm0:=z42 (z07 m q) S (HH m.2.1 b2 n);have hmb:za1 (z07 m q) S (HH m.2.1 b2 n)≤62:=by
        refine zno (by omega) fun c hc hp=>?_
        have:=(z7v hs.menu.view hs.joint (z21 hv S c) hp).2;have:=z4u n (part (z07 m q) S c);omega
       rw [dnlt,cond_false,hmx,z0c (n:=za1 (z07 m q) S (HH m.2.1 b2 n)+1) (by omega) (by omega),zth];refine hw ⟨_,M2,b2⟩ ⟨by rw [htk];simp only [z3q,hspv,if_true],g2,rfl⟩
    ·rintro ⟨t,M',b⟩ w ⟨h1,h2,h3⟩;simp only at h1 h2 h3;subst h1;subst h3;simp only [zlb];rw [z1e,cond_false,List.take_length,HH_from hs.menu.view hs.joint hS h0 hsp (by omega)];refine Yld.ret ⟨_,rfl,fun x v hx=>?_⟩;rw [zrk] at hx;split at hx
     ·rename_i e;simp only [zI] at hx;exact ⟨S,e,hx.symm⟩
     ·exact h2 x v hx
 termination_by k=>k
end Go.Kz
