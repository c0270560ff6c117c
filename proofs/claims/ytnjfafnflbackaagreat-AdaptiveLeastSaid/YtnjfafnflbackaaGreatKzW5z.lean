/-
  The layer adaptive: Least; plain laws.
-/
import Derived.Test.YtnjfafnflbackaaGreatKzW4z
set_option linter.unusedVariables false
set_option linter.unusedSimpArgs false
namespace Go.Kz
def z43 (e:Int×Int):Hrd:=(e.1,(e.2,()))
theorem zud (N:Nat) {R:Type} (t8:List z14) (t7:Int) (M:z82) (hl:M.length≤4096) (K:List Hrd->Option R) (r:List Hrd->Option R)
  (hK:∀ a b:List Hrd,a.Perm b->(b.Perm (M.map z43))->K a=r b) :
  ∀ (n F:Nat) (left:List Nat) (o2:List Hrd) (j:Int),left.length=n->n < F->left.Nodup->(∀ i∈left,i < M.length)->(o2++left.filterMap (fun i=>M[i]?.map z43)).Perm (M.map z43)->
   iter (fun w=>z5c N t8 t7 (len M) M w K) F (o2,left.map (fun (i:Nat)=>(i:Int)),j)=r (o2++left.filterMap (fun i=>M[i]?.map z43))
 | 0,F,left,o2,j,hn,hF,hnd,hlt,hp=>by
  obtain ⟨F,rfl⟩:∃ f,F=f+1:=⟨F-1,by omega⟩;have:left=[]:=List.eq_nil_of_length_eq_zero hn;subst this;simp only [iter,z5c,List.map_nil,z8g,List.filterMap_nil,List.append_nil];rw [z0x (by simp)];simp only [List.filterMap_nil,List.append_nil] at hp
  exact hK _ _ (List.Perm.refl _) hp
 | n+1,F,left,o2,j,hn,hF,hnd,hlt,hp=>by
  obtain ⟨F,rfl⟩:∃ f,F=f+1:=⟨F-1,by omega⟩;have hol:o2.length≤4096:=by
   have:=hp.length_eq;simp at this;omega
  simp only [iter,z5c];rw [z0x (by simp)]
  have hcons:∃ x l,left=x :: l:=by cases left with
   | nil=>simp at hn
   | cons x l=>exact ⟨x,l,rfl⟩
  obtain ⟨x0,l0,hx0⟩:=hcons;have hnx:∀ (done:Option R) (f:Int->List Int->Option R),z8g (left.map fun (i:Nat)=>(i:Int)) done f=zol (fun j'=>f j' ((left.map fun (i:Nat)=>(i:Int)).filter fun i=>!decide (i=j'))) (left.map fun (i:Nat)=>(i:Int)):=by
   intro done f;rw [hx0];rfl
  rw [hnx];refine zi4 (by rw [hx0];simp) fun jj hjj=>?_
  obtain ⟨i,hi,rfl⟩:=List.mem_map.1 hjj;have hil:=hlt i hi;rw [z0s hil];simp only [Option.bind_some];rw [z0x (by simp),z5g (by omega)];have hfil:((left.map fun (i:Nat)=>(i:Int)).filter fun k=>!decide (k=(i:Int)))=(left.erase i).map fun (i:Nat)=>(i:Int):=by
   rw [hnd.erase_eq_filter,List.filter_map];have he:((fun k:Int=>!decide (k=(i:Int))) ∘ fun (i:Nat)=>(i:Int))=fun x=>x != i:=by
    funext k;rw [Bool.eq_iff_iff];simp;omega
   rw [he]
  rw [hfil];have hpe:=List.perm_cons_erase hi;have hperm:(o2++left.filterMap (fun i=>M[i]?.map z43)).Perm ((o2++[(M[i].1,(M[i].2,()))])++(left.erase i).filterMap (fun i=>M[i]?.map z43)):=by
   rw [List.append_assoc];refine List.Perm.append_left _ ?_;have:=hpe.filterMap (fun i=>M[i]?.map z43);rw [List.filterMap_cons,List.getElem?_eq_getElem hil] at this;exact this
  have ih:=zud N t8 t7 M hl K r hK n F (left.erase i) (o2++[(M[i].1,(M[i].2,()))]) (i:Int) (by rw [List.length_erase_of_mem hi];omega) (by omega) (hnd.erase i) (fun k hk=>hlt k (List.mem_of_mem_erase hk)) (hperm.symm.trans hp);rw [ih];have h1:=hK _ _ (List.Perm.refl _) (hperm.symm.trans hp);have h2:=hK _ _ hperm.symm hp;rw [←h1,←h2]
 termination_by n=>n
abbrev ltZ (N:Nat):Hrd->Hrd->Bool:=ltI (z9l fun x y:Hrd=>f27 N x y)
def zfz (l:List Hrd):Prop:=∀ x∈l,1≤x.1∧x.1 < 4611686018427387904
theorem z7x (N:Nat) {x y:Hrd} (hx:1≤x.1∧x.1 < 4611686018427387904) (hy:1≤y.1∧y.1 < 4611686018427387904):ltZ N x y=decide (x.1 < y.1):=by
 have h:z9l (fun x y:Hrd=>f27 N x y) x y=z0g (x.1-y.1):=rfl;have hw:z0g (x.1-y.1)=x.1-y.1:=z0c (by omega) (by omega);simp only [ltZ,ltI,h,hw];rw [Bool.eq_iff_iff];simp only [decide_eq_true_eq];omega
theorem ordZ (N:Nat) {l:List Hrd} (h:zfz l):OrdOn (ltZ N) (·∈l) where
 irrefl:=fun x hx=>by rw [z7x N (h x hx) (h x hx)];simp
 trans:=fun x y z hx hy hz h1 h2=>by
  rw [z7x N (h x hx) (h y hy),decide_eq_true_eq] at h1;rw [z7x N (h y hy) (h z hz),decide_eq_true_eq] at h2;rw [z7x N (h x hx) (h z hz),decide_eq_true_eq];omega
 ntrans:=fun x y z hx hy hz h1 h2=>by
  rw [z7x N (h x hx) (h y hy),decide_eq_false_iff_not] at h1;rw [z7x N (h y hy) (h z hz),decide_eq_false_iff_not] at h2;rw [z7x N (h x hx) (h z hz),decide_eq_false_iff_not];omega
def z6s (N:Nat) (l:List Hrd):List Hrd:=zhb (ltZ N) l
def zmq (l:List Hrd):Prop:=∀ x∈l,∀ y∈l,x.1=y.1->x=y
theorem f26_eq (N:Nat) {l:List Hrd} (h:zfz l) (hi:zmq l) (hl:l.length < 4611686018427387904):f26 N () l=some (((),()),(z6s N l,())):=by
 have hord:OrdOn (ltI (z9l fun x y:Hrd=>f27 N x y)) (·∈l):=ordZ N h;have hB:zyu (fun x y:Hrd=>f27 N x y) l=true:=zt2 hord fun x _ y _=>rfl
 have hS:sepB (eqT (.pair (.int .i64) (.pair (.int .i64) .unit))) (ltI (z9l fun x y:Hrd=>f27 N x y)) l=true:=by
  unfold sepB;rw [z6b];intro x hx;rw [z6b];intro y hy;by_cases he:x.1=y.1
  ·have he:=hi x hx y hy he;subst he;have:=z6a (.pair (.int .i64) (.pair (.int .i64) .unit)) x;rw [this];simp
  ·have h1:=z7x N (h x hx) (h y hy);have h2:=z7x N (h y hy) (h x hx);simp only [ltZ] at h1 h2;rw [h1,h2];rcases Int.lt_or_gt_of_ne he with h | h <;> simp [h]
 unfold f26 zn5;rw [hB,hS,show Nat.blt l.length 4611686018427387904=true from by rw [Nat.blt_eq];exact hl];rfl
theorem z3p (N:Nat) (l:List Hrd):(z6s N l).Perm l:=z3h _ l
theorem zwb (N:Nat) {l k:List Hrd} (h:zfz l) (hi:zmq l) (hp:l.Perm k):z6s N l=z6s N k:=by
 have hk:zfz k:=fun x hx=>h x (hp.mem_iff.2 hx)
 refine zcl (lt:=ltZ N) (fun x y hx hy h1 h2=>?_) (((z3p N l).trans hp).trans (z3p N k).symm) (z4s (ordZ N h) l fun _ h=>h) (z4s (ordZ N hk) k fun _ h=>h);have hx':=(z3p N l).mem_iff.1 hx;have hy':=(z3p N l).mem_iff.1 hy;rw [z7x N (h x hx') (h y hy'),decide_eq_false_iff_not] at h1;rw [z7x N (h y hy') (h x hx'),decide_eq_false_iff_not] at h2;exact hi x hx' y hy' (by omega)
theorem zsh (N:Nat) {l:List Hrd} (h:zfz l) (hi:zmq l) (hnd:l.Nodup):zk5 (z6s N l)=true:=by
 have hasc:Asc (ltZ N) (z6s N l):=z4s (ordZ N h) l fun _ h=>h
 have hnd2:(z6s N l).Nodup:=(z3p N l).nodup_iff.2 hnd;simp only [zk5,List.all_eq_true,List.mem_range,Bool.not_eq_true',badH,Bool.and_eq_false_iff,decide_eq_false_iff_not];intro j hj
 cases j with
 | zero=>left;omega
 | succ j=>
  right;have hj1:j < (z6s N l).length:=by omega
  have e1:(z6s N l).getD j (0,0,())=(z6s N l)[j]:=by rw [List.getD_eq_getElem?_getD,List.getElem?_eq_getElem hj1];rfl
  have e2:(z6s N l).getD (j+1) (0,0,())=(z6s N l)[j+1]:=by rw [List.getD_eq_getElem?_getD,List.getElem?_eq_getElem hj];rfl
  simp only [Nat.add_sub_cancel];rw [e1,e2];have h1:=List.pairwise_iff_getElem.1 hasc j (j+1) hj1 hj (by omega);have h2:=List.pairwise_iff_getElem.1 hnd2 j (j+1) hj1 hj (by omega);have m1:=(z3p N l).mem_iff.1 (List.getElem_mem hj1);have m2:=(z3p N l).mem_iff.1 (List.getElem_mem hj);rw [z7x N (h _ m2) (h _ m1),decide_eq_false_iff_not] at h1;intro h3;exact h2 (hi _ m1 _ m2 (by omega))
theorem zsm {m:z1m} (hmk:z4a m=true):Sep m (z0v m) m.1.toNat:=by
 have hm:=ztk hmk;refine ⟨hm,fun r s hr hs=>?_,za6 hm⟩;rw [z0v,za5 hm _ hr hs,zxv,zmf];simp only [ansF];exact (List.map_inj_left (f:=fun u:List Int=>u.getD r 0) (g:=fun u:List Int=>u.getD s 0)).symm
section
variable {m:z1m} {p:List Int} {n:Nat} (hs:Sep m p n) {M:z82} (hM:HM m.2.1 p n M)
include hs hM
theorem zfo {x:Hrd} (hx:x∈M.map z43):∃ S:Nat,x=((S:Int),(HH m.2.1 p n S,()))∧S < 2 ^ n∧S≠0∧(lk M (S:Int)).isSome=true:=by
 have _:=hs;obtain ⟨e,he,rfl⟩:=List.mem_map.1 hx;have hl:lk M e.1=some e.2:=zpg hM.nd he;obtain ⟨S,h1,h2,h3,h4⟩:=hM.ok _ _ hl;refine ⟨S,?_,h2,h3,by rw [←h1,hl];rfl⟩;simp only [z43,h1,h4]
theorem zux {S:Nat} (h:(lk M (S:Int)).isSome=true):((S:Int),(HH m.2.1 p n S,()))∈M.map z43:=by
 have _:=hs;obtain ⟨v,hl⟩:=Option.isSome_iff_exists.1 h;obtain ⟨T,h1,h2,h3,h4⟩:=hM.ok _ _ hl;have:T=S:=by omega
 subst this;have:=ztp hl;exact List.mem_map.2 ⟨_,this,by simp only [z43,h4]⟩
theorem zlw:zfz (M.map z43):=by
 intro x hx;obtain ⟨S,rfl,h2,h3,_⟩:=zfo hs hM hx;have:=zxh hs.menu.few h2;rw [pow62] at this;simp only;omega
theorem zq6:zmq (M.map z43):=by
 intro x hx y hy e;obtain ⟨S,rfl,_⟩:=zfo hs hM hx;obtain ⟨T,rfl,_⟩:=zfo hs hM hy;simp only at e;have:S=T:=by omega
 rw [this]
theorem ents_nd:(M.map z43).Nodup:=by
 have _:=hs;have h:=hM.nd;rw [List.Nodup,List.pairwise_map] at h ⊢;refine h.imp fun {a b} hne e=>hne ?_
 simp only [z43,Prod.mk.injEq] at e;exact e.1
theorem zjj:M.length≤2 ^ n:=by
 have:=pigN (2 ^ n) (M.map fun e=>e.1.toNat) (by
  have h:=hM.nd;rw [List.Nodup,List.pairwise_map] at h ⊢;refine List.Pairwise.imp_of_mem (fun {a b} ha hb hne e=>hne ?_) h;obtain ⟨S,h1,_⟩:=zfo hs hM (List.mem_map.2 ⟨a,ha,rfl⟩);obtain ⟨T,h2,_⟩:=zfo hs hM (List.mem_map.2 ⟨b,hb,rfl⟩);simp only [z43,Prod.mk.injEq] at h1 h2;omega) (fun x hx=>by
  obtain ⟨e,he,rfl⟩:=List.mem_map.1 hx;obtain ⟨S,h1,h2,_⟩:=zfo hs hM (List.mem_map.2 ⟨e,he,rfl⟩);simp only [z43,Prod.mk.injEq] at h1;omega)
 simpa using this
theorem zov (N:Nat) (hmk:z4a m=true) (hp:p=z0v m) (hn:n=m.1.toNat) (hn7:n≤7) (hroot:(lk M ((z2y n:Nat):Int)).isSome=true):zl1 m (z6s N (M.map z43)) (HH m.2.1 p n (z2y n))=0:=by
 have hlen:=zjj hs hM;have h128:2 ^ n≤2 ^ 7:=Nat.pow_le_pow_right (by omega) hn7;have e128:(2:Nat) ^ 7=128:=by decide
 have hperm:=z3p N (M.map z43);have hmem:∀ x,x∈z6s N (M.map z43)↔x∈M.map z43:=fun x=>hperm.mem_iff
 have hsort:=zsh N (zlw hs hM) (zq6 hs hM) (ents_nd hs hM);have hall:(z6s N (M.map z43)).all (zde m m.1.toNat (z0v m) (z6s N (M.map z43)))=true:=by
  rw [List.all_eq_true];intro x hx;obtain ⟨S,rfl,hS,h0,hk⟩:=zfo hs hM ((hmem x).1 hx);have hb:=z7v hs.menu.view hs.joint hS h0;have hcl:=z4u n S;have h3:z2y n=2 ^ n-1:=rfl;rw [←hp,←hn,ztx];simp only [Int.toNat_natCast];have hspl:0 < HH m.2.1 p n S->z0e n S p=true:=by
   intro h
   cases hsp:z0e n S p with
   | true=>rfl
   | false=>
    rw [zga hs.menu.view hs.joint hS h0,hsp] at h;simp at h
  refine ⟨by omega,by omega,hspl,fun h1 v hv=>?_⟩;have hsp:=hspl (by omega);have hview:=hs.menu.view v hv;have hn62:=hs.menu.few;rw [z0c (by omega) (by omega),zu0]
  cases hsv:z0e n S v with
  | false=>
   obtain ⟨c,hc,hw,_⟩:=zbw hview hS h0 hsv;refine ⟨((S:Int),(HH m.2.1 p n S,())),(hmem _).2 (zux hs hM hk),by simp only;omega,S,?_,rfl⟩;simp only [z28,List.mem_filter,List.mem_map,List.mem_range,decide_eq_true_eq]
   exact ⟨⟨c,hc,hw⟩,h0⟩
  | true=>
   have hle:=HH_le hs.menu.view hs.joint hS h0 hsp hv hsv;obtain ⟨c,hc,hp0,hce⟩:=zpe (v:=v) (S:=S) (h:=HH m.2.1 p n) (by omega);have hin:=hM.closed S hk hsp v hv hsv c hc hp0;refine ⟨_,(hmem _).2 (zux hs hM hin),by simp only;omega,part v S c,?_,rfl⟩;simp only [z28,List.mem_filter,List.mem_map,List.mem_range,decide_eq_true_eq];exact ⟨⟨c,hc,rfl⟩,hp0⟩
 have hr:∃ x∈z6s N (M.map z43),x.1=(z2y m.1.toNat:Int)∧HH m.2.1 p n (z2y n)≤x.2.1:=by
  refine ⟨_,(hmem _).2 (zux hs hM hroot),?_,Int.le_refl _⟩;rw [hn]
 unfold zl1;rw [if_pos hmk,if_pos (by rw [hperm.length_eq,List.length_map];omega),if_pos hsort,if_pos hall,if_pos (.inr hr)]
end
theorem znr {m:z1m} (hmk:z4a m=true) (hn7:m.1.toNat≤7) :
  ∀ s,s=(if z0e m.1.toNat (z2y m.1.toNat) (z0v m)=true then z4c m.2.1 (z0v m) m.1.toNat m.1.toNat (z2y m.1.toNat) 0 else [])->
   s.length≤256∧zd8 m.2.1 s∧clsT (trS m s) m.1.toNat=z0v m∧zy5 (trS m s) m.1.toNat=HH m.2.1 (z0v m) m.1.toNat (z2y m.1.toNat):=by
 have hs:=zsm hmk;have hm:=hs.menu;have hsec:=hm.secrets;have hS:=zjp m.1.toNat;have h2:2 ^ 1≤2 ^ m.1.toNat:=Nat.pow_le_pow_right (by omega) hm.pos;have h3:z2y m.1.toNat=2 ^ m.1.toNat-1:=rfl;have h0:z2y m.1.toNat≠0:=by omega
 have hcl:=z4u m.1.toNat (z2y m.1.toNat);have hbit:∀ x,x < m.1.toNat->(z2y m.1.toNat).testBit x=true:=fun x hx=>by rw [zyi];simp [hx]
 have hker:∀ s:List z14,(∀ a b,a < m.1.toNat->b < m.1.toNat->trS m s a=trS m s b->(z0v m).getD a 0=(z0v m).getD b 0)->clsT (trS m s) m.1.toNat=z0v m:=by
  intro s h;refine z8e (by simp) fun i j hi hj=>?_
  simp only [List.length_map,List.length_range] at hi hj;simp only [List.getElem_map,List.getElem_range];rw [←za5 hm (zi1 m) hi hj];constructor
  ·exact h i j hi hj
  ·intro e;exact zkc m.2.1 s ((hs.joint i j hi hj).2 e) _ _
 rintro s rfl
 cases hsp:z0e m.1.toNat (z2y m.1.toNat) (z0v m) with
 | false=>
  simp only [Bool.false_eq_true,if_false];refine ⟨by simp,fun i hi=>by simp at hi,hker [] fun a b ha hb _=>z6r hsp ha hb (hbit a ha) (hbit b hb),?_⟩;rw [zga hm.view hs.joint hS h0,hsp];have h1:=zuy (T:=trS m []) (n:=m.1.toNat) (B:=0) (Int.le_refl _) (fun x _=>by simp [trS,z89,len]);have h2:0≤zy5 (trS m []) m.1.toNat:=z98 _ _ 0;simp only [Bool.false_eq_true,if_false]
  omega
 | true=>
  simp only [if_true];obtain ⟨l,hl⟩:∃ l,m.1.toNat=l+1:=⟨m.1.toNat-1,by have:=hm.pos;omega⟩;have hst:zd8 m.2.1 (z4c m.2.1 (z0v m) m.1.toNat m.1.toNat (z2y m.1.toNat) 0):=by
   intro i hi;have:=zem hs m.1.toNat (z2y m.1.toNat) 0 hS hsp hcl i _ (List.getElem?_eq_getElem hi);simpa using this
  have hlen:=zen hs m.1.toNat (z2y m.1.toNat) 0 hS hsp hcl;have hlen2:(m.1.toNat:Int)*zcg m.1.toNat (z2y m.1.toNat)≤7*7:=Int.mul_le_mul (by omega) (by omega) (z5u _ _) (by omega);have hpos:0 < (z4c m.2.1 (z0v m) m.1.toNat m.1.toNat (z2y m.1.toNat) 0).length:=by
   have:=zkk m.2.1 (z0v m) m.1.toNat l (z2y m.1.toNat) 0;rw [←hl] at this;exact this
  obtain ⟨r1,⟨x,hx,hbx,hlx⟩,r3⟩:=zkj hs m.1.toNat (z2y m.1.toNat) 0 (z4c m.2.1 (z0v m) m.1.toNat m.1.toNat (z2y m.1.toNat) 0) ((z4c m.2.1 (z0v m) m.1.toNat m.1.toNat (z2y m.1.toNat) 0).length+m.1.toNat) hS hsp hcl (fun j c hj=>by rw [Nat.zero_add];exact hj) (by omega);have htr:∀ x,x < m.1.toNat->trS m (z4c m.2.1 (z0v m) m.1.toNat m.1.toNat (z2y m.1.toNat) 0) x=z89 m.2.1 (z4c m.2.1 (z0v m) m.1.toNat m.1.toNat (z2y m.1.toNat) 0) ((z4c m.2.1 (z0v m) m.1.toNat m.1.toNat (z2y m.1.toNat) 0).length+m.1.toNat) ((0:Nat):Int) x:=by
   intro x hx;have hstart:zct (z4c m.2.1 (z0v m) m.1.toNat m.1.toNat (z2y m.1.toNat) 0)=((0:Nat):Int):=by
    unfold zct;rw [if_neg (by omega)];rfl
   unfold trS;rw [hstart];exact zej hm hst hx _ _ _ (.inr ⟨by simp,by simp;omega,by simp,by simp⟩)
  refine ⟨by omega,hst,hker _ fun a b ha hb he=>?_,?_⟩
  ·rw [htr a ha,htr b hb] at he;exact r3 a b ha hb (hbit a ha) (hbit b hb) he
  ·have hb:=z7v hm.view hs.joint hS h0;have h1:=zuy (T:=trS m (z4c m.2.1 (z0v m) m.1.toNat m.1.toNat (z2y m.1.toNat) 0)) (n:=m.1.toNat) hb.1 (fun x hx=>by
    rw [htr x hx];exact r1 x hx (hbit x hx))
   have h2:=depT_le (trS m (z4c m.2.1 (z0v m) m.1.toNat m.1.toNat (z2y m.1.toNat) 0)) hx;rw [htr x hx] at h2;simp only [len] at h2;omega
end Go.Kz
