/-
  The layer adaptive: the table in its order; plain laws.
-/
import Derived.Test.YtnjfafnflbackaaKzF5
set_option linter.unusedVariables false
set_option linter.unusedSimpArgs false
namespace Go.Kz
theorem z4m {R:Type} (x:Option R):z4z [x,x]=x:=by simp [z4z]
theorem z86 {R:Type} (x:Option R):z4z [x,x,x]=x:=by simp [z4z]
theorem zv0 {R:Type} {α:Type} {f:α->Option R} {r:Option R}:{l:List α}->l≠[]->(∀ x∈l,f x=r)->zv1 f l=r
 | [],h,_=>absurd rfl h
 | a :: l,_,h=>by
  have ha:=h a (by simp);simp only [zv1];rw [if_pos (fun b hb=>(h b (by simp [hb])).trans ha.symm)];exact ha
theorem zsm {α β:Type} {f g:α->Option β}:{l:List α}->(∀ x∈l,f x=g x)->l.filterMap f=l.filterMap g
 | [],_=>rfl
 | x :: l,h=>by simp only [List.filterMap_cons,h x (by simp),zsm (l:=l) (fun y hy=>h y (by simp [hy]))]
theorem zlq {x y:z56}:z9m x y=true↔y.2.1 < x.2.1∨(x.2.1=y.2.1∧x.1 < y.1):=by
 unfold z9m;split
 ·rename_i h;simp only [decide_eq_true_eq];omega
 ·simp only [decide_eq_true_eq];omega
theorem zy7 {x y:z56}:z9m x y=false↔¬ (y.2.1 < x.2.1∨(x.2.1=y.2.1∧x.1 < y.1)):=by rw [←zlq];simp
theorem zp8 (x y:z56) (h:¬ (x.1=y.1∧x.2.1=y.2.1)):z9m x y=true∨z9m y x=true:=by rw [zlq,zlq];omega
theorem zlp (p:z56->Prop):OrdOn z9m p where
 irrefl:=fun x _=>by rw [zy7];omega
 trans:=fun x y z _ _ _ h1 h2=>by rw [zlq] at *;omega
 ntrans:=fun x y z _ _ _ h1 h2=>by rw [zy7] at *;omega
def zk7 (l:List z56):Prop:=∀ x∈l,∀ y∈l,x.1=y.1->x.2.1=y.2.1->x=y
def zbl (l:List z56):List z56:=znl z9m l
theorem zii {l m:List z56} (hk:zk7 l) (h:l.Perm m):zbl l=zbl m:=by
 refine zk3 (lt:=z9m) (fun x y hx hy h1 h2=>?_) (((z3r z9m l).trans h).trans (z3r z9m m).symm) (za3 (zlp fun _=>True) l fun _ _=>trivial) (za3 (zlp fun _=>True) m fun _ _=>trivial);have hx':=(z3r z9m l).mem_iff.1 hx;have hy':=(z3r z9m l).mem_iff.1 hy;rw [zy7] at h1 h2;exact hk x hx' y hy' (by omega) (by omega)
theorem lt34 (N:Nat) (hN:3≤N):ltI (zaf fun x y:z56=>f34 N x y)=z9m:=by
 funext x y;have:zaf (fun x y:z56=>f34 N x y) x y=ordI x y:=by
  simp only [zaf,zxu N hN];rfl
 simp only [ltI,this];have h:=zvz x y
 cases hb:z9m x y with
 | true=>rw [hb] at h;simp only [Bool.not_true,decide_eq_false_iff_not] at h;simp;omega
 | false=>rw [hb] at h;simp only [Bool.not_false,decide_eq_true_eq] at h;simp;omega
theorem f60_eq (N:Nat) (hN:3≤N) {l:List z56} (hk:zk7 l) (hl:l.length < 4611686018427387904):f60 N () l=some (((),()),(zbl l,())):=by
 have hord:OrdOn (ltI (zaf fun x y:z56=>f34 N x y)) (·∈l):=by rw [lt34 N hN];exact zlp _
 have hB:ordB (fun x y:z56=>f34 N x y) l=true:=zw1 hord fun x _ y _=>by rw [zxu N hN];rfl
 have hS:sepB (eqT (.pair (.int .i64) (.pair (.int .i64) (.pair (.int .i64) .unit)))) (ltI (zaf fun x y:z56=>f34 N x y)) l=true:=by
  unfold sepB;rw [z78];intro x hx;rw [z78];intro y hy;rw [lt34 N hN];by_cases h:x.1=y.1∧x.2.1=y.2.1
  ·have he:=hk x hx y hy h.1 h.2;subst he;have:=z75 (.pair (.int .i64) (.pair (.int .i64) (.pair (.int .i64) .unit))) x;rw [this];simp
  ·have:z9m x y=true∨z9m y x=true:=zp8 x y h;rcases this with h | h <;> simp [h]
 unfold f60 zpz;rw [hB,hS,show Nat.blt l.length 4611686018427387904=true from by rw [Nat.blt_eq];exact hl,lt34 N hN];rfl
abbrev z7a:=List (Key×Int)
def back (m:z1i) (g:List (List Int)) (M:z7a):((z1i×(List (List Int)×(Unit×Unit)))×(z7a×Unit)):=((m,(g,((),()))),(M,()))
theorem f53_hit (N k:Nat) (m:z1i) (g:List (List Int)) (M:z7a) {p:Key} {v:Int} (h:lk M p=some v) (h0:0≤v):f53R N (k+1) p m g M=some (((),(v,())),back m g M):=by
 show f53B N (f53R N k) p m g M=_;unfold f53B;simp only [z99 eqK,h,Option.getD_some];rw [decide_eq_true h0,cond_true];rfl
def z5y (e:Key×Int):z56:=(e.1.1,e.1.2.1,e.2,())
theorem zia:(n:Nat)->zm6 n=(List.range n).map fun (i:Nat)=>(i:Int)
 | 0=>rfl
 | n+1=>by simp [zm6,zia n,List.range_succ]
def Dist (M:z7a):Prop:=(M.map Prod.fst).Nodup
theorem lk_at:{M:z7a}->Dist M->∀ {i:Nat} (hi:i < M.length),lk M (M[i].1)=some M[i].2
 | (k,v) :: M,hd,0,_=>by simp [lk]
 | (k,v) :: M,hd,i+1,hi=>by
  have hd':(k∉M.map Prod.fst)∧Dist M:=by simpa [Dist] using hd
  have hi':i < M.length:=by simpa using hi
  have hne:¬ M[i].1=k:=fun he=>hd'.1 (by rw [←he];exact List.mem_map.2 ⟨_,List.getElem_mem hi',rfl⟩)
  simp only [List.getElem_cons_succ,lk,if_neg hne];exact lk_at hd'.2 hi'
theorem zsu (N:Nat) (hN:5000 < N) {R:Type} (m:z1i) (g:List (List Int)) (M:z7a) (hd:Dist M) (hM:ValB M) (hl:M.length≤4096) (K:z1i->List (List Int)->z7a->List z56->Option R) (r:List z56->Option R)
  (hK:∀ a b:List z56,a.Perm b->(b.Perm (M.map z5y))->K m g M a=r b) :
  ∀ (n F:Nat) (left:List Nat) (o2:List z56) (j:Int),left.length=n->n < F->left.Nodup->(∀ i∈left,i < M.length)->(o2++left.filterMap (fun i=>M[i]?.map z5y)).Perm (M.map z5y)->
   iter (fun w=>zjj N (len M) w K) F (m,g,M,o2,left.map (fun (i:Nat)=>(i:Int)),j)=r (o2++left.filterMap (fun i=>M[i]?.map z5y))
 | 0,F,left,o2,j,hn,hF,hnd,hlt,hp=>by
  obtain ⟨F,rfl⟩:∃ f,F=f+1:=⟨F-1,by omega⟩;have:left=[]:=List.eq_nil_of_length_eq_zero hn;subst this;simp only [iter,zjj,List.map_nil,ze1,List.filterMap_nil,List.append_nil];rw [z0h (by simp)];simp only [List.filterMap_nil,List.append_nil] at hp
  exact hK _ _ (List.Perm.refl _) hp
 | n+1,F,left,o2,j,hn,hF,hnd,hlt,hp=>by
  obtain ⟨F,rfl⟩:∃ f,F=f+1:=⟨F-1,by omega⟩;have hne:left≠[]:=by intro h;subst h;simp at hn
  have hol:o2.length≤4096:=by
   have:=hp.length_eq;simp at this;omega
  simp only [iter,zjj];rw [z0h (by simp)]
  have hcons:∃ x l,left=x :: l:=by cases left with
   | nil=>exact absurd rfl hne
   | cons x l=>exact ⟨x,l,rfl⟩
  obtain ⟨x0,l0,hx0⟩:=hcons;have hnx:∀ (done:Option R) (f:Int->List Int->Option R),ze1 (left.map fun (i:Nat)=>(i:Int)) done f=zv1 (fun j'=>f j' ((left.map fun (i:Nat)=>(i:Int)).filter fun i=>!decide (i=j'))) (left.map fun (i:Nat)=>(i:Int)):=by
   intro done f;rw [hx0];rfl
  rw [hnx];refine zv0 (by rw [hx0];simp) fun jj hjj=>?_
  obtain ⟨i,hi,rfl⟩:=List.mem_map.1 hjj;have hil:=hlt i hi;have hlk:=lk_at hd hil;have hb:=hM _ _ hlk;rw [z0s hil];simp only [Option.bind_some];rw [z0h (by simp)];simp only [z4m,z86];obtain ⟨N',rfl⟩:∃ k,N=k+1:=⟨N-1,by omega⟩;have h53:f53 (N'+1) M[i].1 m g M=some (((),(M[i].2,())),back m g M):=f53_hit (N'+1) N' m g M hlk hb.1;rw [h53];simp only [Option.bind_some,back];rw [z4v (by omega)];have hfil:((left.map fun (i:Nat)=>(i:Int)).filter fun k=>!decide (k=(i:Int)))=(left.erase i).map fun (i:Nat)=>(i:Int):=by
   rw [hnd.erase_eq_filter,List.filter_map];have he:((fun k:Int=>!decide (k=(i:Int))) ∘ fun (i:Nat)=>(i:Int))=fun x=>x != i:=by
    funext k;rw [Bool.eq_iff_iff];simp;omega
   rw [he]
  rw [hfil];have hpe:=List.perm_cons_erase hi;have hperm:(o2++left.filterMap (fun i=>M[i]?.map z5y)).Perm ((o2++[(M[i].1.1,(M[i].1.2.1,(M[i].2,())))])++(left.erase i).filterMap (fun i=>M[i]?.map z5y)):=by
   rw [List.append_assoc];refine List.Perm.append_left _ ?_;have:=hpe.filterMap (fun i=>M[i]?.map z5y);rw [List.filterMap_cons,List.getElem?_eq_getElem hil] at this;exact this
  have ih:=zsu (N'+1) hN m g M hd hM hl K r hK n F (left.erase i) (o2++[(M[i].1.1,(M[i].1.2.1,(M[i].2,())))]) (i:Int) (by rw [List.length_erase_of_mem hi];omega) (by omega) (hnd.erase i) (fun k hk=>hlt k (List.mem_of_mem_erase hk)) (hperm.symm.trans hp);rw [ih];have h1:=hK _ _ (List.Perm.refl _) (hperm.symm.trans hp);have h2:=hK _ _ hperm.symm hp;rw [←h1,←h2]
 termination_by n=>n
theorem zwu {M:z7a} (hd:Dist M):zk7 (M.map z5y):=by
 intro x hx y hy h1 h2;obtain ⟨a,ha,rfl⟩:=List.mem_map.1 hx;obtain ⟨b,hb,rfl⟩:=List.mem_map.1 hy;obtain ⟨i,hi,rfl⟩:=List.mem_iff_getElem.1 ha;obtain ⟨j,hj,rfl⟩:=List.mem_iff_getElem.1 hb;have hki:=lk_at hd hi;have hkj:=lk_at hd hj;have e:M[i].1=M[j].1:=by
  simp only [z5y] at h1 h2;generalize M[i].1=p at *;generalize M[j].1=q at *;obtain ⟨a,b,u⟩:=p;obtain ⟨c,d,v⟩:=q;simp only at h1 h2;subst h1;subst h2;rfl
 rw [e,hkj] at hki;simp only [zI] at hki;simp only [z5y,e,hki]
theorem f56_eq (N:Nat) (hN:5000 < N) (m:z1i) (g:List (List Int)) (M:z7a) (hd:Dist M) (hM:ValB M) (hl:M.length≤4096) :
  f56 N m g M=some (((),((),())),((m,(g,((),()))),(M,(zbl (M.map z5y),())))):=by
 have hki:=zwu hd;unfold f56;rw [zia];have hfm:(List.range M.length).filterMap (fun i=>M[i]?.map z5y)=M.map z5y:=by
  have:∀ (L:List (Key×Int)),(List.range L.length).filterMap (fun i=>L[i]?.map z5y)=L.map z5y:=by
   intro L
   induction L using zfk with
   | h0=>rfl
   | h1 L x ih=>
    rw [List.length_append,List.length_singleton,List.range_succ,List.filterMap_append,List.map_append,←ih];congr 1
    ·apply zsm;intro i hi;rw [List.getElem?_append_left (List.mem_range.1 hi)]
    ·simp
  exact this M
 have:=zsu N hN m g M hd hM hl (fun o0_2 o0'_2 o1_2 o2_1=>(f60 N () o2_1).bind fun r_5=>some (((),((),())),((o0_2,(o0'_2,((),()))),(o1_2,(r_5.2.1,())))))
  (fun b=>some (((),((),())),((m,(g,((),()))),(M,(zbl b,())))))
  (fun a b hab hb=>by
   have hka:zk7 a:=fun x hx y hy=>hki x ((hab.trans hb).mem_iff.1 hx) y ((hab.trans hb).mem_iff.1 hy)
   have hla:a.length=M.length:=by have:=(hab.trans hb).length_eq;simpa using this
   rw [f60_eq N (by omega) hka (by omega),zii hka hab];rfl)
  M.length N (List.range M.length) [] (-1) (by simp) (by omega) List.nodup_range (fun i hi=>List.mem_range.1 hi) (by rw [hfm];exact List.Perm.refl _)
 rw [hfm,List.nil_append] at this;exact this
theorem f54_is (N:Nat) (p:Key) (m:z1i) (g:List (List Int)) (M:z7a):f54 N p m g M=(f36 N g p.1).bind fun r=>(f53 N p m g M).bind fun r_1=>some (((),((decide (r=r_1.1.2.1)),())),((r_1.2.1.1,(r_1.2.1.2.1,((),()))),(r_1.2.2.1,()))):=z4m _
end Go.Kz
