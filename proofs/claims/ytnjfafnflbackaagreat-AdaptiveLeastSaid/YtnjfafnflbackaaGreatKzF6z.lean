/-
  The layer adaptive: the table in its order; plain laws.
-/
import Derived.Test.YtnjfafnflbackaaGreatKzF5z
set_option linter.unusedVariables false
set_option linter.unusedSimpArgs false
namespace Go.Kz
theorem z5m {R:Type} (x:Option R):z17 [x,x]=x:=by simp [z17]
theorem z7c {R:Type} (x:Option R):z17 [x,x,x]=x:=by simp [z17]
theorem zi4 {R:Type} {α:Type} {f:α->Option R} {r:Option R}:{l:List α}->l≠[]->(∀ x∈l,f x=r)->zol f l=r
 | [],h,_=>absurd rfl h
 | a :: l,_,h=>by
  have ha:=h a (by simp);simp only [zol];rw [if_pos (fun b hb=>(h b (by simp [hb])).trans ha.symm)];exact ha
theorem zj9 {α β:Type} {f g:α->Option β}:{l:List α}->(∀ x∈l,f x=g x)->l.filterMap f=l.filterMap g
 | [],_=>rfl
 | x :: l,h=>by simp only [List.filterMap_cons,h x (by simp),zj9 (l:=l) (fun y hy=>h y (by simp [hy]))]
theorem zjn {x y:zai}:zju x y=true↔y.2.1 < x.2.1∨(x.2.1=y.2.1∧x.1 < y.1):=by
 unfold zju;split
 ·rename_i h;simp only [decide_eq_true_eq];omega
 ·simp only [decide_eq_true_eq];omega
theorem zv9 {x y:zai}:zju x y=false↔¬ (y.2.1 < x.2.1∨(x.2.1=y.2.1∧x.1 < y.1)):=by rw [←zjn];simp
theorem zv8 (x y:zai) (h:¬ (x.1=y.1∧x.2.1=y.2.1)):zju x y=true∨zju y x=true:=by rw [zjn,zjn];omega
theorem zoi (p:zai->Prop):OrdOn zju p where
 irrefl:=fun x _=>by rw [zv9];omega
 trans:=fun x y z _ _ _ h1 h2=>by rw [zjn] at *;omega
 ntrans:=fun x y z _ _ _ h1 h2=>by rw [zv9] at *;omega
def zqh (l:List zai):Prop:=∀ x∈l,∀ y∈l,x.1=y.1->x.2.1=y.2.1->x=y
def zn4 (l:List zai):List zai:=zhb zju l
theorem zr4 {l m:List zai} (hk:zqh l) (h:l.Perm m):zn4 l=zn4 m:=by
 refine zcl (lt:=zju) (fun x y hx hy h1 h2=>?_) (((z3h zju l).trans h).trans (z3h zju m).symm) (z4s (zoi fun _=>True) l fun _ _=>trivial) (z4s (zoi fun _=>True) m fun _ _=>trivial);have hx':=(z3h zju l).mem_iff.1 hx;have hy':=(z3h zju l).mem_iff.1 hy;rw [zv9] at h1 h2;exact hk x hx' y hy' (by omega) (by omega)
theorem lt34 (N:Nat) (hN:3≤N):ltI (z9l fun x y:zai=>f49 N x y)=zju:=by
 funext x y;have:z9l (fun x y:zai=>f49 N x y) x y=ordI x y:=by
  simp only [z9l,zze N hN];rfl
 simp only [ltI,this];have h:=ord_bef x y
 cases hb:zju x y with
 | true=>rw [hb] at h;simp only [Bool.not_true,decide_eq_false_iff_not] at h;simp;omega
 | false=>rw [hb] at h;simp only [Bool.not_false,decide_eq_true_eq] at h;simp;omega
theorem f64_eq (N:Nat) (hN:3≤N) {l:List zai} (hk:zqh l) (hl:l.length < 4611686018427387904):f64 N () l=some (((),()),(zn4 l,())):=by
 have hord:OrdOn (ltI (z9l fun x y:zai=>f49 N x y)) (·∈l):=by rw [lt34 N hN];exact zoi _
 have hB:zyu (fun x y:zai=>f49 N x y) l=true:=zt2 hord fun x _ y _=>by rw [zze N hN];rfl
 have hS:sepB (eqT (.pair (.int .i64) (.pair (.int .i64) (.pair (.int .i64) .unit)))) (ltI (z9l fun x y:zai=>f49 N x y)) l=true:=by
  unfold sepB;rw [z6b];intro x hx;rw [z6b];intro y hy;rw [lt34 N hN];by_cases h:x.1=y.1∧x.2.1=y.2.1
  ·have he:=hk x hx y hy h.1 h.2;subst he;have:=z6a (.pair (.int .i64) (.pair (.int .i64) (.pair (.int .i64) .unit))) x;rw [this];simp
  ·have:zju x y=true∨zju y x=true:=zv8 x y h;rcases this with h | h <;> simp [h]
 unfold f64 zn5;rw [hB,hS,show Nat.blt l.length 4611686018427387904=true from by rw [Nat.blt_eq];exact hl,lt34 N hN];rfl
abbrev zg1:=List (Key×Int)
def back (m:z1m) (g:List (List Int)) (M:zg1):((z1m×(List (List Int)×(Unit×Unit)))×(zg1×Unit)):=((m,(g,((),()))),(M,()))
theorem f39_hit (N k:Nat) (m:z1m) (g:List (List Int)) (M:zg1) {p:Key} {v:Int} (h:lk M p=some v) (h0:0≤v):f39R N (k+1) p m g M=some (((),(v,())),back m g M):=by
 show f39B N (f39R N k) p m g M=_;unfold f39B;simp only [zit eqK,h,Option.getD_some];rw [decide_eq_true h0,cond_true];rfl
def z51 (e:Key×Int):zai:=(e.1.1,e.1.2.1,e.2,())
theorem zbo:(n:Nat)->zbl n=(List.range n).map fun (i:Nat)=>(i:Int)
 | 0=>rfl
 | n+1=>by simp [zbl,zbo n,List.range_succ]
def Dist (M:zg1):Prop:=(M.map Prod.fst).Nodup
theorem zxk:{M:zg1}->Dist M->∀ {i:Nat} (hi:i < M.length),lk M (M[i].1)=some M[i].2
 | (k,v) :: M,hd,0,_=>by simp [lk]
 | (k,v) :: M,hd,i+1,hi=>by
  have hd':(k∉M.map Prod.fst)∧Dist M:=by simpa [Dist] using hd
  have hi':i < M.length:=by simpa using hi
  have hne:¬ M[i].1=k:=fun he=>hd'.1 (by rw [←he];exact List.mem_map.2 ⟨_,List.getElem_mem hi',rfl⟩)
  simp only [List.getElem_cons_succ,lk,if_neg hne];exact zxk hd'.2 hi'
theorem zpv (N:Nat) (hN:5000 < N) {R:Type} (m:z1m) (g:List (List Int)) (M:zg1) (hd:Dist M) (hM:ValB M) (hl:M.length≤4096) (K:z1m->List (List Int)->zg1->List zai->Option R) (r:List zai->Option R)
  (hK:∀ a b:List zai,a.Perm b->(b.Perm (M.map z51))->K m g M a=r b) :
  ∀ (n F:Nat) (left:List Nat) (o2:List zai) (j:Int),left.length=n->n < F->left.Nodup->(∀ i∈left,i < M.length)->(o2++left.filterMap (fun i=>M[i]?.map z51)).Perm (M.map z51)->
   iter (fun w=>zhl N (len M) w K) F (m,g,M,o2,left.map (fun (i:Nat)=>(i:Int)),j)=r (o2++left.filterMap (fun i=>M[i]?.map z51))
 | 0,F,left,o2,j,hn,hF,hnd,hlt,hp=>by
  obtain ⟨F,rfl⟩:∃ f,F=f+1:=⟨F-1,by omega⟩;have:left=[]:=List.eq_nil_of_length_eq_zero hn;subst this;simp only [iter,zhl,List.map_nil,z8g,List.filterMap_nil,List.append_nil];rw [z0x (by simp)];simp only [List.filterMap_nil,List.append_nil] at hp
  exact hK _ _ (List.Perm.refl _) hp
 | n+1,F,left,o2,j,hn,hF,hnd,hlt,hp=>by
  obtain ⟨F,rfl⟩:∃ f,F=f+1:=⟨F-1,by omega⟩;have hne:left≠[]:=by intro h;subst h;simp at hn
  have hol:o2.length≤4096:=by
   have:=hp.length_eq;simp at this;omega
  simp only [iter,zhl];rw [z0x (by simp)]
  have hcons:∃ x l,left=x :: l:=by cases left with
   | nil=>exact absurd rfl hne
   | cons x l=>exact ⟨x,l,rfl⟩
  obtain ⟨x0,l0,hx0⟩:=hcons;have hnx:∀ (done:Option R) (f:Int->List Int->Option R),z8g (left.map fun (i:Nat)=>(i:Int)) done f=zol (fun j'=>f j' ((left.map fun (i:Nat)=>(i:Int)).filter fun i=>!decide (i=j'))) (left.map fun (i:Nat)=>(i:Int)):=by
   intro done f;rw [hx0];rfl
  rw [hnx];refine zi4 (by rw [hx0];simp) fun jj hjj=>?_
  obtain ⟨i,hi,rfl⟩:=List.mem_map.1 hjj;have hil:=hlt i hi;have hlk:=zxk hd hil;have hb:=hM _ _ hlk;rw [z0s hil];simp only [Option.bind_some];rw [z0x (by simp)];simp only [z5m,z7c];obtain ⟨N',rfl⟩:∃ k,N=k+1:=⟨N-1,by omega⟩;have h53:f39 (N'+1) M[i].1 m g M=some (((),(M[i].2,())),back m g M):=f39_hit (N'+1) N' m g M hlk hb.1;rw [h53];simp only [Option.bind_some,back];rw [z5g (by omega)];have hfil:((left.map fun (i:Nat)=>(i:Int)).filter fun k=>!decide (k=(i:Int)))=(left.erase i).map fun (i:Nat)=>(i:Int):=by
   rw [hnd.erase_eq_filter,List.filter_map];have he:((fun k:Int=>!decide (k=(i:Int))) ∘ fun (i:Nat)=>(i:Int))=fun x=>x != i:=by
    funext k;rw [Bool.eq_iff_iff];simp;omega
   rw [he]
  rw [hfil];have hpe:=List.perm_cons_erase hi;have hperm:(o2++left.filterMap (fun i=>M[i]?.map z51)).Perm ((o2++[(M[i].1.1,(M[i].1.2.1,(M[i].2,())))])++(left.erase i).filterMap (fun i=>M[i]?.map z51)):=by
   rw [List.append_assoc];refine List.Perm.append_left _ ?_;have:=hpe.filterMap (fun i=>M[i]?.map z51);rw [List.filterMap_cons,List.getElem?_eq_getElem hil] at this;exact this
  have ih:=zpv (N'+1) hN m g M hd hM hl K r hK n F (left.erase i) (o2++[(M[i].1.1,(M[i].1.2.1,(M[i].2,())))]) (i:Int) (by rw [List.length_erase_of_mem hi];omega) (by omega) (hnd.erase i) (fun k hk=>hlt k (List.mem_of_mem_erase hk)) (hperm.symm.trans hp);rw [ih];have h1:=hK _ _ (List.Perm.refl _) (hperm.symm.trans hp);have h2:=hK _ _ hperm.symm hp;rw [←h1,←h2]
 termination_by n=>n
theorem ztt {M:zg1} (hd:Dist M):zqh (M.map z51):=by
 intro x hx y hy h1 h2;obtain ⟨a,ha,rfl⟩:=List.mem_map.1 hx;obtain ⟨b,hb,rfl⟩:=List.mem_map.1 hy;obtain ⟨i,hi,rfl⟩:=List.mem_iff_getElem.1 ha;obtain ⟨j,hj,rfl⟩:=List.mem_iff_getElem.1 hb;have hki:=zxk hd hi;have hkj:=zxk hd hj;have e:M[i].1=M[j].1:=by
  simp only [z51] at h1 h2;generalize M[i].1=p at *;generalize M[j].1=q at *;obtain ⟨a,b,u⟩:=p;obtain ⟨c,d,v⟩:=q;simp only at h1 h2;subst h1;subst h2;rfl
 rw [e,hkj] at hki;simp only [zI] at hki;simp only [z51,e,hki]
theorem f42_eq (N:Nat) (hN:5000 < N) (m:z1m) (g:List (List Int)) (M:zg1) (hd:Dist M) (hM:ValB M) (hl:M.length≤4096) :
  f42 N m g M=some (((),((),())),((m,(g,((),()))),(M,(zn4 (M.map z51),())))):=by
 have hki:=ztt hd;unfold f42;rw [zbo];have hfm:(List.range M.length).filterMap (fun i=>M[i]?.map z51)=M.map z51:=by
  have:∀ (L:List (Key×Int)),(List.range L.length).filterMap (fun i=>L[i]?.map z51)=L.map z51:=by
   intro L
   induction L using zek with
   | h0=>rfl
   | h1 L x ih=>
    rw [List.length_append,List.length_singleton,List.range_succ,List.filterMap_append,List.map_append,←ih];congr 1
    ·apply zj9;intro i hi;rw [List.getElem?_append_left (List.mem_range.1 hi)]
    ·simp
  exact this M
 have:=zpv N hN m g M hd hM hl (fun o0_2 o0'_2 o1_2 o2_1=>(f64 N () o2_1).bind fun r_5=>some (((),((),())),((o0_2,(o0'_2,((),()))),(o1_2,(r_5.2.1,())))))
  (fun b=>some (((),((),())),((m,(g,((),()))),(M,(zn4 b,())))))
  (fun a b hab hb=>by
   have hka:zqh a:=fun x hx y hy=>hki x ((hab.trans hb).mem_iff.1 hx) y ((hab.trans hb).mem_iff.1 hy)
   have hla:a.length=M.length:=by have:=(hab.trans hb).length_eq;simpa using this
   rw [f64_eq N (by omega) hka (by omega),zr4 hka hab];rfl)
  M.length N (List.range M.length) [] (-1) (by simp) (by omega) List.nodup_range (fun i hi=>List.mem_range.1 hi) (by rw [hfm];exact List.Perm.refl _)
 rw [hfm,List.nil_append] at this;exact this
end Go.Kz
