/-
  The layer adaptive: maps whose keys are known; what can be reached; plain laws.
-/
import Derived.Test.YtnjfafnflbackaaKzF9
set_option linter.unusedVariables false
set_option linter.unusedSimpArgs false
namespace Go.Kz
theorem pigN:(n:Nat)->(l:List Nat)->l.Nodup->(∀ x∈l,x < n)->l.length≤n
 | 0,[],_,_=>Nat.le_refl _
 | 0,x :: l,_,h=>absurd (h x (by simp)) (by omega)
 | n+1,l,hd,h=>by
  by_cases hn:n∈l
  ·have h1:=pigN n (l.erase n) (hd.erase n) (fun x hx=>by
    have h2:=h x (List.mem_of_mem_erase hx);have:x≠n:=fun e=>by
     subst e;exact (List.Nodup.not_mem_erase hd) hx
    omega)
   rw [List.length_erase_of_mem hn] at h1;omega
  ·have h1:=pigN n l hd (fun x hx=>by
    have h2:=h x hx;have:x≠n:=fun e=>hn (e ▸ hx)
    omega)
   omega
structure KeyU (n L:Nat) (p:Key):Prop where
 set1:1≤p.1
 set2:p.1 < (2 ^ n:Nat)
 left0:0≤p.2.1
 left1:p.2.1≤L
theorem zqm {p q:Key} (h1:p.1=q.1) (h2:p.2.1=q.2.1):p=q:=by
 obtain ⟨a,b,u⟩:=p;obtain ⟨c,d,v⟩:=q;simp only at h1 h2;subst h1;subst h2;rfl
theorem znd {α β:Type} {f:α->β}:{l:List α}->(∀ x∈l,∀ y∈l,f x=f y->x=y)->l.Nodup->(l.map f).Nodup
 | [],_,_=>by simp
 | a :: l,h,hd=>by
  rw [List.nodup_cons] at hd;rw [List.map_cons,List.nodup_cons];refine ⟨fun hm=>?_,znd (fun x hx y hy=>h x (by simp [hx]) y (by simp [hy])) hd.2⟩;obtain ⟨b,hb,e⟩:=List.mem_map.1 hm;have:=h b (by simp [hb]) a (by simp) e;subst this;exact hd.1 hb
theorem keys_few {n L:Nat} {K:List Key} (hd:K.Nodup) (hK:∀ p∈K,KeyU n L p):K.length≤2 ^ n*(L+1):=by
 have hp:=Nat.two_pow_pos n;have:=pigN (2 ^ n*(L+1)) (K.map fun p=>p.1.toNat+2 ^ n*p.2.1.toNat) (znd (fun p hp' q hq e=>?_) hd) (fun x hx=>?_)
 ·simpa using this
 ·have h1:=hK p hp';have h2:=hK q hq;have a1:=h1.set1;have a2:=h1.set2;have a3:=h1.left0;have b1:=h2.set1;have b2:=h2.set2;have b3:=h2.left0;have e1:(p.1.toNat+2 ^ n*p.2.1.toNat) % 2 ^ n=p.1.toNat:=by rw [Nat.add_mul_mod_self_left];exact Nat.mod_eq_of_lt (by omega)
  have e2:(q.1.toNat+2 ^ n*q.2.1.toNat) % 2 ^ n=q.1.toNat:=by rw [Nat.add_mul_mod_self_left];exact Nat.mod_eq_of_lt (by omega)
  have e3:(p.1.toNat+2 ^ n*p.2.1.toNat) / 2 ^ n=p.2.1.toNat:=by rw [Nat.add_mul_div_left _ _ hp,Nat.div_eq_of_lt (by omega)];omega
  have e4:(q.1.toNat+2 ^ n*q.2.1.toNat) / 2 ^ n=q.2.1.toNat:=by rw [Nat.add_mul_div_left _ _ hp,Nat.div_eq_of_lt (by omega)];omega
  rw [e] at e1 e3;exact zqm (by omega) (by omega)
 ·obtain ⟨p,hp',rfl⟩:=List.mem_map.1 hx;have h1:=hK p hp';have a1:=h1.set1;have a2:=h1.set2;have a3:=h1.left0;have a4:=h1.left1;have:2 ^ n*p.2.1.toNat≤2 ^ n*L:=Nat.mul_le_mul_left _ (by omega);rw [Nat.mul_succ];omega
def mkM (W:Key->Int) (K:List Key) (D:Key->Bool):z7a:=K.map fun p=>(p,if D p then W p else -1)
theorem zs9 (W:Key->Int) (K:List Key) (D:Key->Bool):(mkM W K D).map Prod.fst=K:=by
 simp only [mkM,List.map_map];exact (List.map_congr_left fun _ _=>rfl).trans (List.map_id K)
theorem zwh (W:Key->Int) (K:List Key) (D:Key->Bool):(mkM W K D).length=K.length:=by simp [mkM]
theorem mkM_dist {W:Key->Int} {K:List Key} {D:Key->Bool} (h:K.Nodup):Dist (mkM W K D):=by rw [Dist,zs9];exact h
theorem zse {W:Key->Int} {D:Key->Bool} {p:Key}:{K:List Key}->p∈K->lk (mkM W K D) p=some (if D p then W p else -1)
 | q :: K,h=>by
  simp only [mkM,List.map_cons,lk];by_cases e:p=q
  ·subst e;rw [if_pos rfl]
  ·rw [if_neg e];rcases List.mem_cons.1 h with h | h
   ·exact absurd h e
   ·exact zse h
theorem zg5 {W:Key->Int} {D:Key->Bool} {p:Key} {K:List Key} (h:p∉K):lk (mkM W K D) p=none:=by
 rw [zqi];intro e he h1;have:e.1∈(mkM W K D).map Prod.fst:=List.mem_map.2 ⟨e,he,rfl⟩;rw [zs9,h1] at this;exact h this
theorem zwi {W:Key->Int} {K:List Key} {D D':Key->Bool} (h:∀ p∈K,D p=D' p):mkM W K D=mkM W K D':=
 List.map_congr_left fun p hp=>by rw [h p hp]
theorem pt_mkM {W:Key->Int} {D:Key->Bool} {p:Key}:{K:List Key}->p∈K->K.Nodup->pt (mkM W K D) p (W p)=mkM W K (fun q=>decide (q=p) || D q)
 | q :: K,h,hd=>by
  rw [List.nodup_cons] at hd;simp only [mkM,List.map_cons,pt];by_cases e:p=q
  ·subst e;rw [if_pos rfl];simp only [decide_true,Bool.true_or,if_true,List.cons.injEq,true_and];refine List.map_congr_left fun x hx=>?_
   have:¬ x=p:=fun e=>hd.1 (e ▸ hx)
   simp [this]
  ·rw [if_neg e];rcases List.mem_cons.1 h with h | h
   ·exact absurd h e
   ·have:=pt_mkM (W:=W) (D:=D) h hd.2;simp only [mkM] at this;rw [this];have:¬ q=p:=fun h=>e h.symm
    simp [this]
theorem mkM_new (W:Key->Int) (K:List Key) (D:Key->Bool) (p:Key):mkM W (K++[p]) D=mkM W K D++[(p,if D p then W p else -1)]:=by simp [mkM]
def zni (v:List Int) (p:Key):List Key:=if p.2.1=0 then [] else (z26 v p.1.toNat).map fun (y:Nat)=>((y:Int),p.2.1-1,())
def zly (vs:List (List Int)) (p:Key):List Key:=vs.flatMap fun v=>zni v p
inductive Rch (vs:List (List Int)) (root:Key):Key->Prop
 | base:Rch vs root root
 | step {p q:Key}:Rch vs root p->q∈zly vs p->Rch vs root q
theorem Rch.trans {vs:List (List Int)} {a b c:Key} (h1:Rch vs a b) (h2:Rch vs b c):Rch vs a c:=by
 induction h2 with
 | base=>exact h1
 | step _ hq ih=>exact ih.step hq
theorem z5o {v:List Int} {p q:Key}:q∈zni v p↔p.2.1≠0∧∃ c,c < z2f v∧part v p.1.toNat c≠0∧q=(((part v p.1.toNat c:Nat):Int),p.2.1-1,()):=by
 unfold zni;split
 ·rename_i h;simp [h]
 ·rename_i h;simp only [List.mem_map,z26,List.mem_filter,List.mem_range,decide_eq_true_eq,ne_eq,h,not_false_eq_true,true_and];constructor
  ·rintro ⟨y,⟨⟨c,hc,rfl⟩,h2⟩,rfl⟩;exact ⟨c,hc,h2,rfl⟩
  ·rintro ⟨c,hc,h2,rfl⟩;exact ⟨_,⟨⟨c,hc,rfl⟩,h2⟩,rfl⟩
theorem z8f {vs:List (List Int)} {p q:Key}:q∈zly vs p↔∃ v∈vs,q∈zni v p:=by simp [zly,List.mem_flatMap]
theorem z8g {m:z1i} {n L:Nat} (hm:MenuP m n) {p q:Key} (hp:KeyU n L p) (hq:q∈zly m.2.1 p):KeyU n L q∧q.2.1=p.2.1-1:=by
 obtain ⟨v,hv,h⟩:=z8f.1 hq;obtain ⟨h0,c,hc,h1,rfl⟩:=z5o.1 h;have:=zkq (hm.view v hv) p.1.toNat c;have a:=hp.left0;have b:=hp.left1;refine ⟨⟨?_,?_,?_,?_⟩,rfl⟩ <;> simp only <;> omega
theorem Rch.ok {m:z1i} {n L:Nat} (hm:MenuP m n) {root p:Key} (hr:KeyU n L root) (h:Rch m.2.1 root p):KeyU n L p:=by
 induction h with
 | base=>exact hr
 | step _ hq ih=>exact (z8g hm ih hq).1
end Go.Kz
