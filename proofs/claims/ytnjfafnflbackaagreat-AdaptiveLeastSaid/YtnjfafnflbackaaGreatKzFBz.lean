/-
  The layer adaptive: maps whose keys are known; what can be reached; plain laws.
-/
import Derived.Test.YtnjfafnflbackaaGreatKzF9z
set_option linter.unusedVariables false
set_option linter.unusedSimpArgs false
namespace Go.Kz
theorem pigN:(n:Nat)->(l:List Nat)->l.Nodup->(∀ x∈l,x < n)->l.length≤n
 | 0,[],_,_=>Nat.le_refl _
 | 0,x :: l,_,h=>absurd (h x (by simp)) (by omega)
 | n+1,l,hd,h=>by
  by_cases hn:n∈l
  ·have h1:=pigN n (l.erase n) (hd.erase n) (fun x hx=>by
    have h2:=h x (List.mem_of_mem_erase hx);have:x≠n:=fun e=>by
     subst e;exact (List.Nodup.not_mem_erase hd) hx
    omega)
   rw [List.length_erase_of_mem hn] at h1;omega
  ·have h1:=pigN n l hd (fun x hx=>by
    have h2:=h x hx;have:x≠n:=fun e=>hn (e ▸ hx)
    omega)
   omega
structure KeyU (n L:Nat) (p:Key):Prop where
 set1:1≤p.1
 set2:p.1 < (2 ^ n:Nat)
 left0:0≤p.2.1
 left1:p.2.1≤L
def mkM (W:Key->Int) (K:List Key) (D:Key->Bool):zg1:=K.map fun p=>(p,if D p then W p else -1)
def zxs (v:List Int) (p:Key):List Key:=if p.2.1=0 then [] else (z28 v p.1.toNat).map fun (y:Nat)=>((y:Int),p.2.1-1,())
def zz0 (vs:List (List Int)) (p:Key):List Key:=vs.flatMap fun v=>zxs v p
inductive Rch (vs:List (List Int)) (root:Key):Key->Prop
 | base:Rch vs root root
 | step {p q:Key}:Rch vs root p->q∈zz0 vs p->Rch vs root q
theorem Rch.trans {vs:List (List Int)} {a b c:Key} (h1:Rch vs a b) (h2:Rch vs b c):Rch vs a c:=by
 induction h2 with
 | base=>exact h1
 | step _ hq ih=>exact ih.step hq
theorem ztl {v:List Int} {p q:Key}:q∈zxs v p↔p.2.1≠0∧∃ c,c < z1z v∧part v p.1.toNat c≠0∧q=(((part v p.1.toNat c:Nat):Int),p.2.1-1,()):=by
 unfold zxs;split
 ·rename_i h;simp [h]
 ·rename_i h;simp only [List.mem_map,z28,List.mem_filter,List.mem_range,decide_eq_true_eq,ne_eq,h,not_false_eq_true,true_and];constructor
  ·rintro ⟨y,⟨⟨c,hc,rfl⟩,h2⟩,rfl⟩;exact ⟨c,hc,h2,rfl⟩
  ·rintro ⟨c,hc,h2,rfl⟩;exact ⟨_,⟨⟨c,hc,rfl⟩,h2⟩,rfl⟩
theorem zxf {vs:List (List Int)} {p q:Key}:q∈zz0 vs p↔∃ v∈vs,q∈zxs v p:=by simp [zz0,List.mem_flatMap]
theorem kids_ok {m:z1m} {n L:Nat} (hm:MenuP m n) {p q:Key} (hp:KeyU n L p) (hq:q∈zz0 m.2.1 p):KeyU n L q∧q.2.1=p.2.1-1:=by
 obtain ⟨v,hv,h⟩:=zxf.1 hq;obtain ⟨h0,c,hc,h1,rfl⟩:=ztl.1 h;have:=z21 (hm.view v hv) p.1.toNat c;have a:=hp.left0;have b:=hp.left1;refine ⟨⟨?_,?_,?_,?_⟩,rfl⟩ <;> simp only <;> omega
theorem Rch.ok {m:z1m} {n L:Nat} (hm:MenuP m n) {root p:Key} (hr:KeyU n L root) (h:Rch m.2.1 root p):KeyU n L p:=by
 induction h with
 | base=>exact hr
 | step _ hq ih=>exact (kids_ok hm ih hq).1
end Go.Kz
