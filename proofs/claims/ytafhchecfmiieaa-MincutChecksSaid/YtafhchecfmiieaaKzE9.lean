/-
  Layer 07, plain: flows taken apart. First what is taken along arcs, and plain facts on chains.
-/
import Derived.Test.YtafhchecfmiieaaKzE8
set_option linter.unusedVariables false
set_option linter.unusedSimpArgs false
namespace Go.Kz
theorem nodup_len {l:List Nat} {N:Nat} (h:l.Nodup) (hl:∀ x∈l,x < N):l.length≤N:=by
 have h1:((List.range N).filter fun x=>decide (x∈l)).Perm l:=Nw.perm_of (List.nodup_range.filter _) h fun x=>by
  rw [List.mem_filter,List.mem_range,decide_eq_true_eq]
  exact ⟨fun h=>h.2,fun h=>⟨hl x h,h⟩⟩
 rw [←h1.length_eq]
 have:=List.length_filter_le (fun x=>decide (x∈l)) (List.range N)
 rwa [List.length_range] at this
theorem sub_start {α:Type} (l:List α) {b:Nat}:sub l 0 (b:Int)=l.take b:=by
 show (l.drop 0).take (b-0)=_
 simp
theorem il_take (l:List Nat) (k:Nat):(il l).take k=il (l.take k):=by simp [il,List.map_take]
namespace Nw
variable {W:Nw}
theorem Chn.last {y:Nat}:{x:Nat}→{l:List (Nat×Nat)}→W.Chn x l y→l≠[]→∃ d∈l,W.hd d.1 d.2=y
 | _,[],_,h=>absurd rfl h
 | x,[d],h,_=>⟨d,by simp,h.2⟩
 | x,d :: e :: l,h,_=>by
  obtain ⟨z,hz,hz2⟩:=Chn.last (l:=e :: l) h.2 (by simp)
  exact ⟨z,by simp only [List.mem_cons] at hz ⊢;exact .inr hz,hz2⟩
theorem Chn.nodes {y:Nat}:{x:Nat}→{l:List (Nat×Nat)}→W.Chn x l y→l.map Prod.fst++[y]=x :: l.map fun d=>W.hd d.1 d.2
 | _,[],h=>by cases h;rfl
 | x,d :: l,h=>by
  rw [List.map_cons,List.map_cons,List.cons_append,Chn.nodes h.2,h.1]
theorem Chn.head {x y:Nat} {d:Nat×Nat} {l:List (Nat×Nat)} (h:W.Chn x (d :: l) y):x=d.1:=h.1.symm
end Nw
section
variable {W:Nw} {ld:Nat→Nat→Bool} {cap:Nat→Nat→Int} {r:Nat→Nat→Int}
end
section
variable {n:Nat} {W:Nw} {ld:Nat→Nat→Bool} {cap:Nat→Nat→Int} {r:Nat→Nat→Int}
theorem f50_ok (l:List Nat) (x:Nat) (hl:l.length≤3000):(x∉l∧f50 10000000000000000 (il l) (x:Int)=some (-1))∨∃ k,∃ hk:k < l.length,l[k]=x∧f50 10000000000000000 (il l) (x:Int)=some (k:Int):=by
 have key:Yld (f50 10000000000000000 (il l) (x:Int)) fun y=>(x∉l∧y = -1)∨∃ k,∃ hk:k < l.length,l[k]=x∧y=(k:Int):=by
  unfold f50
  rw [show len (il l)=(l.length:Int) from by rw [len_eq,il_len]]
  refine Yld.upI (fun k=>x∉l.take k) l.length ?_ ?_ 10000000000000000 0 (Nat.zero_le _) (by omega) (by simp)
  ·intro k w hk hI hw
   simp only [f50_L2]
   rw [d_true (show (k:Int) < (l.length:Int) by omega),wi64_nat (k:=k) (by omega),il_idx hk]
   simp only [cond_true,Option.bind_some]
   refine Yld.cond (fun hc=>?_) fun hc=>?_
   ·rw [decide_eq_true_eq] at hc
    exact Yld.ret (.inr ⟨k,hk,by omega,rfl⟩)
   ·rw [decide_eq_false_iff_not] at hc
    refine hw fun hm=>?_
    rw [take_succ hk] at hm
    rcases List.mem_append.1 hm with hm | hm
    ·exact hI hm
    ·rw [List.mem_singleton] at hm;exact hc (by omega)
  ·intro w hI
   simp only [f50_L2]
   rw [d_false (show ¬ ((l.length:Nat):Int) < (l.length:Int) by omega),cond_false]
   rw [List.take_length] at hI
   exact Yld.ret (.inl ⟨hI,rfl⟩)
 obtain ⟨y,h1,h2⟩:=key
 rcases h2 with ⟨h2,rfl⟩ | ⟨k,hk,h2,rfl⟩
 ·exact .inl ⟨h2,h1⟩
 ·exact .inr ⟨k,hk,h2,h1⟩
end
def wk (E:List (Nat×Nat)):List Nat→Prop
 | []=>True
 | [_]=>True
 | a :: b :: l=>(a,b)∈E∧wk E (b :: l)
structure IsP (n:Nat) (E:List (Nat×Nat)) (A B:Nat→Bool) (p:List Nat):Prop where
 ne:p≠[]
 first:∀ h:p≠[],A (p.head h)=true
 last:∀ h:p≠[],B (p.getLast h)=true
 walk:wk E p
 nodup:p.Nodup
 lt:∀ x∈p,x < n
section
variable {n:Nat} {E:List (Nat×Nat)} {F T:Nat→Bool} {W:Nw} {C:Nat→Int} {most:Int} {r:Nat→Nat→Int}
end
end Go.Kz
