/-
  Layer 07, plain: the search in a network.
-/
import Derived.Test.YtafhchecfmiieaaKzE5
set_option linter.unusedVariables false
set_option linter.unusedSimpArgs false
namespace Go.Kz
theorem il_app (q:List Nat) (v:Nat):il q++[(v:Int)]=il (q++[v]):=by simp [il]
theorem sub1_il (u:Nat) (q:List Nat):sub (il (u :: q)) 1 (len (il (u :: q)))=il q:=by
 unfold sub
 rw [len_eq,il_len,show (1:Int).toNat=1 from rfl,Int.toNat_natCast,List.length_cons]
 rw [show (il (u :: q)).drop 1=il q from rfl,List.take_of_length_le (by rw [il_len];omega)]
theorem cnt_le {p q:Nat→Bool}:{n:Nat}→(∀ x,x < n→q x=true→p x=true)→(List.range n).countP q≤(List.range n).countP p
 | 0,_=>Nat.le_refl _
 | n+1,h=>by
  rw [List.range_succ,List.countP_append,List.countP_append]
  have h1:=cnt_le (n:=n) fun x hx=>h x (by omega)
  have h2:List.countP q [n]≤List.countP p [n]:=by
   simp only [List.countP_cons,List.countP_nil,Nat.zero_add]
   by_cases hq:q n=true
   ·rw [if_pos hq,if_pos (h n (by omega) hq)];exact Nat.le_refl _
   ·rw [if_neg hq];omega
  omega
theorem cnt_lt {p q:Nat→Bool}:{n:Nat}→(∀ x,x < n→q x=true→p x=true)→∀ v,v < n→p v=true→q v=false→(List.range n).countP q+1≤(List.range n).countP p
 | 0,_,v,hv,_,_=>by omega
 | n+1,h,v,hv,hp,hq=>by
  rw [List.range_succ,List.countP_append,List.countP_append]
  simp only [List.countP_cons,List.countP_nil,Nat.zero_add]
  by_cases e:v=n
  ·subst e
   have h1:=cnt_le (n:=v) fun x hx=>h x (by omega)
   rw [hp,hq]
   simp only [if_pos,Bool.false_eq_true,if_false]
   omega
  ·have h1:=cnt_lt (n:=n) (fun x hx=>h x (by omega)) v (by omega) hp hq
   have h2:(if q n=true then 1 else 0)≤(if p n=true then 1 else 0):=by
    by_cases hqn:q n=true
    ·rw [if_pos hqn,if_pos (h n (by omega) hqn)];exact Nat.le_refl _
    ·rw [if_neg hqn];omega
   omega
theorem cnt_n (n:Nat) (p:Nat→Bool):(List.range n).countP p≤n:=by
 have:=List.countP_le_length (p:=p) (l:=List.range n)
 simpa using this
def unl (n:Nat) (D:Nat→Int):Nat:=(List.range n).countP fun x=>decide (D x < 0)
structure Sch (W:Nw) (r:Nat→Nat→Int) (s:Nat) (P I:Nat→Int) (D:Nat→Nat):Prop where
 low:∀ x,x < W.N→P x = -1∨0≤P x
 src:P s=(s:Int)
 par:∀ x,x < W.N→x≠s→0≤P x→∃ d:Nat×Nat,P x=(d.1:Int)∧I x=(d.2:Int)∧W.Is d∧W.hd d.1 d.2=x∧0 < r d.1 d.2∧0≤P d.1∧D d.1 < D x
 cap:∀ x,x < W.N→0≤P x→D x+unl W.N P≤W.N
structure SchQ (W:Nw) (r:Nat→Nat→Int) (s:Nat) (P I:Nat→Int) (D:Nat→Nat) (q:List Nat):Prop extends Sch W r s P I D where
 qlt:∀ y∈q,y < W.N∧0≤P y
 done:∀ x,x < W.N→0≤P x→x∉q→∀ i,i < W.deg x→0 < r x i→0≤P (W.hd x i)
structure SchT (W:Nw) (r:Nat→Nat→Int) (s u k:Nat) (P I:Nat→Int) (D:Nat→Nat) (q:List Nat):Prop extends Sch W r s P I D where
 ulab:0≤P u
 qlt:∀ y∈q,y < W.N∧0≤P y
 seen:∀ i,i < k→0 < r u i→0≤P (W.hd u i)
 done:∀ x,x < W.N→0≤P x→x∉q→x≠u→∀ i,i < W.deg x→0 < r x i→0≤P (W.hd x i)
section
variable {W:Nw} {ld:Nat→Nat→Bool} {r:Nat→Nat→Int} {s u k:Nat} {P I:Nat→Int} {D:Nat→Nat} {q:List Nat}
theorem SchT.out (h:SchT W r s u k P I D q) (hk:W.deg u≤k):SchQ W r s P I D q:=
 ⟨h.toSch,h.qlt,fun x hx h0 hq i hi hr=>by
  by_cases e:x=u
  ·subst e;exact h.seen i (by omega) hr
  ·exact h.done x hx h0 hq e i hi hr⟩
end
end Go.Kz
