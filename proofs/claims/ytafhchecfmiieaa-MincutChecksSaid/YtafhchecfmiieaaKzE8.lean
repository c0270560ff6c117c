/-
  Layer 07, plain: marks, and the network that is laid for a graph.
-/
import Derived.Test.YtafhchecfmiieaaKzE7
set_option linter.unusedVariables false
set_option linter.unusedSimpArgs false
namespace Go.Kz
def Sub (n:Nat) (S:List Nat):Prop:=∀ x∈S,x < n
def mks (S:List Nat) (k:Nat):Bool:=decide (k∈S)
def mkL (n:Nat) (S:List Nat):List Bool:=(List.range n).map (mks S)
theorem il_idx {l:List Nat} {k:Nat} (h:k < l.length):idx (il l) (k:Int)=some ((l[k]:Nat):Int):=il_get h
theorem f41_eq {n:Nat} {S:List Nat} (hn:n≤1000) (hS:Sub n S) (hl:S.length≤1000):f41 10000000000000000 (n:Int) (il S)=some (mkL n S):=by
 unfold f41
 rw [ckn (by omega),Int.toNat_natCast]
 refine Yld.eq (Yld.up (fun k (o:List Bool)=>o=mkL n (S.take k)) S.length ?_ ?_ 10000000000000000 0 (Nat.zero_le _) (by omega) _ ?_)
 ·rintro k o w hk rfl hw
  have hv:=hS _ (List.getElem_mem hk)
  simp only [f41_L3]
  rw [d_true (show (k:Int) < len (il S) by rw [len_eq,il_len];omega),wi64_nat (k:=k) (by omega),il_idx hk]
  simp only [cond_true,Option.bind_some]
  have hi:∀ T,inb (mkL n T) ((S[k]:Nat):Int)=true:=fun T=>inb_map_range _ hv
  have hg:∀ T,idx (mkL n T) ((S[k]:Nat):Int)=some (mks T S[k]):=fun T=>idx_map_range _ hv
  rw [chk_true (hi _),hg]
  simp only [Option.bind_some]
  refine hw _ ?_
  show ((List.range n).map (mks (S.take k))).set S[k] true=mkL n (S.take (k+1))
  rw [map_set_range]
  refine List.map_congr_left fun x _=>?_
  rw [take_succ hk]
  unfold upF mks
  by_cases e:x=S[k]
  ·rw [if_pos e,e];exact (decide_eq_true (List.mem_append.2 (.inr (List.mem_singleton.2 rfl)))).symm
  ·rw [if_neg e];exact decide_eq_decide.2 ⟨fun h=>List.mem_append.2 (.inl h),fun h=>(List.mem_append.1 h).elim id fun h=>absurd (List.mem_singleton.1 h) e⟩
 ·rintro o w rfl
  simp only [f41_L3]
  rw [d_false (show ¬ ((S.length:Nat):Int) < len (il S) by rw [len_eq,il_len];omega),List.take_length]
  exact Yld.ret rfl
 ·apply List.ext_getElem?
  intro i
  by_cases hi:i < n
  ·rw [show (mkL n (S.take 0))[i]? = some (mks (S.take 0) i) from map_range_get _ hi,List.getElem?_replicate_of_lt hi]
   simp [mks]
  ·rw [List.getElem?_eq_none (by simp;omega),List.getElem?_eq_none (by simp [mkL];omega)]
theorem mk_get {n:Nat} (S:List Nat) {k:Nat} (hk:k < n):idx (mkL n S) (k:Int)=some (mks S k):=idx_map_range _ hk
theorem mk_inb {n:Nat} (S:List Nat) {k:Nat} (hk:k < n):inb (mkL n S) (k:Int)=true:=inb_map_range _ hk
theorem mk_iff {S:List Nat} {k:Nat}:mks S k=true↔k∈S:=by simp [mks]
def capC (wt:Nat→Int) (most:Int) (k:Nat):Int:=if wt k < 0 then most else wt k
section
variable {n:Nat} {E:List (Nat×Nat)} {A B:List Nat} {wt:Nat→Int} {most:Int}
structure LayK (n:Nat) (E:List (Nat×Nat)) (A B:List Nat) (wt:Nat→Int) (most:Int) (c k:Nat) (W:Nw) (r:Nat→Nat→Int):Prop where
 lay:LayI n E (mks A) (mks B) (capC wt most) most c W r
 pos:∀ j,j < n→0 < W.deg (2*j)
 thru:∀ j,j < n→W.Has (2*j) (2*j+1)
 edge:∀ a b,a < k→ArcF n E (mks A) (mks B) (2*a+1) (2*b)→W.Has (2*a+1) (2*b)
 first:∀ j,j < k→ArcF n E (mks A) (mks B) (2*n) (2*j)→W.Has (2*n) (2*j)
 last:∀ j,j < k→ArcF n E (mks A) (mks B) (2*j+1) (2*n+1)→W.Has (2*j+1) (2*n+1)
end
end Go.Kz
