/-
  Layer 07, plain: flows that prove a cut: the laws Checks and Rivals.
-/
import Derived.Test.YtafhchecfmiieaaKzED
set_option linter.unusedVariables false
set_option linter.unusedSimpArgs false
namespace Go.Kz
def GoodF (n:Nat) (E:List (Nat×Nat)) (A B:List Nat) (f:FlowD):Prop:=1≤f.2.1∧∃ q,f.1=il q∧IsP n E (mks A) (mks B) q
def Ld (fs:List FlowD) (v:Nat):Int:=lsm (fun f:FlowD=>if (v:Int)∈f.1 then f.2.1 else 0) fs
def Am (fs:List FlowD):Int:=lsm (fun f:FlowD=>f.2.1) fs
structure PfP (n:Nat) (E:List (Nat×Nat)) (A B:List Nat) (w:List Int) (fs:List FlowD) (val:Int):Prop where
 good:∀ f∈fs,GoodF n E A B f
 load:∀ v,v < n→0≤w.getD v 0→Ld fs v≤w.getD v 0
 sum:Am fs=val
theorem Ld_app (fs:List FlowD) (f:FlowD) (v:Nat):Ld (fs++[f]) v=Ld fs v+(if (v:Int)∈f.1 then f.2.1 else 0):=by unfold Ld;rw [lsm_app];simp [lsm]
theorem Ld_take {fs:List FlowD} (h:∀ f∈fs,0≤f.2.1) (k v:Nat):Ld (fs.take k) v≤Ld fs v:=by
 have h1:=lsm_app (fun f:FlowD=>if (v:Int)∈f.1 then f.2.1 else 0) (fs.take k) (fs.drop k)
 rw [List.take_append_drop] at h1
 have:=lsm_nonneg (f:=fun f:FlowD=>if (v:Int)∈f.1 then f.2.1 else 0) (l:=fs.drop k) fun f hf=>by
  have:=h f (List.mem_of_mem_drop hf)
  split <;> omega
 unfold Ld;omega
section
variable {n:Nat} {E:List (Nat×Nat)} {A B:List Nat} {w:List Int}
theorem PfP.next {fs:List FlowD} {val:Int} (h:PfP n E A B w fs val) {k:Nat} (hk:k < fs.length) {v:Nat} (hv:v < n) (hw:0≤w.getD v 0) (hm:(v:Int)∈fs[k].1):Ld (fs.take k) v+fs[k].2.1≤w.getD v 0:=by
 have h1:=Ld_take (fun f hf=>by have:=(h.good f hf).1;omega) (k+1) v
 rw [take_succ hk,Ld_app,if_pos hm] at h1
 have:=h.load v hv hw
 omega
end
end Go.Kz
