/-
  Layer 07, plain: flows that prove a cut: the laws Checks and Rivals.
-/
import Derived.Test.YtafhchecfmiieaaKzED
set_option linter.unusedVariables false
set_option linter.unusedSimpArgs false
namespace Go.Kz
def GoodF (n:Nat) (E:List (Nat×Nat)) (A B:List Nat) (f:FlowD):Prop:=1≤f.2.1∧∃ q,f.1=il q∧IsP n E (mks A) (mks B) q
def Ld (fs:List FlowD) (v:Nat):Int:=lsm (fun f:FlowD=>if (v:Int)∈f.1 then f.2.1 else 0) fs
def Am (fs:List FlowD):Int:=lsm (fun f:FlowD=>f.2.1) fs
structure PfP (n:Nat) (E:List (Nat×Nat)) (A B:List Nat) (w:List Int) (fs:List FlowD) (val:Int):Prop where
 good:∀ f∈fs,GoodF n E A B f
 load:∀ v,v < n→0≤w.getD v 0→Ld fs v≤w.getD v 0
 sum:Am fs=val
section
variable {n:Nat} {E:List (Nat×Nat)} {A B:List Nat} {w:List Int}
end
end Go.Kz
