/-
  The statement Rows.PartitionPartsCardSaid: the law PartitionParts of the program returns true for every input, and the input reads afterwards as before; the table of math/bits that it reads is tied to the program's text.
-/
import Derived.Test.YtoccnkcnkcngjaaDoorCards
import Derived.Test.YtoccnkcnkcngjaaDoorTie
import Derived.WalkKit
import Derived.ProofKit
import Derived.OpenShut
import Derived.ShutString
import Derived.ChangeOld
import Derived.Below
import Derived.Deep.DeepHandedRow
import Derived.Lib.LaidTab
import Derived.Test.YtoccnkcnkcngjaaDoorKzN6
set_option linter.unusedSimpArgs false
namespace Go.Proofs.YtoccnkcnkcngjaaDoor.partitionParts
open Go.ChangeShapes Go.WideShapes Go.ChangeAt Go.RowKit
set_option linter.unusedVariables false
theorem own:ownKnob Tryd.prog.godebug=none:=by kernel_rfl
theorem laidOut:laidOutB Tryd.prog=true:=by kernel_rfl
theorem gTab : Tryd.prog.globalNamed "math/bits.deBruijn64tab" = some 0 := by kernel_rfl
theorem gTabType:(Tryd.prog.globals[0]?).map (·.type)=some 55:=by kernel_rfl
theorem cells55:Tryd.prog.cellsOf 55=64:=by kernel_rfl
theorem cells5:Tryd.prog.cellsOf 5=1:=by kernel_rfl
theorem table {W : World} (h : laidMetH Tryd.prog Rows.partitionPartsRow.laid W) : Lib.TabIs Tryd.prog W "math/bits.deBruijn64tab" .u8 Go.Kz.tab0 :=
 Lib.tabIs_of_head (rest:=[]) gTab gTabType Tryd.underlying55 Tryd.underlying5 cells5 cells55 h
theorem tabKnown {W:World} (h:laidMetH Tryd.prog Rows.partitionPartsRow.laid W):Go.Kz.Known W (Go.Kz.wholeG W):=by
 intro b e he
 cases b with
 | succ b=>simp [Go.Kz.tab] at he
 | zero=>
  simp only [Go.Kz.tab,Option.some.injEq] at he
  subst he
  refine ⟨rfl,Go.Kz.known_int (b:=0) (n:=64) (k:=.u8) (l:=Go.Kz.tab0) rfl (by omega) (by decide) fun j hj=>?_⟩
  exact (table h).cell gTab j hj
set_option maxHeartbeats 4000000 in
set_option maxRecDepth 100000 in
theorem contract (H:Type) (enc:TypeId×Value→H) (W:World) (base:Nat) (args:Array Value) (ds gs:List (DataW H)) (before:List MemPlace)
  (hval0:∀ (j:Nat) t v,Tryd.f4.params[j]? = some t→args[j]? = some v→Value.okWide Tryd.prog W .any base t v)
  (hW:DataW.Whole enc Tryd.prog Tryd.f4.params.toList Rows.partitionPartsSpec.vars false W args.toList ds gs before) (hL:laidMetH Tryd.prog Rows.partitionPartsRow.laid W) :
  Calls Tryd.prog 4 args W fun e W'=>∃ v,e = .returned v∧Rows.partitionPartsSpec.post enc Tryd.prog Tryd.f4 false true false false W args v W':=by
 have hval:∀ (j:Nat) t v,Tryd.f4.params[j]? = some t→args[j]? = some v→Value.okWide Tryd.prog W .any base t v:=hval0
 have hW':=hW
 obtain ⟨p,q,hA0,hV,rfl,hfz,hnd⟩:=hW
 have hA:DataW.TrodAll enc Tryd.prog W 0 (fun _=>true) true Tryd.f4.params.toList args.toList ds p:=hA0
 rw [Tryd.params4] at hA hval
 obtain ⟨v0,vs0,d0,ds0,p0,q0,hargs,rfl,rfl,h0,r0⟩:=trodAll_cons hA
 obtain ⟨v1,vs1,d1,ds1,p1,q1,rfl,rfl,rfl,h1,r1⟩:=trodAll_cons r0
 obtain ⟨v2,vs2,d2,ds2,p2,q2,rfl,rfl,rfl,h2,r2⟩:=trodAll_cons r1
 obtain ⟨rfl,rfl,rfl⟩:=trodAll_nil r2
 obtain rfl:args = #[v0,v1,v2]:=by cases args;simp_all
 obtain ⟨rfl,rfl⟩:=trodVars_none hV
 have lt0:∀ x∈p0,x.block < W.heap.size:=by obtain ⟨m,hm⟩:=h0;exact DataW.trod_lt m _ _ _ hm
 obtain ⟨x0,ro0⟩:=Go.Kz.arg_open (t:=(.sl false (.int .i64))) (by kernel_rfl) (Go.Kz.ttL_ok 22 _ (by kernel_rfl)) (hval 0 22 v0 rfl rfl) h0
 have lt1:∀ x∈p1,x.block < W.heap.size:=by obtain ⟨m,hm⟩:=h1;exact DataW.trod_lt m _ _ _ hm
 obtain ⟨x1,ro1⟩:=Go.Kz.arg_open (t:=(.int .u64)) (by kernel_rfl) (Go.Kz.ttL_ok 33 _ (by kernel_rfl)) (hval 1 33 v1 rfl rfl) h1
 have lt2:∀ x∈p2,x.block < W.heap.size:=by obtain ⟨m,hm⟩:=h2;exact DataW.trod_lt m _ _ _ hm
 obtain ⟨x2,ro2⟩:=Go.Kz.arg_open (t:=(.int .u64)) (by kernel_rfl) (Go.Kz.ttL_ok 33 _ (by kernel_rfl)) (hval 2 33 v2 rfl rfl) h2
 clear hA0 hval0
 refine (Go.Kz.law_walk (fn:=Tryd.f4) (body:=Go.Kz.b4) (d:=(x0,x1,x2,())) (vals:=[v0,v1,v2]) Tryd.func4 (by kernel_rfl) (by kernel_rfl) (Go.Kz.k4 100) (by exact Go.Kz.law4F x0 x1 x2 (Go.Kz.arg_fits ro1) (Go.Kz.arg_fits ro2)) ⟨ro0.1,ro0.2,ro1.1,ro1.2,ro2.1,ro2.2,trivial⟩ (tabKnown hL)).mono fun e W' ⟨he,bel⟩=>?_
 subst he
 exact ⟨_,rfl,_,_,_,[],_,[],hW',trodAll_mk1 (shut_bool Tryd.underlying4 _),(trodAll_cons_mk (Below.trod laidOut (by kernel_rfl) (of_decide_eq_true (by kernel_rfl)) h0 bel lt0) (trodAll_cons_mk (Below.trod laidOut (by kernel_rfl) (of_decide_eq_true (by kernel_rfl)) h1 bel lt1) (trodAll_cons_mk (Below.trod laidOut (by kernel_rfl) (of_decide_eq_true (by kernel_rfl)) h2 bel lt2) trodAll_mk0))),rfl,bel.frame _,fun h=>by cases h⟩
noncomputable def laidWorld (os:Os):World:=
 { World.holding Tryd.prog os ⟨#[],#[],[]⟩ with heap:=(World.holding Tryd.prog os ⟨#[],#[],[]⟩).heap.modify 0 fun
   | .cells _ t frozen=>.cells #[.int .u8 0,.int .u8 1,.int .u8 56,.int .u8 2,.int .u8 57,.int .u8 49,.int .u8 28,.int .u8 3,.int .u8 61,.int .u8 58,.int .u8 42,.int .u8 50,.int .u8 38,.int .u8 29,.int .u8 17,.int .u8 4,.int .u8 62,.int .u8 47,.int .u8 59,.int .u8 36,.int .u8 45,.int .u8 43,.int .u8 51,.int .u8 22,.int .u8 53,.int .u8 39,.int .u8 33,.int .u8 30,.int .u8 24,.int .u8 18,.int .u8 12,.int .u8 5,.int .u8 63,.int .u8 55,.int .u8 48,.int .u8 27,.int .u8 60,.int .u8 41,.int .u8 37,.int .u8 16,.int .u8 46,.int .u8 35,.int .u8 44,.int .u8 21,.int .u8 52,.int .u8 32,.int .u8 23,.int .u8 11,.int .u8 54,.int .u8 26,.int .u8 40,.int .u8 15,.int .u8 34,.int .u8 20,.int .u8 31,.int .u8 10,.int .u8 25,.int .u8 14,.int .u8 19,.int .u8 9,.int .u8 13,.int .u8 8,.int .u8 7,.int .u8 6] t frozen
   | o=>o }
theorem laid_met (os:Os):laidMet Tryd.prog Rows.partitionPartsRow.laid ((laidWorld os).forCall (fun _ _=>0) ⟨#[],#[.slice none 0 0,.int .u64 0,.int .u64 0],[]⟩).memory:=
 laidMet_of_run' 8 (by kernel_rfl) (by kernel_rfl)
theorem reads (os:Os) {H:Type} (enc:TypeId×Value→H):∃ places,DataW.whole enc Tryd.prog ((laidWorld os).forCall (fun _ _=>0) ⟨#[],#[.slice none 0 0,.int .u64 0,.int .u64 0],[]⟩).memory Tryd.f4.params.toList Rows.partitionPartsSpec.vars false (#[.slice none 0 0,.int .u64 0,.int .u64 0]:Array Value).toList 8=some ([.nil,.lit (.int .u64 0),.lit (.int .u64 0)],[],places):=
 ⟨[],by kernel_rfl⟩
set_option maxRecDepth 100000 in
theorem lifted (os:Os) (started:os.Started) (H:Type) (enc:TypeId×Value→H) (F:Stop.Interp) :
  ReturnsInHanded {} Tryd.checked os 4 .any ((OpenSpec.ofChange Rows.partitionPartsSpec).preRow enc Tryd.prog Tryd.f4 Rows.partitionPartsRow.domain false Rows.partitionPartsRow.laid) (((OpenSpec.ofChange Rows.partitionPartsSpec).at F).post enc Tryd.prog Tryd.f4 false true false false):=by
 obtain ⟨places,hx⟩:=reads os enc
 refine returnsInHanded_of_row (C:=Tryd.checked) (s:=OpenSpec.ofChange Rows.partitionPartsSpec) own started (by kernel_rfl) Tryd.func4
  (witness_row_at (enc:=enc) (C:=Tryd.checked) false (laidWorld os) #[.slice none 0 0,.int .u64 0,.int .u64 0] rfl (by kernel_rfl) (by kernel_rfl) (by kernel_rfl)
   (OpenSpec.preRow_of_cond 8 hx (by kernel_rfl) (fun k hk=>by cases hk) (by kernel_rfl) (laid_met os))) ?_
 intro W base args ds gs before hval hW _ _ _ hL _ _
 exact contract H enc W base args ds gs before hval hW hL
theorem said:Rows.PartitionPartsSaid:=
 OpenClaim.holds_of_cond 4 Tryd.f4 rfl rfl rfl rfl rfl rfl rfl ⟨rfl,rfl,rfl,rfl,rfl⟩ rfl rfl rfl rfl rfl (by kernel_rfl) Tryd.func4 (by kernel_rfl)
  (of_decide_eq_true (by kernel_rfl)) (by unfold Func.isWrapper;first | (rw [if_pos (by decide +kernel)];kernel_rfl) | (rw [if_neg (by decide +kernel)];exact ⟨rfl,rfl⟩))
  (fun os started H enc _ F=>by rw [OpenClaim.pre_eq_preRow];exact lifted os started H enc F)
theorem plain (f : FuncId) (fn : Func) (hf : Tryd.pinned.checked.prog.funcNamed "keyhole/keyholelaw04.PartitionParts" = some f) (hfn : Tryd.pinned.checked.prog.funcs[f]? = some fn) :
  false=Tryd.pinned.checked.prog.looks []∧∀ (j:Nat) t,fn.params[j]? = some t→Tryd.pinned.checked.prog.wantsStandIn t=false:=by
 obtain rfl : f = 4 := Option.some.inj ((show Tryd.prog.funcNamed "keyhole/keyholelaw04.PartitionParts" = some 4 by kernel_rfl).symm.trans hf) |>.symm
 obtain rfl:fn=Tryd.f4:=(Option.some.inj (Tryd.func4.symm.trans hfn)).symm
 refine ⟨by kernel_rfl,fun j t ht=>?_⟩
 rw [Tryd.params4] at ht
 have hmem:=Array.mem_of_getElem? ht
 have hall:∀ t∈(#[22,33,33]:Array TypeId),Tryd.prog.wantsStandIn t=false:=by
  intro t ht
  simp only [List.mem_toArray,List.mem_cons,List.not_mem_nil,or_false] at ht
  rcases ht with rfl | rfl | rfl <;> kernel_rfl
 exact hall t hmem
theorem proved:Rows.PartitionPartsCardSaid:=
 Claim7.holds_tied_plain_at .later [] _ _ _ _ said (fun _ h=>by cases h) (by kernel_rfl) (fun _ h=>by cases h) partitionParts_row_tie rfl ⟨rfl,rfl⟩ (by kernel_rfl) rfl plain (by kernel_rfl)
end Go.Proofs.YtoccnkcnkcngjaaDoor.partitionParts
