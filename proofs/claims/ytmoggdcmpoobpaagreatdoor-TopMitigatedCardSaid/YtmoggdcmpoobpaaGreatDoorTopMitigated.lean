/-
  The statement Rows.TopMitigatedCardSaid: the law TopMitigated of the program returns true for every input, and the input reads afterwards as before; the tables of math/bits and internal/strconv that it may read are tied to the program's text.
-/
import Derived.Test.YtmoggdcmpoobpaaGreatDoorCards
import Derived.Test.YtmoggdcmpoobpaaGreatDoorTie
import Derived.WalkKit
import Derived.ProofKit
import Derived.OpenShut
import Derived.ShutString
import Derived.ChangeOld
import Derived.Below
import Derived.Deep.DeepHandedRow
import Derived.Lib.LaidTab
import Derived.Test.YtmoggdcmpoobpaaGreatDoorKzM9
set_option linter.unusedSimpArgs false
namespace Go.Proofs.YtmoggdcmpoobpaaGreatDoor.topMitigated
open Go.ChangeShapes Go.WideShapes Go.ChangeAt Go.RowKit
set_option linter.unusedVariables false
theorem own:ownKnob Tryz.prog.godebug=none:=by kernel_rfl
theorem laidOut:laidOutB Tryz.prog=true:=by kernel_rfl
theorem laid_tail{P:Program}{x:String×DataW Unit}{rest:List (String×DataW Unit)}{W:World}(h:laidMet P (x::rest) W):laidMet P rest W:=by
 obtain⟨n,d⟩:=x
 obtain⟨ps,⟨g,t,cs,fuel,p,q,_,_,_,_,hr,rfl⟩,hn,hc⟩:=h
 exact⟨q,hr,(List.nodup_append.1 hn).2.1,λb off hm=>hc b off (List.mem_append_right _ hm)⟩
theorem recOK:Go.Kz.RecOK Tryz.prog:=λk h=>by
 match k with
 |0=>exact Go.Kz.tyB_ok (by kernel_rfl)
 |1=>exact Go.Kz.tyB_ok (by kernel_rfl)
 |k+2=>simp[Go.Kz.recOn]at h
theorem gTab0: Tryz.prog.globalNamed "math/bits.deBruijn64tab" = some 0 := by kernel_rfl
theorem gTab1: Tryz.prog.globalNamed "internal/strconv.uint64pow10" = some 1 := by kernel_rfl
theorem table0{W:World}(h:laidMetH Tryz.prog Rows.topMitigatedRow.laid W): Lib.TabIs Tryz.prog W "math/bits.deBruijn64tab" .u8 Go.Kz.tab0 :=
 Lib.tabIs_of_head (t:=340) (e:=5) (n:=64) gTab0 (by kernel_rfl) (by kernel_rfl) (by kernel_rfl) (by kernel_rfl) (by kernel_rfl) (laid_tail (show laidMet _ _ _ from h))
theorem table1{W:World}(h:laidMetH Tryz.prog Rows.topMitigatedRow.laid W): Lib.TabIs Tryz.prog W "internal/strconv.uint64pow10" .u64 Go.Kz.tab1 :=
 Lib.tabIs_of_head (t:=420) (e:=163) (n:=20) gTab1 (by kernel_rfl) (by kernel_rfl) (by kernel_rfl) (by kernel_rfl) (by kernel_rfl) (laid_tail (laid_tail (show laidMet _ _ _ from h)))
theorem tab_heap{P:Program}{W:World}{name:String}{k:IntKind}{zs:List Int}{g n:Nat}(hg:P.globalNamed name=some g)(h:Lib.TabIs P W name k zs)(hl:zs.length=n):∃c ty fz,W.heap[g]? = some (.cells c ty fz)∧c.size=n:=by
 unfold Lib.TabIs World.var? at h
 rw[hg]at h
 simp only[Option.bind_some]at h
 split at h
 ·rename_i cs ty fz e
  simp only[Option.some.injEq]at h
  exact⟨cs,ty,fz,e,by rw[h];simpa using hl⟩
 ·cases h
theorem tabKnown{W:World}(h:laidMetH Tryz.prog Rows.topMitigatedRow.laid W):Go.Kz.Known W (Go.Kz.wholeG W):=by
 intro b e he
 have:b=0∨b=1:=by
  match b,he with
  |0,_=>exact .inl rfl
  |1,_=>exact .inr rfl
  |b+2,he=>simp[Go.Kz.tab]at he
 rcases this with rfl|rfl
 ·simp only[Go.Kz.tab,Option.some.injEq]at he
  subst he
  refine⟨rfl,Go.Kz.known_int (b:=0) (n:=64) (k:=.u8) (l:=Go.Kz.tab0) rfl (by omega) (by decide) λj hj=>?_,tab_heap gTab0 (table0 h) rfl⟩
  exact(table0 h).cell gTab0 j hj
 ·simp only[Go.Kz.tab,Option.some.injEq]at he
  subst he
  refine⟨rfl,Go.Kz.known_int (b:=1) (n:=20) (k:=.u64) (l:=Go.Kz.tab1) rfl (by omega) (by decide) λj hj=>?_,tab_heap gTab1 (table1 h) rfl⟩
  exact(table1 h).cell gTab1 j hj
set_option maxHeartbeats 4000000 in
set_option maxRecDepth 100000 in
theorem contract(H:Type)(enc:TypeId×Value→H)(W:World)(base:Nat)(args:Array Value)(ds gs:List (DataW H))(before:List MemPlace)
  (hval0:∀(j:Nat) t v,Tryz.f6.params[j]? = some t→args[j]? = some v→Value.okWide Tryz.prog W .any base t v)
  (hW:DataW.Whole enc Tryz.prog Tryz.f6.params.toList Rows.topMitigatedSpec.vars false W args.toList ds gs before) (hL:laidMetH Tryz.prog Rows.topMitigatedRow.laid W) :
  Calls Tryz.prog 6 args W λe W'=>∃v,e=.returned v∧Rows.topMitigatedSpec.post enc Tryz.prog Tryz.f6 false true false false W args v W':=by
 have hval:∀(j:Nat) t v,Tryz.f6.params[j]? = some t→args[j]? = some v→Value.okWide Tryz.prog W .any base t v:=hval0
 have hW':=hW
 obtain⟨p,q,hA0,hV,rfl,hfz,hnd⟩:=hW
 have hA:DataW.TrodAll enc Tryz.prog W 0 (λ_=>true) true Tryz.f6.params.toList args.toList ds p:=hA0
 rw[Tryz.params6]at hA hval
 obtain⟨v0,vs0,d0,ds0,p0,q0,hargs,rfl,rfl,h0,r0⟩:=trodAll_cons hA
 obtain⟨v1,vs1,d1,ds1,p1,q1,rfl,rfl,rfl,h1,r1⟩:=trodAll_cons r0
 obtain⟨rfl,rfl,rfl⟩:=trodAll_nil r1
 obtain rfl:args=#[v0,v1]:=by cases args;simp_all
 obtain⟨rfl,rfl⟩:=trodVars_none hV
 have lt0:∀x∈p0,x.block<W.heap.size:=by obtain⟨m,hm⟩:=h0;exact DataW.trod_lt m _ _ _ hm
 obtain⟨x0,ro0⟩:=Go.Kz.arg_open (t:=(.pair (.sl false (.pair .str (.pair (.int .i64) (.pair (.int .i64) (.pair (.int .i64) (.pair (.int .i64) .unit)))))) (.pair (.sl false (.pair .str (.pair (.int .i64) (.pair (.int .i64) (.pair (.pair (.int .i64) (.pair (.int .i64) (.pair (.sl false (.tree 0)) .unit))) .unit))))) (.pair (.sl false (.tree 1)) .unit)))) (by kernel_rfl) (Go.Kz.ttL_ok 26 _ (by kernel_rfl)) (hval 0 26 v0 rfl rfl) h0 recOK
 have lt1:∀x∈p1,x.block<W.heap.size:=by obtain⟨m,hm⟩:=h1;exact DataW.trod_lt m _ _ _ hm
 obtain⟨x1,ro1⟩:=Go.Kz.arg_open (t:=(.int .u8)) (by kernel_rfl) (Go.Kz.ttL_ok 5 _ (by kernel_rfl)) (hval 1 5 v1 rfl rfl) h1 recOK
 clear hA0 hval0
 refine(Go.Kz.law_walk (fn:=Tryz.f6) (body:=Go.Kz.bOf Tryz.f6) (d:=(x0,x1,())) (vals:=[v0,v1]) Tryz.func6 (by kernel_rfl) (by kernel_rfl) (Go.Kz.k6 100000) (by exact Go.Kz.law6 x0 x1 (Go.Kz.arg_fits ro1)) ⟨ro0.1,ro0.2,ro1.1,ro1.2,trivial⟩ (tabKnown hL)).mono λe W' ⟨he,bel⟩=>?_
 subst he
 exact⟨_,rfl,_,_,_,[],_,[],hW',trodAll_mk1 (shut_bool Tryz.underlying4 _),(trodAll_cons_mk (Below.trod laidOut (by kernel_rfl) (of_decide_eq_true (by kernel_rfl)) h0 bel lt0) (trodAll_cons_mk (Below.trod laidOut (by kernel_rfl) (of_decide_eq_true (by kernel_rfl)) h1 bel lt1) trodAll_mk0)),rfl,bel.frame _,λh=>by cases h⟩
noncomputable def laidWorld0(os:Os):World:=World.holding Tryz.prog os ⟨#[],#[],[]⟩
noncomputable def laidWorld(os:Os):World:=
 { laidWorld0 os with heap:=((((laidWorld0 os).heap.modify 0 fun
   |.cells _ t frozen=>.cells #[.int .u8 0,.int .u8 1,.int .u8 56,.int .u8 2,.int .u8 57,.int .u8 49,.int .u8 28,.int .u8 3,.int .u8 61,.int .u8 58,.int .u8 42,.int .u8 50,.int .u8 38,.int .u8 29,.int .u8 17,.int .u8 4,.int .u8 62,.int .u8 47,.int .u8 59,.int .u8 36,.int .u8 45,.int .u8 43,.int .u8 51,.int .u8 22,.int .u8 53,.int .u8 39,.int .u8 33,.int .u8 30,.int .u8 24,.int .u8 18,.int .u8 12,.int .u8 5,.int .u8 63,.int .u8 55,.int .u8 48,.int .u8 27,.int .u8 60,.int .u8 41,.int .u8 37,.int .u8 16,.int .u8 46,.int .u8 35,.int .u8 44,.int .u8 21,.int .u8 52,.int .u8 32,.int .u8 23,.int .u8 11,.int .u8 54,.int .u8 26,.int .u8 40,.int .u8 15,.int .u8 34,.int .u8 20,.int .u8 31,.int .u8 10,.int .u8 25,.int .u8 14,.int .u8 19,.int .u8 9,.int .u8 13,.int .u8 8,.int .u8 7,.int .u8 6] t frozen
   |o=>o).modify 1 fun
   |.cells _ t frozen=>.cells #[.int .u64 1,.int .u64 10,.int .u64 100,.int .u64 1000,.int .u64 10000,.int .u64 100000,.int .u64 1000000,.int .u64 10000000,.int .u64 100000000,.int .u64 1000000000,.int .u64 10000000000,.int .u64 100000000000,.int .u64 1000000000000,.int .u64 10000000000000,.int .u64 100000000000000,.int .u64 1000000000000000,.int .u64 10000000000000000,.int .u64 100000000000000000,.int .u64 1000000000000000000,.int .u64 10000000000000000000] t frozen
   |o=>o).modify 2 fun
   |.cells _ t frozen=>.cells #[.int .u8 0,.int .u8 1,.int .u8 28,.int .u8 2,.int .u8 29,.int .u8 14,.int .u8 24,.int .u8 3,.int .u8 30,.int .u8 22,.int .u8 20,.int .u8 15,.int .u8 25,.int .u8 17,.int .u8 4,.int .u8 8,.int .u8 31,.int .u8 27,.int .u8 13,.int .u8 23,.int .u8 21,.int .u8 19,.int .u8 16,.int .u8 7,.int .u8 26,.int .u8 12,.int .u8 18,.int .u8 6,.int .u8 11,.int .u8 5,.int .u8 10,.int .u8 9] t frozen
   |o=>o) }
theorem laid_met(os:Os):laidMet Tryz.prog Rows.topMitigatedRow.laid ((laidWorld os).forCall (λ_ _=>0) ⟨#[],#[.agg #[.slice none 0 0,.slice none 0 0,.slice none 0 0],.int .u8 0],[]⟩).memory:=
 laidMet_of_run' 8 (by kernel_rfl) (by kernel_rfl)
theorem reads(os:Os){H:Type}(enc:TypeId×Value→H):∃places,DataW.whole enc Tryz.prog ((laidWorld os).forCall (λ_ _=>0) ⟨#[],#[.agg #[.slice none 0 0,.slice none 0 0,.slice none 0 0],.int .u8 0],[]⟩).memory Tryz.f6.params.toList Rows.topMitigatedSpec.vars false (#[.agg #[.slice none 0 0,.slice none 0 0,.slice none 0 0],.int .u8 0]:Array Value).toList 8=some ([.agg [.nil,.nil,.nil],.lit (.int .u8 0)],[],places):=
 ⟨[],by kernel_rfl⟩
set_option maxRecDepth 100000 in
theorem lifted(os:Os)(started:os.Started)(H:Type)(enc:TypeId×Value→H)(F:Stop.Interp):
  ReturnsInHanded {} Tryz.checked os 6 .any ((OpenSpec.ofChange Rows.topMitigatedSpec).preRow enc Tryz.prog Tryz.f6 Rows.topMitigatedRow.domain false Rows.topMitigatedRow.laid) (((OpenSpec.ofChange Rows.topMitigatedSpec).at F).post enc Tryz.prog Tryz.f6 false true false false):=by
 obtain⟨places,hx⟩:=reads os enc
 refine returnsInHanded_of_row (C:=Tryz.checked) (s:=OpenSpec.ofChange Rows.topMitigatedSpec) own started (by kernel_rfl) Tryz.func6
  (witness_row_at (enc:=enc) (C:=Tryz.checked) false (laidWorld os) #[.agg #[.slice none 0 0,.slice none 0 0,.slice none 0 0],.int .u8 0] rfl (by kernel_rfl) (by kernel_rfl) (by kernel_rfl)
   (OpenSpec.preRow_of_cond 8 hx (by kernel_rfl) (λk hk=>by cases hk) (by kernel_rfl) (laid_met os))) ?_
 intro W base args ds gs before hval hW _ _ _ hL _ _
 exact contract H enc W base args ds gs before hval hW hL
theorem fMaps:mapsRowed Tryz.prog=true:=by kernel_rfl
theorem fPlace:(Rows.topMitigatedRow.inPlace == Tryz.prog.inPlace 6)=true:=by kernel_rfl
theorem fUnf:(Rows.topMitigatedRow.unfollowed == Tryz.prog.unfollowed 6)=true:=by kernel_rfl
theorem fRec:(Rows.topMitigatedRow.recurses == Tryz.prog.recurses 6)=true:=by kernel_rfl
theorem fNamed:(Rows.topMitigatedRow.named == Tryz.prog.varsNamed 6)=true:=by kernel_rfl
theorem fHeard:Tryz.prog.stopsHeard=true:=by kernel_rfl
theorem fEnter:Tryz.prog.mayEnter=true:=by kernel_rfl
theorem fLifts:(Rows.topMitigatedRow.lifted == Tryz.prog.liftsFinal)=true:=by kernel_rfl
theorem fMake:(Tryz.prog.make == some Rows.topMitigatedRow.make)=true:=by kernel_rfl
theorem facts:joinedFacts Tryz.prog 6 Tryz.f6 (OpenSpec.ofChange Rows.topMitigatedSpec).bare Rows.topMitigatedRow=true:=by
 unfold joinedFacts
 rw[laidOut,fMaps,fPlace,fUnf,fRec,fNamed,fHeard,fEnter,fLifts,fMake]
 kernel_rfl
theorem said:Rows.TopMitigatedSaid:=
 OpenClaim.holds_of_cond 6 Tryz.f6 rfl rfl rfl rfl rfl rfl rfl ⟨rfl,rfl,rfl,rfl,rfl⟩ rfl rfl rfl rfl rfl (by kernel_rfl) Tryz.func6 facts
  (of_decide_eq_true (by kernel_rfl)) (by unfold Func.isWrapper;first|(rw[if_pos (by decide +kernel)];kernel_rfl)|(rw[if_neg (by decide +kernel)];exact⟨rfl,rfl⟩))
  (λos started H enc _ F=>by rw[OpenClaim.pre_eq_preRow];exact lifted os started H enc F)
theorem plain(f:FuncId)(fn:Func)(hf:Tryz.pinned.checked.prog.funcNamed "keyhole/keyholetop.TopMitigated" = some f)(hfn:Tryz.pinned.checked.prog.funcs[f]? = some fn):
  false=Tryz.pinned.checked.prog.looks []∧∀(j:Nat) t,fn.params[j]? = some t→Tryz.pinned.checked.prog.wantsStandIn t=false:=by
 obtain rfl:f=6 := Option.some.inj ((show Tryz.prog.funcNamed "keyhole/keyholetop.TopMitigated" = some 6 by kernel_rfl).symm.trans hf) |>.symm
 obtain rfl:fn=Tryz.f6:=(Option.some.inj (Tryz.func6.symm.trans hfn)).symm
 refine⟨by kernel_rfl,λj t ht=>?_⟩
 rw[Tryz.params6]at ht
 have hmem:=Array.mem_of_getElem? ht
 have hall:∀t∈(#[26,5]:Array TypeId),Tryz.prog.wantsStandIn t=false:=by
  intro t ht
  simp only[List.mem_toArray,List.mem_cons,List.not_mem_nil,or_false]at ht
  rcases ht with rfl|rfl<;>kernel_rfl
 exact hall t hmem
theorem proved:Rows.TopMitigatedCardSaid:=
 Claim7.holds_tied_plain_at .later [] _ _ _ _ said (λ_ h=>by cases h) (by kernel_rfl) (λ_ h=>by cases h) topMitigated_row_tie rfl ⟨rfl,rfl⟩ (by kernel_rfl) rfl plain (by kernel_rfl)
end Go.Proofs.YtmoggdcmpoobpaaGreatDoor.topMitigated
