/-
  What an operation makes of a part of a state, it makes of the whole: every operation.
-/
import Derived.Test.YtoccnkcnkcngjaaDoorKzADD
import Derived.LoopN
set_option linter.unusedVariables false
set_option linter.unusedSimpArgs false
namespace Go.Kz
variable {R:Type}
structure Eff where
 sl:Option (Nat×AVal)
 ob:List (Nat×Option Obj)
def Eff.slot (e:Eff) (σ:St):St:=match e.sl with
 | some (d,v)=>σ.set d v
 | none=>σ
def Eff.app (e:Eff) (σ:St):St:=putO e.ob (e.slot σ)
structure Run (c:Ctx) (σ:St) (n:Nat) (o:Oper) (e:Eff):Prop where
 sl:∀ d v,e.sl=some (d,v)→o.dst=some d
 ob:Dom n σ e.ob
 eq:∀ τ,SameAt o.op.operands.toList σ τ→OLe σ τ→∀ (R':Type) (k':St→Option R'),opK0 c τ n o k'=k' (e.app τ)
 y:isY0 o=true→e.ob=[]
theorem putO_set (d:Nat) (v:AVal):(l:List (Nat×Option Obj))→(σ:St)→(putO l σ).set d v=putO l (σ.set d v)
 | [],_=>rfl
 | (i,o) :: l,σ=>by simp only [putO];rw [putO_set d v l];rfl
theorem putK_run {c:Ctx} {σ:St} {d:Option Nat} {v:AVal} {k:St→Option R} {r:R} (h:σ.putK c d v k=some r) :
  ∃ sl:Option (Nat×AVal),(∀ d' v',sl=some (d',v')→d=some d')∧k (Eff.slot ⟨sl,[]⟩ σ)=some r∧∀ (τ:St) (R':Type) (k':St→Option R'),τ.putK c d v k'=k' (Eff.slot ⟨sl,[]⟩ τ):=by
 cases d with
 | none=>exact ⟨none,by simp,h,fun _ _ _=>rfl⟩
 | some i=>
  simp only [St.putK] at h ⊢
  obtain ⟨hb,h⟩:=cond_run h
  exact ⟨some (i,v),by simp,h,fun _ _ _=>by rw [hb];rfl⟩
theorem run_val {c:Ctx} {σ:St} {n:Nat} {o:Oper} {k:St→Option R} {r:R} {v:AVal} (h:σ.putK c o.dst v k=some r)
  (ha:∀ τ,SameAt o.op.operands.toList σ τ→OLe σ τ→∀ (R':Type) (k':St→Option R'),opK0 c τ n o k'=τ.putK c o.dst v k') :
  ∃ e:Eff,k (e.app σ)=some r∧Run c σ n o e:=by
 obtain ⟨sl,h1,h2,h3⟩:=putK_run h
 exact ⟨⟨sl,[]⟩,h2,h1,Dom.nil,fun τ hs hle R' k'=>by rw [ha τ hs hle,h3];rfl,fun _=>rfl⟩
theorem run_obj {c:Ctx} {σ:St} {n:Nat} {o:Oper} {k:St→Option R} {r:R} {v:AVal} {ob:List (Nat×Option Obj)} (hy:isY0 o=false) (hd:Dom n σ ob) (h:(putO ob σ).putK c o.dst v k=some r)
  (ha:∀ τ,SameAt o.op.operands.toList σ τ→OLe σ τ→∀ (R':Type) (k':St→Option R'),opK0 c τ n o k'=(putO ob τ).putK c o.dst v k') :
  ∃ e:Eff,k (e.app σ)=some r∧Run c σ n o e:=by
 obtain ⟨sl,h1,h2,h3⟩:=putK_run h
 have e:∀ τ,Eff.slot ⟨sl,[]⟩ (putO ob τ)=Eff.app ⟨sl,ob⟩ τ:=by
  intro τ
  cases sl with
  | none=>rfl
  | some x=>exact putO_set _ _ ob τ
 refine ⟨⟨sl,ob⟩,by rw [←e];exact h2,h1,hd,fun τ hs hle R' k'=>by rw [ha τ hs hle,h3,e],fun h=>?_⟩
 rw [hy] at h;simp at h
theorem evI_same {l:List Operand} {σ τ:St} (h:SameAt l σ τ) {x:Option Operand} (hx:∀ y,x=some y→y∈l):evI τ x=evI σ x:=by
 cases x with
 | none=>rfl
 | some y=>simp only [evI];rw [ev_same h (hx y rfl)]
theorem fillA_same {l:List Operand} {σ τ:St} (h:SameAt l σ τ):{u:Ty}→{i:Nat}→{m:List (Nat×Operand)}→(∀ x∈m,x.2∈l)→fillA τ u i m=fillA σ u i m
 | .unit,_,[],_=>rfl
 | .unit,_,_ :: _,_=>rfl
 | .pair a b,i,[],hm=>by simp only [fillA];rw [fillA_same h (u:=b) hm]
 | .pair a b,i,(j,x) :: m,hm=>by
  simp only [fillA]
  rw [fillA_same h (u:=b) hm,fillA_same h (u:=b) (m:=m) (fun y hy=>hm y (by simp [hy])),ev_same h (hm (j,x) (by simp))]
 | .int _,_,_,_=>rfl
 | .bool,_,_,_=>rfl
 | .str,_,_,_=>rfl
 | .arr _ _,_,_,_=>rfl
 | .sl _ _,_,_,_=>rfl
 | .ptr _,_,_,_=>rfl
 | .fn _ _,_,_,_=>rfl
theorem chainD_run {t:Ty}:{a:AVal}→{f:List t.den→Option R}→{r:R}→chainD t a f=some r→∃ v,f v=some r∧∀ (R':Type) (f':List t.den→Option R'),chainD t a f'=f' v
 | .un,f,r,h=>⟨[],h,fun _ _=>rfl⟩
 | .pr (.data u d) c,f,r,h=>by
  simp only [chainD] at h
  obtain ⟨e,h,he⟩:=castK_run h
  obtain ⟨l,h,hl⟩:=chainD_run h
  exact ⟨e :: l,h,fun R' f'=>by simp only [chainD];rw [he,hl]⟩
 | .pr (.nilS) _,_,_,h=>by simp [chainD] at h
 | .pr (.ref _ _ _) _,_,_,h=>by simp [chainD] at h
 | .pr (.view _ _ _ _ _) _,_,_,h=>by simp [chainD] at h
 | .pr (.bptr _ _) _,_,_,h=>by simp [chainD] at h
 | .pr (.eptr _ _ _) _,_,_,h=>by simp [chainD] at h
 | .pr (.mref _) _,_,_,h=>by simp [chainD] at h
 | .pr (.nv _ _ _ _) _,_,_,h=>by simp [chainD] at h
 | .pr (.clos _ _) _,_,_,h=>by simp [chainD] at h
 | .pr (.ifc _ _) _,_,_,h=>by simp [chainD] at h
 | .pr (.agg _) _,_,_,h=>by simp [chainD] at h
 | .pr (.tup _) _,_,_,h=>by simp [chainD] at h
 | .pr (.pr _ _) _,_,_,h=>by simp [chainD] at h
 | .pr .un _,_,_,h=>by simp [chainD] at h
 | .data _ _,_,_,h=>by simp [chainD] at h
 | .nilS,_,_,h=>by simp [chainD] at h
 | .ref _ _ _,_,_,h=>by simp [chainD] at h
 | .view _ _ _ _ _,_,_,h=>by simp [chainD] at h
 | .bptr _ _,_,_,h=>by simp [chainD] at h
 | .eptr _ _ _,_,_,h=>by simp [chainD] at h
 | .mref _,_,_,h=>by simp [chainD] at h
 | .nv _ _ _ _,_,_,h=>by simp [chainD] at h
 | .clos _ _,_,_,h=>by simp [chainD] at h
 | .ifc _ _,_,_,h=>by simp [chainD] at h
 | .agg _,_,_,h=>by simp [chainD] at h
 | .tup _,_,_,h=>by simp [chainD] at h
theorem opK0_run {c:Ctx} {σ:St} {n:Nat} {o:Oper} {k:St→Option R} {r:R} (hp:pureG c σ o=true) (h:opK0 c σ n o k=some r):∃ e:Eff,k (e.app σ)=some r∧Run c σ n o e:=by
 unfold opK0 at h
 split at h
 ·-- move
  rename_i x hop
  split at h
  ·rename_i a hx
   exact run_val h fun τ hs _ R' k'=>by simp only [opK0,hop];rw [ev_same hs (by rw [hop];simp [Op.operands]),hx]
  ·simp at h
 ·rename_i x hop
  split at h
  ·rename_i a hx
   exact run_val h fun τ hs _ R' k'=>by simp only [opK0,hop];rw [ev_same hs (by rw [hop];simp [Op.operands]),hx]
  ·simp at h
 ·-- pick
  rename_i t x y hop
  split at h
  ·rename_i b ht
   cases b with
   | true=>
    simp only [cond_true] at h
    split at h
    ·rename_i a hx
     exact run_val h fun τ hs _ R' k'=>by
      simp only [opK0,hop]
      rw [ev_same hs (x:=t) (by rw [hop];simp [Op.operands]),ht,ev_same hs (x:=x) (by rw [hop];simp [Op.operands]),hx];rfl
    ·simp at h
   | false=>
    simp only [cond_false] at h
    split at h
    ·rename_i a hx
     exact run_val h fun τ hs _ R' k'=>by
      simp only [opK0,hop]
      rw [ev_same hs (x:=t) (by rw [hop];simp [Op.operands]),ht,ev_same hs (x:=y) (by rw [hop];simp [Op.operands]),hx];rfl
    ·simp at h
  ·simp at h
 ·-- binOp
  rename_i op t x y z hop
  split at h
  ·rename_i a b hx hy
   obtain ⟨v,h,ha⟩:=binK_run h
   exact run_val h fun τ hs hle R' k'=>by
    simp only [opK0,hop]
    rw [ev_same hs (x:=x) (by rw [hop];simp [Op.operands]),hx,ev_same hs (x:=y) (by rw [hop];simp [Op.operands]),hy]
    exact ha τ hle R' _
  ·simp at h
 ·-- unOp
  rename_i op t x hop
  split at h
  ·rename_i a hx
   obtain ⟨v,h,ha⟩:=unK_run h
   exact run_val h fun τ hs hle R' k'=>by
    simp only [opK0,hop]
    rw [ev_same hs (x:=x) (by rw [hop];simp [Op.operands]),hx]
    exact ha R' _
  ·simp at h
 ·-- convert
  rename_i t t' x hop
  split at h
  ·rename_i kj j ks kd hx ht ht'
   exact run_val h fun τ hs _ R' k'=>by simp only [opK0,hop];rw [ev_same hs (by rw [hop];simp [Op.operands]),hx,ht,ht']
  ·simp at h
 ·-- indexAddr
  rename_i t x i hop
  split at h
  ·rename_i a kd j u hx hi ht
   obtain ⟨v,h,ha⟩:=indexK_run h
   exact run_val h fun τ hs hle R' k'=>by
    simp only [opK0,hop]
    rw [ev_same hs (x:=x) (by rw [hop];simp [Op.operands]),hx,ev_same hs (x:=i) (by rw [hop];simp [Op.operands]),hi,ht]
    exact ha τ hle R' _
  ·simp at h
 ·-- fieldAddr
  rename_i t x i hop
  split at h
  ·rename_i a u hx ht
   obtain ⟨v,h,ha⟩:=fieldK_run h
   exact run_val h fun τ hs hle R' k'=>by
    simp only [opK0,hop]
    rw [ev_same hs (x:=x) (by rw [hop];simp [Op.operands]),hx,ht]
    exact ha τ hle R' _
  ·simp at h
 ·-- index
  rename_i t x i hop
  split at h
  ·rename_i nn t' l kd j m u hx hi ht
   obtain ⟨hc,h⟩:=cond_run h
   obtain ⟨d,hd,h⟩:=Option.bind_eq_some_iff.1 h
   exact run_val h fun τ hs hle R' k'=>by
    simp only [opK0,hop]
    rw [ev_same hs (x:=x) (by rw [hop];simp [Op.operands]),hx,ev_same hs (x:=i) (by rw [hop];simp [Op.operands]),hi,ht]
    simp only [hc,cond_true,hd,Option.bind_some]
  ·simp at h
 ·-- field
  rename_i t x i hop
  split at h
  ·rename_i a u hx ht
   obtain ⟨hc,h⟩:=cond_run h
   obtain ⟨v,h,ha⟩:=getA_run h
   obtain ⟨hc2,h⟩:=cond_run h
   exact run_val h fun τ hs hle R' k'=>by
    simp only [opK0,hop]
    rw [ev_same hs (x:=x) (by rw [hop];simp [Op.operands]),hx,ht]
    simp only [hc,cond_true]
    rw [ha]
    simp only [hc2,cond_true]
  ·simp at h
 ·-- nilCheck
  rename_i x hop
  split at h
  ·rename_i a hx
   obtain ⟨hc,h⟩:=cond_run h
   exact run_val h fun τ hs hle R' k'=>by
    simp only [opK0,hop]
    rw [ev_same hs (x:=x) (by rw [hop];simp [Op.operands]),hx]
    simp only [holds_run hle hc,cond_true]
  ·simp at h
 ·-- load
  rename_i t x hop
  split at h
  ·rename_i a u hx ht
   obtain ⟨v,h,ha⟩:=loadK_run h
   obtain ⟨hc,h⟩:=cond_run h
   exact run_val h fun τ hs hle R' k'=>by
    simp only [opK0,hop]
    rw [ev_same hs (x:=x) (by rw [hop];simp [Op.operands]),hx,ht]
    simp only
    rw [ha τ hle]
    simp only [hc,cond_true]
  ·simp at h
 ·-- store
  rename_i t x y hop
  split at h
  ·rename_i a b u hx hy ht hdst
   obtain ⟨hc,h⟩:=cond_run h
   obtain ⟨ob,h,hd,ha⟩:=storeK_run (n:=n) h
   refine ⟨⟨none,ob⟩,h,by simp,hd,fun τ hs hle R' k'=>?_,fun hy=>?_⟩
   ·simp only [opK0,hop]
    rw [ev_same hs (x:=x) (by rw [hop];simp [Op.operands]),hx,ev_same hs (x:=y) (by rw [hop];simp [Op.operands]),hy,ht,hdst]
    simp only [hc,cond_true]
    exact ha τ hle R' k'
   ·simp [isY0,hop] at hy
  ·simp at h
 ·-- extract
  rename_i x i hop
  split at h
  ·rename_i a hx
   split at h
   ·rename_i v hv
    exact run_val h fun τ hs hle R' k'=>by
     simp only [opK0,hop]
     rw [ev_same hs (x:=x) (by rw [hop];simp [Op.operands]),hx]
     simp only [hv]
   ·simp at h
  ·simp at h
 ·-- alloc
  rename_i t hop
  split at h
  ·rename_i z hz
   refine run_obj (v:=.bptr n []) (ob:=[(n,some (.cell z))]) (by simp [isY0,hop]) Dom.new (k:=k) ?_ fun τ hs hle R' k'=>?_
   ·cases hdst:o.dst with
    | none=>rw [hdst] at h;exact h
    | some i=>rw [hdst] at h;exact h
   ·simp only [opK0,hop]
    rw [hz]
    cases o.dst <;> rfl
  ·simp at h
 ·-- box
  rename_i t x hop
  split at h
  ·rename_i a hx
   obtain ⟨hc,h⟩:=cond_run h
   refine run_obj (v:=.bptr n []) (ob:=[(n,some (.cell a))]) (by simp [isY0,hop]) Dom.new (k:=k) ?_ fun τ hs hle R' k'=>?_
   ·cases hdst:o.dst with
    | none=>rw [hdst] at h;exact h
    | some i=>rw [hdst] at h;exact h
   ·simp only [opK0,hop]
    rw [ev_same hs (x:=x) (by rw [hop];simp [Op.operands]),hx]
    simp only [hc,cond_true]
    cases o.dst <;> rfl
  ·simp at h
 ·-- makeFunc
  rename_i f first cap hop
  split at h
  ·rename_i hf
   split at h
   ·rename_i a ha
    obtain ⟨hc,h⟩:=cond_run h
    exact run_val h fun τ hs hle R' k'=>by
     simp only [opK0,hop,hf]
     rw [evs_same hs (m:=cap.toList) (fun x hx=>by rw [hop];simp only [Op.operands,Array.toList_append,List.mem_append];exact .inr hx),ha]
     simp only [hc,cond_true]
   ·simp at h
  ·simp at h
 ·-- makeSlice
  rename_i t len cap hop
  split at h
  ·rename_i ow u htf
   split at h
   ·rename_i z k1 l k2 m hz hl hm
    cases hu:u.isRo with
    | false=>
     rw [hu,cond_false] at h
     obtain ⟨hc,h⟩:=cond_run h
     obtain ⟨hb,h⟩:=chk_run h
     refine run_obj (v:=.nv false n [] 0) (ob:=[(n,some (.nest u (List.replicate l.toNat z) 0 0 none))]) (by simp [isY0,hop]) Dom.new (k:=k) ?_ fun τ hs hle R' k'=>?_
     ·cases hdst:o.dst with
      | none=>rw [hdst] at h;exact h
      | some i=>rw [hdst] at h;exact h
     ·simp only [opK0,hop,htf]
      rw [hz,ev_same hs (x:=len) (by rw [hop];simp [Op.operands]),hl,ev_same hs (x:=cap) (by rw [hop];simp [Op.operands]),hm]
      simp only [hu,cond_false,hc,cond_true,hb,chk]
      cases o.dst <;> rfl
    | true=>
    rw [hu,cond_true] at h
    have hc:=hu
    obtain ⟨hb,h⟩:=chk_run h
    refine run_obj (v:=.ref n [] 0) (ob:=[(n,some (.row u (List.replicate l.toNat z) 0))]) (by simp [isY0,hop]) Dom.new (k:=k) ?_ fun τ hs hle R' k'=>?_
    ·cases hdst:o.dst with
     | none=>rw [hdst] at h;exact h
     | some i=>rw [hdst] at h;exact h
    ·simp only [opK0,hop,htf]
     rw [hz,ev_same hs (x:=len) (by rw [hop];simp [Op.operands]),hl,ev_same hs (x:=cap) (by rw [hop];simp [Op.operands]),hm]
     simp only [hc,cond_true,hb,chk]
     cases o.dst <;> rfl
   ·simp at h
  ·simp at h
 ·-- build
  rename_i t ps hop
  split at h
  ·rename_i x y ht
   split at h
   ·rename_i a ha
    obtain ⟨hc,h⟩:=cond_run h
    exact run_val h fun τ hs hle R' k'=>by
     simp only [opK0,hop,ht]
     rw [fillA_same hs (fun x hx=>by rw [hop];simp only [Op.operands];exact List.mem_map.2 ⟨x,hx,rfl⟩),ha]
     simp only [hc,cond_true]
   ·simp at h
  ·rename_i n u ht
   split at h
   ·rename_i a ha
    obtain ⟨hc,h⟩:=cond_run h
    obtain ⟨v,h,hv⟩:=chainD_run h
    exact run_val h fun τ hs hle R' k'=>by
     simp only [opK0,hop,ht]
     rw [evs_same hs (m:=ps.toList.map (·.2)) (fun x hx=>by rw [hop];simp only [Op.operands];exact hx),ha]
     simp only [hc,cond_true]
     rw [hv]
   ·simp at h
  ·simp at h
 ·-- buildSlice
  rename_i t len ps hop
  split at h
  ·rename_i ow u htf
   obtain ⟨hc,h⟩:=cond_run h
   obtain ⟨ds,ob,h,hd,ha⟩:=parts_run (n:=n) (lo:=o.op.operands.toList) (fun x hx=>by rw [hop];simp only [Op.operands];exact List.mem_map.2 ⟨x,hx,rfl⟩) h
   cases hfz:froz c o.dst with
   | true=>
    rw [hfz,cond_true] at h
    refine run_obj (v:=.data (.sl false u) ds) (ob:=ob) (by simp [isY0,hop]) hd (k:=k) ?_ fun τ hs hle R' k'=>?_
    ·cases hdst:o.dst with
     | none=>rw [hdst] at h;exact h
     | some i=>rw [hdst] at h;exact h
    ·simp only [opK0,hop,htf]
     simp only [hc,cond_true]
     rw [ha τ hs hle]
     simp only [hfz,cond_true]
     try (cases o.dst <;> rfl)
   | false=>
   rw [hfz,cond_false] at h
   refine run_obj (v:=.ref n [] 0) (ob:=ob++[(n,some (.row u ds 0))]) (by simp [isY0,hop]) (hd.append Dom.new) (k:=k) ?_ fun τ hs hle R' k'=>?_
   ·rw [putO_append]
    cases hdst:o.dst with
    | none=>rw [hdst] at h;exact h
    | some i=>rw [hdst] at h;exact h
   ·simp only [opK0,hop,htf]
    simp only [hc,cond_true]
    rw [ha τ hs hle,putO_append]
    simp only [hfz,cond_false]
    cases o.dst <;> rfl
  ·simp at h
 ·-- makeMap
  rename_i t hop
  simp [pureG,hop] at hp
 ·-- lookup
  rename_i t x i ok hop
  split at h
  ·rename_i a b hx hi
   obtain ⟨id,kt,vt,m,_,h,ha⟩:=mapK_run h
   obtain ⟨hc,h⟩:=cond_run h
   obtain ⟨key,h,hb⟩:=asData_run _ _ _ h
   split at h
   ·rename_i z hz
    cases ok with
    | true=>
     simp only [cond_true] at h
     exact run_val h fun τ hs hle R' k'=>by
      simp only [opK0,hop]
      rw [ev_same hs (x:=x) (by rw [hop];simp [Op.operands]),hx,ev_same hs (x:=i) (by rw [hop];simp [Op.operands]),hi]
      simp only
      rw [ha τ hle]
      simp only [hc,cond_true]
      rw [hb τ hle]
      simp only [hz]
    | false=>
     simp only [cond_false] at h
     exact run_val h fun τ hs hle R' k'=>by
      simp only [opK0,hop]
      rw [ev_same hs (x:=x) (by rw [hop];simp [Op.operands]),hx,ev_same hs (x:=i) (by rw [hop];simp [Op.operands]),hi]
      simp only
      rw [ha τ hle]
      simp only [hc,cond_true]
      rw [hb τ hle]
      simp only [hz,cond_false]
   ·simp at h
  ·simp at h
 ·-- mapUpdate
  rename_i t x i y hop
  simp [pureG,hop] at hp
 ·-- slice
  rename_i t x lo hi hop
  split at h
  ·rename_i a ow u lo' hi' hx ht hlo hhi
   obtain ⟨v,h,ha⟩:=sliceK_run h
   exact run_val h fun τ hs hle R' k'=>by
    simp only [opK0,hop]
    rw [ev_same hs (x:=x) (by rw [hop];simp [Op.operands]),hx,ht,evI_same hs (x:=lo) (fun y hy=>by rw [hop,hy];simp [Op.operands]),hlo,evI_same hs (x:=hi) (fun y hy=>by rw [hop,hy];simp [Op.operands]),hhi]
    exact ha τ hle R' _
  ·simp at h
 ·-- slice,its room cut
  rename_i t x hi mx hop
  split at h
  ·rename_i id ep k1 h1 k2 m ow u hx hhi hmx ht
   split at h
   ·rename_i t' l e ho
    obtain ⟨hc,h⟩:=cond_run h
    obtain ⟨hb,h⟩:=chk_run h
    refine run_obj (v:=.ref id [] (e+1)) (ob:=[(id,some (.row t' (sub l 0 h1) (e+1)))]) (by simp [isY0,hop]) (Dom.old ho) (k:=k) ?_ fun τ hs hle R' k'=>?_
    ·cases hdst:o.dst with
     | none=>rw [hdst] at h;exact h
     | some i=>rw [hdst] at h;exact h
    ·simp only [opK0,hop]
     rw [ev_same hs (x:=x) (by rw [hop];simp [Op.operands]),hx,ev_same hs (x:=hi) (by rw [hop];simp [Op.operands]),hhi,ev_same hs (x:=mx) (by rw [hop];simp [Op.operands]),hmx,ht]
     simp only
     rw [hle _ _ ho]
     simp only [hc,cond_true,hb,chk]
     cases o.dst <;> rfl
   ·simp at h
  ·simp at h
 ·-- len
  rename_i args ts hop
  split at h
  ·rename_i x t hargs hts
   have hx':x∈o.op.operands.toList:=by rw [hop];simp [Op.operands,Call.operands,hargs]
   split at h
   ·rename_i a ow u hx ht
    obtain ⟨v,h,ha⟩:=lenK_run h
    exact run_val h fun τ hs hle R' k'=>by
     simp only [opK0,hop,hargs,hts]
     rw [ev_same hs hx',hx,ht]
     exact ha τ hle R' _
   ·rename_i a hx ht
    obtain ⟨id,kt,vt,m,_,h,ha⟩:=mapK_run h
    obtain ⟨hb,h⟩:=chk_run h
    exact run_val h fun τ hs hle R' k'=>by
     simp only [opK0,hop,hargs,hts]
     rw [ev_same hs hx',hx,ht]
     simp only
     rw [ha τ hle]
     simp only [hb,chk,cond_true]
   ·simp at h
  ·simp at h
 ·-- max
  rename_i args ts hop
  split at h
  ·rename_i kd x rest hx
   obtain ⟨v,h,ha⟩:=foldInts_run h
   exact run_val h fun τ hs hle R' k'=>by
    simp only [opK0,hop]
    rw [evs_same hs (m:=args.toList) (fun x hx=>by rw [hop];simp [Op.operands,Call.operands];simpa using hx),hx]
    exact ha R' _
  ·simp at h
 ·-- min
  rename_i args ts hop
  split at h
  ·rename_i kd x rest hx
   obtain ⟨v,h,ha⟩:=foldInts_run h
   exact run_val h fun τ hs hle R' k'=>by
    simp only [opK0,hop]
    rw [evs_same hs (m:=args.toList) (fun x hx=>by rw [hop];simp [Op.operands,Call.operands];simpa using hx),hx]
    exact ha R' _
  ·simp at h
 ·-- append
  rename_i args ts hop
  split at h
  ·rename_i x y t t' hargs hts
   split at h
   ·rename_i a b ow u hx hy ht
    obtain ⟨hc,h⟩:=cond_run h
    obtain ⟨v,ob,h,hd,ha⟩:=appendK_run h
    refine run_obj (by simp [isY0,hop]) hd h fun τ hs hle R' k'=>?_
    simp only [opK0,hop,hargs,hts]
    rw [ev_same hs (x:=x) (by rw [hop];simp [Op.operands,Call.operands,hargs]),hx,ev_same hs (x:=y) (by rw [hop];simp [Op.operands,Call.operands,hargs]),hy,ht]
    simp only [hc,cond_true]
    exact ha τ hle R' _
   ·simp at h
  ·simp at h
 ·-- clear
  rename_i args ts hop
  split at h
  ·rename_i x t hargs hts
   split at h
   ·rename_i id ep av bv ow u hx ht
    split at h
    ·rename_i t' l e ho
     obtain ⟨hc,h⟩:=cond_run h
     split at h
     ·rename_i z hz
      refine run_obj (v:=.tup .un) (ob:=[(id,some (.row t' (clearL z l av bv) e))]) (by simp [isY0,hop]) (Dom.old ho) (k:=k) ?_ fun τ hs hle R' k'=>?_
      ·cases hdst:o.dst with
       | none=>rw [hdst] at h;exact h
       | some i=>rw [hdst] at h;exact h
      ·simp only [opK0,hop,hargs,hts]
       rw [ev_same hs (x:=x) (by rw [hop];simp [Op.operands,Call.operands,hargs]),hx,ht]
       simp only
       rw [hle _ _ ho]
       simp only [hc,cond_true,hz]
       cases o.dst <;> rfl
     ·simp at h
    ·simp at h
   ·simp at h
  ·simp at h
 ·-- copy
  rename_i args ts hop
  simp [pureG,hop] at hp
 ·-- call
  rename_i g args ts hop
  split at h
  ·rename_i gv av hg hav
   have hpc:∀ fid all,calleeOf gv av=some (fid,all)→pureC (c.env fid)=true:=by
    intro fid all hco
    simp only [pureG,hop] at hp
    rw [calleeOf_id hg hco] at hp
    exact hp
   obtain ⟨v,ob,h,hd,ha⟩:=callK_run hpc h
   refine run_obj (by simp [isY0,hop]) hd h fun τ hs hle R' k'=>?_
   simp only [opK0,hop]
   rw [ev_same hs (x:=g) (by rw [hop];simp [Op.operands,Call.operands]),hg,evs_same hs (m:=args.toList) (fun x hx=>by rw [hop];simp [Op.operands,Call.operands];right;simpa using hx),hav]
   exact ha τ hle R' _
  ·simp at h
 ·-- invoke
  rename_i x nm args ts hop
  simp [pureG,hop] at hp
 ·-- makeInterface
  rename_i t x hop
  split at h
  ·rename_i a hx
   obtain ⟨hc,h⟩:=cond_run h
   exact run_val h fun τ hs _ R' k'=>by
    simp only [opK0,hop]
    rw [ev_same hs (x:=x) (by rw [hop];simp [Op.operands]),hx]
    simp only [hc,cond_true]
  ·simp at h
 ·-- typeAssert
  rename_i x xt t ok hop
  split at h
  ·rename_i u a hx
   obtain ⟨hc,h⟩:=cond_run h
   cases ok with
   | true=>
    simp only [cond_true] at h
    exact run_val h fun τ hs _ R' k'=>by
     simp only [opK0,hop]
     rw [ev_same hs (x:=x) (by rw [hop];simp [Op.operands]),hx]
     simp only [hc,cond_true]
   | false=>
    simp only [cond_false] at h
    exact run_val h fun τ hs _ R' k'=>by
     simp only [opK0,hop]
     rw [ev_same hs (x:=x) (by rw [hop];simp [Op.operands]),hx]
     simp only [hc,cond_true,cond_false]
  ·simp at h
 ·simp at h
end Go.Kz
namespace Go.Kz
variable {R:Type}
structure Ent where
 i:Nat
 o:Oper
 F:List Nat
 e:Eff
structure Good (base:Nat) (t:Ent):Prop where
 guard:t.o.guard=none
 junk:isJunk t.o=false
 sl:∀ d v,t.e.sl=some (d,v)→t.o.dst=some d
 ob:∀ x∈t.e.ob,inF base t.i t.F x.1=true
 y:isY0 t.o=true→t.e.ob=[]
def Loc (c:Ctx) (base:Nat) (t:Ent) (σ:St):Prop:=
 ∀ τ,SameAt t.o.op.operands.toList σ τ→(∀ id,inF base t.i t.F id=true→τ.objs id=σ.objs id)→∀ (R':Type) (k':St→Option R'),opK0 c τ (base+8*t.i) t.o k'=k' (t.e.app τ)
def Tr (c:Ctx) (base:Nat):List Ent→St→St→Prop
 | [],σ,σE=>σ=σE
 | t :: T,σ,σE=>Loc c base t σ∧Tr c base T (t.e.app σ) σE
abbrev Ind (base:Nat) (dst:Nat→Option Nat) (s t:Ent):Prop:=indep base dst s.i s.o s.F t.i t.o t.F=true
theorem Loc.cong {c:Ctx} {base:Nat} {t:Ent} {σ σ':St} (h:Loc c base t σ) (hs:SameAt t.o.op.operands.toList σ σ') (ho:∀ id,inF base t.i t.F id=true→σ'.objs id=σ.objs id):Loc c base t σ':=
 fun τ h1 h2=>h τ (fun x hx=>(h1 x hx).trans (hs x hx)) (fun id hid=>(h2 id hid).trans (ho id hid))
theorem Eff.slot_objs (e:Eff) (σ:St):(e.slot σ).objs=σ.objs:=by unfold Eff.slot;split <;> rfl
theorem Eff.slot_next (e:Eff) (σ:St):(e.slot σ).next=σ.next:=by unfold Eff.slot;split <;> rfl
theorem Eff.app_off {e:Eff} {σ:St} {i:Nat} (h:i∉e.ob.map Prod.fst):(e.app σ).objs i=σ.objs i:=by
 unfold Eff.app
 rw [putO_off _ _ h,Eff.slot_objs]
theorem Eff.app_slots (e:Eff) (σ:St):(e.app σ).slots=(e.slot σ).slots:=putO_slots _ _
theorem Eff.app_next (e:Eff) (σ:St):(e.app σ).next=σ.next:=by
 unfold Eff.app
 rw [putO_next,Eff.slot_next]
theorem run_loc {c:Ctx} {base:Nat} {i:Nat} {o:Oper} {F:List Nat} {e:Eff} {σ:St} (h:Run c (σ.only (inF base i F)) (base+8*i) o e):Loc c base ⟨i,o,F,e⟩ σ:=by
 intro τ hs ho R' k'
 refine h.eq τ hs (fun id x hx=>?_) R' k'
 simp only [St.only] at hx
 cases hp:inF base i F id with
 | false=>rw [hp] at hx;simp at hx
 | true=>rw [hp] at hx;rw [ho id hp];exact hx
theorem inF_range {base i:Nat} {F:List Nat} {x:Nat} (h:base+8*i≤x∧x < base+8*i+8):inF base i F x=true:=by
 have h1:Nat.ble (base+8*i) x=true:=Nat.ble_eq_true_of_le h.1
 have h2:Nat.blt x (base+8*i+8)=true:=Nat.ble_eq_true_of_le h.2
 simp only [inF,h1,h2,Bool.and_self,Bool.or_true]
theorem inF_iff {base i:Nat} {F:List Nat} {x:Nat}:inF base i F x=true↔x∈F∨(base+8*i≤x∧x < base+8*i+8):=by
 simp only [inF,Bool.or_eq_true,Bool.and_eq_true,memN_iff]
 refine or_congr Iff.rfl (and_congr ⟨fun h=>Nat.le_of_ble_eq_true h,fun h=>Nat.ble_eq_true_of_le h⟩ ⟨fun h=>Nat.le_of_ble_eq_true h,fun h=>Nat.ble_eq_true_of_le h⟩)
theorem run_ob {c:Ctx} {base:Nat} {i:Nat} {o:Oper} {F:List Nat} {e:Eff} {σ:St} (h:Run c (σ.only (inF base i F)) (base+8*i) o e):∀ x∈e.ob,inF base i F x.1=true:=by
 intro x hx
 rcases h.ob x hx with ⟨y,hy⟩ | h2
 ·simp only [St.only] at hy
  cases hp:inF base i F x.1 with
  | false=>rw [hp] at hy;simp at hy
  | true=>rfl
 ·exact inF_range h2
theorem over_eq {p:Nat→Bool} {e:Eff} {σ:St} (h:∀ x∈e.ob,p x.1=true):σ.over (e.app (σ.only p)) p=e.app σ:=by
 refine St.ext' ?_ ?_ ?_
 ·simp only [St.over,Eff.app_slots]
  unfold Eff.slot
  split <;> rfl
 ·funext i
  simp only [St.over]
  cases hp:p i with
  | true=>
   simp only [cond_true]
   by_cases hm:i∈e.ob.map Prod.fst
   ·exact putO_on _ _ _ hm
   ·rw [Eff.app_off hm,Eff.app_off hm]
    simp only [St.only,hp,cond_true]
  | false=>
   simp only [cond_false]
   rw [Eff.app_off]
   intro hm
   obtain ⟨x,hx,he⟩:=List.mem_map.1 hm
   have:=h x hx
   rw [he,hp] at this
   simp at this
 ·exact (Eff.app_next e σ).symm
theorem pureG_only {c:Ctx} {σ:St} {p:Nat→Bool} {o:Oper} (h:pureG c σ o=true):pureG c (σ.only p) o=true:=by
 have he:∀ x,ev (σ.only p) x=ev σ x:=fun x=>ev_same (l:=[x]) (fun _ _=>rfl) (by simp)
 have hc:∀ x,calleeId (σ.only p) x=calleeId σ x:=fun x=>by unfold calleeId;rw [he]
 unfold pureG at h ⊢
 simp only [hc]
 exact h
theorem okAcc_ok {base:Nat} {dst:Nat→Option Nat} {j:Nat} {p:Oper} {G:List Nat}:{acc:GAcc}→okAcc base dst j p G acc=true→∀ a∈acc,j∈a.2.2∨indep base dst a.1.1 a.1.2 a.2.1 j p G=true
 | [],_,a,ha=>by simp at ha
 | ((i,o),F,lat) :: l,h,a,ha=>by
  simp only [okAcc,Bool.and_eq_true,Bool.or_eq_true,memN_iff] at h
  rcases List.mem_cons.1 ha with rfl | ha
  ·exact h.1
  ·exact okAcc_ok h.2 a ha
theorem genK_tr {c:Ctx} {base:Nat} {dst:Nat→Option Nat} {all:List (Nat×Oper)}:(B:List (Nat×Oper))→{acc:GAcc}→{σ:St}→{k:St→Option R}→{r:R}→plainG B=true→genK c base dst all B acc σ k=some r→
  ∃ T σE,T.map (fun t:Ent=>(t.i,t.o))=B∧Tr c base T σ σE∧k σE=some r∧(∀ t∈T,Good base t)∧(∀ t∈T,∀ a∈acc,t.i∈a.2.2∨indep base dst a.1.1 a.1.2 a.2.1 t.i t.o t.F=true)∧
   T.Pairwise fun s t=>t.i∈laterL s.i all []∨Ind base dst s t
 | [],acc,σ,k,r,_,h=>⟨[],σ,rfl,rfl,h,by simp,by simp,List.Pairwise.nil⟩
 | (i,o) :: B,acc,σ,k,r,hp,h=>by
  simp only [plainG,Bool.and_eq_true,Bool.not_eq_true'] at hp
  simp only [genK] at h
  obtain ⟨hc,h⟩:=cond_run h
  simp only [Bool.and_eq_true] at hc
  obtain ⟨e,h,hrun⟩:=opK0_run (pureG_only hc.1) h
  have hob:=run_ob hrun
  rw [over_eq hob] at h
  obtain ⟨T,σE,h1,h2,h3,h4,h5,h6⟩:=genK_tr B hp.2 h
  refine ⟨⟨i,o,footG σ o,e⟩ :: T,σE,by simp [h1],⟨run_loc hrun,h2⟩,h3,?_,?_,?_⟩
  ·intro t ht
   rcases List.mem_cons.1 ht with rfl | ht
   ·refine ⟨?_,hp.1.2,hrun.sl,hob,hrun.y⟩
    have:=hp.1.1
    cases hg:o.guard with
    | none=>rfl
    | some g=>rw [hg] at this;simp at this
   ·exact h4 t ht
  ·intro t ht a ha
   rcases List.mem_cons.1 ht with rfl | ht
   ·exact okAcc_ok hc.2 a ha
   ·exact h5 t ht a (by simp [ha])
  ·refine List.pairwise_cons.2 ⟨fun t ht=>?_,h6⟩
   exact h5 t ht _ (List.mem_cons_self ..)
theorem outR_ok {base i:Nat}:{l:List Nat}→outR base i l=true→∀ x∈l,¬ (base+8*i≤x∧x < base+8*i+8)
 | [],_,x,hx=>by simp at hx
 | y :: l,h,x,hx=>by
  simp only [outR,Bool.and_eq_true,Bool.not_eq_true'] at h
  rcases List.mem_cons.1 hx with rfl | hx
  ·intro hr
   have h1:Nat.ble (base+8*i) x=true:=Nat.ble_eq_true_of_le hr.1
   have h2:Nat.blt x (base+8*i+8)=true:=Nat.ble_eq_true_of_le hr.2
   rw [h1,h2] at h
   simp at h
  ·exact outR_ok h.2 x hx
structure Apart (base:Nat) (dst:Nat→Option Nat) (s t:Ent):Prop where
 ne:s.i≠t.i
 ap:apartL dst s.o t.o=true
 st:∀ x∈s.e.ob,inF base t.i t.F x.1=false
 ts:∀ x∈t.e.ob,inF base s.i s.F x.1=false
theorem ind_apart {base:Nat} {dst:Nat→Option Nat} {s t:Ent} (hs:Good base s) (ht:Good base t) (h:Ind base dst s t):Apart base dst s t:=by
 unfold Ind indep at h
 simp only [Bool.and_eq_true,Bool.or_eq_true,Bool.not_eq_true'] at h
 obtain ⟨⟨⟨⟨h1,h2⟩,h3⟩,h4⟩,h5⟩:=h
 have hne:s.i≠t.i:=by
  intro he
  rw [he,Nat.beq_refl] at h1;simp at h1
 have h4':=outR_ok h4
 have h5':=outR_ok h5
 have fl:∀ {b:Bool},(b=true→False)→b=false:=fun {b} h=>by cases b;rfl;exact (h rfl).elim
 refine ⟨hne,h2,fun x hx=>fl fun hin=>?_,fun x hx=>fl fun hin=>?_⟩
 ·rcases h3 with ⟨hy,_⟩ | hno
  ·rw [hs.y hy] at hx;simp at hx
  ·rw [noneIn_iff] at hno
   rcases inF_iff.1 (hs.ob x hx) with h | h <;> rcases inF_iff.1 hin with h' | h'
   ·exact hno _ h h'
   ·exact h5' _ h h'
   ·exact h4' _ h' h
   ·omega
 ·rcases h3 with ⟨_,hy⟩ | hno
  ·rw [ht.y hy] at hx;simp at hx
  ·rw [noneIn_iff] at hno
   rcases inF_iff.1 (ht.ob x hx) with h | h <;> rcases inF_iff.1 hin with h' | h'
   ·exact hno _ h' h
   ·exact h4' _ h h'
   ·exact h5' _ h' h
   ·omega
theorem apartL_look {dst:Nat→Option Nat} {x y:Oper} (h:apartL dst x y=true) :
  (∀ d,x.dst=some d→(.tmp d)∉y.op.operands.toList)∧(∀ d,y.dst=some d→(.tmp d)∉x.op.operands.toList)∧∀ d,x.dst=some d→y.dst≠some d:=by
 unfold apartL at h
 simp only [Bool.and_eq_true] at h
 obtain ⟨h1,h2⟩:=h
 refine ⟨fun d hd hm=>?_,fun d hd hm=>?_,fun d hd he=>?_⟩
 ·rw [hd] at h1
  simp only [Bool.and_eq_true,Bool.not_eq_true',looksL,Bool.or_eq_false_iff] at h1
  rw [memN_false] at h1
  exact h1.1.1 (tmpsL_mem.2 hm)
 ·rw [hd] at h2
  simp only [Bool.not_eq_true',looksL,Bool.or_eq_false_iff] at h2
  rw [memN_false] at h2
  exact h2.1 (tmpsL_mem.2 hm)
 ·rw [hd,he] at h1
  simp [Nat.beq_refl] at h1
theorem same_app {base:Nat} {s:Ent} {l:List Operand} (hs:Good base s) (h:∀ d,s.o.dst=some d→(.tmp d)∉l) (σ:St):SameAt l σ (s.e.app σ):=by
 intro x hx
 rw [Eff.app_slots]
 unfold Eff.slot
 split
 ·rename_i d v hsl
  simp only [St.set,upd]
  have hb:Nat.beq x d=false:=by
   cases hb:Nat.beq x d with
   | false=>rfl
   | true=>
    have he:=Nat.eq_of_beq_eq_true hb
    subst he
    exact absurd hx (h x (hs.sl x v hsl))
  rw [hb];rfl
 ·rfl
theorem objs_app {base i:Nat} {F:List Nat} {s:Ent} (h:∀ x∈s.e.ob,inF base i F x.1=false) (σ:St):∀ id,inF base i F id=true→(s.e.app σ).objs id=σ.objs id:=by
 intro id hid
 refine Eff.app_off fun hm=>?_
 obtain ⟨x,hx,he⟩:=List.mem_map.1 hm
 have:=h x hx
 rw [he,hid] at this;simp at this
theorem app_comm {base:Nat} {dst:Nat→Option Nat} {s t:Ent} (hs:Good base s) (ht:Good base t) (h:Apart base dst s t) (σ:St):t.e.app (s.e.app σ)=s.e.app (t.e.app σ):=by
 have hno:∀ i,i∈s.e.ob.map Prod.fst→i∉t.e.ob.map Prod.fst:=by
  intro i h1 h2
  obtain ⟨x,hx,rfl⟩:=List.mem_map.1 h1
  obtain ⟨y,hy,he⟩:=List.mem_map.1 h2
  have q1:=h.st x hx
  have q2:=ht.ob y hy
  rw [he,q1] at q2;simp at q2
 refine St.ext' ?_ ?_ ?_
 ·rw [Eff.app_slots,Eff.app_slots]
  funext i
  have e1:∀ (e:Eff) (a b:St),a.slots=b.slots→(e.slot a).slots=(e.slot b).slots:=by
   intro e a b hab
   unfold Eff.slot
   split
   ·simp only [St.set,hab]
   ·exact hab
  rw [e1 t.e _ _ (Eff.app_slots s.e σ),e1 s.e _ _ (Eff.app_slots t.e σ)]
  unfold Eff.slot
  cases hsl:s.e.sl with
  | none=>rfl
  | some x=>
   obtain ⟨d,v⟩:=x
   cases htl:t.e.sl with
   | none=>rfl
   | some y=>
    obtain ⟨d',v'⟩:=y
    have hd:=hs.sl d v hsl
    have hd':=ht.sl d' v' htl
    have hne:d≠d':=fun he=>(apartL_look h.ap).2.2 d hd (by rw [he];exact hd')
    simp only [St.set,upd]
    cases hb:Nat.beq i d' with
    | false=>rfl
    | true=>
     have he:=Nat.eq_of_beq_eq_true hb
     subst he
     have:Nat.beq i d=false:=by
      cases hb2:Nat.beq i d with
      | false=>rfl
      | true=>exact absurd (Nat.eq_of_beq_eq_true hb2).symm hne
     rw [this];rfl
 ·funext i
  by_cases h1:i∈s.e.ob.map Prod.fst
  ·rw [Eff.app_off (hno i h1)]
   exact putO_on _ _ _ h1
  ·rw [Eff.app_off h1]
   by_cases h2:i∈t.e.ob.map Prod.fst
   ·exact putO_on _ _ _ h2
   ·rw [Eff.app_off h2,Eff.app_off h2,Eff.app_off h1]
 ·simp only [Eff.app_next]
theorem tr_front {c:Ctx} {base:Nat} {dst:Nat→Option Nat} {t:Ent} {post:List Ent} {σE:St} (ht:Good base t):(pre:List Ent)→{σ:St}→(∀ s∈pre,Good base s∧Ind base dst s t)→Tr c base (pre++t :: post) σ σE→
  Loc c base t σ∧Tr c base (pre++post) (t.e.app σ) σE
 | [],σ,_,h=>h
 | s :: pre,σ,hp,h=>by
  obtain ⟨hg,hi⟩:=hp s (by simp)
  have ha:=ind_apart hg ht hi
  obtain ⟨h1,h2⟩:=h
  obtain ⟨h3,h4⟩:=tr_front ht pre (fun x hx=>hp x (by simp [hx])) h2
  have hl:=apartL_look ha.ap
  have hsame:SameAt t.o.op.operands.toList σ (s.e.app σ):=same_app hg hl.1 σ
  refine ⟨h3.cong (fun x hx=>(hsame x hx).symm) (fun id hid=>(objs_app ha.st σ id hid).symm),?_⟩
  refine ⟨h1.cong (same_app ht hl.2.1 σ) (objs_app ha.ts σ),?_⟩
  rw [←app_comm hg ht ha]
  exact h4
def Lin:List Nat→List (Nat×Oper)→Prop
 | _,[]=>True
 | d,(i,o) :: l=>(∀ x∈edgeOns o.after.toList,x∈d)∧Lin (i :: d) l
theorem Lin.mono:{l:List (Nat×Oper)}→{d d':List Nat}→(∀ x∈d,x∈d')→Lin d l→Lin d' l
 | [],_,_,_,_=>trivial
 | (i,o) :: l,d,d',hd,h=>⟨fun x hx=>hd x (h.1 x hx),Lin.mono (fun x hx=>by
   rcases List.mem_cons.1 hx with rfl | hx
   ·simp
   ·simp [hd x hx]) h.2⟩
theorem Lin.take {j:Nat} {p:Oper} {post:List (Nat×Oper)}:(pre:List (Nat×Oper))→{d:List Nat}→Lin d (pre++(j,p) :: post)→Lin (j :: d) (pre++post)
 | [],d,h=>h.2
 | (i,o) :: pre,d,h=>⟨fun x hx=>List.mem_cons_of_mem _ (h.1 x hx),by
   refine (Lin.take pre h.2).mono fun x hx=>?_
   simp only [List.mem_cons] at hx ⊢
   rcases hx with h | h | h
   ·exact .inr (.inl h)
   ·exact .inl h
   ·exact .inr (.inr h)⟩
section
variable {P:Program} {ops:Array Oper} {Q:Exit→Act→World→Prop}
theorem later_wait {b:Nat}:Waits .any ops b (laterL b (numbered 0 ops.toList) [])∧∀ x∈laterL b (numbered 0 ops.toList) [],x < ops.size:=by
 have:=laterL_mem (i:=b) (l:=numbered 0 ops.toList) (acc:=[]) (G:=fun x=>x < ops.size∧∀ ox,ops[x]? = some ox→∃ e∈ox.after,Region.binds .any e=true∧(e.on=b∨e.on∈laterL b (numbered 0 ops.toList) [])) (by simp) (fun j oj hm hy=>by
  have hoj:=numbered_get _ hm
  refine ⟨size_of hoj,fun ox hox=>?_⟩
  simp only at hoj
  rw [hoj] at hox
  simp only [Option.some.injEq] at hox
  subst hox
  obtain ⟨y,hy1,hy2⟩:=hy
  obtain ⟨e,he,hbe,rfl⟩:=edgeOns_mem.1 hy1
  exact ⟨e,by simpa using he,hbe,hy2⟩)
 exact ⟨fun x hx=>(this x hx).2,fun x hx=>(this x hx).1⟩
theorem gen_ok {c:Ctx} {base:Nat} {g0:Ghost} {w0:World} {σ0 σE:St} {B0:List Nat} (hc:CtxOK P c)
  (HK:∀ g a w,StOK c.ntmps g w a σE→Ext w0 g0 w g→(∀ m,(∀ i∈B0,m < base+8*i∨base+8*i+8≤m)→Fresh g0 σ0 m→Fresh g σE m)→Q .normal a w) :
  (n:Nat)→{T:List Ent}→T.length=n→{σ:St}→{g:Ghost}→{a:Act}→{w:World}→{listed:Array Bool}→{done:List Nat}→
  Tr c base T σ σE→(∀ t∈T,Good base t∧ops[t.i]? = some t.o∧t.i∈B0)→(T.Pairwise fun s t=>t.i∈laterL s.i (numbered 0 ops.toList) []∨Ind base (dstOf ops.toList) s t)→(T.map Ent.i).Nodup→
  Lin done (T.map fun t=>(t.i,t.o))→StOK c.ntmps g w a σ→(∀ t∈T,∀ m,base+8*t.i≤m→m < base+8*t.i+8→Fresh g σ m)→Rel ops listed done→(∀ x∈done,x < ops.size)→(∀ x,x < ops.size→(x∈done↔x∉T.map Ent.i))→
  (∀ t∈T,∀ x∈laterL t.i (numbered 0 ops.toList) [],x∉done)→Ext w0 g0 w g→(∀ m,(∀ i∈B0,m < base+8*i∨base+8*i+8≤m)→Fresh g0 σ0 m→Fresh g σ m)→anyG false P .any ops Q n listed a w
 | 0,T,hl,σ,g,a,w,listed,done,htr,_,_,_,_,hst,_,hrel,hds,hdn,_,hext,hfo=>by
  have hT:T=[]:=List.eq_nil_of_length_eq_zero hl
  subst hT
  have htr':σ=σE:=htr
  subst htr'
  refine ⟨?_,HK g a w hst hext hfo⟩
  rw [List.eq_nil_iff_forall_not_mem]
  intro j hj
  obtain ⟨_,oj,hoj,_⟩:=mem_ready.1 hj
  have h1:=(readyL_iff hrel hds hoj).1 hj
  exact h1.1 ((hdn j (size_of hoj)).2 (by simp))
 | n+1,T,hl,σ,g,a,w,listed,done,htr,hT,hpw,hnd,hlin,hst,hfr,hrel,hds,hdn,hinv,hext,hfo=>by
  refine ⟨fun h0=>?_,fun j hj=>?_⟩
  ·exfalso
   cases T with
   | nil=>simp at hl
   | cons t T=>
    obtain ⟨_,hto,_⟩:=hT t (by simp)
    have:t.i∈Region.ready .any ops listed:=by
     refine (readyL_iff hrel hds hto).2 ⟨fun hd=>?_,?_⟩
     ·exact (hdn _ (size_of hto)).1 hd (by simp)
     ·unfold readyL
      rw [allIn_iff]
      exact hlin.1
    rw [h0] at this;simp at this
  ·obtain ⟨hjun,oj,hoj,_⟩:=mem_ready.1 hj
   have hrd:=(readyL_iff hrel hds hoj).1 hj
   have hjT:j∈T.map Ent.i:=by
    refine Classical.byContradiction fun hn=>?_
    exact hrd.1 ((hdn j (size_of hoj)).2 hn)
   obtain ⟨t,htT,hti⟩:=List.mem_map.1 hjT
   obtain ⟨pre,post,rfl⟩:=List.append_of_mem htT
   obtain ⟨hg,hto,htB⟩:=hT t htT
   have hmem:∀ x∈pre++post,x∈pre++t :: post:=by
    intro x hx
    rcases List.mem_append.1 hx with h | h
    ·exact List.mem_append.2 (.inl h)
    ·exact List.mem_append.2 (.inr (List.mem_cons_of_mem _ h))
   have hpre:∀ s∈pre,Good base s∧Ind base (dstOf ops.toList) s t:=by
    intro s hs
    have hsT:s∈pre++t :: post:=List.mem_append.2 (.inl hs)
    obtain ⟨hgs,hso,_⟩:=hT s hsT
    refine ⟨hgs,?_⟩
    rcases (List.pairwise_append.1 hpw).2.2 s hs t (by simp) with h | h
    ·exfalso
     have hw:=later_wait (ops:=ops) (b:=s.i)
     refine waits_not hw.1 (fun x hx=>?_) ?_ hj (hti ▸ h)
     ·rw [hrel.getD (hw.2 x hx)]
      exact memN_false.2 (hinv s hsT x hx)
     ·rw [hrel.getD (size_of hso)]
      refine memN_false.2 fun hd=>?_
      exact (hdn _ (size_of hso)).1 hd (List.mem_map.2 ⟨s,hsT,rfl⟩)
    ·exact h
   obtain ⟨hloc,htr'⟩:=tr_front hg pre hpre htr
   have hojt:oj=t.o:=by
    rw [←hti,hto] at hoj
    simpa using hoj.symm
   subst hojt
   subst hti
   have hne:∀ x∈pre++post,x.i≠t.i:=by
    intro x hx he
    have h1:((pre++t :: post).map Ent.i).Nodup:=hnd
    rw [List.map_append,List.map_cons,List.nodup_append] at h1
    rcases List.mem_append.1 hx with hx | hx
    ·exact h1.2.2 x.i (List.mem_map.2 ⟨x,hx,rfl⟩) t.i (by simp) he
    ·exact (List.nodup_cons.1 h1.2.1).1 (List.mem_map.2 ⟨x,hx,he⟩)
   have hk:opK c σ (base+8*t.i) t.o some=some (t.e.app σ):=by
    simp only [opK,hg.junk,cond_false]
    exact hloc σ (fun _ _=>rfl) (fun _ _=>rfl) St some
   have hop:t.o.wp P a w (fun a' w'=>(isM t.o=false→Agree w w')∧anyG false P .any ops Q n (listed.setIfInBounds t.i true) a' w') Q:=by
    refine op_ok (base:=base+8*t.i) hc hst (fun m h1 h2=>hfr t htT m h1 h2) hk ?_
    intro σ1 g1 a1 w1 h1 hst1 hext1 hf1 hn1 hag
    refine ⟨hag,?_⟩
    simp only [Option.some.injEq] at h1
    subst h1
    refine gen_ok hc HK n (T:=pre++post) ?_ htr' (fun x hx=>hT x (hmem x hx)) ?_ ?_ ?_ hst1 (fun x hx m q1 q2=>hf1 m ?_ (hfr x (hmem x hx) m q1 q2)) hrel.add (fun x hx=>?_) (fun x hx=>?_) (fun x hx y hy=>?_) (hext.trans hext1) (fun m hm hf=>hf1 m (hm _ htB) (hfo m hm hf))
    ·simp only [List.length_append,List.length_cons] at hl ⊢;omega
    ·exact hpw.sublist (List.Sublist.append_left (List.sublist_cons_self _ _) pre)
    ·exact hnd.sublist ((List.Sublist.append_left (List.sublist_cons_self _ _) pre).map _)
    ·rw [List.map_append] at hlin ⊢
     exact Lin.take _ hlin
    ·have:=hne x hx;omega
    ·rcases List.mem_cons.1 hx with rfl | hx
     ·exact size_of hto
     ·exact hds x hx
    ·have h1:=hdn x hx
     simp only [List.mem_cons,h1,List.map_append,List.map_cons,List.mem_append,not_or]
     constructor
     ·rintro (rfl | ⟨q1,q2,q3⟩)
      ·refine ⟨fun hm=>?_,fun hm=>?_⟩
       ·obtain ⟨y,hy,he⟩:=List.mem_map.1 hm
        exact hne y (List.mem_append.2 (.inl hy)) he
       ·obtain ⟨y,hy,he⟩:=List.mem_map.1 hm
        exact hne y (List.mem_append.2 (.inr hy)) he
      ·exact ⟨q1,q3⟩
     ·rintro ⟨q1,q2⟩
      by_cases he:x=t.i
      ·exact .inl he
      ·exact .inr ⟨q1,he,q2⟩
    ·intro hyd
     have hxT:=hmem x hx
     obtain ⟨_,hxo,_⟩:=hT x hxT
     rcases List.mem_cons.1 hyd with rfl | hyd
     ·have hw:=later_wait (ops:=ops) (b:=x.i)
      refine waits_not hw.1 (fun z hz=>?_) ?_ hj hy
      ·rw [hrel.getD (hw.2 z hz)]
       exact memN_false.2 (hinv x hxT z hz)
      ·rw [hrel.getD (size_of hxo)]
       refine memN_false.2 fun hd=>?_
       exact (hdn _ (size_of hxo)).1 hd (List.mem_map.2 ⟨x,hxT,rfl⟩)
     ·exact hinv x hxT y hy hyd
   unfold Go.wpOp
   simp only [hto]
   have hw:Region.wanted t.o (yielded ops a.tmps)=true:=wanted_none hg.guard
   rw [if_pos hw]
   left
   refine Oper.wp_mono (fun a' w' hh=>⟨fun o' ho' hm=>hh.1 (by simp only [Option.some.injEq] at ho';rw [ho'];exact hm),hh.2⟩) hop
theorem linG_ok {all:List (Nat×Oper)} {done:List Nat}:{l:List (Nat×Oper)}→{d:List Nat}→linG all done d l=true→Lin d l∧∀ x∈l,∀ y∈laterL x.1 all [],y∉done
 | [],d,_=>⟨trivial,by simp⟩
 | (i,o) :: l,d,h=>by
  simp only [linG,Bool.and_eq_true] at h
  obtain ⟨h1,h2⟩:=linG_ok h.2
  refine ⟨⟨allIn_iff.1 h.1.1,h1⟩,fun x hx=>?_⟩
  rcases List.mem_cons.1 hx with rfl | hx
  ·exact noneIn_iff.1 h.1.2
  ·exact h2 x hx
theorem restL_mem {done:List Nat} {x:Nat×Oper}:{l:List (Nat×Oper)}→(x∈restL done l↔x∈l∧x.1∉done)
 | []=>by simp [restL]
 | (i,o) :: l=>by
  simp only [restL]
  cases hm:memN i done with
  | true=>
   rw [cond_true,restL_mem (l:=l)]
   have:=memN_iff.1 hm
   constructor
   ·exact fun h=>⟨List.mem_cons_of_mem _ h.1,h.2⟩
   ·rintro ⟨h1,h2⟩
    rcases List.mem_cons.1 h1 with rfl | h1
    ·exact absurd this h2
    ·exact ⟨h1,h2⟩
  | false=>
   rw [cond_false,List.mem_cons,restL_mem (l:=l)]
   have:=memN_false.1 hm
   constructor
   ·rintro (rfl | h)
    ·exact ⟨by simp,this⟩
    ·exact ⟨List.mem_cons_of_mem _ h.1,h.2⟩
   ·rintro ⟨h1,h2⟩
    rcases List.mem_cons.1 h1 with rfl | h1
    ·exact .inl rfl
    ·exact .inr ⟨h1,h2⟩
theorem restL_sub {done:List Nat}:(l:List (Nat×Oper))→(restL done l).Sublist l
 | []=>List.Sublist.slnil
 | (i,o) :: l=>by
  simp only [restL]
  cases memN i done with
  | true=>exact (restL_sub l).cons _
  | false=>exact (restL_sub l).cons_cons _
theorem lenN_eq:(l:List (Nat×Oper))→lenN l=l.length
 | []=>rfl
 | _ :: l=>by simp only [lenN,lenN_eq l,List.length_cons]
end
section
variable {P:Program} {c:Ctx}
theorem drawn_ok {q:Bool} (hc:CtxOK P c) (hm:P.follows .mixedOrders=true) {id:Nat} {ops:Array Oper} {Q:Exit→Act→World→Prop} {σ:St} {g:Ghost} {a:Act} {w:World} {k:St→Option R} {r:R}
  (hQ:∀ c a w,¬ Q (.panic c) a w) (hok:drawOK q ops.toList=true) (h:listK q c ops.toList (drawL q ops.toList) σ k=some r) (hst:StOK c.ntmps g w a σ) (hf:FreshUp g σ)
  (hK:∀ σ' g' a' w',k σ'=some r→StOK c.ntmps g' w' a' σ'→Ext w g w' g'→FreshUp g' σ'→(∀ s,(∀ o∈ops.toList,o.dst≠some s)→a'.tmps[s]? = a.tmps[s]?)→Q .normal a' w'):(Code.region id ops true).wp P Q a w:=by
 have hQ1:∀ c a' w,¬ keptQ ops a Q (.panic c) a' w:=fun c a' w h=>hQ c a' w (h (by simp))
 simp only [drawOK,Bool.and_eq_true] at hok
 have hnd:=okOrder_nodup hok.2
 have hp:=plain_of hok.1
 have hmem:∀ x∈drawL q ops.toList,x∈numbered 0 ops.toList:=fun x hx=>orderL_mem x hx
 refine wp_region_any hm (wpAny_kept (a0:=a) _ _ _ _ (fun _ _=>rfl) (wpAny_of_G _ _ _ _ (order_ok hp hQ1 _ (fun x hx=>numbered_get _ (hmem x hx)) ?_ Rel.start (by simp) hok.2 ?_)))
 ·have:=orderL_len (q:=q) (dst:=dstOf ops.toList) (all:=numbered 0 ops.toList) ops.toList.length []
  simpa [drawL] using this
 ·have he:({ w with drawn:=w.drawn+1 }:World).heap=w.heap:=rfl
  refine list_ok hc (fun x hx=>numbered_lt (hmem x hx)) hnd.1 h (hst.heapEq he) hf (fun σ' g' a' w' hk hst' hext' hf'=>?_)
  exact fun hkept=>hK σ' g' a' w' hk hst' ((Ext.heapEq (g:=g) he rfl rfl rfl (Nat.le_succ _)).trans hext') hf' (hkept rfl)
theorem region_ok (hc:CtxOK P c) (hm:P.follows .mixedOrders=true) {id:Nat} {ops:Array Oper} {draw:Bool} {Q:Exit→Act→World→Prop} {σ:St} {g:Ghost} {a:Act} {w:World} {k:St→Option R} {r:R}
  (hQ:∀ c a w,¬ Q (.panic c) a w) (h:regionK c ops draw σ k=some r) (hst:StOK c.ntmps g w a σ) (hf:FreshUp g σ)
  (hK:∀ σ' g' a' w',k σ'=some r→StOK c.ntmps g' w' a' σ'→Ext w g w' g'→FreshUp g' σ'→(∀ s,(∀ o∈ops.toList,o.dst≠some s)→a'.tmps[s]? = a.tmps[s]?)→Q .normal a' w'):(Code.region id ops draw).wp P Q a w:=by
 have hQ1:∀ c a' w,¬ keptQ ops a Q (.panic c) a' w:=fun c a' w h=>hQ c a' w (h (by simp))
 unfold regionK at h
 cases draw with
 | false=>
  simp only [cond_false] at h
  have hL:=list_ok (K:=fun a' w'=>(∀ s,(∀ o∈ops.toList,o.dst≠some s)→a'.tmps[s]? = a.tmps[s]?)→Q .normal a' w') (Q:=Q) hc (fun x hx=>numbered_lt hx) (numbered_nodup _ _) h hst hf hK
  refine wp_text (wpL_mono (fun a' w' hh=>hh.2 fun s hs=>hh.1 s fun x hx=>hs x.2 ?_) _ _ _ (wpL_slots _ _ _ hL))
  have:=numbered_get x hx
  obtain ⟨hlt,he⟩:=Array.getElem?_eq_some_iff.1 this
  rw [←he];simp
 | true=>
  simp only [cond_true] at h
  cases hok2:drawOK true ops.toList with
  | true=>
   rw [hok2] at h
   simp only [cond_true] at h
   exact drawn_ok hc hm hQ hok2 h hst hf hK
  | false=>
  rw [hok2] at h
  simp only [cond_false] at h
  cases hok:drawOK false ops.toList with
  | false=>
   rw [hok] at h
   simp only [cond_false] at h
   obtain ⟨hge,h⟩:=cond_run h
   simp only [genOK,Bool.and_eq_true] at hge
   obtain ⟨⟨⟨⟨hpl,hrun⟩,hpg⟩,hlg⟩,hlen⟩:=hge
   have hlen:=Nat.eq_of_beq_eq_true hlen
   rw [lenN_eq,lenN_eq] at hlen
   unfold genRunK at h
   have hp:=plain_of hpl
   have he:({ w with drawn:=w.drawn+1 }:World).heap=w.heap:=rfl
   have hmem:∀ x∈drawL false ops.toList,x∈numbered 0 ops.toList:=fun x hx=>orderL_mem x hx
   have hLN:=okRun_new hrun
   obtain ⟨hlin,hlat⟩:=linG_ok hlg
   have hdone:∀ x,x∈addDone (drawL false ops.toList) []↔x∈(drawL false ops.toList).map Prod.fst:=fun x=>by rw [addDone_mem];simp
   have hdsz:∀ x∈addDone (drawL false ops.toList) [],x < ops.size:=by
    intro x hx
    obtain ⟨y,hy,rfl⟩:=List.mem_map.1 ((hdone x).1 hx)
    exact size_of (numbered_get _ (hmem y hy))
   refine wp_region_any hm (wpAny_kept (a0:=a) _ _ _ _ (fun _ _=>rfl) (wpAny_of_G (q:=false) _ _ _ _ ?_))
   refine anyG_cast (n:=(drawL false ops.toList).length+(restL (addDone (drawL false ops.toList) []) (numbered 0 ops.toList)).length) (by rw [hlen];simp) ?_
   refine order_pre hp hQ1 _ (fun x hx=>numbered_get _ (hmem x hx)) Rel.start (by simp) hrun ?_
   refine opsK_ok hc dstOf_eq _ _ h (hst.heapEq he) (by intro s hs;simp at hs) hLN.1 (fun x _ m h1 _=>hf m (by omega)) (fun σ1 g1 a1 w1 h1 hst1 hext1 hf1 hn1=>?_)
   intro listed hrel
   obtain ⟨T,σE,hT,htr,hk,hgood,_,hpw⟩:=genK_tr _ hpg h1
   have hTi:T.map Ent.i=(restL (addDone (drawL false ops.toList) []) (numbered 0 ops.toList)).map Prod.fst:=by
    rw [←hT,List.map_map];rfl
   have hTm:∀ t∈T,(t.i,t.o)∈restL (addDone (drawL false ops.toList) []) (numbered 0 ops.toList):=by
    intro t ht
    rw [←hT]
    exact List.mem_map.2 ⟨t,ht,rfl⟩
   have hTl:T.length=(restL (addDone (drawL false ops.toList) []) (numbered 0 ops.toList)).length:=by
    rw [←hT,List.length_map]
   refine anyG_cast hTl ?_
   have hheap:({ w with drawn:=w.drawn+1 }:World).heap=w.heap:=rfl
   refine gen_ok (base:=σ.next) (g0:=g1) (w0:=w1) (σ0:=σ1) (σE:=σE) (B0:=T.map Ent.i) hc (fun g' a' w' hst' hext' hf'=>?_) T.length rfl htr (fun t ht=>⟨hgood t ht,numbered_get _ (restL_mem.1 (hTm t ht)).1,List.mem_map.2 ⟨t,ht,rfl⟩⟩) hpw ?_ ?_ hst1 (fun t ht m q1 q2=>?_) hrel hdsz (fun x hx=>?_) (fun t ht=>hlat _ (hTm t ht)) (Ext.refl _ _) (fun m _ hf=>hf)
   ·refine fun hkept=>hK _ g' a' w' hk ⟨hst'.slots,hst'.heap,hst'.size,hst'.defers,hst'.known⟩ ((Ext.heapEq (g:=g) he rfl rfl rfl (Nat.le_succ _)).trans (hext1.trans hext')) (fun m hm=>?_) (hkept rfl)
    have hm':σ.next+8*ops.toList.length≤m:=hm
    have:=hf' m (fun i hi=>.inr ?_) (hf1 m (fun x hx=>.inr (by have:=numbered_lt (hmem x hx);omega)) (hf m (by omega)))
    ·exact ⟨this.objs,this.row,this.box,this.slots,this.cells⟩
    ·rw [hTi] at hi
     obtain ⟨y,hy,rfl⟩:=List.mem_map.1 hi
     have:=numbered_lt (restL_mem.1 hy).1
     omega
   ·rw [hTi]
    exact (numbered_nodup ops.toList 0).sublist ((restL_sub _).map _)
   ·rw [hT];exact hlin
   ·refine hf1 m (fun x hx=>?_) (hf m (by omega))
    have hne:x.1≠t.i:=by
     intro he2
     have:=(restL_mem.1 (hTm t ht)).2
     simp only at this
     exact this ((hdone _).2 (List.mem_map.2 ⟨x,hx,he2⟩))
    omega
   ·rw [hTi]
    constructor
    ·intro hd hm2
     obtain ⟨y,hy,rfl⟩:=List.mem_map.1 hm2
     exact (restL_mem.1 hy).2 hd
    ·intro hn
     refine Classical.byContradiction fun hd=>hn ?_
     obtain ⟨o,ho⟩:∃ o,ops[x]? = some o:=⟨ops[x],by simp [hx]⟩
     exact List.mem_map.2 ⟨(x,o),restL_mem.2 ⟨numbered_of ho,hd⟩,rfl⟩
  | true=>
   rw [hok] at h
   simp only [cond_true] at h
   exact drawn_ok hc hm hQ hok h hst hf hK
end
end Go.Kz
namespace Go.Kz
variable {R:Type}
section
variable {n:Nat} {w:World} {a:Act} {g:Ghost} {σ:St} {k:St→Option R} {r:R}
theorem Shrunk.freshUp {g':Ghost} {σ':St} (h:Shrunk g σ.objs g' σ'.objs) (hs:σ'.slots=σ.slots) (hn:σ'.next=σ.next) (hf:FreshUp g σ):FreshUp g' σ':=
 fun m hm=>h.fresh hs (hf m (by rw [←hn];exact hm))
theorem FreshUp.ids {i:Nat} {av:AVal} (hf:FreshUp g σ) (h:σ.slots i=some av):∀ m,σ.next≤m→m∉av.ids:=fun m hm=>(hf m hm).slots i av h
structure Turned (w:World) (g:Ghost) (σ:St) (x:AVal) (cs:List Value) (g':Ghost) (σ':St) (x':AVal):Prop where
 ok:AOK w g' σ'.objs x' cs
 sk:x'.sk=x.sk
 agg:x'.isAgg=x.isAgg
 val:x'.val=true
 ids:∀ m,σ'.next≤m→m∉x'.ids
 slots:σ'.slots=σ.slots
 next:σ.next≤σ'.next
 cells:∀ id z,σ'.objs id=some (.cell z)→σ.objs id=some (.cell z)∧g'.blk id=g.blk id
theorem cutRow_ok {x:AVal} {f:AVal→St→Option R} {cs:List Value} (hst:StOK n g w a σ) (hf:FreshUp g σ) (hval:x.val=true) (hx:AOK w g σ.objs x cs) (hids:∀ m,σ.next≤m→m∉x.ids) (h:cutRow σ x f=some r) :
  ∃ x' σ' g',f x' σ'=some r∧StOK n g' w a σ'∧Ext w g w g'∧FreshUp g' σ'∧Turned w g σ x cs g' σ' x':=by
 unfold cutRow at h
 split at h
 ·rename_i id ep p q
  split at h
  ·rename_i t l e hobj
   cases hb:Nat.beq e ep with
   | false=>rw [hb] at h;simp at h
   | true=>
    rw [hb] at h
    have he:=Nat.eq_of_beq_eq_true hb
    subst he
    simp only [cond_true] at h
    obtain ⟨u,rfl,hone,hv⟩:=hx
    obtain ⟨_,h0,hab,hbl,e1⟩:=(hv _ _ _ hobj).2 rfl
    let c:Ctx:=⟨0,fun _=>none,fun _=>none,n,fun _=>[],fun _=>none,fun _ _=>none,⟨[],[]⟩,fun _=>none,fun _=>none,fun _=>false,fun _=>false,fun _ _=>none⟩
    obtain ⟨hst1,hext1,hfr1⟩:=resize_ok (c:=c) (e':=e+1) hst hobj h0 hab hbl (Nat.lt_succ_self _)
    refine ⟨_,_,_,h,hst1,hext1,fun m hm=>hfr1 m (hf m hm),⟨u,rfl,hone,fun t' l' e' ho'=>?_⟩,rfl,rfl,rfl,fun m hm=>hids m hm,rfl,Nat.le_refl _,fun i z hz=>?_⟩
    ·simp only [St.setObj,upd_same,Option.some.injEq,Obj.row.injEq] at ho'
     obtain ⟨_,_,rfl⟩:=ho'
     exact ⟨Nat.le_refl _,fun _=>by simp only [svG,if_true];exact e1⟩
    ·by_cases hi:i=id
     ·subst hi;simp [St.setObj,upd_same] at hz
     ·simp only [St.setObj] at hz
      rw [upd_other _ _ hi] at hz
      exact ⟨hz,rfl⟩
  ·simp at h
 ·exact ⟨_,σ,g,h,hst,Ext.refl w g,hf,hx,rfl,rfl,hval,hids,rfl,Nat.le_refl _,fun _ _ hz=>⟨hz,rfl⟩⟩
theorem FreshUp.nil_row {t:Ty} (hst:StOK n g w a σ) (hf:FreshUp g σ) (ht:t.isRo=true) :
  StOK n (svG g σ.next (.slice none 0 0)) w a { σ.setObj σ.next (.row t [] 0) with next:=σ.next+1 }∧Ext w g w (svG g σ.next (.slice none 0 0))∧
   FreshUp (svG g σ.next (.slice none 0 0)) { σ.setObj σ.next (.row t [] 0) with next:=σ.next+1 }:=by
 have hst':StOK n (svG g σ.next (.slice none 0 0)) w a (σ.setObj σ.next (.row t [] 0)):=by
  refine hst.turn ⟨fun b hb=>⟨hb,rfl⟩⟩ (fun i hi=>svG_same hi) (.inr (hf _ (Nat.le_refl _))) ?_ hst.heap.tags
  exact ⟨ht,none,0,by simp [svG],by simp [svG],Nat.le_refl _,Nat.zero_le _,.inl ⟨rfl,rfl,rfl⟩⟩
 refine ⟨⟨hst'.slots,hst'.heap,hst'.size,hst'.defers,hst'.known⟩,⟨rfl,rfl,rfl,Nat.le_refl _,Nat.le_refl _,fun b _ _=>⟨rfl,rfl⟩⟩,fun m hm=>?_⟩
 have hm':σ.next+1≤m:=hm
 have:=Fresh.turn (g:=g) (g':=svG g σ.next (.slice none 0 0)) (o:=.row t [] 0) (id:=σ.next) (fun b=>.inl rfl) (by omega) (by simp) (hf m (by omega))
 exact ⟨this.objs,this.row,this.box,this.slots,this.cells⟩
theorem convA_ok {x:AVal} {cv:Conv} {f:AVal→St→Option R} {cs:List Value} (hst:StOK n g w a σ) (hf:FreshUp g σ) (hval:x.val=true) (hx:AOK w g σ.objs x cs) (hids:∀ m,σ.next≤m→m∉x.ids) (h:convA σ x cv f=some r) :
  ∃ x' σ' g',f x' σ'=some r∧StOK n g' w a σ'∧Ext w g w g'∧FreshUp g' σ'∧Turned w g σ x cs g' σ' x':=by
 cases cv with
 | row t=>
  simp only [convA] at h
  split at h
  ·cases ht:t.isRo with
   | false=>rw [ht] at h;simp at h
   | true=>
    rw [ht] at h
    simp only [cond_true] at h
    obtain ⟨h1,h2,h3⟩:=FreshUp.nil_row hst hf ht
    have hx':cs=[.slice none 0 0]:=hx
    subst hx'
    refine ⟨_,_,_,h,h1,h2,h3,⟨_,rfl,rfl,fun t' l' e' ho'=>?_⟩,rfl,rfl,rfl,fun m hm=>?_,rfl,Nat.le_succ _,fun i z hz=>?_⟩
    ·simp only [St.setObj,upd_same,Option.some.injEq,Obj.row.injEq] at ho'
     obtain ⟨_,_,rfl⟩:=ho'
     exact ⟨Nat.le_refl _,fun _=>by simp [svG]⟩
    ·simp only [AVal.ids,List.mem_singleton]
     have hm':σ.next+1≤m:=hm
     omega
    ·by_cases hi:i=σ.next
     ·subst hi;simp [St.setObj,upd_same] at hz
     ·simp only [St.setObj] at hz
      rw [upd_other _ _ hi] at hz
      exact ⟨hz,rfl⟩
  ·exact cutRow_ok hst hf hval hx hids h
 | dat t=>
  simp only [convA] at h
  cases hb:(t.isRo && x.val && x.sk.same t.sk) with
  | false=>rw [hb] at h;simp at h
  | true=>
   rw [hb] at h
   simp only [cond_true] at h
   simp only [Bool.and_eq_true] at hb
   have hsk:=Sk.same_eq hb.2
   obtain ⟨d,σ',g',hk,hs,hn,hsh,hrep⟩:=give_ok 20 hst.heap hx hb.1.1 h
   refine ⟨_,σ',g',hk,hsh.st hs hst,hsh.ext,hsh.freshUp hs hn hf,⟨hb.1.1,hrep⟩,hsk.symm,?_,rfl,fun m _=>by simp [AVal.ids],hs,by rw [hn];exact Nat.le_refl _,fun i z hz=>?_⟩
   ·rw [(val_isAgg hval).1,hsk];rfl
   ·rcases hsh.objs i with e | e
    ·rw [←e];exact ⟨hz,by rw [hsh.blk]⟩
    ·rw [e] at hz;simp at hz
theorem splice_self (l:List Value) (off n:Nat) (h:off+n≤l.length):splice l off (seg l off n)=l:=by
 have hs:(seg l off n).length=n:=seg_length h
 simp only [splice,hs]
 rw [seg]
 have h1:l.drop (off+n)=(l.drop off).drop n:=by rw [List.drop_drop]
 rw [h1]
 conv=>rhs;rw [←List.take_append_drop off l,←List.take_append_drop n (l.drop off)]
 simp
theorem StOK.set {i:Nat} {x:AVal} {v:Value} (hst:StOK n g w a σ) (hv:a.tmps[i]? = some v) (hx:VOK w g σ.objs x v):StOK n g w a (σ.set i x):=by
 refine ⟨fun j y hj=>?_,hst.heap,hst.size,hst.defers,hst.known⟩
 simp only [St.set,upd] at hj
 cases hb:Nat.beq j i with
 | true=>
  rw [hb] at hj
  simp only [cond_true,Option.some.injEq] at hj
  subst hj
  have:=Nat.eq_of_beq_eq_true hb
  subst this
  exact ⟨v,hv,hx⟩
 | false=>rw [hb] at hj;exact hst.slots j y hj
theorem cell_set {id:Nat} {x x':AVal} (hst:StOK n g w a σ) (hobj:σ.objs id=some (.cell x)) (hsk:x'.sk=x.sk)
  (hok:∃ c e,w.heap[g.blk id]? = some (.cells c e (0,0))∧g.tag (g.blk id) = .box id∧AOK w g σ.objs x' c.toList):StOK n g w a (σ.setObj id (.cell x')):=by
 have hk:IdKept g g id (σ.objs id) (some (.cell x')):=.inr (.inr (.inl ⟨x,x',hobj,rfl,hsk,rfl⟩))
 refine hst.turn ⟨fun b hb=>⟨hb,rfl⟩⟩ (fun i hi=>⟨⟨fun _=>rfl,fun _ b hb=>⟨hb,rfl⟩⟩,rfl,fun hb=>⟨hb,rfl⟩⟩) (.inl hk) ?_ hst.heap.tags
 obtain ⟨c,e,h1,h2,h3⟩:=hok
 refine ⟨c,e,h1,h2,?_⟩
 refine AOK.frame ⟨fun b hb=>⟨hb,rfl⟩⟩ (fun i _=>?_) h3
 by_cases hi:i=id
 ·subst hi;simp only [St.setObj,upd_same];exact hk
 ·simp only [St.setObj];rw [upd_other _ _ hi];exact IdKept.refl g i _
theorem cell_fresh {id m:Nat} {x x':AVal} (hf:Fresh g σ m) (hobj:σ.objs id=some (.cell x)) (hx:m∉x'.ids):Fresh g (σ.setObj id (.cell x')) m:=by
 have hm:m≠id:=by intro he;subst he;have:=hf.objs;rw [hobj] at this;simp at this
 refine ⟨by simp only [St.setObj];rw [upd_other _ _ hm];exact hf.objs,hf.row,hf.box,hf.slots,fun i y hi=>?_⟩
 by_cases he:i=id
 ·subst he
  simp only [St.setObj,upd_same,Option.some.injEq,Obj.cell.injEq] at hi
  subst hi;exact hx
 ·simp only [St.setObj] at hi
  rw [upd_other _ _ he] at hi
  exact hf.cells i y hi
theorem convK_ok:(l:List (Nat×Option Path×Conv))→{g:Ghost}→{σ:St}→{k:St→Option R}→StOK n g w a σ→FreshUp g σ→convK l σ k=some r→
  ∃ σ' g',k σ'=some r∧StOK n g' w a σ'∧Ext w g w g'∧FreshUp g' σ'
 | [],g,σ,k,hst,hf,h=>⟨σ,g,h,hst,Ext.refl w g,hf⟩
 | (i,none,cv) :: l,g,σ,k,hst,hf,h=>by
  simp only [convK] at h
  split at h
  ·rename_i x hx
   obtain ⟨v,hv,hok⟩:=hst.slots i x hx
   cases hval:x.val with
   | false=>rw [hval] at h;simp at h
   | true=>
    rw [hval] at h
    simp only [cond_true] at h
    obtain ⟨hag,hn1,hn2,hn3⟩:=val_isAgg hval
    obtain ⟨cs,hcs,hmk⟩:=VOK_cells hok hn3
    obtain ⟨x',σ1,g1,h,hst1,hext1,hf1,ht⟩:=convA_ok hst hf hval hcs (hf.ids hx) h
    obtain ⟨_,hm1,hm2,_⟩:=val_isAgg ht.val
    have hv1:VOK w g1 σ1.objs x' v:=VOK_of_cells ht.ok (by rw [ht.agg];exact hmk) hm1 hm2
    obtain ⟨σ2,g2,h2,hst2,hext2,hf2⟩:=convK_ok l (hst1.set hv hv1) (fun m hm=>(hf1 m hm).set i (ht.ids m hm)) h
    exact ⟨σ2,g2,h2,hst2,hext1.trans hext2,hf2⟩
  ·simp at h
 | (i,some p,cv) :: l,g,σ,k,hst,hf,h=>by
  simp only [convK] at h
  split at h
  ·rename_i id q hx
   obtain ⟨y,y',off,cc,e,hobj,h,hoff,hcell,htag,hsz,hall,hpart,hids⟩:=bfetch_ok hst.heap h
   have hym:∀ m,σ.next≤m→m∉y'.ids:=fun m hm=>hids m ((hf m hm).cells id y hobj)
   cases hval:y'.val with
   | false=>rw [hval] at h;simp at h
   | true=>
    rw [hval] at h
    simp only [cond_true] at h
    obtain ⟨x',σ1,g1,h,hst1,hext1,hf1,ht⟩:=convA_ok hst hf hval hpart hym h
    obtain ⟨z,z',off2,cc2,e2,hobj2,h,hoff2,hcell2,htag2,hsz2,hall2,hpart2,hids2⟩:=bfetch_ok hst1.heap h
    have hcell3:=hcell2
    have htag3:=htag2
    obtain ⟨hz,hblk⟩:=ht.cells id z hobj2
    rw [hobj] at hz
    simp only [Option.some.injEq,Obj.cell.injEq] at hz
    subst hz
    rw [hblk,hcell] at hcell2
    simp only [Option.some.injEq,Go.Obj.cells.injEq] at hcell2
    obtain ⟨rfl,_,_⟩:=hcell2
    simp only [Sk.off,Option.some.injEq,Prod.mk.injEq] at hoff2
    obtain ⟨rfl,hzs⟩:=hoff2
    have hz':AOK w g1 σ1.objs z' cc.toList:=by
     have hl:z'.sk.size=cc.toList.length:=by rw [←hzs,←hall2.len]
     rw [hl,seg_all] at hpart2
     exact hpart2
    rw [hzs,←ht.sk] at hoff
    obtain ⟨w',hk,hws,hwok,hwids⟩:=setA_rep ht.ok hz' hoff h
    rw [splice_self _ _ _ (by rw [Array.length_toList];exact hsz)] at hwok
    obtain ⟨σ2,g2,h2,hst2,hext2,hf2⟩:=convK_ok l (cell_set hst1 hobj2 (hws.trans hzs.symm) ⟨_,_,hcell3,htag3,hwok⟩)
     (fun m hm=>cell_fresh (hf1 m hm) hobj2 (hwids m (hids2 m ((hf1 m hm).cells _ _ hobj2)) (ht.ids m hm))) hk
    exact ⟨σ2,g2,h2,hst2,hext1.trans hext2,hf2⟩
  ·simp at h
theorem normL_ok {cut:Cut} {k:List (Nat×AVal)→List Obj→Option R} (hst:StOK n g w a σ) (hf:FreshUp g σ) (h:normL cut σ k=some r) :
  ∃ sl os g',k sl os=some r∧StOK n g' w a (St.of sl os)∧Ext w g w g'∧FreshUp g' (St.of sl os):=by
 obtain ⟨σ1,g1,h,hst1,hext1,hf1⟩:=convK_ok cut.conv hst hf h
 split at h
 ·rename_i l hl
  obtain ⟨sl,os,g2,h2,hst2,hext2,hf2⟩:=renum_ok (liveSlots_some hl) hst1 h
  exact ⟨sl,os,g2,h2,hst2,hext1.trans hext2,hf2⟩
 ·simp at h
theorem norm_ok {cut:Cut} (hst:StOK n g w a σ) (hf:FreshUp g σ) (h:norm cut σ k=some r) :
  ∃ σ' g',k σ'=some r∧StOK n g' w a σ'∧Ext w g w g'∧FreshUp g' σ':=by
 obtain ⟨sl,os,g',h1,h2,h3,h4⟩:=normL_ok hst hf h
 exact ⟨_,g',h1,h2,h3,h4⟩
end
end Go.Kz
namespace Go.Kz
variable {R:Type}
def AExit.to:AExit→Exit
 | .normal=>.normal
 | .exit i=>.exit i
 | .ret=>.ret
def wroteL (s:Nat):List Oper→Bool
 | []=>false
 | o :: l=>(match o.dst with
  | some d=>Nat.beq d s
  | none=>false) || wroteL s l
def wrote (s:Nat):Code→Bool
 | .region _ ops _=>wroteL s ops.toList
 | .seq a b=>wrote s a || wrote s b
 | .cond _ a b=>wrote s a || wrote s b
 | .block _ b=>wrote s b
 | .loop b=>wrote s b
 | _=>false
theorem wroteL_no {s:Nat}:{l:List Oper}→wroteL s l=false→∀ o∈l,o.dst≠some s
 | [],_,o,h=>by simp at h
 | x :: l,hw,o,h=>by
  simp only [wroteL,Bool.or_eq_false_iff] at hw
  rcases List.mem_cons.1 h with rfl | h
  ·intro hd
   have h1:=hw.1
   rw [hd] at h1
   simp only [Nat.beq_refl] at h1
   cases h1
  ·exact wroteL_no hw.2 o h
def Kept (b:Code) (a a':Act):Prop:=∀ s,wrote s b=false→a'.tmps[s]? = a.tmps[s]?
def Kont (n:Nat) (g:Ghost) (w:World) (k:AExit→St→Option R) (r:R) (F:Act→Prop) (Q:Exit→Act→World→Prop):Prop:=
 ∀ e σ' g' a' w',k e σ'=some r→StOK n g' w' a' σ'→Ext w g w' g'→FreshUp g' σ'→F a'→Q e.to a' w'
theorem Kont.later {n:Nat} {g g':Ghost} {w w':World} {k:AExit→St→Option R} {r:R} {F F':Act→Prop} {Q:Exit→Act→World→Prop} (h:Kont n g w k r F Q) (he:Ext w g w' g') (hF:∀ a,F' a→F a):Kont n g' w' k r F' Q:=
 fun e σ' g2 a' w2 hk hst hext hf hF'=>h e σ' g2 a' w2 hk hst (he.trans hext) hf (hF a' hF')
section
variable {P:Program} {c:Ctx}
theorem code_ok (hc:CtxOK P c) (hm:P.follows .mixedOrders=true):(code:Code)→(∀ b∈loopsOf code,LoopOK c b)→{σ:St}→{g:Ghost}→{a:Act}→{w:World}→{k:AExit→St→Option R}→{r:R}→{Q:Exit→Act→World→Prop}→
  (∀ ch a w,¬ Q (.panic ch) a w)→codeK c code σ k=some r→StOK c.ntmps g w a σ→FreshUp g σ→Kont c.ntmps g w k r (Kept code a) Q→code.wp P Q a w
 | .skip,_,σ,g,a,w,k,r,Q,_,h,hst,hf,hk=>Go.wp_skip (hk .normal σ g a w h hst (Ext.refl _ _) hf (fun _ _=>rfl))
 | .region id ops draw,_,σ,g,a,w,k,r,Q,hQ,h,hst,hf,hk=>region_ok hc hm hQ h hst hf (fun σ' g' a' w' h' hst' hext' hf' hkp=>hk .normal σ' g' a' w' h' hst' hext' hf' (fun s hs=>hkp s (wroteL_no hs)))
 | .seq x y,hlo,σ,g,a,w,k,r,Q,hQ,h,hst,hf,hk=>by
  simp only [codeK] at h
  refine wp_seq (code_ok hc hm x (fun b hb=>hlo b (by simp [loopsOf,hb])) (Q:=Exit.then (y.wp P Q) Q) hQ h hst hf ?_)
  intro e σ1 g1 a1 w1 h1 hst1 hext1 hf1 hkp1
  have hy:∀ a',Kept y a1 a'→Kept (.seq x y) a a':=fun a' h s hs=>by
   simp only [wrote,Bool.or_eq_false_iff] at hs
   rw [h s hs.2,hkp1 s hs.1]
  have hx:Kept (.seq x y) a a1:=fun s hs=>by
   simp only [wrote,Bool.or_eq_false_iff] at hs
   exact hkp1 s hs.1
  cases e with
  | normal=>
   simp only [kSeq,kCut] at h1
   show y.wp P Q a1 w1
   split at h1
   ·obtain ⟨σ2,g2,h2,hst2,hext2,hf2⟩:=norm_ok hst1 hf1 h1
    exact code_ok hc hm y (fun b hb=>hlo b (by simp [loopsOf,hb])) hQ h2 hst2 hf2 (hk.later (hext1.trans hext2) hy)
   ·exact code_ok hc hm y (fun b hb=>hlo b (by simp [loopsOf,hb])) hQ h1 hst1 hf1 (hk.later hext1 hy)
  | exit i=>exact hk (.exit i) σ1 g1 a1 w1 h1 hst1 hext1 hf1 hx
  | ret=>exact hk .ret σ1 g1 a1 w1 h1 hst1 hext1 hf1 hx
 | .cond x p q,hlo,σ,g,a,w,k,r,Q,hQ,h,hst,hf,hk=>by
  simp only [codeK] at h
  split at h
  ·rename_i t ht
   have hv:=VOK_bool (ev_ok hst ht).1
   refine wp_cond hv ?_
   cases t with
   | true=>exact code_ok hc hm p (fun b hb=>hlo b (by simp [loopsOf,hb])) hQ h hst hf (hk.later (Ext.refl _ _) fun a' h s hs=>h s (by simp only [wrote,Bool.or_eq_false_iff] at hs;exact hs.1))
   | false=>exact code_ok hc hm q (fun b hb=>hlo b (by simp [loopsOf,hb])) hQ h hst hf (hk.later (Ext.refl _ _) fun a' h s hs=>h s (by simp only [wrote,Bool.or_eq_false_iff] at hs;exact hs.2))
  ·simp at h
 | .block id b,hlo,σ,g,a,w,k,r,Q,hQ,h,hst,hf,hk=>by
  simp only [codeK] at h
  refine wp_block (code_ok hc hm b (fun b' hb=>hlo b' (by simp [loopsOf,hb])) (Q:=Exit.inBlock id Q) hQ h hst hf ?_)
  intro e σ1 g1 a1 w1 h1 hst1 hext1 hf1 hkp1
  have hx:Kept (.block id b) a a1:=hkp1
  cases e with
  | normal=>exact hk .normal σ1 g1 a1 w1 h1 hst1 hext1 hf1 hx
  | exit i=>
   simp only [kBlock] at h1
   simp only [AExit.to,Exit.inBlock]
   cases hb:Nat.beq i id with
   | true=>
    rw [hb] at h1
    rw [if_pos (Nat.eq_of_beq_eq_true hb)]
    exact hk .normal σ1 g1 a1 w1 h1 hst1 hext1 hf1 hx
   | false=>
    rw [hb] at h1
    rw [if_neg (fun he=>by subst he;rw [Nat.beq_refl] at hb;simp at hb)]
    exact hk (.exit i) σ1 g1 a1 w1 h1 hst1 hext1 hf1 hx
  | ret=>exact hk .ret σ1 g1 a1 w1 h1 hst1 hext1 hf1 hx
 | .loop b,hlo,σ,g,a,w,k,r,Q,hQ,h,hst,hf,hk=>by
  simp only [codeK] at h
  split at h
  ·rename_i rg hrg
   split at h
   ·rename_i lv hlv
    split at h
    ·rename_i L hL
     obtain ⟨sl0,os0,g0,h,hst0,hext0,hf0⟩:=normL_ok hst hf h
     have h:=hlo b (by simp [loopsOf]) rg lv L hrg hlv hL R sl0 os0 k r h
     refine wp_loop_rounds c.fuel ?_
     have rounds:∀ (n:Nat) {sl:List (Nat×AVal)} {os:List Obj} {g1:Ghost} {a1:Act} {w1:World},loopN (codeK c b) lv n sl os (kExit c rg k)=some r→StOK c.ntmps g1 w1 a1 (St.of sl os)→FreshUp g1 (St.of sl os)→Ext w g w1 g1→Kept b a a1→Code.rounds P b Q n a1 w1:=by
      intro n
      induction n with
      | zero=>intro sl os g1 a1 w1 h;simp [loopN] at h
      | succ n ih=>
      intro sl os g1 a1 w1 h hst hf hext hkp
      simp only [loopN] at h
      rw [rounds_succ]
      refine code_ok hc hm b (fun b' hb=>hlo b' (by simp [loopsOf,hb])) (Q:=Exit.then (Code.rounds P b Q n) Q) hQ h hst hf ?_
      intro e σ2 g2 a2 w2 h2 hst2 hext2 hf2 hkp2
      have hx:Kept (.loop b) a a2:=fun s hs=>(hkp2 s hs).trans (hkp s hs)
      cases e with
      | normal=>
       obtain ⟨sl3,os3,g3,h3,hst3,hext3,hf3⟩:=normL_ok hst2 hf2 h2
       exact ih h3 hst3 hf3 ((hext.trans hext2).trans hext3) hx
      | exit i=>
       simp only [kExit] at h2
       split at h2
       ·obtain ⟨σ3,g3,h3,hst3,hext3,hf3⟩:=norm_ok hst2 hf2 h2
        exact hk (.exit i) σ3 g3 a2 w2 h3 hst3 ((hext.trans hext2).trans hext3) hf3 hx
       ·simp at h2
      | ret=>
       simp only [kExit] at h2
       obtain ⟨σ3,g3,h3,hst3,hext3,hf3⟩:=norm_ok hst2 hf2 h2
       exact hk .ret σ3 g3 a2 w2 h3 hst3 ((hext.trans hext2).trans hext3) hf3 hx
     exact rounds c.fuel h hst0 hf0 hext0 (fun _ _=>rfl)
    ·simp at h
   ·simp at h
  ·simp at h
 | .exit id,_,σ,g,a,w,k,r,Q,_,h,hst,hf,hk=>wp_exit (hk (.exit id) σ g a w h hst (Ext.refl _ _) hf (fun _ _=>rfl))
 | .ret,_,σ,g,a,w,k,r,Q,_,h,hst,hf,hk=>wp_ret (hk .ret σ g a w h hst (Ext.refl _ _) hf (fun _ _=>rfl))
 | .goto _,_,_,_,_,_,_,_,_,_,h,_,_,_=>by simp [codeK] at h
 | .label _,_,_,_,_,_,_,_,_,_,h,_,_,_=>by simp [codeK] at h
 | .scope _,_,_,_,_,_,_,_,_,_,h,_,_,_=>by simp [codeK] at h
 | .rangeFunc _ _ _ _,_,_,_,_,_,_,_,_,_,h,_,_,_=>by simp [codeK] at h
 | .refuse _,_,_,_,_,_,_,_,_,_,h,_,_,_=>by simp [codeK] at h
end
end Go.Kz
namespace Go.Kz
variable {R:Type}
def Ty.isChain:Ty→Bool
 | .pair _ _ | .unit=>true
 | _=>false
def Ty.exOK:Ty→Bool
 | .sl true t=>t.isRo
 | .pair a b=>a.exOK && b.exOK && b.isChain
 | t=>t.isRo
structure Shr (g:Ghost) (objs0:Objs) (g':Ghost) (objs':Objs) (ml:List (Option Nat)):Prop where
 sv:g'.sv=g.sv
 blk:g'.blk=g.blk
 objs:∀ i,objs' i=objs0 i∨objs' i=none
 tag:∀ b,g'.tag b=g.tag b∨(g'.tag b = .ro∧∃ id,objs0 id≠none∧objs' id=none∧some id∉ml∧((∃ p,g.tag b = .row id p)∨g.tag b = .box id))
 mv:∀ i,some i∈ml→objs0 i≠none∧objs' i=none
 nodup:(ml.filterMap id).Nodup
theorem Shrunk.shr {g g':Ghost} {o o':Objs} (h:Shrunk g o g' o'):Shr g o g' o' []:=by
 refine ⟨h.sv,h.blk,h.objs,fun b=>?_,fun i hi=>by simp at hi,by simp⟩
 rcases h.tag b with e | ⟨e,id,h1,h2,h3⟩
 ·exact .inl e
 ·exact .inr ⟨e,id,h1,h2,by simp,h3⟩
theorem Shr.nil (g:Ghost) (objs:Objs):Shr g objs g objs [none]:=⟨rfl,rfl,fun _=>.inl rfl,fun _=>.inl rfl,fun i h=>by simp at h,by simp⟩
theorem Shr.ro {g g':Ghost} {o o':Objs} {mv:List (Option Nat)} (h:Shr g o g' o' mv) (w:World):RoKept w g w g':=by
 refine ⟨fun b hb=>⟨?_,rfl⟩⟩
 rcases h.tag b with e | ⟨e,_⟩
 ·rw [e,hb]
 ·exact e
theorem Shr.stays {g g':Ghost} {o o':Objs} {mv:List (Option Nat)} (h:Shr g o g' o' mv) (w:World) {id:Nat} (hid:o id=none∨o' id≠none∨some id∈mv):Same w g w g' id:=by
 have hno:∀ id',o id'≠none→o' id'=none→some id'∉mv→id'≠id:=by
  intro id' h1 h2 h3 he
  subst he
  rcases hid with h | h | h
  ·exact h1 h
  ·exact h h2
  ·exact h3 h
 refine ⟨⟨fun q=>by rw [h.sv],fun q b hb=>⟨?_,rfl⟩⟩,by rw [h.blk],fun hb=>⟨?_,rfl⟩⟩
 ·rcases h.tag b with e | ⟨_,id',h1,h2,h3,ht⟩
  ·rw [e,hb]
  ·rw [hb] at ht
   rcases ht with ⟨p,ht⟩ | ht
   ·simp only [Tag.row.injEq] at ht
    exact absurd ht.1.symm (hno id' h1 h2 h3)
   ·simp at ht
 ·rcases h.tag (g.blk id) with e | ⟨_,id',h1,h2,h3,ht⟩
  ·rw [e,hb]
  ·rw [hb] at ht
   rcases ht with ⟨p,ht⟩ | ht
   ·simp at ht
   ·simp only [Tag.box.injEq] at ht
    exact absurd ht.symm (hno id' h1 h2 h3)
theorem Shr.trans {g g' g'':Ghost} {o o' o'':Objs} {m1 m2:List (Option Nat)} (h:Shr g o g' o' m1) (k:Shr g' o' g'' o'' m2):Shr g o g'' o'' (m1++m2):=by
 have hback:∀ i,o' i≠Option.none→o i≠Option.none:=by
  intro i hi
  rcases h.objs i with e | e
  ·rw [←e];exact hi
  ·exact absurd e hi
 have hfwd:∀ i,o' i=Option.none→o'' i=Option.none:=by
  intro i hi
  rcases k.objs i with e | e
  ·rw [e];exact hi
  ·exact e
 refine ⟨k.sv.trans h.sv,k.blk.trans h.blk,fun i=>?_,fun b=>?_,fun i hi=>?_,?_⟩
 ·rcases k.objs i with e | e
  ·rw [e];exact h.objs i
  ·exact .inr e
 ·rcases k.tag b with e | ⟨e,id,h1,h2,h3,ht⟩
  ·rcases h.tag b with e2 | ⟨e2,id,h1,h2,h3,ht⟩
   ·exact .inl (e.trans e2)
   ·refine .inr ⟨e.trans e2,id,h1,hfwd id h2,fun hm=>?_,ht⟩
    rcases List.mem_append.1 hm with hm | hm
    ·exact h3 hm
    ·exact absurd h2 (k.mv id hm).1
  ·rcases h.tag b with e2 | ⟨e2,_⟩
   ·rw [e2] at ht
    refine .inr ⟨e,id,hback id h1,h2,fun hm=>?_,ht⟩
    rcases List.mem_append.1 hm with hm | hm
    ·exact h1 (h.mv id hm).2
    ·exact h3 hm
   ·rw [e2] at ht;rcases ht with ⟨p,ht⟩ | ht <;> simp at ht
 ·rcases List.mem_append.1 hi with hi | hi
  ·exact ⟨(h.mv i hi).1,hfwd i (h.mv i hi).2⟩
  ·exact ⟨hback i (k.mv i hi).1,(k.mv i hi).2⟩
 ·rw [List.filterMap_append,List.nodup_append]
  refine ⟨h.nodup,k.nodup,fun a ha b hb=>?_⟩
  have ha':some a∈m1:=by obtain ⟨x,hx,he⟩:=List.mem_filterMap.1 ha;simp at he;rw [←he];exact hx
  have hb':some b∈m2:=by obtain ⟨x,hx,he⟩:=List.mem_filterMap.1 hb;simp at he;rw [←he];exact hx
  intro he;subst he
  exact (k.mv a hb').1 (h.mv a ha').2
theorem Shr.kept {w:World} {g g':Ghost} {o o':Objs} {mv:List (Option Nat)} (h:Shr g o g' o' mv) (id:Nat):IdKept g g' id (o id) (o' id):=by
 rcases h.objs id with e | e
 ·rw [e]
  by_cases hn:o' id=Option.none
  ·left;rw [←e];exact hn
  ·exact IdKept.same (h.stays w (.inr (.inl hn)))
 ·exact .inl e
theorem Shr.heap {w:World} {g g':Ghost} {o o':Objs} {mv:List (Option Nat)} (h:Shr g o g' o' mv) (hh:HeapOK w g o):HeapOK w g' o':=by
 refine ⟨fun id x hx=>?_,fun b hb=>?_⟩
 ·have hid:o' id≠Option.none:=by rw [hx];simp
  have hx':o id=some x:=by
   rcases h.objs id with e | e
   ·rw [←e];exact hx
   ·exact absurd e hid
  exact ObjOK.frame (h.ro w) (h.stays w (.inr (.inl hid))) (fun a ha id' _=>h.kept (w:=w) id') (hh.objs id x hx')
 ·refine hh.tags b ?_
  rcases h.tag b with e | ⟨e,id',_,_,_,ht⟩
  ·rw [←e];exact hb
  ·rcases ht with ⟨p,ht⟩ | ht <;> rw [ht] <;> simp
theorem Shr.ext {w:World} {g g':Ghost} {o o':Objs} {mv:List (Option Nat)} (h:Shr g o g' o' mv):Ext w g w g':=by
 refine ⟨rfl,rfl,rfl,Nat.le_refl _,Nat.le_refl _,fun b _ ht=>⟨rfl,?_⟩⟩
 rcases h.tag b with e | ⟨_,id',_,_,_,h2⟩
 ·exact e
 ·rcases h2 with ⟨p,h2⟩ | h2 <;> rw [h2] at ht <;> simp at ht
theorem kill_shr {g:Ghost} {σ:St} {id:Nat} (hid:σ.objs id≠none):Shr g σ.objs g (σ.kill id).objs [some id]:=by
 refine ⟨rfl,rfl,(freezeG_shrunk (g:=g) (σ:=σ) id hid).objs,fun b=>.inl rfl,fun i hi=>?_,by simp⟩
 simp only [List.mem_singleton,Option.some.injEq] at hi
 subst hi
 exact ⟨hid,by simp [St.kill,upd]⟩
structure Laid (w:World) (g:Ghost) (mv:List (Option Nat)) (G:Ghost) (base:Nat):Prop where
 ro:RoKept w g w G
 row:∀ j i,nthL mv j=some (some i)→Moved w g w G i [] (base+j) []
 nil:∀ j,nthL mv j=some none→G.sv (base+j) [] = .slice none 0 0
theorem nthL_append {α:Type}:(l m:List α)→(i:Nat)→nthL (l++m) i=if i < l.length then nthL l i else nthL m (i-l.length)
 | [],m,i=>by simp
 | x :: l,m,0=>by simp [nthL]
 | x :: l,m,i+1=>by simp [nthL,nthL_append l m i]
theorem Laid.left {w:World} {g g' G:Ghost} {o o':Objs} {m1 m2:List (Option Nat)} {base:Nat} (k:Shr g o g' o' m2) (hm:∀ i,some i∈m1→o i=none) (h:Laid w g' (m1++m2) G base):Laid w g m1 G base:=by
 refine ⟨⟨fun b hb=>h.ro.blk b ((k.ro w).blk b hb).1⟩,fun j i hj=>?_,fun j hj=>?_⟩
 ·have hlt:=nthL_lt hj
  have hx:=h.row j i (by rw [nthL_append,if_pos hlt];exact hj)
  have hs:=k.stays w (.inl (hm i (nthL_mem hj)))
  refine ⟨fun q=>(hx.sv q).trans (hs.row.sv q),fun q b hb=>?_⟩
  exact hx.blk q b (hs.row.blk q b hb).1
 ·exact h.nil j (by rw [nthL_append,if_pos (nthL_lt hj)];exact hj)
theorem Laid.right {w:World} {g G:Ghost} {m1 m2:List (Option Nat)} {base:Nat} (h:Laid w g (m1++m2) G base):Laid w g m2 G (base+m1.length):=by
 refine ⟨h.ro,fun j i hj=>?_,fun j hj=>?_⟩
 ·have:=h.row (m1.length+j) i (by rw [nthL_append,if_neg (by omega)];rw [Nat.add_sub_cancel_left];exact hj)
  rw [←Nat.add_assoc] at this;exact this
 ·have:=h.nil (m1.length+j) (by rw [nthL_append,if_neg (by omega)];rw [Nat.add_sub_cancel_left];exact hj)
  rw [←Nat.add_assoc] at this;exact this
theorem expose_ro:(t:Ty)→(d:t.den)→(n:Nat)→t.isRo=true→expose t d n=(.data t d,[])
 | .sl true t,l,n,h=>by simp [Ty.isRo] at h
 | .sl false t,l,n,_=>rfl
 | .int _,_,_,_=>rfl
 | .bool,_,_,_=>rfl
 | .str,_,_,_=>rfl
 | .unit,_,_,_=>rfl
 | .arr _ _,_,_,_=>rfl
 | .ptr _,_,_,_=>rfl
 | .fn _ _,_,_,_=>rfl
 | .pair a b,(x,y),n,h=>by simp only [expose,h,cond_true]
theorem exposeC_ro {w:World} {g:Ghost} {objs:Objs}:(t:Ty)→(d:t.den)→(n:Nat)→{cs:List Value}→t.isRo=true→t.isChain=true→t.exOK=true→Rep w g none t d cs→
  AOK w g objs (expose.exposeC t d n).1 cs∧(expose.exposeC t d n).2=[]
 | .unit,_,_,cs,_,_,_,h=>⟨h,rfl⟩
 | .pair a b,(x,y),n,cs,h,_,he,hr=>by
  obtain ⟨c1,c2,rfl,h1,h2⟩:=hr
  simp only [Ty.isRo,Bool.and_eq_true] at h
  simp only [Ty.exOK,Bool.and_eq_true] at he
  have ha:=expose_ro a x n h.1
  have hb:=fun n=>exposeC_ro (objs:=objs) b y n h.2 he.2 he.1.2 h2
  simp only [expose.exposeC,ha,List.length_nil,Nat.add_zero,List.nil_append]
  exact ⟨⟨c1,c2,rfl,⟨h.1,h1⟩,(hb n).1⟩,(hb n).2⟩
 | .int _,_,_,_,_,h,_,_=>by simp [Ty.isChain] at h
 | .bool,_,_,_,_,h,_,_=>by simp [Ty.isChain] at h
 | .str,_,_,_,_,h,_,_=>by simp [Ty.isChain] at h
 | .arr _ _,_,_,_,_,h,_,_=>by simp [Ty.isChain] at h
 | .sl _ _,_,_,_,_,h,_,_=>by simp [Ty.isChain] at h
 | .ptr _,_,_,_,_,h,_,_=>by simp [Ty.isChain] at h
 | .fn _ _,_,_,_,_,h,_,_=>by simp [Ty.isChain] at h
structure Exposed (w:World) (G:Ghost) (x:AVal×List Obj) (base:Nat) (cs:List Value):Prop where
 ok:∀ O,AOK w G O x.1 cs
 objs:∀ O j o,nthL x.2 j=some o→ObjOK w G O (base+j) o
theorem give_nv {R:Type} {n:Nat} {pt:Bool} {id:Nat} {p:Path} {ep:Nat} {u:Ty} {σ:St} {k:u.den→St→Option R} {r:R} (h:give n (.nv pt id p ep) u σ k=some r):∃ v,u = .sl false v:=by
 cases n with
 | zero=>simp [give] at h
 | succ n=>
  cases pt with
  | true=>simp [give] at h
  | false=>
   cases p with
   | cons s q=>simp [give] at h
   | nil=>
    simp only [give] at h
    split at h
    ·rename_i t l e i ho
     cases hb:Nat.beq e ep with
     | false=>rw [hb] at h;simp at h
     | true=>
      rw [hb] at h
      simp only [cond_true] at h
      split at h
      ·exact ⟨_,rfl⟩
      ·simp at h
    ·simp at h
theorem giveM_ok {w:World}:(n:Nat)→{a:AVal}→{u:Ty}→{σ:St}→{g:Ghost}→{k:u.den→St→Option R}→{r:R}→{cs:List Value}→
  HeapOK w g σ.objs→AOK w g σ.objs a cs→u.exOK=true→give n a u σ k=some r→
  ∃ d σ' g' mv,k d σ'=some r∧σ'.slots=σ.slots∧σ'.next=σ.next∧Shr g σ.objs g' σ'.objs mv∧(∀ m,(expose u d m).2.length=mv.length)∧
   (∀ G base,Laid w g' mv G base→Exposed w G (expose u d base) base cs)∧
   (u.isChain=true→(∀ m,(expose.exposeC u d m).2.length=mv.length)∧∀ G base,Laid w g' mv G base→Exposed w G (expose.exposeC u d base) base cs)
 | 0,_,_,_,_,_,_,_,_,_,_,h=>by simp [give] at h
 | n+1,a,u,σ,g,k,r,cs,hh,hok,hu,h=>by
  have ro:∀ d σ' g',u.isRo=true→k d σ'=some r→σ'.slots=σ.slots→σ'.next=σ.next→Shr g σ.objs g' σ'.objs []→Rep w g' none u d cs→
    ∃ d σ' g' mv,k d σ'=some r∧σ'.slots=σ.slots∧σ'.next=σ.next∧Shr g σ.objs g' σ'.objs mv∧(∀ m,(expose u d m).2.length=mv.length)∧
     (∀ G base,Laid w g' mv G base→Exposed w G (expose u d base) base cs)∧
     (u.isChain=true→(∀ m,(expose.exposeC u d m).2.length=mv.length)∧∀ G base,Laid w g' mv G base→Exposed w G (expose.exposeC u d base) base cs):=by
   intro d σ' g' hro hk h1 h2 h3 hrep
   refine ⟨d,σ',g',[],hk,h1,h2,h3,fun m=>by rw [expose_ro u d m hro];rfl,fun G base hl=>?_,fun hch=>⟨fun m=>?_,fun G base hl=>?_⟩⟩
   ·rw [expose_ro u d base hro]
    exact ⟨fun O=>⟨hro,hrep.kept hl.ro⟩,fun O j o hj=>by cases j <;> simp [nthL] at hj⟩
   ·rw [(exposeC_ro (w:=w) (objs:=fun _=>none) u d m hro hch hu hrep).2];rfl
   ·refine ⟨fun O=>(exposeC_ro u d base hro hch hu (hrep.kept hl.ro)).1,fun O j o hj=>?_⟩
    rw [(exposeC_ro (w:=w) (objs:=fun _=>none) u d base hro hch hu hrep).2] at hj
    cases j <;> simp [nthL] at hj
  cases hro:u.isRo with
  | true=>
   obtain ⟨d,σ',g',hk,h1,h2,h3,hrep⟩:=give_ok (n+1) hh hok hro h
   exact ro d σ' g' hro hk h1 h2 h3.shr hrep
  | false=>
  cases a with
  | data t d=>
   simp only [give] at h
   obtain ⟨rfl,h⟩:=castK_some h
   rw [hok.1] at hro;simp at hro
  | nilS=>
   simp only [give] at h
   obtain ⟨o,v,rfl,h⟩:=nilK_some h
   have hok':cs=[.slice none 0 0]:=hok
   subst hok'
   cases o with
   | false=>rw [show (Ty.sl false v).isRo=true from by simpa [Ty.exOK] using hu] at hro;simp at hro
   | true=>
    refine ⟨_,σ,g,[none],h,rfl,rfl,Shr.nil _ _,fun m=>rfl,fun G base hl=>?_,fun hch=>by simp [Ty.isChain] at hch⟩
    have hsv:=hl.nil 0 rfl
    refine ⟨fun O=>⟨_,rfl,rfl,fun t l e _=>⟨Nat.zero_le _,fun _=>hsv.symm⟩⟩,fun O j o hj=>?_⟩
    cases j with
    | succ j=>cases j <;> simp [expose,nthL] at hj
    | zero=>
     simp only [expose,nthL,Option.some.injEq] at hj
     subst hj
     refine ⟨hu,?_⟩
     rw [hsv]
     exact ⟨none,0,rfl,hsv,Nat.le_refl _,Nat.zero_le _,.inl ⟨rfl,rfl,rfl⟩⟩
  | ref id p ep=>
   cases p with
   | cons s q=>simp [give] at h
   | nil=>
    simp only [give] at h
    split at h
    ·rename_i t l e ho
     cases hb:Nat.beq e ep with
     | false=>rw [hb] at h;simp at h
     | true=>
      have he:e=ep:=Nat.eq_of_beq_eq_true hb
      subst he
      rw [hb] at h
      simp only [cond_true] at h
      obtain ⟨v,rfl,_,hv⟩:=hok
      have hsv:=(hv _ _ _ ho).2 rfl
      have hobj:=hh.objs id _ ho
      split at h
      ·rename_i v' kk
       obtain ⟨he,h⟩:=castK_some h
       simp only [Ty.sl.injEq,true_and] at he
       subst he
       refine ⟨_,σ.kill id,g,[some id],h,rfl,rfl,kill_shr (by rw [ho];simp),fun m=>rfl,fun G base hl=>?_,fun hch=>by simp [Ty.isChain] at hch⟩
       have hm:=hl.row 0 id rfl
       have hsv':=hm.sv []
       simp only [List.append_nil] at hsv'
       refine ⟨fun O=>⟨_,rfl,?_,fun t l e _=>⟨Nat.zero_le _,fun _=>?_⟩⟩,fun O j o hj=>?_⟩
       ·obtain ⟨_,_,_,_,hx,_⟩:=hobj
        rw [hsv,hx];rfl
       ·rw [hsv];exact hsv'.symm
       ·cases j with
        | succ j=>cases j <;> simp [expose,nthL] at hj
        | zero=>
         simp only [expose,nthL,Option.some.injEq] at hj
         subst hj
         refine ⟨hobj.1,?_⟩
         have:=Rep.move hl.ro (o:=some (id,[])) (o':=some (base,[])) hm hobj.2
         show Rep w G (some (base,[])) _ _ [G.sv base []]
         rw [show G.sv base []=g.sv id [] from hsv']
         exact this
      ·rename_i v' kk
       rw [show (Ty.sl false v').isRo=true from by simpa [Ty.exOK] using hu] at hro;simp at hro
      ·simp at h
    ·simp at h
  | bptr id p=>
   cases u with
   | ptr u=>rw [show (Ty.ptr u).isRo=true from hu] at hro;simp at hro
   | _=>cases p <;> simp [give] at h
  | clos f c=>
   cases u with
   | fn f' t=>rw [show (Ty.fn f' t).isRo=true from hu] at hro;simp at hro
   | _=>simp [give] at h
  | ifc t c=>simp [give] at h
  | agg c=>
   simp only [give] at h
   exact giveM_ok n (a:=c) hh hok hu h
  | pr a b=>
   cases u with
   | pair t u=>
    simp only [give] at h
    simp only [Ty.exOK,Bool.and_eq_true] at hu
    obtain ⟨c1,c2,rfl,ha,hb⟩:=hok
    obtain ⟨x,σ1,g1,mv1,hk1,h1,h2,h3,hl1,he1,_⟩:=giveM_ok n hh ha hu.1.1 h
    have hb':=AOK.frame (objs':=σ1.objs) (h3.ro w) (fun i _=>h3.kept (w:=w) i) hb
    obtain ⟨y,σ2,g2,mv2,hk2,h4,h5,h6,hl2,he2,hc2⟩:=giveM_ok n (h3.heap hh) hb' hu.1.2 hk1
    obtain ⟨hcl2,hce2⟩:=hc2 hu.2
    have hlenC:∀ m,(expose.exposeC (.pair t u) (x,y) m).2.length=(mv1++mv2).length:=fun m=>by
     simp only [expose.exposeC,List.length_append,hl1,hcl2]
    have hexC:∀ G base,Laid w g2 (mv1++mv2) G base→Exposed w G (expose.exposeC (.pair t u) (x,y) base) base (c1++c2):=fun G base hl=>by
     have e1:=he1 G base (hl.left h6 (fun i hi=>(h3.mv i hi).2))
     have e2:=hce2 G (base+mv1.length) hl.right
     simp only [expose.exposeC]
     rw [hl1 base]
     refine ⟨fun O=>⟨c1,c2,rfl,e1.ok O,e2.ok O⟩,fun O j o hj=>?_⟩
     rw [nthL_append] at hj
     split at hj
     ·exact e1.objs O j o hj
     ·rename_i hge
      rw [hl1 base] at hj hge
      have:=e2.objs O _ o hj
      rw [show base+mv1.length+(j-mv1.length)=base+j from by omega] at this
      exact this
    refine ⟨(x,y),σ2,g2,mv1++mv2,hk2,h4.trans h1,h5.trans h2,h3.trans h6,fun m=>?_,fun G base hl=>?_,fun _=>⟨hlenC,hexC⟩⟩
    ·simp only [expose]
     rw [hro]
     exact hlenC m
    ·simp only [expose]
     rw [hro]
     exact ⟨fun O=>(hexC G base hl).ok O,(hexC G base hl).objs⟩
   | _=>simp [give] at h
  | un=>
   cases u with
   | unit=>
    simp only [give] at h
    simp [Ty.isRo] at hro
   | _=>simp [give] at h
  | view id p ep x y=>cases u <;> simp [give] at h
  | eptr id p ep=>cases u <;> simp [give] at h
  | mref id=>cases u <;> simp [give] at h
  | nv pt id p ep=>
   obtain ⟨v',rfl⟩:=give_nv h
   rw [show (Ty.sl false v').isRo=true from by simpa [Ty.exOK] using hu] at hro;simp at hro
  | tup c=>exact hok.elim
end Go.Kz
