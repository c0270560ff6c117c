/-
  What an operation makes of a part of a state, it makes of the whole: operation by operation.
-/
import Derived.Test.YtnjfafnflbackaaKzADC
import Derived.LoopN
set_option linter.unusedVariables false
set_option linter.unusedSimpArgs false
namespace Go.Kz
variable {R:Type}
theorem z3d {b:Bool} {x:Option R} {r:R} (h:chk b x=some r):b=true∧x=some r:=by
 cases b with
 | true=>exact ⟨rfl,h⟩
 | false=>simp [chk] at h
theorem z0c {b:Bool} {x:Option R} {r:R} (h:cond b x none=some r):b=true∧x=some r:=by
 cases b with
 | true=>exact ⟨rfl,h⟩
 | false=>simp at h
theorem zuu {op:BinOp} {kd:IntKind} {a b:Int} {f:AVal->Option R} {r:R} (h:zk1 op kd a b f=some r):∃ v,f v=some r∧∀ (R':Type) (f':AVal->Option R'),zk1 op kd a b f'=f' v:=by
 cases op <;> simp only [zk1] at h ⊢
 case quo=>
  cases hb:(b == 0) with
  | true=>rw [hb] at h;simp at h
  | false=>rw [hb] at h;exact ⟨_,h,fun _ _=>rfl⟩
 case rem=>
  cases hb:(b == 0) with
  | true=>rw [hb] at h;simp at h
  | false=>rw [hb] at h;exact ⟨_,h,fun _ _=>rfl⟩
 all_goals first
  | exact ⟨_,h,fun _ _=>rfl⟩
  | simp at h
theorem zmg {op:BinOp} {kd:IntKind} {a b:Int} {f:AVal->Option R} {r:R} (h:z9x op kd a b f=some r):∃ v,f v=some r∧∀ (R':Type) (f':AVal->Option R'),z9x op kd a b f'=f' v:=by
 cases op <;> simp only [z9x] at h ⊢
 case shl=>
  cases hb:decide (b < 0) with
  | true=>rw [hb] at h;simp at h
  | false=>rw [hb] at h;exact ⟨_,h,fun _ _=>rfl⟩
 case shr=>
  cases hb:decide (b < 0) with
  | true=>rw [hb] at h;simp at h
  | false=>rw [hb] at h;exact ⟨_,h,fun _ _=>rfl⟩
 all_goals simp at h
theorem zr4 {op:BinOp} {a b:Bool} {f:AVal->Option R} {r:R} (h:zhc op a b f=some r):∃ v,f v=some r∧∀ (R':Type) (f':AVal->Option R'),zhc op a b f'=f' v:=by
 cases op <;> simp only [zhc] at h ⊢
 all_goals first
  | exact ⟨_,h,fun _ _=>rfl⟩
  | simp at h
theorem zxw {op:BinOp} {b:Bool} {f:AVal->Option R} {r:R} (h:zqw op b f=some r):∃ v,f v=some r∧∀ (R':Type) (f':AVal->Option R'),zqw op b f'=f' v:=by
 cases op <;> simp only [zqw] at h ⊢
 all_goals first
  | exact ⟨_,h,fun _ _=>rfl⟩
  | simp at h
theorem unK_run {op:UnOp} {x:AVal} {f:AVal->Option R} {r:R} (h:unK op x f=some r):∃ v,f v=some r∧∀ (R':Type) (f':AVal->Option R'),unK op x f'=f' v:=by
 unfold unK at h;split at h
 ·exact ⟨_,h,fun _ _=>rfl⟩
 ·exact ⟨_,h,fun _ _=>rfl⟩
 ·exact ⟨_,h,fun _ _=>rfl⟩
 ·simp at h
def binL (σ:St) (q:Bool) (t:Option Ty) (op:BinOp) (x y:AVal) (f:AVal->Option R):Option R:=match t with
 | some u=>cond (q && z47 u && x.val && y.val) (z0d σ 20 x u fun d=>z0d σ 20 y u fun e=>zqw op (eqD u d e) f) none
 | none=>none
theorem binL_run {σ:St} {q:Bool} {t:Option Ty} {op:BinOp} {x y:AVal} {f:AVal->Option R} {r:R} (h:binL σ q t op x y f=some r) :
  ∃ v,f v=some r∧∀ τ,OLe σ τ->∀ (R':Type) (f':AVal->Option R'),binL τ q t op x y f'=f' v:=by
 unfold binL at h;split at h
 ·rename_i u;obtain ⟨hc,h⟩:=z0c h;obtain ⟨d,h,h1⟩:=z3h _ _ _ h;obtain ⟨e,h,h2⟩:=z3h _ _ _ h;obtain ⟨v,h,h3⟩:=zxw h;refine ⟨v,h,fun τ hle R' f'=>?_⟩;simp only [binL,hc,cond_true];rw [h1 τ hle,h2 τ hle,h3]
 ·simp at h
theorem binK_run {σ:St} {q:Bool} {t:Option Ty} {op:BinOp} {x y:AVal} {f:AVal->Option R} {r:R} (h:binK σ q t op x y f=some r) :
  ∃ v,f v=some r∧∀ τ,OLe σ τ->∀ (R':Type) (f':AVal->Option R'),binK τ q t op x y f'=f' v:=by
 by_cases h1:∃ k a j b,x = .data (.int k) a∧y = .data (.int j) b
 ·obtain ⟨kd,a,j,b,rfl,rfl⟩:=h1;simp only [binK] at h ⊢
  cases hs:zgb op with
  | true=>
   rw [hs] at h;simp only [cond_true] at h ⊢;obtain ⟨v,h,ha⟩:=zmg h
   exact ⟨v,h,fun τ _ R' f'=>ha R' f'⟩
  | false=>
   rw [hs] at h;simp only [cond_false] at h ⊢;split at h
   ·obtain ⟨v,h,ha⟩:=zuu h;exact ⟨v,h,fun τ _ R' f'=>ha R' f'⟩
   ·simp at h
 ·by_cases h2:∃ a b,x = .data .bool a∧y = .data .bool b
  ·obtain ⟨a,b,rfl,rfl⟩:=h2;simp only [binK] at h ⊢;split at h
   ·obtain ⟨v,h,ha⟩:=zr4 h;exact ⟨v,h,fun τ _ R' f'=>ha R' f'⟩
   ·simp at h
  ·have e:∀ (σ:St) (R':Type) (f':AVal->Option R'),binK σ q t op x y f'=binL σ q t op x y f':=by
    intro σ R' f';unfold binK binL;split
    ·exact absurd ⟨_,_,_,_,rfl,rfl⟩ h1
    ·exact absurd ⟨_,_,rfl,rfl⟩ h2
    ·rfl
   rw [e] at h;obtain ⟨v,h,ha⟩:=binL_run h;exact ⟨v,h,fun τ hle R' f'=>by rw [e];exact ha τ hle R' f'⟩
theorem zx5 {σ τ:St} {a:AVal} (hle:OLe σ τ) (h:holds σ a=true):holds τ a=true:=by
 unfold holds at h ⊢;split at h
 ·rfl
 ·rename_i id _;split at h
  ·rename_i ho;rw [hle _ _ ho]
  ·simp at h
 ·rename_i id _ ep;split at h
  ·rename_i ho;simp only [hle _ _ ho];exact h
  ·simp at h
 ·rename_i id _ ep;split at h
  ·rename_i ho;simp only [hle _ _ ho];exact h
  ·simp at h
 ·simp at h
theorem lenK_run {σ:St} {x:AVal} {f:Int->Option R} {r:R} (h:lenK σ x f=some r):∃ v,f v=some r∧∀ τ,OLe σ τ->∀ (R':Type) (f':Int->Option R'),lenK τ x f'=f' v:=by
 unfold lenK at h;split at h
 ·exact ⟨_,h,fun _ _ _ _=>rfl⟩
 ·exact ⟨_,h,fun _ _ _ _=>rfl⟩
 ·obtain ⟨u,l,h,ha⟩:=z3x h;exact ⟨_,h,fun τ hle R' f'=>by simp only [lenK];rw [ha τ hle]⟩
 ·obtain ⟨u,l,h,ha⟩:=z3x h;exact ⟨_,h,fun τ hle R' f'=>by simp only [lenK];rw [ha τ hle]⟩
 ·obtain ⟨u,l,h,ha⟩:=zby h;exact ⟨_,h,fun τ hle R' f'=>by simp only [lenK];rw [(ha τ hle).2]⟩
 ·simp at h
theorem zsb {σ:St} {mt:Option (Ty×Ty)} {a:AVal} {f:(id:Nat)->(kt vt:Ty)->List (kt.den×vt.den)->Option R} {r:R} (h:mapK σ mt a f=some r) :
  ∃ id kt vt m,(∃ y,σ.objs id=some y)∧f id kt vt m=some r∧∀ τ,OLe σ τ->∀ (R':Type) (f':(id:Nat)->(kt vt:Ty)->List (kt.den×vt.den)->Option R'),mapK τ mt a f'=f' id kt vt m:=by
 unfold mapK at h;split at h
 ·rename_i id kt' vt';split at h
  ·rename_i kt vt m ho
   cases hc:((Ty.same kt kt').isSome && (Ty.same vt vt').isSome && kTy kt && vt.noSl) with
   | false=>rw [hc] at h;simp at h
   | true=>
    rw [hc,cond_true] at h;refine ⟨id,kt,vt,m,⟨_,ho⟩,h,fun τ hle R' f'=>?_⟩;simp only [mapK];rw [hle _ _ ho];simp only [hc,cond_true]
  ·simp at h
 ·simp at h
theorem ztw {σ:St} {u:Ty} {x:AVal} {lo:Int} {hi:Option Int} {f:AVal->Option R} {r:R} (h:zdt σ u x lo hi f=some r) :
  ∃ v,f v=some r∧∀ τ,OLe σ τ->∀ (R':Type) (f':AVal->Option R'),zdt τ u x lo hi f'=f' v:=by
 unfold zdt at h;split at h
 ·obtain ⟨hb,h⟩:=z3d h;exact ⟨_,h,fun τ _ R' f'=>by simp only [zdt,hb,chk,cond_true]⟩
 ·obtain ⟨hc,h⟩:=z0c h;obtain ⟨hb,h⟩:=z3d h;exact ⟨_,h,fun τ _ R' f'=>by simp only [zdt,hc,hb,chk,cond_true]⟩
 ·obtain ⟨t,l,h,ha⟩:=z3x h;obtain ⟨hc,h⟩:=z0c h;obtain ⟨hb,h⟩:=z3d h;exact ⟨_,h,fun τ hle R' f'=>by simp only [zdt];rw [ha τ hle];simp only [hc,hb,chk,cond_true]⟩
 ·simp at h
theorem z9g {g:Int->Int->Int} {kd:IntKind}:{c:AVal}->{x:Int}->{f:Int->Option R}->{r:R}->z0a g kd x c f=some r->∃ v,f v=some r∧∀ (R':Type) (f':Int->Option R'),z0a g kd x c f'=f' v
 | .un,x,f,r,h=>⟨x,h,fun _ _=>rfl⟩
 | .pr (.data (.int j) y) c,x,f,r,h=>by
  simp only [z0a] at h ⊢;split at h
  ·rename_i he _;obtain ⟨v,h,ha⟩:=z9g (c:=c) h;refine ⟨v,h,fun R' f'=>?_⟩;exact ha R' f'
  ·simp at h
 | .data _ _,_,_,_,h=>by simp [z0a] at h
 | .nilS,_,_,_,h=>by simp [z0a] at h
 | .ref _ _ _,_,_,_,h=>by simp [z0a] at h
 | .view _ _ _ _ _,_,_,_,h=>by simp [z0a] at h
 | .bptr _ _,_,_,_,h=>by simp [z0a] at h
 | .eptr _ _ _,_,_,_,h=>by simp [z0a] at h
 | .mref _,_,_,_,h=>by simp [z0a] at h
 | .nv _ _ _ _,_,_,_,h=>by simp [z0a] at h
 | .clos _ _,_,_,_,h=>by simp [z0a] at h
 | .ifc _ _,_,_,_,h=>by simp [z0a] at h
 | .agg _,_,_,_,h=>by simp [z0a] at h
 | .tup _,_,_,_,h=>by simp [z0a] at h
 | .pr (.data .bool _) _,_,_,_,h=>by simp [z0a] at h
 | .pr (.data .str _) _,_,_,_,h=>by simp [z0a] at h
 | .pr (.data .unit _) _,_,_,_,h=>by simp [z0a] at h
 | .pr (.data (.pair _ _) _) _,_,_,_,h=>by simp [z0a] at h
 | .pr (.data (.arr _ _) _) _,_,_,_,h=>by simp [z0a] at h
 | .pr (.data (.sl _ _) _) _,_,_,_,h=>by simp [z0a] at h
 | .pr (.data (.ptr _) _) _,_,_,_,h=>by simp [z0a] at h
 | .pr (.data (.fn _ _) _) _,_,_,_,h=>by simp [z0a] at h
 | .pr .nilS _,_,_,_,h=>by simp [z0a] at h
 | .pr (.ref _ _ _) _,_,_,_,h=>by simp [z0a] at h
 | .pr (.view _ _ _ _ _) _,_,_,_,h=>by simp [z0a] at h
 | .pr (.bptr _ _) _,_,_,_,h=>by simp [z0a] at h
 | .pr (.eptr _ _ _) _,_,_,_,h=>by simp [z0a] at h
 | .pr (.mref _) _,_,_,_,h=>by simp [z0a] at h
 | .pr (.nv _ _ _ _) _,_,_,_,h=>by simp [z0a] at h
 | .pr (.clos _ _) _,_,_,_,h=>by simp [z0a] at h
 | .pr (.ifc _ _) _,_,_,_,h=>by simp [z0a] at h
 | .pr (.agg _) _,_,_,_,h=>by simp [z0a] at h
 | .pr (.tup _) _,_,_,_,h=>by simp [z0a] at h
 | .pr (.pr _ _) _,_,_,_,h=>by simp [z0a] at h
 | .pr .un _,_,_,_,h=>by simp [z0a] at h
theorem nrow_obj {σ:St} {id:Nat} {p:z1a} {ep:Nat} {k:(v:Ty)->List v.den->Option R} {r:R} (h:zd3 σ id p ep k=some r):∃ t l e i,σ.objs id=some (.nest t l e i none):=by
 unfold zd3 z6l at h;split at h
 ·rename_i t l e i ho;exact ⟨t,l,e,i,ho⟩
 ·simp at h
theorem zug {σ:St} {u:Ty} {x:AVal} {i:Int} {f:AVal->Option R} {r:R} (h:z7w σ u x i f=some r) :
  ∃ v,f v=some r∧∀ τ,OLe σ τ->∀ (R':Type) (f':AVal->Option R'),z7w τ u x i f'=f' v:=by
 unfold z7w at h;split at h
 ·obtain ⟨hc,h⟩:=z0c h;obtain ⟨d,hd,h⟩:=Option.bind_eq_some_iff.1 h;exact ⟨_,h,fun τ _ R' f'=>by simp only [z7w,hc,cond_true,hd,Option.bind_some]⟩
 ·obtain ⟨hc,h⟩:=z0c h;obtain ⟨d,hd,h⟩:=Option.bind_eq_some_iff.1 h;exact ⟨_,h,fun τ _ R' f'=>by simp only [z7w,hc,cond_true,hd,Option.bind_some]⟩
 ·obtain ⟨t,l,h,ha⟩:=z3x h;obtain ⟨hc,h⟩:=z0c h;obtain ⟨hb,h⟩:=z3d h;exact ⟨_,h,fun τ hle R' f'=>by simp only [z7w];rw [ha τ hle];simp only [hc,hb,chk,cond_true]⟩
 ·obtain ⟨t,l,h,ha⟩:=z3x h;obtain ⟨hc,h⟩:=z0c h;obtain ⟨hb,h⟩:=z3d h;exact ⟨_,h,fun τ hle R' f'=>by simp only [z7w];rw [ha τ hle];simp only [hc,hb,chk,cond_true]⟩
 ·rename_i id p ep _ u
  cases hb0:(noP p && zb5 σ id) with
  | true=>
   rw [hb0,cond_true] at h;unfold zx4 at h;split at h
   ·rename_i t l e n hp ho;obtain ⟨hc,h⟩:=z0c h;obtain ⟨hb,h⟩:=z3d h;refine ⟨_,h,fun τ hle R' f'=>?_⟩;have ht:=hle _ _ ho;have hq:(noP p && zb5 τ id)=true:=by
     simp only [zA] at hb0 ⊢;exact ⟨hb0.1,by simp [zb5,ht]⟩
    simp only [z7w,hq,cond_true,zx4,ht,hc,hb,chk]
   ·simp at h
  | false=>
   rw [hb0,cond_false] at h;obtain ⟨t0,l0,e0,i0,ho⟩:=nrow_obj h;obtain ⟨t,l,h,ha⟩:=zby h;obtain ⟨hc,h⟩:=z0c h;obtain ⟨hb,h⟩:=z3d h;refine ⟨_,h,fun τ hle R' f'=>?_⟩;have hq:(noP p && zb5 τ id)=false:=by
    have:zb5 τ id=false:=by simp [zb5,hle _ _ ho]
    rw [this,Bool.and_false]
   simp only [z7w,hq,cond_false];rw [(ha τ hle).2];simp only [hc,hb,chk,cond_true,(ha τ hle).1]
 ·obtain ⟨a,h,ha⟩:=z8q h;split at h
  ·obtain ⟨hc,h⟩:=z0c h;obtain ⟨hb,h⟩:=z3d h;exact ⟨_,h,fun τ hle R' f'=>by simp only [z7w];rw [ha τ hle];simp only [hc,hb,chk,cond_true]⟩
  ·simp at h
 ·split at h
  ·simp at h
  ·obtain ⟨u,d,h,ha⟩:=z6o h;split at h
   ·obtain ⟨hc,h⟩:=z0c h;obtain ⟨hb,h⟩:=z3d h;exact ⟨_,h,fun τ hle R' f'=>by simp only [z7w];rw [ha τ hle];simp only [hc,hb,chk,cond_true]⟩
   ·simp at h
 ·simp at h
theorem zwo {σ:St} {x:AVal} {f:AVal->Option R} {r:R} (h:zc3 σ x f=some r) :
  ∃ v,f v=some r∧∀ τ,OLe σ τ->∀ (R':Type) (f':AVal->Option R'),zc3 τ x f'=f' v:=by
 unfold zc3 at h;split at h
 ·exact ⟨_,h,fun _ _ _ _=>rfl⟩
 ·split at h
  ·simp at h
  ·obtain ⟨u,d,h,ha⟩:=z6o h;exact ⟨_,h,fun τ hle R' f'=>by simp only [zc3];rw [ha τ hle]⟩
 ·obtain ⟨a,h,ha⟩:=z8q h;exact ⟨_,h,fun τ hle R' f'=>by simp only [zc3];rw [ha τ hle]⟩
 ·rename_i id p ep;obtain ⟨u,d,h,ha⟩:=zax h
  cases hro:u.isRo with
  | true=>
   rw [hro] at h
   exact ⟨_,h,fun τ hle R' f'=>by simp only [zc3];rw [(ha τ hle).2];simp only [hro,cond_true]⟩
  | false=>
   rw [hro,cond_false] at h;split at h
   ·exact ⟨_,h,fun τ hle R' f'=>by simp only [zc3];rw [(ha τ hle).2];simp only [hro,cond_false]⟩
   ·simp at h
 ·simp at h
theorem zuk {σ:St} {u:Ty} {x:AVal} {i:Nat} {f:AVal->Option R} {r:R} (h:zal σ u x i f=some r) :
  ∃ v,f v=some r∧∀ τ,OLe σ τ->∀ (R':Type) (f':AVal->Option R'),zal τ u x i f'=f' v:=by
 unfold zal at h;split at h
 ·obtain ⟨hc,h⟩:=z0c h;obtain ⟨v,e,h,ha⟩:=z4r _ _ _ h;exact ⟨_,h,fun τ _ R' f'=>by simp only [zal,hc,cond_true];rw [ha]⟩
 ·obtain ⟨a,h,ha⟩:=z8q h;obtain ⟨hc,h⟩:=z0c h;exact ⟨_,h,fun τ hle R' f'=>by simp only [zal];rw [ha τ hle];simp only [hc,cond_true]⟩
 ·split at h
  ·simp at h
  ·obtain ⟨t,d,h,ha⟩:=z6o h;obtain ⟨hc,h⟩:=z0c h;exact ⟨_,h,fun τ hle R' f'=>by simp only [zal];rw [ha τ hle];simp only [hc,cond_true]⟩
 ·rename_i id p ep
  cases hho:zb5 σ id with
  | true=>
   rw [hho] at h;simp only [cond_true] at h;unfold holeF at h;split at h
   ·rename_i j t l e n hp ho;have hc:=(z0c h).1;replace h:=(z0c h).2;refine ⟨_,h,fun τ hle R' f'=>?_⟩;have ht:=hle _ _ ho;have hq:zb5 τ id=true:=by simp [zb5,ht]
    simp only [zal,hq,cond_true,holeF,ht,hc]
   ·simp at h
  | false=>
   rw [hho] at h;simp only [cond_false] at h;have ho:∃ t l e i,σ.objs id=some (.nest t l e i none):=by
    unfold z6l at h;split at h
    ·rename_i t l e i ho;exact ⟨t,l,e,i,ho⟩
    ·simp at h
   obtain ⟨t0,l0,e0,i0,ho⟩:=ho;obtain ⟨t,d,h,ha⟩:=zax h;obtain ⟨hc,h⟩:=z0c h;refine ⟨_,h,fun τ hle R' f'=>?_⟩;have hq:zb5 τ id=false:=by simp [zb5,hle _ _ ho]
   simp only [zal,hq,cond_false];rw [(ha τ hle).2];simp only [hc,cond_true]
 ·simp at h
theorem zbj {σ:St} {t:Ty} {x:AVal} {f:List t.den->Option R} {r:R} (h:zfe σ t x f=some r) :
  ∃ v,f v=some r∧∀ τ,OLe σ τ->∀ (R':Type) (f':List t.den->Option R'),zfe τ t x f'=f' v:=by
 unfold zfe at h;obtain ⟨hc,h⟩:=z0c h;obtain ⟨d,h,ha⟩:=z3h _ _ _ h;exact ⟨d,h,fun τ hle R' f'=>by unfold zfe;rw [hc,cond_true];exact ha τ hle R' f'⟩
theorem zuo {σ τ:St} (hle:OLe σ τ) {x:AVal} {t:Ty} (h:zt3 σ x=some t):zt3 τ x=some t:=by
 unfold zt3 at h ⊢;split at h
 ·exact h
 ·obtain ⟨u,l,h,ha⟩:=z3x h;rw [ha τ hle];exact h
 ·obtain ⟨u,l,h,ha⟩:=z3x h;rw [ha τ hle];exact h
 ·obtain ⟨u,l,h,ha⟩:=zby h;rw [(ha τ hle).2];exact h
 ·simp at h
theorem zgj {n:Nat} {σ:St} {a:AVal} {v:Ty} {k:List v.den->St->Option R} {r:R} (h:z5f σ a v k=some r) :
  ∃ d ob,k d (putO ob σ)=some r∧Dom n σ ob∧∀ τ,OLe σ τ->∀ (R':Type) (k':List v.den->St->Option R'),z5f τ a v k'=k' d (putO ob τ):=by
 unfold z5f at h;split at h
 ·exact ⟨[],[],h,Dom.nil,fun _ _ _ _=>rfl⟩
 ·rename_i id ep;split at h
  ·rename_i t l e ho;obtain ⟨hc,h⟩:=z0c h;obtain ⟨d,h,ha⟩:=z36 h;refine ⟨d,[(id,none)],h,Dom.old ho,fun τ hle R' k'=>?_⟩;simp only [z5f];rw [hle _ _ ho];simp only [hc,cond_true];exact ha R' _
  ·simp at h
 ·simp at h
theorem znr {n:Nat} {σ:St} {id:Nat} {t:Ty} {l:List t.den} {e i:Nat} {h0:Option z1a} {p:z1a} {a:AVal} {f:St->Option R} {r:R} (ho:σ.objs id=some (.nest t l e i h0)) (h:zgm σ id t l e i p a f=some r) :
  ∃ ob,f (putO ob σ)=some r∧Dom n σ ob∧∀ τ,OLe σ τ->∀ (R':Type) (f':St->Option R'),zgm τ id t l e i p a f'=f' (putO ob τ):=by
 unfold zgm at h;split at h
 ·rename_i v hv;obtain ⟨hc,h⟩:=z0c h;obtain ⟨d,ob,h,hd,ha⟩:=zgj (n:=n) h;obtain ⟨l',h,hs⟩:=z5z _ _ _ h;refine ⟨ob++[(id,some (.nest t l' e (i+1) none))],by rw [z1k];exact h,?_,fun τ hle R' f'=>?_⟩
  ·intro x hx;rcases List.mem_append.1 hx with hx | hx
   ·exact hd x hx
   ·exact Dom.old ho x hx
  ·unfold zgm;rw [hv];simp only [hc,cond_true];rw [ha τ hle,hs,z1k];rfl
 ·simp at h
theorem zqf {n:Nat} {σ:St} {id:Nat} {p:z1a} {ep:Nat} {a:AVal} {f:St->Option R} {r:R} (h:z8d σ id p ep a f=some r) :
  ∃ ob,f (putO ob σ)=some r∧Dom n σ ob∧∀ τ,OLe σ τ->∀ (R':Type) (f':St->Option R'),z8d τ id p ep a f'=f' (putO ob τ):=by
 unfold z8d at h;split at h
 ·rename_i t l e i ho;obtain ⟨hc,h⟩:=z0c h
  cases hs:(tyR t p).isSome with
  | true=>
   rw [hs,cond_true] at h;obtain ⟨ob,h,hd,ha⟩:=znr (n:=n) ho h;refine ⟨ob,h,hd,fun τ hle R' f'=>?_⟩;unfold z8d;rw [hle _ _ ho];simp only [hc,hs,cond_true]
   exact ha τ hle R' f'
  | false=>
   rw [hs,cond_false] at h;split at h
   ·rename_i s p1 j q hl;obtain ⟨U,X,h,hg1⟩:=z4r _ _ _ h;split at h
    ·rename_i v l1;obtain ⟨hro,h⟩:=z0c h;obtain ⟨u,x,h,hg2⟩:=z4r _ _ _ h;obtain ⟨d,ob,h,hd,hb⟩:=z62 (n:=n) _ _ _ h;split at h
     ·rename_i t2 l2 e2 i2 ho2;obtain ⟨l1',h,hs1⟩:=z5z _ _ _ h;obtain ⟨l',h,hs2⟩:=z5z _ _ _ h;refine ⟨ob++[(id,some (.nest t l' e i none))],by rw [z1k];exact h,?_,fun τ hle R' f'=>?_⟩
      ·intro x hx;rcases List.mem_append.1 hx with hx | hx
       ·exact hd x hx
       ·exact Dom.old ho x hx
      ·unfold z8d;rw [hle _ _ ho];simp only [hc,hs,cond_true,cond_false,hl];rw [hg1];simp only [hro,cond_true];rw [hg2,hb τ hle,hle.putO ob _ _ ho2];simp only;rw [hs1,hs2,z1k];rfl
     ·simp at h
    ·simp at h
   ·simp at h
 ·rename_i t l e i h0 ho;obtain ⟨hc,h⟩:=z0c h;obtain ⟨hp,h⟩:=z3d h;obtain ⟨ob,h,hd,ha⟩:=znr (n:=n) ho h;refine ⟨ob,h,hd,fun τ hle R' f'=>?_⟩;unfold z8d;rw [hle _ _ ho];simp only [hc,hp,chk,cond_true];exact ha τ hle R' f'
 ·simp at h
theorem ztt {n:Nat} {σ:St} {x a:AVal} {f:St->Option R} {r:R} (h:zdr σ x a f=some r) :
  ∃ ob,f (putO ob σ)=some r∧Dom n σ ob∧∀ τ,OLe σ τ->∀ (R':Type) (f':St->Option R'),zdr τ x a f'=f' (putO ob τ):=by
 unfold zdr at h;split at h
 ·rename_i id p ep;split at h
  ·simp at h
  ·rename_i s q;obtain ⟨u,e,h,ha⟩:=z6o h;obtain ⟨d,ob,h,hd,hb⟩:=z62 (n:=n) _ _ _ h;split at h
   ·rename_i t l e' ho;obtain ⟨hc,h⟩:=z0c h;obtain ⟨l',h,hs⟩:=z5z _ _ _ h;refine ⟨ob++[(id,some (.row t l' e'))],by rw [z1k];exact h,hd.append (Dom.old ho),fun τ hle R' f'=>?_⟩;simp only [zdr];rw [ha τ hle,hb τ hle];rw [hle.putO ob _ _ ho];simp only [hc,cond_true];rw [hs,z1k];rfl
   ·simp at h
 ·rename_i id p;split at h
  ·rename_i whole ho;obtain ⟨hnt,h⟩:=z7t h;obtain ⟨old,h,ha⟩:=zl9 h;obtain ⟨hc,h⟩:=z0c h;obtain ⟨w,h,hs⟩:=zem _ _ h;refine ⟨[(id,some (.cell w))],h,Dom.old ho,fun τ hle R' f'=>?_⟩;simp only [zdr];rw [hle _ _ ho];simp only [hnt,cond_false];rw [ha];simp only [hc,cond_true];rw [hs];rfl
  ·simp at h
 ·obtain ⟨ob,h,hd,ha⟩:=zqf (n:=n) h;exact ⟨ob,h,hd,fun τ hle R' f'=>by simp only [zdr];exact ha τ hle R' f'⟩
 ·simp at h
theorem zs1 {σ:St} {x:AVal} {f:(t:Ty)->(id e i:Nat)->t.den->Option R} {r:R} (h:oneN σ x f=some r) :
  ∃ t id e i d,f t id e i d=some r∧σ.objs id=some (.nest t [d] e i none)∧∀ τ,OLe σ τ->∀ (R':Type) (f':(t:Ty)->(id e i:Nat)->t.den->Option R'),oneN τ x f'=f' t id e i d:=by
 obtain ⟨id,e,i,t,d,rfl,ho,ha,h⟩:=zfr h;refine ⟨t,id,e,i,d,h,ho,fun τ hle R' f'=>?_⟩;simp only [oneN];rw [hle _ _ ho];simp only [Nat.beq_refl,ha,Bool.and_self,cond_true]
theorem zhi {n:Nat} {σ:St} {u:Ty} {s x:AVal} {f:AVal->St->Option R} {r:R} (h:z7m σ u s x f=some r) :
  ∃ v ob,f v (putO ob σ)=some r∧Dom n σ ob∧∀ τ,OLe σ τ->∀ (R':Type) (f':AVal->St->Option R'),z7m τ u s x f'=f' v (putO ob τ):=by
 unfold z7m at h;split at h
 ·obtain ⟨t,id,e,i,d,h,ho,ha⟩:=zs1 h;obtain ⟨hc,h⟩:=z0c h;refine ⟨_,[(id,some (.nest t [d] (e+1) (i+1) none))],h,Dom.old ho,fun τ hle R' f'=>?_⟩;simp only [z7m];rw [ha τ hle,hc];rfl
 ·rename_i id ep;split at h
  ·rename_i t l e i ho;obtain ⟨hc,h⟩:=z0c h;obtain ⟨t',id',e',i',d,h,ho',ha⟩:=zs1 h
   cases hb:Nat.beq id id' with
   | true=>rw [hb] at h;simp at h
   | false=>
    rw [hb] at h;simp only [cond_false] at h;obtain ⟨d',h,hcast⟩:=z36 h;obtain ⟨hck,h⟩:=z3d h;refine ⟨_,[(id',none)]++[(id,some (.nest t (l++[d']) (e+1) (i+1) none))],h,Dom.append (Dom.old ho') (Dom.old (y:=.nest t l e i none) ?_),fun τ hle R' f'=>?_⟩
    ·have hne:id≠id':=fun he=>by subst he;rw [Nat.beq_refl] at hb;simp at hb
     simp only [putO];show (upd σ.objs id' none) id=_;rw [z0k _ _ hne];exact ho
    ·simp only [z7m];rw [hle _ _ ho];simp only [hc,cond_true];rw [ha τ hle];simp only [hb,cond_false];rw [hcast,hck];rfl
  ·simp at h
 ·simp at h
theorem zr6 {n:Nat} {σ:St} {u:Ty} {s x:AVal} {f:AVal->St->Option R} {r:R} (h:z6r σ n u s x f=some r) :
  ∃ v ob,f v (putO ob σ)=some r∧Dom n σ ob∧∀ τ,OLe σ τ->∀ (R':Type) (f':AVal->St->Option R'),z6r τ n u s x f'=f' v (putO ob τ):=by
 unfold z6r at h;split at h
 ·cases hbn:x.isNv with
  | true=>
   rw [hbn] at h;simp only [cond_true] at h;obtain ⟨v,ob,h,hd,ha⟩:=zhi (n:=n) h;refine ⟨v,ob,h,hd,fun τ hle R' f'=>?_⟩;simp only [z6r,hbn,cond_true]
   exact ha τ hle R' f'
  | false=>
  rw [hbn] at h;simp only [cond_false] at h;split at h
  ·rename_i t ht;obtain ⟨hc,h⟩:=z0c h;obtain ⟨m,h,ha⟩:=zbj h;obtain ⟨hb,h⟩:=z3d h;refine ⟨_,[(n,some (.row t m 1))],h,Dom.new,fun τ hle R' f'=>?_⟩;simp only [z6r,hbn,cond_false];rw [zuo hle ht];simp only [hc,cond_true];rw [ha τ hle,hb];rfl
  ·simp at h
 ·rename_i id ep;split at h
  ·rename_i t l e ho;obtain ⟨hc,h⟩:=z0c h;obtain ⟨m,h,ha⟩:=zbj h;obtain ⟨hb,h⟩:=z3d h;refine ⟨_,[(id,some (.row t (l++m) (e+1)))],h,Dom.old ho,fun τ hle R' f'=>?_⟩;simp only [z6r];rw [hle _ _ ho];simp only [hc,cond_true];rw [ha τ hle,hb];rfl
  ·simp at h
 ·rename_i id ep a b;split at h
  ·rename_i t l e ho;obtain ⟨hc,h⟩:=z0c h;obtain ⟨m,h,ha⟩:=zbj h;obtain ⟨hb,h⟩:=z3d h;refine ⟨_,[(id,some (.row t (sub l a b++m) (e+2)))],h,Dom.old ho,fun τ hle R' f'=>?_⟩;simp only [z6r];rw [hle _ _ ho];simp only [hc,cond_true];rw [ha τ hle,hb];rfl
  ·simp at h
 ·rename_i id ep;obtain ⟨v,ob,h,hd,ha⟩:=zhi (n:=n) h;refine ⟨v,ob,h,hd,fun τ hle R' f'=>?_⟩;simp only [z6r];exact ha τ hle R' f'
 ·rename_i id q p ep;split at h
  ·rename_i t l e i ho;obtain ⟨hc,h⟩:=z0c h;obtain ⟨U,X,h,hg⟩:=z4r _ _ _ h;split at h
   ·rename_i v l1;obtain ⟨hc2,h⟩:=z0c h;obtain ⟨m,h,ha⟩:=zbj h;obtain ⟨hb,h⟩:=z3d h;refine ⟨_,[(id,some (.nest t l e i (some (q :: p))))]++[(n,some (.row v (l1++m) 1))],h,Dom.append (Dom.old ho) Dom.new,fun τ hle R' f'=>?_⟩;simp only [z6r];rw [hle _ _ ho];simp only [hc,cond_true];rw [hg];simp only [hc2,cond_true];rw [ha τ hle,hb];rfl
   ·simp at h
  ·simp at h
 ·simp at h
theorem zmy {n:Nat} {lo:List Operand} {t:Ty}:{ps:List (Nat×Operand)}->{R:Type}->{σ:St}->{k:List t.den->St->Option R}->{r:R}->(∀ x∈ps,x.2∈lo)->zmz σ t ps k=some r->
  ∃ ds ob,k ds (putO ob σ)=some r∧Dom n σ ob∧∀ τ,z8v lo σ τ->OLe σ τ->∀ (R':Type) (k':List t.den->St->Option R'),zmz τ t ps k'=k' ds (putO ob τ)
 | [],_,σ,k,r,_,h=>⟨[],[],h,Dom.nil,fun _ _ _ _ _=>rfl⟩
 | (i,x) :: ps,_,σ,k,r,hm,h=>by
  simp only [zmz] at h;split at h
  ·rename_i a hx;obtain ⟨hc,h⟩:=z0c h;obtain ⟨d,ob,h,hd,ha⟩:=z62 (n:=n) _ _ _ h;obtain ⟨ds,oc,h,hd',hb⟩:=zmy (n:=n) (fun y hy=>hm y (by simp [hy])) h;refine ⟨d :: ds,ob++oc,by rw [z1k];exact h,hd.append hd',fun τ hs hle R' k'=>?_⟩;simp only [zmz];rw [z0t hs (hm (i,x) (by simp)),hx];simp only [hc,cond_true];rw [ha τ hle,hb (putO ob τ) (fun t ht=>by rw [za0,za0];exact hs t ht) (hle.putO ob),z1k]
  ·simp at h
theorem zc2 {σ:St}:(p:APat)->{R:Type}->(a:AVal)->{b:Bnd}->{k:p.den->Bnd->Option R}->{r:R}->z4h p=true->z2e σ p a b k=some r->
  ∃ d b',k d b'=some r∧∀ τ,OLe σ τ->∀ (R':Type) (k':p.den->Bnd->Option R'),z2e τ p a b k'=k' d b'
 | .un,_,.un,b,k,r,_,h=>⟨(),b,h,fun _ _ _ _=>rfl⟩
 | .pr (.val t) q,_,.pr x y,b,k,r,hp,h=>by
  simp only [z2e] at h ⊢;obtain ⟨d,h,ha⟩:=z3h _ _ _ h;obtain ⟨e,b',h,hb⟩:=zc2 q y (by simpa [z4h] using hp) h
  exact ⟨(d,e),b',h,fun τ hle R' k'=>by rw [ha τ hle];exact hb τ hle R' _⟩
 | .un,_,.data _ _,_,_,_,_,h | .un,_,.nilS,_,_,_,_,h | .un,_,.ref _ _ _,_,_,_,_,h | .un,_,.view _ _ _ _ _,_,_,_,_,h | .un,_,.bptr _ _,_,_,_,_,h | .un,_,.eptr _ _ _,_,_,_,_,h | .un,_,.mref _,_,_,_,_,h | .un,_,.nv _ _ _ _,_,_,_,_,h
 | .un,_,.clos _ _,_,_,_,_,h | .un,_,.agg _,_,_,_,_,h | .un,_,.tup _,_,_,_,_,h | .un,_,.pr _ _,_,_,_,_,h=>by simp [z2e] at h
 | .pr (.val _) _,_,.data _ _,_,_,_,_,h | .pr (.val _) _,_,.nilS,_,_,_,_,h | .pr (.val _) _,_,.ref _ _ _,_,_,_,_,h | .pr (.val _) _,_,.view _ _ _ _ _,_,_,_,_,h | .pr (.val _) _,_,.bptr _ _,_,_,_,_,h | .pr (.val _) _,_,.eptr _ _ _,_,_,_,_,h | .pr (.val _) _,_,.mref _,_,_,_,_,h | .pr (.val _) _,_,.nv _ _ _ _,_,_,_,_,h
 | .pr (.val _) _,_,.clos _ _,_,_,_,_,h | .pr (.val _) _,_,.agg _,_,_,_,_,h | .pr (.val _) _,_,.tup _,_,_,_,_,h | .pr (.val _) _,_,.un,_,_,_,_,h=>by simp [z2e] at h
 | .val _,_,_,_,_,_,hp,_ | .ref _,_,_,_,_,_,hp,_ | .bptr _,_,_,_,_,_,hp,_ | .clos _ _,_,_,_,_,_,hp,_ | .agg _,_,_,_,_,_,hp,_
 | .pr (.ref _) _,_,_,_,_,_,hp,_ | .pr (.bptr _) _,_,_,_,_,_,hp,_ | .pr (.clos _ _) _,_,_,_,_,_,hp,_ | .pr (.agg _) _,_,_,_,_,_,hp,_ | .pr (.pr _ _) _,_,_,_,_,_,hp,_ | .pr .un _,_,_,_,_,_,hp,_=>by simp [z4h] at hp
def zwe:Nat->List Obj->List (Nat×Option Obj)
 | _,[]=>[]
 | n,o :: os=>(n,some o) :: zwe (n+1) os
theorem z9q:(os:List Obj)->(n:Nat)->(σ:St)->σ.addObjs n os=putO (zwe n os) σ
 | [],_,_=>rfl
 | o :: os,n,σ=>by simp only [St.addObjs,zwe,putO];exact z9q os (n+1) _
theorem zn9 {m:Nat} {σ:St}:(os:List Obj)->(n:Nat)->m≤n->n+os.length≤m+8->Dom m σ (zwe n os)
 | [],_,_,_=>Dom.nil
 | o :: os,n,h1,h2=>by
  intro x hx;simp only [zwe,List.mem_cons] at hx;simp only [List.length_cons] at h2;rcases hx with rfl | hx
  ·exact .inr ⟨h1,by simp only;omega⟩
  ·exact zn9 os (n+1) (by omega) (by omega) x hx
theorem zp3 {n:Nat} {σ:St} {all:AVal} {p:APat} {res:List Ty} {F:p.den->Option (z33 res)} {f:AVal->St->Option R} {r:R} (h:z4w σ n all p res F f=some r) :
  ∃ v ob,f v (putO ob σ)=some r∧Dom n σ ob∧∀ τ,OLe σ τ->∀ (R':Type) (f':AVal->St->Option R'),z4w τ n all p res F f'=f' v (putO ob τ):=by
 unfold z4w at h;obtain ⟨hc,h⟩:=z0c h;have hp:z4h p=true:=by simp only [zA] at hc;exact hc.1.1
 obtain ⟨d,b,h,ha⟩:=zc2 p all hp h;obtain ⟨y,hy,h⟩:=Option.bind_eq_some_iff.1 h;obtain ⟨hl,h⟩:=z0c h;rw [z9q] at h;refine ⟨_,_,h,zn9 _ _ (Nat.le_refl _) (by have:=zL hl;omega),fun τ hle R' f'=>?_⟩;unfold z4w;rw [hc,cond_true,ha τ hle,hy];simp only [Option.bind_some,hl,cond_true,z9q]
theorem zy5 {c:Ctx} {n:Nat} {σ:St} {g args:AVal} {f:AVal->St->Option R} {r:R} (hp:∀ fid all,z5k g args=some (fid,all)->zmr (c.env fid)=true) (h:zi4 c σ n g args f=some r) :
  ∃ v ob,f v (putO ob σ)=some r∧Dom n σ ob∧∀ τ,OLe σ τ->∀ (R':Type) (f':AVal->St->Option R'),zi4 c τ n g args f'=f' v (putO ob τ):=by
 unfold zi4 at h;split at h
 ·rename_i fid all hco
  cases hpk:zbv all (c.env fid) with
  | none=>rw [hpk] at h;simp at h
  | some x=>
   obtain ⟨p,res,F,rfl⟩:=zis (hp fid all hco) hpk;rw [hpk] at h;obtain ⟨v,ob,h,hd,ha⟩:=zp3 h;refine ⟨v,ob,h,hd,fun τ hle R' f'=>?_⟩;unfold zi4;rw [hco];simp only;rw [hpk];exact ha τ hle R' f'
 ·simp at h
end Go.Kz
namespace Go.Kz
variable {R:Type}
structure Eff where
 sl:Option (Nat×AVal)
 ob:List (Nat×Option Obj)
def Eff.slot (e:Eff) (σ:St):St:=match e.sl with
 | some (d,v)=>σ.set d v
 | none=>σ
def Eff.app (e:Eff) (σ:St):St:=putO e.ob (e.slot σ)
structure Run (c:Ctx) (σ:St) (n:Nat) (o:Oper) (e:Eff):Prop where
 sl:∀ d v,e.sl=some (d,v)->o.dst=some d
 ob:Dom n σ e.ob
 eq:∀ τ,z8v o.op.operands.toList σ τ->OLe σ τ->∀ (R':Type) (k':St->Option R'),z1s c τ n o k'=k' (e.app τ)
 y:zb3 o=true->e.ob=[]
theorem zrt (d:Nat) (v:AVal):(l:List (Nat×Option Obj))->(σ:St)->(putO l σ).set d v=putO l (σ.set d v)
 | [],_=>rfl
 | (i,o) :: l,σ=>by simp only [putO];rw [zrt d v l];rfl
theorem zru {c:Ctx} {σ:St} {d:Option Nat} {v:AVal} {k:St->Option R} {r:R} (h:σ.putK c d v k=some r) :
  ∃ sl:Option (Nat×AVal),(∀ d' v',sl=some (d',v')->d=some d')∧k (Eff.slot ⟨sl,[]⟩ σ)=some r∧∀ (τ:St) (R':Type) (k':St->Option R'),τ.putK c d v k'=k' (Eff.slot ⟨sl,[]⟩ τ):=by
 cases d with
 | none=>exact ⟨none,by simp,h,fun _ _ _=>rfl⟩
 | some i=>
  simp only [St.putK] at h ⊢;obtain ⟨hb,h⟩:=z0c h;exact ⟨some (i,v),by simp,h,fun _ _ _=>by rw [hb];rfl⟩
theorem z21 {c:Ctx} {σ:St} {n:Nat} {o:Oper} {k:St->Option R} {r:R} {v:AVal} (h:σ.putK c o.dst v k=some r)
  (ha:∀ τ,z8v o.op.operands.toList σ τ->OLe σ τ->∀ (R':Type) (k':St->Option R'),z1s c τ n o k'=τ.putK c o.dst v k') :
  ∃ e:Eff,k (e.app σ)=some r∧Run c σ n o e:=by
 obtain ⟨sl,h1,h2,h3⟩:=zru h;exact ⟨⟨sl,[]⟩,h2,h1,Dom.nil,fun τ hs hle R' k'=>by rw [ha τ hs hle,h3];rfl,fun _=>rfl⟩
theorem z5u {c:Ctx} {σ:St} {n:Nat} {o:Oper} {k:St->Option R} {r:R} {v:AVal} {ob:List (Nat×Option Obj)} (hy:zb3 o=false) (hd:Dom n σ ob) (h:(putO ob σ).putK c o.dst v k=some r)
  (ha:∀ τ,z8v o.op.operands.toList σ τ->OLe σ τ->∀ (R':Type) (k':St->Option R'),z1s c τ n o k'=(putO ob τ).putK c o.dst v k') :
  ∃ e:Eff,k (e.app σ)=some r∧Run c σ n o e:=by
 obtain ⟨sl,h1,h2,h3⟩:=zru h;have e:∀ τ,Eff.slot ⟨sl,[]⟩ (putO ob τ)=Eff.app ⟨sl,ob⟩ τ:=by
  intro τ
  cases sl with
  | none=>rfl
  | some x=>exact zrt _ _ ob τ
 refine ⟨⟨sl,ob⟩,by rw [←e];exact h2,h1,hd,fun τ hs hle R' k'=>by rw [ha τ hs hle,h3,e],fun h=>?_⟩;rw [hy] at h;simp at h
theorem zt0 {l:List Operand} {σ τ:St} (h:z8v l σ τ) {x:Option Operand} (hx:∀ y,x=some y->y∈l):evI τ x=evI σ x:=by
 cases x with
 | none=>rfl
 | some y=>simp only [evI];rw [z0t h (hx y rfl)]
theorem za7 {l:List Operand} {σ τ:St} (h:z8v l σ τ):{u:Ty}->{i:Nat}->{m:List (Nat×Operand)}->(∀ x∈m,x.2∈l)->z7i τ u i m=z7i σ u i m
 | .unit,_,[],_=>rfl
 | .unit,_,_ :: _,_=>rfl
 | .pair a b,i,[],hm=>by simp only [z7i];rw [za7 h (u:=b) hm]
 | .pair a b,i,(j,x) :: m,hm=>by
  simp only [z7i]
  rw [za7 h (u:=b) hm,za7 h (u:=b) (m:=m) (fun y hy=>hm y (by simp [hy])),z0t h (hm (j,x) (by simp))]
 | .int _,_,_,_=>rfl
 | .bool,_,_,_=>rfl
 | .str,_,_,_=>rfl
 | .arr _ _,_,_,_=>rfl
 | .sl _ _,_,_,_=>rfl
 | .ptr _,_,_,_=>rfl
 | .fn _ _,_,_,_=>rfl
theorem zjz {t:Ty}:{a:AVal}->{f:List t.den->Option R}->{r:R}->z11 t a f=some r->∃ v,f v=some r∧∀ (R':Type) (f':List t.den->Option R'),z11 t a f'=f' v
 | .un,f,r,h=>⟨[],h,fun _ _=>rfl⟩
 | .pr (.data u d) c,f,r,h=>by
  simp only [z11] at h;obtain ⟨e,h,he⟩:=z36 h;obtain ⟨l,h,hl⟩:=zjz h
  exact ⟨e :: l,h,fun R' f'=>by simp only [z11];rw [he,hl]⟩
 | .pr (.nilS) _,_,_,h=>by simp [z11] at h
 | .pr (.ref _ _ _) _,_,_,h=>by simp [z11] at h
 | .pr (.view _ _ _ _ _) _,_,_,h=>by simp [z11] at h
 | .pr (.bptr _ _) _,_,_,h=>by simp [z11] at h
 | .pr (.eptr _ _ _) _,_,_,h=>by simp [z11] at h
 | .pr (.mref _) _,_,_,h=>by simp [z11] at h
 | .pr (.nv _ _ _ _) _,_,_,h=>by simp [z11] at h
 | .pr (.clos _ _) _,_,_,h=>by simp [z11] at h
 | .pr (.ifc _ _) _,_,_,h=>by simp [z11] at h
 | .pr (.agg _) _,_,_,h=>by simp [z11] at h
 | .pr (.tup _) _,_,_,h=>by simp [z11] at h
 | .pr (.pr _ _) _,_,_,h=>by simp [z11] at h
 | .pr .un _,_,_,h=>by simp [z11] at h
 | .data _ _,_,_,h=>by simp [z11] at h
 | .nilS,_,_,h=>by simp [z11] at h
 | .ref _ _ _,_,_,h=>by simp [z11] at h
 | .view _ _ _ _ _,_,_,h=>by simp [z11] at h
 | .bptr _ _,_,_,h=>by simp [z11] at h
 | .eptr _ _ _,_,_,h=>by simp [z11] at h
 | .mref _,_,_,h=>by simp [z11] at h
 | .nv _ _ _ _,_,_,h=>by simp [z11] at h
 | .clos _ _,_,_,h=>by simp [z11] at h
 | .ifc _ _,_,_,h=>by simp [z11] at h
 | .agg _,_,_,h=>by simp [z11] at h
 | .tup _,_,_,h=>by simp [z11] at h
theorem zx8 {n:Nat} {σ:St} {a:AVal} {u:Ty} {k:u.den->St->Option R} {r:R} (hu:ze2 u=true) (h:zi1 σ a u k=some r) :
  ∃ d ob,k d (putO ob σ)=some r∧Dom n σ ob∧∀ τ,OLe σ τ->∀ (R':Type) (k':u.den->St->Option R'),zi1 τ a u k'=k' d (putO ob τ):=by
 obtain ⟨t,v,rfl,hro1,hro2⟩:=zfx hu;obtain ⟨x,y,rfl,h1,h2,hx,h⟩:=zjc h;obtain ⟨d,ob1,h,hd1,ha1⟩:=z62 (n:=n) 20 x t h;obtain ⟨l,ob2,h,hd2,ha2⟩:=zgj (n:=n) h;refine ⟨(d,l,()),ob1++ob2,by rw [z1k];exact h,hd1.append hd2,fun τ hle R' k'=>?_⟩;simp only [zi1,hro1,hro2,hx,Bool.and_self,cond_true];rw [ha1 τ hle,ha2 _ (hle.putO ob1),z1k]
theorem zzz {c:Ctx} {σ:St} {n:Nat} {o:Oper} {k:St->Option R} {r:R} (hp:zhu c σ o=true) (h:z1s c σ n o k=some r):∃ e:Eff,k (e.app σ)=some r∧Run c σ n o e:=by
 unfold z1s at h;split at h
 ·-- move
  rename_i x hop;split at h
  ·rename_i a hx;exact z21 h fun τ hs _ R' k'=>by simp only [z1s,hop];rw [z0t hs (by rw [hop];simp [Op.operands]),hx]
  ·simp at h
 ·rename_i x hop;split at h
  ·rename_i a hx;exact z21 h fun τ hs _ R' k'=>by simp only [z1s,hop];rw [z0t hs (by rw [hop];simp [Op.operands]),hx]
  ·simp at h
 ·-- pick
  rename_i t x y hop;split at h
  ·rename_i b ht
   cases b with
   | true=>
    simp only [cond_true] at h;split at h
    ·rename_i a hx;exact z21 h fun τ hs _ R' k'=>by
      simp only [z1s,hop];rw [z0t hs (x:=t) (by rw [hop];simp [Op.operands]),ht,z0t hs (x:=x) (by rw [hop];simp [Op.operands]),hx];rfl
    ·simp at h
   | false=>
    simp only [cond_false] at h;split at h
    ·rename_i a hx;exact z21 h fun τ hs _ R' k'=>by
      simp only [z1s,hop];rw [z0t hs (x:=t) (by rw [hop];simp [Op.operands]),ht,z0t hs (x:=y) (by rw [hop];simp [Op.operands]),hx];rfl
    ·simp at h
  ·simp at h
 ·-- binOp
  rename_i op t x y z hop;split at h
  ·rename_i a b hx hy;obtain ⟨v,h,ha⟩:=binK_run h;exact z21 h fun τ hs hle R' k'=>by
    simp only [z1s,hop];rw [z0t hs (x:=x) (by rw [hop];simp [Op.operands]),hx,z0t hs (x:=y) (by rw [hop];simp [Op.operands]),hy];exact ha τ hle R' _
  ·simp at h
 ·-- unOp
  rename_i op t x hop;split at h
  ·rename_i a hx;obtain ⟨v,h,ha⟩:=unK_run h;exact z21 h fun τ hs hle R' k'=>by
    simp only [z1s,hop];rw [z0t hs (x:=x) (by rw [hop];simp [Op.operands]),hx];exact ha R' _
  ·simp at h
 ·-- convert
  rename_i t t' x hop;split at h
  ·rename_i kj j ks kd hx ht ht';exact z21 h fun τ hs _ R' k'=>by simp only [z1s,hop];rw [z0t hs (by rw [hop];simp [Op.operands]),hx,ht,ht']
  ·simp at h
 ·-- indexAddr
  rename_i t x i hop;split at h
  ·rename_i a kd j u hx hi ht;obtain ⟨v,h,ha⟩:=zug h;exact z21 h fun τ hs hle R' k'=>by
    simp only [z1s,hop];rw [z0t hs (x:=x) (by rw [hop];simp [Op.operands]),hx,z0t hs (x:=i) (by rw [hop];simp [Op.operands]),hi,ht];exact ha τ hle R' _
  ·simp at h
 ·-- fieldAddr
  rename_i t x i hop;split at h
  ·rename_i a u hx ht;obtain ⟨v,h,ha⟩:=zuk h;exact z21 h fun τ hs hle R' k'=>by
    simp only [z1s,hop];rw [z0t hs (x:=x) (by rw [hop];simp [Op.operands]),hx,ht];exact ha τ hle R' _
  ·simp at h
 ·-- index
  rename_i t x i hop;split at h
  ·rename_i nn t' l kd j m u hx hi ht;obtain ⟨hc,h⟩:=z0c h;obtain ⟨d,hd,h⟩:=Option.bind_eq_some_iff.1 h;exact z21 h fun τ hs hle R' k'=>by
    simp only [z1s,hop];rw [z0t hs (x:=x) (by rw [hop];simp [Op.operands]),hx,z0t hs (x:=i) (by rw [hop];simp [Op.operands]),hi,ht];simp only [hc,cond_true,hd,Option.bind_some]
  ·simp at h
 ·-- field
  rename_i t x i hop;split at h
  ·rename_i a u hx ht;obtain ⟨hc,h⟩:=z0c h;obtain ⟨v,h,ha⟩:=zl9 h;obtain ⟨hc2,h⟩:=z0c h;exact z21 h fun τ hs hle R' k'=>by
    simp only [z1s,hop];rw [z0t hs (x:=x) (by rw [hop];simp [Op.operands]),hx,ht];simp only [hc,cond_true];rw [ha];simp only [hc2,cond_true]
  ·simp at h
 ·-- nilCheck
  rename_i x hop;split at h
  ·rename_i a hx;obtain ⟨hc,h⟩:=z0c h;exact z21 h fun τ hs hle R' k'=>by
    simp only [z1s,hop];rw [z0t hs (x:=x) (by rw [hop];simp [Op.operands]),hx];simp only [zx5 hle hc,cond_true]
  ·simp at h
 ·-- load
  rename_i t x hop;split at h
  ·rename_i a u hx ht;obtain ⟨v,h,ha⟩:=zwo h;obtain ⟨hc,h⟩:=z0c h;exact z21 h fun τ hs hle R' k'=>by
    simp only [z1s,hop];rw [z0t hs (x:=x) (by rw [hop];simp [Op.operands]),hx,ht];simp only;rw [ha τ hle];simp only [hc,cond_true]
  ·simp at h
 ·-- store
  rename_i t x y hop;split at h
  ·rename_i a b u hx hy ht hdst;obtain ⟨hc,h⟩:=z0c h;obtain ⟨ob,h,hd,ha⟩:=ztt (n:=n) h;refine ⟨⟨none,ob⟩,h,by simp,hd,fun τ hs hle R' k'=>?_,fun hy=>?_⟩
   ·simp only [z1s,hop];rw [z0t hs (x:=x) (by rw [hop];simp [Op.operands]),hx,z0t hs (x:=y) (by rw [hop];simp [Op.operands]),hy,ht,hdst];simp only [hc,cond_true];exact ha τ hle R' k'
   ·simp [zb3,hop] at hy
  ·simp at h
 ·-- extract
  rename_i x i hop;split at h
  ·rename_i a hx;split at h
   ·rename_i v hv;exact z21 h fun τ hs hle R' k'=>by
     simp only [z1s,hop];rw [z0t hs (x:=x) (by rw [hop];simp [Op.operands]),hx];simp only [hv]
   ·simp at h
  ·simp at h
 ·-- alloc
  rename_i t hop;split at h
  ·rename_i z hz;refine z5u (v:=.bptr n []) (ob:=[(n,some (.cell z))]) (by simp [zb3,hop]) Dom.new (k:=k) ?_ fun τ hs hle R' k'=>?_
   ·cases hdst:o.dst with
    | none=>rw [hdst] at h;exact h
    | some i=>rw [hdst] at h;exact h
   ·simp only [z1s,hop];rw [hz];cases o.dst <;> rfl
  ·simp at h
 ·-- box
  rename_i t x hop;split at h
  ·rename_i a hx;obtain ⟨hc,h⟩:=z0c h;refine z5u (v:=.bptr n []) (ob:=[(n,some (.cell a))]) (by simp [zb3,hop]) Dom.new (k:=k) ?_ fun τ hs hle R' k'=>?_
   ·cases hdst:o.dst with
    | none=>rw [hdst] at h;exact h
    | some i=>rw [hdst] at h;exact h
   ·simp only [z1s,hop];rw [z0t hs (x:=x) (by rw [hop];simp [Op.operands]),hx];simp only [hc,cond_true];cases o.dst <;> rfl
  ·simp at h
 ·-- makeFunc
  rename_i f first cap hop;split at h
  ·rename_i hf;split at h
   ·rename_i a ha;obtain ⟨hc,h⟩:=z0c h;exact z21 h fun τ hs hle R' k'=>by
     simp only [z1s,hop,hf];rw [za9 hs (m:=cap.toList) (fun x hx=>by rw [hop];simp only [Op.operands,Array.toList_append,List.mem_append];exact .inr hx),ha];simp only [hc,cond_true]
   ·simp at h
  ·simp at h
 ·-- makeSlice
  rename_i t len cap hop;split at h
  ·rename_i ow u htf;split at h
   ·rename_i z k1 l k2 m hz hl hm
    cases hu:u.isRo with
    | false=>
     rw [hu,cond_false] at h;obtain ⟨hc,h⟩:=z0c h;obtain ⟨hb,h⟩:=z3d h;refine z5u (v:=.nv false n [] 0) (ob:=[(n,some (.nest u (List.replicate l.toNat z) 0 0 none))]) (by simp [zb3,hop]) Dom.new (k:=k) ?_ fun τ hs hle R' k'=>?_
     ·cases hdst:o.dst with
      | none=>rw [hdst] at h;exact h
      | some i=>rw [hdst] at h;exact h
     ·simp only [z1s,hop,htf];rw [hz,z0t hs (x:=len) (by rw [hop];simp [Op.operands]),hl,z0t hs (x:=cap) (by rw [hop];simp [Op.operands]),hm];simp only [hu,cond_false,hc,cond_true,hb,chk]
      cases o.dst <;> rfl
    | true=>
    rw [hu,cond_true] at h;have hc:=hu;obtain ⟨hb,h⟩:=z3d h;refine z5u (v:=.ref n [] 0) (ob:=[(n,some (.row u (List.replicate l.toNat z) 0))]) (by simp [zb3,hop]) Dom.new (k:=k) ?_ fun τ hs hle R' k'=>?_
    ·cases hdst:o.dst with
     | none=>rw [hdst] at h;exact h
     | some i=>rw [hdst] at h;exact h
    ·simp only [z1s,hop,htf];rw [hz,z0t hs (x:=len) (by rw [hop];simp [Op.operands]),hl,z0t hs (x:=cap) (by rw [hop];simp [Op.operands]),hm];simp only [hc,cond_true,hb,chk];cases o.dst <;> rfl
   ·simp at h
  ·simp at h
 ·-- build
  rename_i t ps hop;split at h
  ·rename_i x y ht;split at h
   ·rename_i a ha;obtain ⟨hc,h⟩:=z0c h;exact z21 h fun τ hs hle R' k'=>by
     simp only [z1s,hop,ht];rw [za7 hs (fun x hx=>by rw [hop];simp only [Op.operands];exact List.mem_map.2 ⟨x,hx,rfl⟩),ha];simp only [hc,cond_true]
   ·simp at h
  ·rename_i n u ht;split at h
   ·rename_i a ha;obtain ⟨hc,h⟩:=z0c h;obtain ⟨v,h,hv⟩:=zjz h;exact z21 h fun τ hs hle R' k'=>by
     simp only [z1s,hop,ht];rw [za9 hs (m:=ps.toList.map (·.2)) (fun x hx=>by rw [hop];simp only [Op.operands];exact hx),ha];simp only [hc,cond_true];rw [hv]
   ·simp at h
  ·simp at h
 ·-- buildSlice
  rename_i t len ps hop;split at h
  ·rename_i ow u htf
   cases hc:(u.isRo && z8j 0 ps.toList && Nat.beq ps.toList.length len && Nat.ble (len*u.size) 100000) with
   | false=>
    rw [hc] at h;simp only [cond_false] at h;have hc2:=(z0c h).1;replace h:=(z0c h).2;have hu:ze2 u=true:=by simp only [zA] at hc2;exact hc2.1
    have huse:∀ τ (R':Type) (k':St->Option R'),z1s c τ n o k'=zqg c τ n o.dst u len ps.toList k':=fun τ R' k'=>by
     simp only [z1s,hop,htf];simp only [hc,cond_false,hc2,cond_true]
    unfold zqg at h;split at h
    ·rename_i hps;refine z5u (v:=.nv false n [] 0) (ob:=[(n,some (.nest u [] 0 0 none))]) (by simp [zb3,hop]) Dom.new (k:=k) h fun τ hs hle R' k'=>?_
     rw [huse,hps];rfl
    ·rename_i x hps;split at h
     ·rename_i av hav;obtain ⟨d,ob,h,hd,ha⟩:=zx8 (n:=n) hu h;refine z5u (v:=.nv false n [] 0) (ob:=ob++[(n,some (.nest u [d] 0 0 none))]) (by simp [zb3,hop]) (hd.append Dom.new) (k:=k) (by rw [z1k];exact h) fun τ hs hle R' k'=>?_
      rw [huse,hps,z1k];simp only [zqg];rw [z0t hs (x:=x) (by rw [hop];simp only [Op.operands];exact List.mem_map.2 ⟨(0,x),by rw [hps];simp,rfl⟩),hav];simp only;rw [ha τ hle];rfl
     ·simp at h
    ·simp at h
   | true=>
   rw [hc] at h;simp only [cond_true] at h;obtain ⟨ds,ob,h,hd,ha⟩:=zmy (n:=n) (lo:=o.op.operands.toList) (fun x hx=>by rw [hop];simp only [Op.operands];exact List.mem_map.2 ⟨x,hx,rfl⟩) h
   cases hfz:froz c o.dst with
   | true=>
    rw [hfz,cond_true] at h;refine z5u (v:=.data (.sl false u) ds) (ob:=ob) (by simp [zb3,hop]) hd (k:=k) ?_ fun τ hs hle R' k'=>?_
    ·cases hdst:o.dst with
     | none=>rw [hdst] at h;exact h
     | some i=>rw [hdst] at h;exact h
    ·simp only [z1s,hop,htf];simp only [hc,cond_true];rw [ha τ hs hle];simp only [hfz,cond_true]
     try (cases o.dst <;> rfl)
   | false=>
   rw [hfz,cond_false] at h;refine z5u (v:=.ref n [] 0) (ob:=ob++[(n,some (.row u ds 0))]) (by simp [zb3,hop]) (hd.append Dom.new) (k:=k) ?_ fun τ hs hle R' k'=>?_
   ·rw [z1k]
    cases hdst:o.dst with
    | none=>rw [hdst] at h;exact h
    | some i=>rw [hdst] at h;exact h
   ·simp only [z1s,hop,htf];simp only [hc,cond_true];rw [ha τ hs hle,z1k];simp only [hfz,cond_false];cases o.dst <;> rfl
  ·simp at h
 ·-- makeMap
  rename_i t hop;simp [zhu,hop] at hp
 ·-- lookup
  rename_i t x i ok hop;split at h
  ·rename_i a b hx hi;obtain ⟨id,kt,vt,m,_,h,ha⟩:=zsb h;obtain ⟨hc,h⟩:=z0c h;obtain ⟨key,h,hb⟩:=z3h _ _ _ h;split at h
   ·rename_i z hz
    cases ok with
    | true=>
     simp only [cond_true] at h;exact z21 h fun τ hs hle R' k'=>by
      simp only [z1s,hop];rw [z0t hs (x:=x) (by rw [hop];simp [Op.operands]),hx,z0t hs (x:=i) (by rw [hop];simp [Op.operands]),hi];simp only;rw [ha τ hle];simp only [hc,cond_true];rw [hb τ hle]
      simp only [hz]
    | false=>
     simp only [cond_false] at h;exact z21 h fun τ hs hle R' k'=>by
      simp only [z1s,hop];rw [z0t hs (x:=x) (by rw [hop];simp [Op.operands]),hx,z0t hs (x:=i) (by rw [hop];simp [Op.operands]),hi];simp only;rw [ha τ hle];simp only [hc,cond_true];rw [hb τ hle];simp only [hz,cond_false]
   ·simp at h
  ·simp at h
 ·-- mapUpdate
  rename_i t x i y hop;simp [zhu,hop] at hp
 ·-- slice
  rename_i t x lo hi hop;split at h
  ·rename_i a ow u lo' hi' hx ht hlo hhi;obtain ⟨v,h,ha⟩:=ztw h;exact z21 h fun τ hs hle R' k'=>by
    simp only [z1s,hop];rw [z0t hs (x:=x) (by rw [hop];simp [Op.operands]),hx,ht,zt0 hs (x:=lo) (fun y hy=>by rw [hop,hy];simp [Op.operands]),hlo,zt0 hs (x:=hi) (fun y hy=>by rw [hop,hy];simp [Op.operands]),hhi];exact ha τ hle R' _
  ·simp at h
 ·-- slice,its z3e cut
  rename_i t x hi mx hop;split at h
  ·rename_i id ep k1 h1 k2 m ow u hx hhi hmx ht;split at h
   ·rename_i t' l e ho;obtain ⟨hc,h⟩:=z0c h;obtain ⟨hb,h⟩:=z3d h;refine z5u (v:=.ref id [] (e+1)) (ob:=[(id,some (.row t' (sub l 0 h1) (e+1)))]) (by simp [zb3,hop]) (Dom.old ho) (k:=k) ?_ fun τ hs hle R' k'=>?_
    ·cases hdst:o.dst with
     | none=>rw [hdst] at h;exact h
     | some i=>rw [hdst] at h;exact h
    ·simp only [z1s,hop];rw [z0t hs (x:=x) (by rw [hop];simp [Op.operands]),hx,z0t hs (x:=hi) (by rw [hop];simp [Op.operands]),hhi,z0t hs (x:=mx) (by rw [hop];simp [Op.operands]),hmx,ht];simp only;rw [hle _ _ ho];simp only [hc,cond_true,hb,chk];cases o.dst <;> rfl
   ·simp at h
  ·simp at h
 ·-- len
  rename_i args ts hop;split at h
  ·rename_i x t hargs hts;have hx':x∈o.op.operands.toList:=by rw [hop];simp [Op.operands,Call.operands,hargs]
   split at h
   ·rename_i a ow u hx ht;obtain ⟨v,h,ha⟩:=lenK_run h;exact z21 h fun τ hs hle R' k'=>by
     simp only [z1s,hop,hargs,hts];rw [z0t hs hx',hx,ht];exact ha τ hle R' _
   ·rename_i a hx ht;obtain ⟨id,kt,vt,m,_,h,ha⟩:=zsb h;obtain ⟨hb,h⟩:=z3d h;exact z21 h fun τ hs hle R' k'=>by
     simp only [z1s,hop,hargs,hts];rw [z0t hs hx',hx]
     cases htt:c.tt t with
     | none=>
      simp only;rw [ha τ hle]
      simp only [hb,chk,cond_true]
     | some u=>
      cases u with
      | sl ow u=>exact (ht ow u htt).elim
      | _=>
       simp only;rw [ha τ hle];simp only [hb,chk,cond_true]
   ·simp at h
  ·simp at h
 ·-- max
  rename_i args ts hop;split at h
  ·rename_i kd x rest hx;obtain ⟨v,h,ha⟩:=z9g h;exact z21 h fun τ hs hle R' k'=>by
    simp only [z1s,hop];rw [za9 hs (m:=args.toList) (fun x hx=>by rw [hop];simp [Op.operands,Call.operands];simpa using hx),hx];exact ha R' _
  ·simp at h
 ·-- min
  rename_i args ts hop;split at h
  ·rename_i kd x rest hx;obtain ⟨v,h,ha⟩:=z9g h;exact z21 h fun τ hs hle R' k'=>by
    simp only [z1s,hop];rw [za9 hs (m:=args.toList) (fun x hx=>by rw [hop];simp [Op.operands,Call.operands];simpa using hx),hx];exact ha R' _
  ·simp at h
 ·-- append
  rename_i args ts hop;split at h
  ·rename_i x y t t' hargs hts;split at h
   ·rename_i a b ow u hx hy ht;obtain ⟨hc,h⟩:=z0c h;obtain ⟨v,ob,h,hd,ha⟩:=zr6 h;refine z5u (by simp [zb3,hop]) hd h fun τ hs hle R' k'=>?_
    simp only [z1s,hop,hargs,hts];rw [z0t hs (x:=x) (by rw [hop];simp [Op.operands,Call.operands,hargs]),hx,z0t hs (x:=y) (by rw [hop];simp [Op.operands,Call.operands,hargs]),hy,ht];simp only [hc,cond_true];exact ha τ hle R' _
   ·simp at h
  ·simp at h
 ·-- clear
  rename_i args ts hop;split at h
  ·rename_i x t hargs hts;split at h
   ·rename_i id ep av bv ow u hx ht;split at h
    ·rename_i t' l e ho;obtain ⟨hc,h⟩:=z0c h;split at h
     ·rename_i z hz;refine z5u (v:=.tup .un) (ob:=[(id,some (.row t' (z82 z l av bv) e))]) (by simp [zb3,hop]) (Dom.old ho) (k:=k) ?_ fun τ hs hle R' k'=>?_
      ·cases hdst:o.dst with
       | none=>rw [hdst] at h;exact h
       | some i=>rw [hdst] at h;exact h
      ·simp only [z1s,hop,hargs,hts];rw [z0t hs (x:=x) (by rw [hop];simp [Op.operands,Call.operands,hargs]),hx,ht];simp only;rw [hle _ _ ho];simp only [hc,cond_true,hz];cases o.dst <;> rfl
     ·simp at h
    ·simp at h
   ·simp at h
  ·simp at h
 ·-- copy
  rename_i args ts hop;simp [zhu,hop] at hp
 ·-- call
  rename_i g args ts hop;split at h
  ·rename_i gv av hg hav;have hpc:∀ fid all,z5k gv av=some (fid,all)->zmr (c.env fid)=true:=by
    intro fid all hco;simp only [zhu,hop] at hp;rw [zr2 hg hco] at hp;exact hp
   obtain ⟨v,ob,h,hd,ha⟩:=zy5 hpc h;refine z5u (by simp [zb3,hop]) hd h fun τ hs hle R' k'=>?_
   simp only [z1s,hop];rw [z0t hs (x:=g) (by rw [hop];simp [Op.operands,Call.operands]),hg,za9 hs (m:=args.toList) (fun x hx=>by rw [hop];simp [Op.operands,Call.operands];right;simpa using hx),hav];exact ha τ hle R' _
  ·simp at h
 ·-- invoke
  rename_i x nm args ts hop;simp [zhu,hop] at hp
 ·-- makeInterface
  rename_i t x hop;split at h
  ·rename_i a hx;obtain ⟨hc,h⟩:=z0c h;exact z21 h fun τ hs _ R' k'=>by
    simp only [z1s,hop];rw [z0t hs (x:=x) (by rw [hop];simp [Op.operands]),hx];simp only [hc,cond_true]
  ·simp at h
 ·-- typeAssert
  rename_i x xt t ok hop;split at h
  ·rename_i u a hx;obtain ⟨hc,h⟩:=z0c h
   cases ok with
   | true=>
    simp only [cond_true] at h;exact z21 h fun τ hs _ R' k'=>by
     simp only [z1s,hop];rw [z0t hs (x:=x) (by rw [hop];simp [Op.operands]),hx]
     simp only [hc,cond_true]
   | false=>
    simp only [cond_false] at h;exact z21 h fun τ hs _ R' k'=>by
     simp only [z1s,hop];rw [z0t hs (x:=x) (by rw [hop];simp [Op.operands]),hx];simp only [hc,cond_true,cond_false]
  ·simp at h
 ·simp at h
end Go.Kz
namespace Go.Kz
variable {R:Type}
structure Ent where
 i:Nat
 o:Oper
 F:List Nat
 e:Eff
structure Good (base:Nat) (t:Ent):Prop where
 guard:t.o.guard=none
 junk:zgc t.o=false
 sl:∀ d v,t.e.sl=some (d,v)->t.o.dst=some d
 ob:∀ x∈t.e.ob,inF base t.i t.F x.1=true
 y:zb3 t.o=true->t.e.ob=[]
def Loc (c:Ctx) (base:Nat) (t:Ent) (σ:St):Prop:=
 ∀ τ,z8v t.o.op.operands.toList σ τ->(∀ id,inF base t.i t.F id=true->τ.objs id=σ.objs id)->∀ (R':Type) (k':St->Option R'),z1s c τ (base+8*t.i) t.o k'=k' (t.e.app τ)
def Tr (c:Ctx) (base:Nat):List Ent->St->St->Prop
 | [],σ,σE=>σ=σE
 | t :: T,σ,σE=>Loc c base t σ∧Tr c base T (t.e.app σ) σE
abbrev Ind (base:Nat) (dst:Nat->Option Nat) (s t:Ent):Prop:=zwz base dst s.i s.o s.F t.i t.o t.F=true
theorem Loc.cong {c:Ctx} {base:Nat} {t:Ent} {σ σ':St} (h:Loc c base t σ) (hs:z8v t.o.op.operands.toList σ σ') (ho:∀ id,inF base t.i t.F id=true->σ'.objs id=σ.objs id):Loc c base t σ':=
 fun τ h1 h2=>h τ (fun x hx=>(h1 x hx).trans (hs x hx)) (fun id hid=>(h2 id hid).trans (ho id hid))
theorem Eff.slot_objs (e:Eff) (σ:St):(e.slot σ).objs=σ.objs:=by unfold Eff.slot;split <;> rfl
theorem Eff.slot_next (e:Eff) (σ:St):(e.slot σ).next=σ.next:=by unfold Eff.slot;split <;> rfl
theorem Eff.app_off {e:Eff} {σ:St} {i:Nat} (h:i∉e.ob.map Prod.fst):(e.app σ).objs i=σ.objs i:=by
 unfold Eff.app;rw [zbs _ _ h,Eff.slot_objs]
theorem Eff.app_slots (e:Eff) (σ:St):(e.app σ).slots=(e.slot σ).slots:=za0 _ _
theorem Eff.app_next (e:Eff) (σ:St):(e.app σ).next=σ.next:=by
 unfold Eff.app;rw [zmq,Eff.slot_next]
theorem run_loc {c:Ctx} {base:Nat} {i:Nat} {o:Oper} {F:List Nat} {e:Eff} {σ:St} (h:Run c (σ.only (inF base i F)) (base+8*i) o e):Loc c base ⟨i,o,F,e⟩ σ:=by
 intro τ hs ho R' k';refine h.eq τ hs (fun id x hx=>?_) R' k';simp only [St.only] at hx
 cases hp:inF base i F id with
 | false=>rw [hp] at hx;simp at hx
 | true=>rw [hp] at hx;rw [ho id hp];exact hx
theorem zx1 {base i:Nat} {F:List Nat} {x:Nat} (h:base+8*i≤x∧x < base+8*i+8):inF base i F x=true:=by
 have h1:Nat.ble (base+8*i) x=true:=Nat.ble_eq_true_of_le h.1;have h2:Nat.blt x (base+8*i+8)=true:=Nat.ble_eq_true_of_le h.2;simp only [inF,h1,h2,Bool.and_self,Bool.or_true]
theorem zl8 {base i:Nat} {F:List Nat} {x:Nat}:inF base i F x=true↔x∈F∨(base+8*i≤x∧x < base+8*i+8):=by
 simp only [inF,Bool.or_eq_true,zA,z27];refine or_congr Iff.rfl (and_congr ⟨fun h=>zL h,fun h=>Nat.ble_eq_true_of_le h⟩ ⟨fun h=>zL h,fun h=>Nat.ble_eq_true_of_le h⟩)
theorem run_ob {c:Ctx} {base:Nat} {i:Nat} {o:Oper} {F:List Nat} {e:Eff} {σ:St} (h:Run c (σ.only (inF base i F)) (base+8*i) o e):∀ x∈e.ob,inF base i F x.1=true:=by
 intro x hx;rcases h.ob x hx with ⟨y,hy⟩ | h2
 ·simp only [St.only] at hy
  cases hp:inF base i F x.1 with
  | false=>rw [hp] at hy;simp at hy
  | true=>rfl
 ·exact zx1 h2
theorem over_eq {p:Nat->Bool} {e:Eff} {σ:St} (h:∀ x∈e.ob,p x.1=true):σ.over (e.app (σ.only p)) p=e.app σ:=by
 refine St.ext' ?_ ?_ ?_
 ·simp only [St.over,Eff.app_slots];unfold Eff.slot;split <;> rfl
 ·funext i;simp only [St.over]
  cases hp:p i with
  | true=>
   simp only [cond_true];by_cases hm:i∈e.ob.map Prod.fst
   ·exact zkl _ _ _ hm
   ·rw [Eff.app_off hm,Eff.app_off hm]
    simp only [St.only,hp,cond_true]
  | false=>
   simp only [cond_false];rw [Eff.app_off];intro hm;obtain ⟨x,hx,he⟩:=List.mem_map.1 hm;have:=h x hx;rw [he,hp] at this;simp at this
 ·exact (Eff.app_next e σ).symm
theorem zu1 {c:Ctx} {σ:St} {p:Nat->Bool} {o:Oper} (h:zhu c σ o=true):zhu c (σ.only p) o=true:=by
 have he:∀ x,ev (σ.only p) x=ev σ x:=fun x=>z0t (l:=[x]) (fun _ _=>rfl) (by simp)
 have hc:∀ x,z8p (σ.only p) x=z8p σ x:=fun x=>by unfold z8p;rw [he]
 unfold zhu at h ⊢;simp only [hc];exact h
theorem zs2 {base:Nat} {dst:Nat->Option Nat} {j:Nat} {p:Oper} {G:List Nat}:{acc:GAcc}->okAcc base dst j p G acc=true->∀ a∈acc,j∈a.2.2∨zwz base dst a.1.1 a.1.2 a.2.1 j p G=true
 | [],_,a,ha=>by simp at ha
 | ((i,o),F,lat) :: l,h,a,ha=>by
  simp only [okAcc,zA,Bool.or_eq_true,z27] at h;rcases List.mem_cons.1 ha with rfl | ha
  ·exact h.1
  ·exact zs2 h.2 a ha
theorem zxb {c:Ctx} {base:Nat} {dst:Nat->Option Nat} {all:List (Nat×Oper)}:(B:List (Nat×Oper))->{acc:GAcc}->{σ:St}->{k:St->Option R}->{r:R}->zrv B=true->genK c base dst all B acc σ k=some r->
  ∃ T σE,T.map (fun t:Ent=>(t.i,t.o))=B∧Tr c base T σ σE∧k σE=some r∧(∀ t∈T,Good base t)∧(∀ t∈T,∀ a∈acc,t.i∈a.2.2∨zwz base dst a.1.1 a.1.2 a.2.1 t.i t.o t.F=true)∧
   T.Pairwise fun s t=>t.i∈z3b s.i all []∨Ind base dst s t
 | [],acc,σ,k,r,_,h=>⟨[],σ,rfl,rfl,h,by simp,by simp,List.Pairwise.nil⟩
 | (i,o) :: B,acc,σ,k,r,hp,h=>by
  simp only [zrv,zA,Bool.not_eq_true'] at hp;simp only [genK] at h;obtain ⟨hc,h⟩:=z0c h;simp only [zA] at hc;obtain ⟨e,h,hrun⟩:=zzz (zu1 hc.1) h;have hob:=run_ob hrun;rw [over_eq hob] at h;obtain ⟨T,σE,h1,h2,h3,h4,h5,h6⟩:=zxb B hp.2 h;refine ⟨⟨i,o,zxc σ o,e⟩ :: T,σE,by simp [h1],⟨run_loc hrun,h2⟩,h3,?_,?_,?_⟩
  ·intro t ht;rcases List.mem_cons.1 ht with rfl | ht
   ·refine ⟨?_,hp.1.2,hrun.sl,hob,hrun.y⟩;have:=hp.1.1
    cases hg:o.guard with
    | none=>rfl
    | some g=>rw [hg] at this;simp at this
   ·exact h4 t ht
  ·intro t ht a ha;rcases List.mem_cons.1 ht with rfl | ht
   ·exact zs2 hc.2 a ha
   ·exact h5 t ht a (by simp [ha])
  ·refine List.pairwise_cons.2 ⟨fun t ht=>?_,h6⟩;exact h5 t ht _ (List.mem_cons_self ..)
theorem zqa {base i:Nat}:{l:List Nat}->outR base i l=true->∀ x∈l,¬ (base+8*i≤x∧x < base+8*i+8)
 | [],_,x,hx=>by simp at hx
 | y :: l,h,x,hx=>by
  simp only [outR,zA,Bool.not_eq_true'] at h;rcases List.mem_cons.1 hx with rfl | hx
  ·intro hr;have h1:Nat.ble (base+8*i) x=true:=Nat.ble_eq_true_of_le hr.1;have h2:Nat.blt x (base+8*i+8)=true:=Nat.ble_eq_true_of_le hr.2;rw [h1,h2] at h;simp at h
  ·exact zqa h.2 x hx
structure Apart (base:Nat) (dst:Nat->Option Nat) (s t:Ent):Prop where
 ne:s.i≠t.i
 ap:ze7 dst s.o t.o=true
 st:∀ x∈s.e.ob,inF base t.i t.F x.1=false
 ts:∀ x∈t.e.ob,inF base s.i s.F x.1=false
theorem zx0 {base:Nat} {dst:Nat->Option Nat} {s t:Ent} (hs:Good base s) (ht:Good base t) (h:Ind base dst s t):Apart base dst s t:=by
 unfold Ind zwz at h;simp only [zA,Bool.or_eq_true,Bool.not_eq_true'] at h;obtain ⟨⟨⟨⟨h1,h2⟩,h3⟩,h4⟩,h5⟩:=h;have hne:s.i≠t.i:=by
  intro he;rw [he,Nat.beq_refl] at h1;simp at h1
 have h4':=zqa h4;have h5':=zqa h5;have fl:∀ {b:Bool},(b=true->False)->b=false:=fun {b} h=>by cases b;rfl;exact (h rfl).elim
 refine ⟨hne,h2,fun x hx=>fl fun hin=>?_,fun x hx=>fl fun hin=>?_⟩
 ·rcases h3 with ⟨hy,_⟩ | hno
  ·rw [hs.y hy] at hx;simp at hx
  ·rw [z5d] at hno;rcases zl8.1 (hs.ob x hx) with h | h <;> rcases zl8.1 hin with h' | h'
   ·exact hno _ h h'
   ·exact h5' _ h h'
   ·exact h4' _ h' h
   ·omega
 ·rcases h3 with ⟨_,hy⟩ | hno
  ·rw [ht.y hy] at hx;simp at hx
  ·rw [z5d] at hno;rcases zl8.1 (ht.ob x hx) with h | h <;> rcases zl8.1 hin with h' | h'
   ·exact hno _ h' h
   ·exact h4' _ h h'
   ·exact h5' _ h' h
   ·omega
theorem zhk {dst:Nat->Option Nat} {x y:Oper} (h:ze7 dst x y=true) :
  (∀ d,x.dst=some d->(.tmp d)∉y.op.operands.toList)∧(∀ d,y.dst=some d->(.tmp d)∉x.op.operands.toList)∧∀ d,x.dst=some d->y.dst≠some d:=by
 unfold ze7 at h;simp only [zA] at h;obtain ⟨h1,h2⟩:=h;refine ⟨fun d hd hm=>?_,fun d hd hm=>?_,fun d hd he=>?_⟩
 ·rw [hd] at h1;simp only [zA,Bool.not_eq_true',zg4,Bool.or_eq_false_iff] at h1;rw [z10] at h1;exact h1.1.1 (zbi.2 hm)
 ·rw [hd] at h2;simp only [Bool.not_eq_true',zg4,Bool.or_eq_false_iff] at h2;rw [z10] at h2;exact h2.1 (zbi.2 hm)
 ·rw [hd,he] at h1;simp [Nat.beq_refl] at h1
theorem zrl {base:Nat} {s:Ent} {l:List Operand} (hs:Good base s) (h:∀ d,s.o.dst=some d->(.tmp d)∉l) (σ:St):z8v l σ (s.e.app σ):=by
 intro x hx;rw [Eff.app_slots];unfold Eff.slot;split
 ·rename_i d v hsl;simp only [St.set,upd];have hb:Nat.beq x d=false:=by
   cases hb:Nat.beq x d with
   | false=>rfl
   | true=>
    have he:=zE hb;subst he;exact absurd hx (h x (hs.sl x v hsl))
  rw [hb];rfl
 ·rfl
theorem zs4 {base i:Nat} {F:List Nat} {s:Ent} (h:∀ x∈s.e.ob,inF base i F x.1=false) (σ:St):∀ id,inF base i F id=true->(s.e.app σ).objs id=σ.objs id:=by
 intro id hid;refine Eff.app_off fun hm=>?_
 obtain ⟨x,hx,he⟩:=List.mem_map.1 hm;have:=h x hx;rw [he,hid] at this;simp at this
theorem app_comm {base:Nat} {dst:Nat->Option Nat} {s t:Ent} (hs:Good base s) (ht:Good base t) (h:Apart base dst s t) (σ:St):t.e.app (s.e.app σ)=s.e.app (t.e.app σ):=by
 have hno:∀ i,i∈s.e.ob.map Prod.fst->i∉t.e.ob.map Prod.fst:=by
  intro i h1 h2;obtain ⟨x,hx,rfl⟩:=List.mem_map.1 h1;obtain ⟨y,hy,he⟩:=List.mem_map.1 h2;have q1:=h.st x hx;have q2:=ht.ob y hy;rw [he,q1] at q2;simp at q2
 refine St.ext' ?_ ?_ ?_
 ·rw [Eff.app_slots,Eff.app_slots];funext i;have e1:∀ (e:Eff) (a b:St),a.slots=b.slots->(e.slot a).slots=(e.slot b).slots:=by
   intro e a b hab;unfold Eff.slot;split
   ·simp only [St.set,hab]
   ·exact hab
  rw [e1 t.e _ _ (Eff.app_slots s.e σ),e1 s.e _ _ (Eff.app_slots t.e σ)];unfold Eff.slot
  cases hsl:s.e.sl with
  | none=>rfl
  | some x=>
   obtain ⟨d,v⟩:=x
   cases htl:t.e.sl with
   | none=>rfl
   | some y=>
    obtain ⟨d',v'⟩:=y;have hd:=hs.sl d v hsl;have hd':=ht.sl d' v' htl;have hne:d≠d':=fun he=>(zhk h.ap).2.2 d hd (by rw [he];exact hd')
    simp only [St.set,upd]
    cases hb:Nat.beq i d' with
    | false=>rfl
    | true=>
     have he:=zE hb;subst he;have:Nat.beq i d=false:=by
      cases hb2:Nat.beq i d with
      | false=>rfl
      | true=>exact absurd (zE hb2).symm hne
     rw [this];rfl
 ·funext i;by_cases h1:i∈s.e.ob.map Prod.fst
  ·rw [Eff.app_off (hno i h1)];exact zkl _ _ _ h1
  ·rw [Eff.app_off h1];by_cases h2:i∈t.e.ob.map Prod.fst
   ·exact zkl _ _ _ h2
   ·rw [Eff.app_off h2,Eff.app_off h2,Eff.app_off h1]
 ·simp only [Eff.app_next]
theorem zrg {c:Ctx} {base:Nat} {dst:Nat->Option Nat} {t:Ent} {post:List Ent} {σE:St} (ht:Good base t):(pre:List Ent)->{σ:St}->(∀ s∈pre,Good base s∧Ind base dst s t)->Tr c base (pre++t :: post) σ σE->
  Loc c base t σ∧Tr c base (pre++post) (t.e.app σ) σE
 | [],σ,_,h=>h
 | s :: pre,σ,hp,h=>by
  obtain ⟨hg,hi⟩:=hp s (by simp);have ha:=zx0 hg ht hi;obtain ⟨h1,h2⟩:=h;obtain ⟨h3,h4⟩:=zrg ht pre (fun x hx=>hp x (by simp [hx])) h2;have hl:=zhk ha.ap;have hsame:z8v t.o.op.operands.toList σ (s.e.app σ):=zrl hg hl.1 σ;refine ⟨h3.cong (fun x hx=>(hsame x hx).symm) (fun id hid=>(zs4 ha.st σ id hid).symm),?_⟩;refine ⟨h1.cong (zrl ht hl.2.1 σ) (zs4 ha.ts σ),?_⟩;rw [←app_comm hg ht ha];exact h4
def Lin:List Nat->List (Nat×Oper)->Prop
 | _,[]=>True
 | d,(i,o) :: l=>(∀ x∈z43 o.after.toList,x∈d)∧Lin (i :: d) l
theorem Lin.mono:{l:List (Nat×Oper)}->{d d':List Nat}->(∀ x∈d,x∈d')->Lin d l->Lin d' l
 | [],_,_,_,_=>trivial
 | (i,o) :: l,d,d',hd,h=>⟨fun x hx=>hd x (h.1 x hx),Lin.mono (fun x hx=>by
   rcases List.mem_cons.1 hx with rfl | hx
   ·simp
   ·simp [hd x hx]) h.2⟩
theorem Lin.take {j:Nat} {p:Oper} {post:List (Nat×Oper)}:(pre:List (Nat×Oper))->{d:List Nat}->Lin d (pre++(j,p) :: post)->Lin (j :: d) (pre++post)
 | [],d,h=>h.2
 | (i,o) :: pre,d,h=>⟨fun x hx=>List.mem_cons_of_mem _ (h.1 x hx),by
   refine (Lin.take pre h.2).mono fun x hx=>?_
   simp only [List.mem_cons] at hx ⊢;rcases hx with h | h | h
   ·exact .inr (.inl h)
   ·exact .inl h
   ·exact .inr (.inr h)⟩
section
variable {P:Program} {ops:Array Oper} {Q:Exit->Act->World->Prop}
theorem zj7 {b:Nat}:Waits .any ops b (z3b b (z09 0 ops.toList) [])∧∀ x∈z3b b (z09 0 ops.toList) [],x < ops.size:=by
 have:=z7v (i:=b) (l:=z09 0 ops.toList) (acc:=[]) (G:=fun x=>x < ops.size∧∀ ox,ops[x]? = some ox->∃ e∈ox.after,Region.binds .any e=true∧(e.on=b∨e.on∈z3b b (z09 0 ops.toList) [])) (by simp) (fun j oj hm hy=>by
  have hoj:=z1w _ hm;refine ⟨z2l hoj,fun ox hox=>?_⟩;simp only at hoj;rw [hoj] at hox;simp only [zI] at hox;subst hox;obtain ⟨y,hy1,hy2⟩:=hy;obtain ⟨e,he,hbe,rfl⟩:=z2o.1 hy1;exact ⟨e,by simpa using he,hbe,hy2⟩)
 exact ⟨fun x hx=>(this x hx).2,fun x hx=>(this x hx).1⟩
theorem gen_ok {c:Ctx} {base:Nat} {g0:Ghost} {w0:World} {σ0 σE:St} {B0:List Nat} (hc:CtxOK P c)
  (HK:∀ g a w,StOK c.ntmps g w a σE->Ext w0 g0 w g->(∀ m,(∀ i∈B0,m < base+8*i∨base+8*i+8≤m)->Fresh g0 σ0 m->Fresh g σE m)->Q .normal a w) :
  (n:Nat)->{T:List Ent}->T.length=n->{σ:St}->{g:Ghost}->{a:Act}->{w:World}->{listed:Array Bool}->{done:List Nat}->
  Tr c base T σ σE->(∀ t∈T,Good base t∧ops[t.i]? = some t.o∧t.i∈B0)->(T.Pairwise fun s t=>t.i∈z3b s.i (z09 0 ops.toList) []∨Ind base (z6p ops.toList) s t)->(T.map Ent.i).Nodup->
  Lin done (T.map fun t=>(t.i,t.o))->StOK c.ntmps g w a σ->(∀ t∈T,∀ m,base+8*t.i≤m->m < base+8*t.i+8->Fresh g σ m)->Rel ops listed done->(∀ x∈done,x < ops.size)->(∀ x,x < ops.size->(x∈done↔x∉T.map Ent.i))->
  (∀ t∈T,∀ x∈z3b t.i (z09 0 ops.toList) [],x∉done)->Ext w0 g0 w g->(∀ m,(∀ i∈B0,m < base+8*i∨base+8*i+8≤m)->Fresh g0 σ0 m->Fresh g σ m)->zi6 false P .any ops Q n listed a w
 | 0,T,hl,σ,g,a,w,listed,done,htr,_,_,_,_,hst,_,hrel,hds,hdn,_,hext,hfo=>by
  have hT:T=[]:=List.eq_nil_of_length_eq_zero hl;subst hT;have htr':σ=σE:=htr;subst htr';refine ⟨?_,HK g a w hst hext hfo⟩;rw [List.eq_nil_iff_forall_not_mem];intro j hj;obtain ⟨_,oj,hoj,_⟩:=mem_ready.1 hj;have h1:=(z2i hrel hds hoj).1 hj
  exact h1.1 ((hdn j (z2l hoj)).2 (by simp))
 | n+1,T,hl,σ,g,a,w,listed,done,htr,hT,hpw,hnd,hlin,hst,hfr,hrel,hds,hdn,hinv,hext,hfo=>by
  refine ⟨fun h0=>?_,fun j hj=>?_⟩
  ·exfalso
   cases T with
   | nil=>simp at hl
   | cons t T=>
    obtain ⟨_,hto,_⟩:=hT t (by simp);have:t.i∈Region.ready .any ops listed:=by
     refine (z2i hrel hds hto).2 ⟨fun hd=>?_,?_⟩
     ·exact (hdn _ (z2l hto)).1 hd (by simp)
     ·unfold zag;rw [zcm];exact hlin.1
    rw [h0] at this;simp at this
  ·obtain ⟨hjun,oj,hoj,_⟩:=mem_ready.1 hj;have hrd:=(z2i hrel hds hoj).1 hj;have hjT:j∈T.map Ent.i:=by
    refine Classical.byContradiction fun hn=>?_
    exact hrd.1 ((hdn j (z2l hoj)).2 hn)
   obtain ⟨t,htT,hti⟩:=List.mem_map.1 hjT;obtain ⟨pre,post,rfl⟩:=List.append_of_mem htT;obtain ⟨hg,hto,htB⟩:=hT t htT;have hmem:∀ x∈pre++post,x∈pre++t :: post:=by
    intro x hx;rcases List.mem_append.1 hx with h | h
    ·exact List.mem_append.2 (.inl h)
    ·exact List.mem_append.2 (.inr (List.mem_cons_of_mem _ h))
   have hpre:∀ s∈pre,Good base s∧Ind base (z6p ops.toList) s t:=by
    intro s hs;have hsT:s∈pre++t :: post:=List.mem_append.2 (.inl hs);obtain ⟨hgs,hso,_⟩:=hT s hsT;refine ⟨hgs,?_⟩;rcases (List.pairwise_append.1 hpw).2.2 s hs t (by simp) with h | h
    ·exfalso;have hw:=zj7 (ops:=ops) (b:=s.i);refine zf8 hw.1 (fun x hx=>?_) ?_ hj (hti ▸ h)
     ·rw [hrel.getD (hw.2 x hx)];exact z10.2 (hinv s hsT x hx)
     ·rw [hrel.getD (z2l hso)];refine z10.2 fun hd=>?_
      exact (hdn _ (z2l hso)).1 hd (List.mem_map.2 ⟨s,hsT,rfl⟩)
    ·exact h
   obtain ⟨hloc,htr'⟩:=zrg hg pre hpre htr;have hojt:oj=t.o:=by
    rw [←hti,hto] at hoj;simpa using hoj.symm
   subst hojt;subst hti;have hne:∀ x∈pre++post,x.i≠t.i:=by
    intro x hx he;have h1:((pre++t :: post).map Ent.i).Nodup:=hnd;rw [List.map_append,List.map_cons,List.nodup_append] at h1;rcases List.mem_append.1 hx with hx | hx
    ·exact h1.2.2 x.i (List.mem_map.2 ⟨x,hx,rfl⟩) t.i (by simp) he
    ·exact (List.nodup_cons.1 h1.2.1).1 (List.mem_map.2 ⟨x,hx,he⟩)
   have hk:opK c σ (base+8*t.i) t.o some=some (t.e.app σ):=by
    simp only [opK,hg.junk,cond_false];exact hloc σ (fun _ _=>rfl) (fun _ _=>rfl) St some
   have hop:t.o.wp P a w (fun a' w'=>(isM t.o=false->z44 w w')∧zi6 false P .any ops Q n (listed.setIfInBounds t.i true) a' w') Q:=by
    refine zqb (base:=base+8*t.i) hc hst (fun m h1 h2=>hfr t htT m h1 h2) hk ?_;intro σ1 g1 a1 w1 h1 hst1 hext1 hf1 hn1 hag;refine ⟨hag,?_⟩;simp only [zI] at h1;subst h1;refine gen_ok hc HK n (T:=pre++post) ?_ htr' (fun x hx=>hT x (hmem x hx)) ?_ ?_ ?_ hst1 (fun x hx m q1 q2=>hf1 m ?_ (hfr x (hmem x hx) m q1 q2)) hrel.add (fun x hx=>?_) (fun x hx=>?_) (fun x hx y hy=>?_) (hext.trans hext1) (fun m hm hf=>hf1 m (hm _ htB) (hfo m hm hf))
    ·simp only [List.length_append,List.length_cons] at hl ⊢;omega
    ·exact hpw.sublist (List.Sublist.append_left (List.sublist_cons_self _ _) pre)
    ·exact hnd.sublist ((List.Sublist.append_left (List.sublist_cons_self _ _) pre).map _)
    ·rw [List.map_append] at hlin ⊢;exact Lin.take _ hlin
    ·have:=hne x hx;omega
    ·rcases List.mem_cons.1 hx with rfl | hx
     ·exact z2l hto
     ·exact hds x hx
    ·have h1:=hdn x hx;simp only [List.mem_cons,h1,List.map_append,List.map_cons,List.mem_append,not_or];constructor
     ·rintro (rfl | ⟨q1,q2,q3⟩)
      ·refine ⟨fun hm=>?_,fun hm=>?_⟩
       ·obtain ⟨y,hy,he⟩:=List.mem_map.1 hm;exact hne y (List.mem_append.2 (.inl hy)) he
       ·obtain ⟨y,hy,he⟩:=List.mem_map.1 hm;exact hne y (List.mem_append.2 (.inr hy)) he
      ·exact ⟨q1,q3⟩
     ·rintro ⟨q1,q2⟩;by_cases he:x=t.i
      ·exact .inl he
      ·exact .inr ⟨q1,he,q2⟩
    ·intro hyd;have hxT:=hmem x hx;obtain ⟨_,hxo,_⟩:=hT x hxT;rcases List.mem_cons.1 hyd with rfl | hyd
     ·have hw:=zj7 (ops:=ops) (b:=x.i);refine zf8 hw.1 (fun z hz=>?_) ?_ hj hy
      ·rw [hrel.getD (hw.2 z hz)];exact z10.2 (hinv x hxT z hz)
      ·rw [hrel.getD (z2l hxo)];refine z10.2 fun hd=>?_
       exact (hdn _ (z2l hxo)).1 hd (List.mem_map.2 ⟨x,hxT,rfl⟩)
     ·exact hinv x hxT y hy hyd
   unfold Go.wpOp;simp only [hto];have hw:Region.wanted t.o (yielded ops a.tmps)=true:=z69 hg.guard;rw [if_pos hw];left;refine Oper.wp_mono (fun a' w' hh=>⟨fun o' ho' hm=>hh.1 (by simp only [zI] at ho';rw [ho'];exact hm),hh.2⟩) hop
theorem zwq {all:List (Nat×Oper)} {done:List Nat}:{l:List (Nat×Oper)}->{d:List Nat}->linG all done d l=true->Lin d l∧∀ x∈l,∀ y∈z3b x.1 all [],y∉done
 | [],d,_=>⟨trivial,by simp⟩
 | (i,o) :: l,d,h=>by
  simp only [linG,zA] at h;obtain ⟨h1,h2⟩:=zwq h.2;refine ⟨⟨zcm.1 h.1.1,h1⟩,fun x hx=>?_⟩;rcases List.mem_cons.1 hx with rfl | hx
  ·exact z5d.1 h.1.2
  ·exact h2 x hx
theorem z6f {done:List Nat} {x:Nat×Oper}:{l:List (Nat×Oper)}->(x∈zau done l↔x∈l∧x.1∉done)
 | []=>by simp [zau]
 | (i,o) :: l=>by
  simp only [zau]
  cases hm:z2q i done with
  | true=>
   rw [cond_true,z6f (l:=l)];have:=z27.1 hm;constructor
   ·exact fun h=>⟨List.mem_cons_of_mem _ h.1,h.2⟩
   ·rintro ⟨h1,h2⟩;rcases List.mem_cons.1 h1 with rfl | h1
    ·exact absurd this h2
    ·exact ⟨h1,h2⟩
  | false=>
   rw [cond_false,List.mem_cons,z6f (l:=l)];have:=z10.1 hm;constructor
   ·rintro (rfl | h)
    ·exact ⟨by simp,this⟩
    ·exact ⟨List.mem_cons_of_mem _ h.1,h.2⟩
   ·rintro ⟨h1,h2⟩;rcases List.mem_cons.1 h1 with rfl | h1
    ·exact .inl rfl
    ·exact .inr ⟨h1,h2⟩
theorem zfl {done:List Nat}:(l:List (Nat×Oper))->(zau done l).Sublist l
 | []=>List.Sublist.slnil
 | (i,o) :: l=>by
  simp only [zau]
  cases z2q i done with
  | true=>exact (zfl l).cons _
  | false=>exact (zfl l).cons_cons _
theorem zqk:(l:List (Nat×Oper))->lenN l=l.length
 | []=>rfl
 | _ :: l=>by simp only [lenN,zqk l,List.length_cons]
end
section
variable {P:Program} {c:Ctx}
theorem ztx {R:Type} {l:List (Option R)} {r:R} (h:z4z l=some r):∀ y∈l,y=some r:=by
 cases l with
 | nil=>simp
 | cons x l=>
  simp only [z4z] at h;split at h
  ·rename_i hall;intro y hy;rcases List.mem_cons.1 hy with rfl | hy
   ·exact h
   ·rw [hall y hy];exact h
  ·simp at h
theorem ziz {q:Bool} {dst:Nat->Option Nat} {all:List (Nat×Oper)} {done:List Nat} {i:Nat} {o:Oper}:{l:List (Nat×Oper)}->zl2 q dst all done l=some (i,o)->(i,o)∈l∧i∉done∧zys q dst all done i o=true
 | [],h=>by simp [zl2] at h
 | (j,oj) :: l,h=>by
  simp only [zl2] at h
  cases hc:(!z2q j done && zys q dst all done j oj) with
  | true=>
   rw [hc] at h;simp only [cond_true,zI,Prod.mk.injEq] at h;obtain ⟨rfl,rfl⟩:=h;simp only [zA,Bool.not_eq_true'] at hc
   exact ⟨by simp,z10.1 hc.1,hc.2⟩
  | false=>
   rw [hc] at h;simp only [cond_false] at h;obtain ⟨h1,h2⟩:=ziz h;exact ⟨by simp [h1],h2⟩
theorem z4g {done:List Nat} {i:Nat} {o:Oper}:{l:List (Nat×Oper)}->((i,o)∈z60 done l↔(i,o)∈l∧i∉done∧zag done o=true)
 | []=>by simp [z60]
 | (j,oj) :: l=>by
  simp only [z60]
  cases hc:(!z2q j done && zag done oj) with
  | true=>
   simp only [cond_true,List.mem_cons,z4g (l:=l)];simp only [zA,Bool.not_eq_true'] at hc;constructor
   ·rintro (h | h)
    ·simp only [Prod.mk.injEq] at h;obtain ⟨rfl,rfl⟩:=h;exact ⟨.inl rfl,z10.1 hc.1,hc.2⟩
    ·exact ⟨.inr h.1,h.2⟩
   ·rintro ⟨h | h,h2⟩
    ·exact .inl h
    ·exact .inr ⟨h,h2⟩
  | false=>
   simp only [cond_false,List.mem_cons,z4g (l:=l)];constructor
   ·rintro ⟨h,h2⟩;exact ⟨.inr h,h2⟩
   ·rintro ⟨h | h,h2,h3⟩
    ·simp only [Prod.mk.injEq] at h;obtain ⟨rfl,rfl⟩:=h;rw [h3,z10.2 h2] at hc;simp at hc
    ·exact ⟨h,h2,h3⟩
theorem lstep_ok {q:Bool} (hc:CtxOK P c) {ops:Array Oper} {Q:Exit->Act->World->Prop} {K:Act->World->Prop} {b0:Nat} {o:Oper} {σ:St} {g:Ghost} {a:Act} {w:World} {kk:St->Option R} {r:R} (hw:Region.wanted o (yielded ops a.tmps)=true) (h:opM q c σ b0 o kk=some r) (hst:StOK c.ntmps g w a σ)
  (hfr:∀ m,b0≤m->m < b0+8->Fresh g σ m)
  (hK:∀ σ1 g1 a1 w1,kk σ1=some r->StOK c.ntmps g1 w1 a1 σ1->Ext w g w1 g1->(∀ m,(m < b0∨b0+8≤m)->Fresh g σ m->Fresh g1 σ1 m)->σ1.next=σ.next->(∀ s,o.dst≠some s->a1.tmps[s]? = a.tmps[s]?)->K a1 w1):z2b q P ops Q o K a w:=by
 refine z2b.mono (fun a1 w1 hh=>hh.2 hh.1.2) (z2b.frame (K:=fun a1 w1=>(∀ s,o.dst≠some s->a1.tmps[s]? = a.tmps[s]?)->K a1 w1) ?_);unfold z2b;rw [if_pos hw]
 cases hy:isY o with
 | true=>
  left;obtain ⟨av,v,h1,h2,h3,h4⟩:=(zkr hc hy hst (by rw [←opM_Y hy];exact h)).out;refine ⟨rfl,v,h1,fun hfrm=>?_⟩;rcases z6h h4 with ⟨hd,hk⟩ | ⟨d,hd,hlt,hk⟩
  ·rw [hd] at hfrm ⊢;exact hK σ g a w hk hst (Ext.refl _ _) (fun _ _ hm=>hm) rfl (by rw [hd];exact hfrm)
  ·rw [hd] at hfrm ⊢;exact hK _ g _ w hk (hst.put hlt h2) (Ext.refl _ _) (fun m _ hm=>hm.set d (h3 m hm)) rfl (by rw [hd];exact hfrm)
 | false=>
  right;refine ⟨rfl,opM_ok (base:=b0) hc hst hfr h ?_⟩;intro σ1 g1 a1 w1 h1 hst1 hext1 hf1 hn1 hag;exact ⟨fun h1=>hag h1,fun hfrm=>hK σ1 g1 a1 w1 h1 hst1 hext1 hf1 hn1 hfrm⟩
theorem lskip_ok {q:Bool} {ops:Array Oper} {Q:Exit->Act->World->Prop} {K:Act->World->Prop} {o:Oper} {a:Act} {w:World} (hw:Region.wanted o (yielded ops a.tmps)=false) (h:K (a.put o.dst undef) w):z2b q P ops Q o K a w:=by
 unfold z2b;rw [hw];simp only [Bool.false_eq_true,if_false];exact h
theorem zz4 (hc:CtxOK P c) {ops:Array Oper} {Q:Exit->Act->World->Prop} {K:Act->World->Prop} {b0:Nat} {o:Oper} {opened und:List Nat} {σ:St} {g:Ghost} {a:Act} {w:World} {kk:List Nat->List Nat->St->Option R} {r:R}
  (h:zv9 c (z6p ops.toList) b0 o opened und σ kk=some r) (hst:StOK c.ntmps g w a σ) (hun:Und a und) (hfr:∀ m,b0≤m->m < b0+8->Fresh g σ m)
  (hK:∀ op1 un1 σ1 g1 a1 w1,kk op1 un1 σ1=some r->StOK c.ntmps g1 w1 a1 σ1->Und a1 un1->Ext w g w1 g1->(∀ m,(m < b0∨b0+8≤m)->Fresh g σ m->Fresh g1 σ1 m)->σ1.next=σ.next->K a1 w1):z2b true P ops Q o K a w:=by
 have one:∀ {op1:List Nat} {σ':St},opM true c σ' b0 o (fun σ=>kk op1 (zef o.dst und) σ)=some r->StOK c.ntmps g w a σ'->(∀ m,Fresh g σ m->Fresh g σ' m)->σ'.next=σ.next->Region.wanted o (yielded ops a.tmps)=true->z2b true P ops Q o K a w:=by
  intro op1 σ' h hst' hf hn hw;refine lstep_ok hc hw h hst' (fun m h1 h2=>hf m (hfr m h1 h2)) (fun σ1 g1 a1 w1 h1 hst1 hext1 hf1 hn1 hfrm=>?_);exact hK _ _ σ1 g1 a1 w1 h1 hst1 (hun.keep hfrm) hext1 (fun m hm hfm=>hf1 m hm (hf m hfm)) (hn1.trans hn)
 have skip:∀ {op1:List Nat} {σ':St},kk op1 (addU o.dst und) (σ'.unset o.dst)=some r->StOK c.ntmps g w a σ'->(∀ m,Fresh g σ m->Fresh g σ' m)->σ'.next=σ.next->Region.wanted o (yielded ops a.tmps)=false->z2b true P ops Q o K a w:=by
  intro op1 σ' h hst' hf hn hw;refine lskip_ok hw (hK _ _ _ g _ w h (hst'.putU o.dst undef) hun.skip (Ext.refl _ _) (fun m _ hfm=>(hf m hfm).unset o.dst) ?_);rw [←hn];cases o.dst <;> rfl
 unfold zv9 at h;split at h
 ·rename_i hg;exact one h hst (fun _ hm=>hm) rfl (z69 hg)
 ·rename_i j want hg;split at h
  ·simp at h
  ·rename_i t hdt;rw [zex] at hdt;split at h
   ·rename_i b hb;have hw:=zdp (o:=o) (a:=a) hg hdt (zpw hst hb)
    cases hm:z2q j opened with
    | true=>
     rw [hm] at h;simp only [cond_true] at h
     cases hbw:(b == want) with
     | true=>
      rw [hbw] at h hw
      exact one h hst (fun _ hm=>hm) rfl hw
     | false=>
      rw [hbw] at h hw
      exact skip h hst (fun _ hm=>hm) rfl hw
    | false=>
     rw [hm] at h;simp only [cond_false] at h;have hst0:=zkf hst hb
     cases b with
     | true=>
      simp only [cond_true] at h
      cases want with
      | true=>exact one h hst0 (fun m hf=>hf.set t (by simp [AVal.ids])) rfl hw
      | false=>exact skip h hst0 (fun m hf=>hf.set t (by simp [AVal.ids])) rfl hw
     | false=>
      simp only [cond_false] at h
      cases want with
      | true=>exact skip h hst0 (fun m hf=>hf.set t (by simp [AVal.ids])) rfl hw
      | false=>exact one h hst0 (fun m hf=>hf.set t (by simp [AVal.ids])) rfl hw
   ·cases hmu:z2q t und with
    | false=>rw [hmu] at h;simp at h
    | true=>
     rw [hmu] at h;simp only [cond_true] at h;exact skip h hst (fun _ hm=>hm) rfl (zi9 hg hdt (hun t (zg0.1 hmu)))
   ·simp at h
theorem zs6:{n:Nat}->{l:List Nat}->l.Nodup->(∀ x∈l,x < n)->l.length≤n
 | 0,l,_,hl=>by
  cases l with
  | nil=>simp
  | cons x l=>have:=hl x (by simp);omega
 | n+1,l,h,hl=>by
  have h1:=zs6 (n:=n) (h.erase n) (fun x hx=>by
   have h2:=(h.mem_erase_iff).1 hx;have:=hl x h2.2;have:=h2.1;omega)
  rw [List.length_erase] at h1;split at h1 <;> omega
theorem zyb (hc:CtxOK P c) {ops:Array Oper} {Q:Exit->Act->World->Prop} (hp:Plain' ops) (hQ:∀ c a w,¬ Q (.panic c) a w) {base:Nat} :
  (n:Nat)->{done opened und:List Nat}->{listed:Array Bool}->{σ:St}->{g:Ghost}->{a:Act}->{w:World}->{k:St->Option R}->{r:R}->{fuel:Nat}->anyK c base (z6p ops.toList) (z09 0 ops.toList) n done opened und σ k=some r->
  StOK c.ntmps g w a σ->Und a und->Rel ops listed done->(∀ x∈done,x < ops.size)->done.Nodup->fuel+done.length=ops.size->(∀ i,i < ops.size->i∉done->∀ m,base+8*i≤m->m < base+8*i+8->Fresh g σ m)->
  (∀ σ' g' a' w',k σ'=some r->StOK c.ntmps g' w' a' σ'->Ext w g w' g'->(∀ m,(∀ i,i < ops.size->m < base+8*i∨base+8*i+8≤m)->Fresh g σ m->Fresh g' σ' m)->σ'.next=σ.next->Q .normal a' w')->
  zi6 true P .any ops Q fuel listed a w
 | 0,_,_,_,_,_,_,_,_,_,_,_,h,_,_,_,_,_,_,_,_=>by simp [anyK] at h
 | n+1,done,opened,und,listed,σ,g,a,w,k,r,fuel,h,hst,hun,hr,hd,hnd,hfu,hfr,hK=>by
  have step:∀ (i:Nat) (o:Oper),(i,o)∈z09 0 ops.toList->i∉done->zv9 c (z6p ops.toList) (base+8*i) o opened und σ (fun opened und σ=>anyK c base (z6p ops.toList) (z09 0 ops.toList) n (i :: done) opened und σ k)=some r->
    ∃ f,fuel=f+1∧i < ops.size∧ops[i]? = some o∧z2b true P ops Q o (fun a' w'=>zi6 true P .any ops Q f (listed.setIfInBounds i true) a' w') a w:=by
   intro i o hm hi h;have hio:=z1w _ hm;have hlt:i < ops.size:=z2l hio;have hd':∀ x∈i :: done,x < ops.size:=by
    intro x hx;rcases List.mem_cons.1 hx with rfl | hx
    ·exact hlt
    ·exact hd x hx
   have hnd':(i :: done).Nodup:=List.nodup_cons.2 ⟨hi,hnd⟩;have hle:=zs6 hnd' hd';simp only [List.length_cons] at hle;obtain ⟨f,rfl⟩:∃ f,fuel=f+1:=⟨fuel-1,by omega⟩;refine ⟨f,rfl,hlt,hio,zz4 (b0:=base+8*i) hc h hst hun (hfr i hlt hi) (fun op1 un1 σ1 g1 a1 w1 h1 hst1 hun1 hext1 hf1 hn1=>?_)⟩;refine zyb hc hp hQ n h1 hst1 hun1 hr.add hd' hnd' (by simp only [List.length_cons];omega) (fun j hj hjd m q1 q2=>?_) (fun σ2 g2 a2 w2 h2 hst2 hext2 hf2 hn2=>?_)
   ·have hne:j≠i:=fun he=>hjd (by simp [he])
    exact hf1 m (by omega) (hfr j hj (fun hx=>hjd (by simp [hx])) m q1 q2)
   ·exact hK σ2 g2 a2 w2 h2 hst2 (hext1.trans hext2) (fun m hm hf=>hf2 m hm (hf1 m (hm i hlt) hf)) (hn2.trans hn1)
  simp only [anyK] at h;split at h
  ·rename_i i o hnx;obtain ⟨hm,hi,hat⟩:=ziz hnx;obtain ⟨f,rfl,hlt,hio,hL⟩:=step i o hm hi h;exact step_ok hp hQ hio hr hd hi hat hL (fun a' w' hh=>hh)
  ·split at h
   ·rename_i hra;have hnone:Region.ready .any ops listed=[]:=by
     rw [List.eq_nil_iff_forall_not_mem];intro j hj;obtain ⟨_,o,hoj,_⟩:=mem_ready.1 hj;have h1:=(z2i hr hd hoj).1 hj;have:(j,o)∈z60 done (z09 0 ops.toList):=z4g.2 ⟨z1n hoj,h1.1,h1.2⟩;rw [hra] at this;simp at this
    have hq:=hK σ g a w h hst (Ext.refl _ _) (fun m _ hf=>hf) rfl
    cases fuel with
    | zero=>exact ⟨hnone,hq⟩
    | succ f=>exact ⟨fun _=>hq,fun i hi=>by rw [hnone] at hi;simp at hi⟩
   ·rename_i x l hra;have hall:=ztx h;have hone:∀ i o,(i,o)∈z60 done (z09 0 ops.toList)->∃ f,fuel=f+1∧i < ops.size∧ops[i]? = some o∧z2b true P ops Q o (fun a' w'=>zi6 true P .any ops Q f (listed.setIfInBounds i true) a' w') a w:=by
     intro i o hm;obtain ⟨h1,h2,_⟩:=z4g.1 hm;refine step i o h1 h2 (hall _ ?_);rw [←hra];exact List.mem_map.2 ⟨(i,o),hm,rfl⟩
    obtain ⟨xi,xo⟩:=x;obtain ⟨f,rfl,_⟩:=hone xi xo (by rw [hra];simp);refine ⟨fun h0=>?_,fun j hj=>?_⟩
    ·obtain ⟨h1,h2,h3⟩:=z4g.1 (show (xi,xo)∈z60 done (z09 0 ops.toList) by rw [hra];simp);have:=(z2i hr hd (z1w _ h1)).2 ⟨h2,h3⟩;rw [h0] at this;cases this
    ·obtain ⟨_,o,hoj,_⟩:=mem_ready.1 hj;have h1:=(z2i hr hd hoj).1 hj;obtain ⟨f',hf',hlt,hio,hL⟩:=hone j o (z4g.2 ⟨z1n hoj,h1.1,h1.2⟩);have:f'=f:=by omega
     subst this;exact hL.wpOp hio
theorem zt5 {q:Bool} (hc:CtxOK P c) (hm:P.follows .mixedOrders=true) {id:Nat} {ops:Array Oper} {Q:Exit->Act->World->Prop} {σ:St} {g:Ghost} {a:Act} {w:World} {k:St->Option R} {r:R}
  (hQ:∀ c a w,¬ Q (.panic c) a w) (hok:zjq q ops.toList=true) (h:listK q c ops.toList (z64 q ops.toList) σ k=some r) (hst:StOK c.ntmps g w a σ) (hf:z18 g σ)
  (hK:∀ σ' g' a' w',k σ'=some r->StOK c.ntmps g' w' a' σ'->Ext w g w' g'->z18 g' σ'->(∀ s,(∀ o∈ops.toList,o.dst≠some s)->a'.tmps[s]? = a.tmps[s]?)->Q .normal a' w'):(Code.region id ops true).wp P Q a w:=by
 have hQ1:∀ c a' w,¬ keptQ ops a Q (.panic c) a' w:=fun c a' w h=>hQ c a' w (h (by simp))
 simp only [zjq,zA] at hok;have hnd:=zbx hok.2;have hp:=zkp hok.1;have hmem:∀ x∈z64 q ops.toList,x∈z09 0 ops.toList:=fun x hx=>zd1 x hx
 refine wp_region_any hm (z65 (a0:=a) _ _ _ _ (fun _ _=>rfl) (z9t _ _ _ _ (zrz hp hQ1 _ (fun x hx=>z1w _ (hmem x hx)) ?_ Rel.start (by simp) hok.2 ?_)))
 ·have:=ziv (q:=q) (dst:=z6p ops.toList) (all:=z09 0 ops.toList) ops.toList.length [];simpa [z64] using this
 ·have he:({ w with drawn:=w.drawn+1 }:World).heap=w.heap:=rfl;refine zwp hc (fun x hx=>z6j (hmem x hx)) hnd.1 h (hst.heapEq he) hf (fun σ' g' a' w' hk hst' hext' hf'=>?_);exact fun hkept=>hK σ' g' a' w' hk hst' ((Ext.heapEq (g:=g) he rfl rfl rfl (Nat.le_succ _)).trans hext') hf' (hkept rfl)
theorem zvq (hc:CtxOK P c) (hm:P.follows .mixedOrders=true) {id:Nat} {ops:Array Oper} {draw:Bool} {Q:Exit->Act->World->Prop} {σ:St} {g:Ghost} {a:Act} {w:World} {k:St->Option R} {r:R}
  (hQ:∀ c a w,¬ Q (.panic c) a w) (h:zq7 c ops draw σ k=some r) (hst:StOK c.ntmps g w a σ) (hf:z18 g σ)
  (hK:∀ σ' g' a' w',k σ'=some r->StOK c.ntmps g' w' a' σ'->Ext w g w' g'->z18 g' σ'->(∀ s,(∀ o∈ops.toList,o.dst≠some s)->a'.tmps[s]? = a.tmps[s]?)->Q .normal a' w'):(Code.region id ops draw).wp P Q a w:=by
 have hQ1:∀ c a' w,¬ keptQ ops a Q (.panic c) a' w:=fun c a' w h=>hQ c a' w (h (by simp))
 unfold zq7 at h
 cases draw with
 | false=>
  simp only [cond_false] at h;have hL:=zwp (K:=fun a' w'=>(∀ s,(∀ o∈ops.toList,o.dst≠some s)->a'.tmps[s]? = a.tmps[s]?)->Q .normal a' w') (Q:=Q) hc (fun x hx=>z6j hx) (zah _ _) h hst hf hK;refine wp_text (zk9 (fun a' w' hh=>hh.2 fun s hs=>hh.1 s fun x hx=>hs x.2 ?_) _ _ _ (zm2 _ _ _ hL));have:=z1w x hx;obtain ⟨hlt,he⟩:=Array.getElem?_eq_some_iff.1 this
  rw [←he];simp
 | true=>
  simp only [cond_true] at h
  cases hok2:zjq true ops.toList with
  | true=>
   rw [hok2] at h;simp only [cond_true] at h
   exact zt5 hc hm hQ hok2 h hst hf hK
  | false=>
  rw [hok2] at h;simp only [cond_false] at h
  cases hok:(zjq false ops.toList && !zgi c σ (z09 0 ops.toList)) with
  | false=>
   rw [hok] at h;simp only [cond_false] at h
   cases hge:(genOK ops.toList && !zgi c σ (z09 0 ops.toList)) with
   | false=>
    rw [hge] at h;simp only [cond_false] at h;obtain ⟨hpp,h⟩:=z0c h;have hp:=zkp hpp;have he:({ w with drawn:=w.drawn+1 }:World).heap=w.heap:=rfl;refine wp_region_any hm (z65 (a0:=a) _ _ _ _ (fun _ _=>rfl) (z9t (q:=true) _ _ _ _ ?_));refine zyb (base:=σ.next) hc hp hQ1 _ h (hst.heapEq he) (by intro s hs;simp at hs) Rel.start (by simp) (by simp) (by simp) (fun i hi _ m q1 q2=>hf m (by omega)) (fun σ' g' a' w' hk hst' hext' hf' hn'=>?_);refine fun hkept=>hK _ g' a' w' hk ⟨hst'.slots,hst'.heap,hst'.size,hst'.defers,hst'.known⟩ ((Ext.heapEq (g:=g) he rfl rfl rfl (Nat.le_succ _)).trans hext') (fun m hm=>?_) (hkept rfl)
    have hm':σ.next+8*ops.toList.length≤m:=hm;have:=hf' m (fun i hi=>.inr (by have:i < ops.toList.length:=(by simpa using hi);omega)) (hf m (by omega))
    exact ⟨this.objs,this.row,this.box,this.slots,this.cells⟩
   | true=>
   rw [hge] at h;simp only [cond_true] at h;replace hge:=(Bool.and_eq_true_iff.1 hge).1;simp only [genOK,zA] at hge;obtain ⟨⟨⟨⟨hpl,hrun⟩,hpg⟩,hlg⟩,hlen⟩:=hge;have hlen:=zE hlen;rw [zqk,zqk] at hlen;unfold zxa at h;have hp:=zkp hpl;have he:({ w with drawn:=w.drawn+1 }:World).heap=w.heap:=rfl;have hmem:∀ x∈z64 false ops.toList,x∈z09 0 ops.toList:=fun x hx=>zd1 x hx
   have hLN:=zn6 hrun;obtain ⟨hlin,hlat⟩:=zwq hlg;have hdone:∀ x,x∈z37 (z64 false ops.toList) []↔x∈(z64 false ops.toList).map Prod.fst:=fun x=>by rw [zhm];simp
   have hdsz:∀ x∈z37 (z64 false ops.toList) [],x < ops.size:=by
    intro x hx;obtain ⟨y,hy,rfl⟩:=List.mem_map.1 ((hdone x).1 hx);exact z2l (z1w _ (hmem y hy))
   refine wp_region_any hm (z65 (a0:=a) _ _ _ _ (fun _ _=>rfl) (z9t (q:=false) _ _ _ _ ?_));refine zpc (n:=(z64 false ops.toList).length+(zau (z37 (z64 false ops.toList) []) (z09 0 ops.toList)).length) (by rw [hlen];simp) ?_;refine zn0 hp hQ1 _ (fun x hx=>z1w _ (hmem x hx)) Rel.start (by simp) hrun ?_;refine zav hc zex _ _ h (hst.heapEq he) (by intro s hs;simp at hs) hLN.1 (fun x _ m h1 _=>hf m (by omega)) (fun σ1 g1 a1 w1 h1 hst1 hext1 hf1 hn1=>?_);intro listed hrel;obtain ⟨T,σE,hT,htr,hk,hgood,_,hpw⟩:=zxb _ hpg h1;have hTi:T.map Ent.i=(zau (z37 (z64 false ops.toList) []) (z09 0 ops.toList)).map Prod.fst:=by
    rw [←hT,List.map_map];rfl
   have hTm:∀ t∈T,(t.i,t.o)∈zau (z37 (z64 false ops.toList) []) (z09 0 ops.toList):=by
    intro t ht;rw [←hT];exact List.mem_map.2 ⟨t,ht,rfl⟩
   have hTl:T.length=(zau (z37 (z64 false ops.toList) []) (z09 0 ops.toList)).length:=by
    rw [←hT,List.length_map]
   refine zpc hTl ?_;have hheap:({ w with drawn:=w.drawn+1 }:World).heap=w.heap:=rfl;refine gen_ok (base:=σ.next) (g0:=g1) (w0:=w1) (σ0:=σ1) (σE:=σE) (B0:=T.map Ent.i) hc (fun g' a' w' hst' hext' hf'=>?_) T.length rfl htr (fun t ht=>⟨hgood t ht,z1w _ (z6f.1 (hTm t ht)).1,List.mem_map.2 ⟨t,ht,rfl⟩⟩) hpw ?_ ?_ hst1 (fun t ht m q1 q2=>?_) hrel hdsz (fun x hx=>?_) (fun t ht=>hlat _ (hTm t ht)) (Ext.refl _ _) (fun m _ hf=>hf)
   ·refine fun hkept=>hK _ g' a' w' hk ⟨hst'.slots,hst'.heap,hst'.size,hst'.defers,hst'.known⟩ ((Ext.heapEq (g:=g) he rfl rfl rfl (Nat.le_succ _)).trans (hext1.trans hext')) (fun m hm=>?_) (hkept rfl)
    have hm':σ.next+8*ops.toList.length≤m:=hm;have:=hf' m (fun i hi=>.inr ?_) (hf1 m (fun x hx=>.inr (by have:=z6j (hmem x hx);omega)) (hf m (by omega)))
    ·exact ⟨this.objs,this.row,this.box,this.slots,this.cells⟩
    ·rw [hTi] at hi;obtain ⟨y,hy,rfl⟩:=List.mem_map.1 hi;have:=z6j (z6f.1 hy).1;omega
   ·rw [hTi];exact (zah ops.toList 0).sublist ((zfl _).map _)
   ·rw [hT];exact hlin
   ·refine hf1 m (fun x hx=>?_) (hf m (by omega));have hne:x.1≠t.i:=by
     intro he2;have:=(z6f.1 (hTm t ht)).2;simp only at this;exact this ((hdone _).2 (List.mem_map.2 ⟨x,hx,he2⟩))
    omega
   ·rw [hTi];constructor
    ·intro hd hm2;obtain ⟨y,hy,rfl⟩:=List.mem_map.1 hm2;exact (z6f.1 hy).2 hd
    ·intro hn;refine Classical.byContradiction fun hd=>hn ?_
     obtain ⟨o,ho⟩:∃ o,ops[x]? = some o:=⟨ops[x],by simp [hx]⟩
     exact List.mem_map.2 ⟨(x,o),z6f.2 ⟨z1n ho,hd⟩,rfl⟩
  | true=>
   rw [hok] at h;simp only [cond_true] at h;exact zt5 hc hm hQ (Bool.and_eq_true_iff.1 hok).1 h hst hf hK
end
end Go.Kz
namespace Go.Kz
variable {R:Type}
section
variable {n:Nat} {w:World} {a:Act} {g:Ghost} {σ:St} {k:St->Option R} {r:R}
theorem Shrunk.freshUp {g':Ghost} {σ':St} (h:Shrunk g σ.objs g' σ'.objs) (hs:σ'.slots=σ.slots) (hn:σ'.next=σ.next) (hf:z18 g σ):z18 g' σ':=
 fun m hm=>h.fresh hs (hf m (by rw [←hn];exact hm))
theorem z18.ids {i:Nat} {av:AVal} (hf:z18 g σ) (h:σ.slots i=some av):∀ m,σ.next≤m->m∉av.ids:=fun m hm=>(hf m hm).slots i av h
structure Turned (w:World) (g:Ghost) (σ:St) (x:AVal) (cs:List Value) (g':Ghost) (σ':St) (x':AVal):Prop where
 ok:AOK w g' σ'.objs x' cs
 sk:x'.sk=x.sk
 agg:x'.isAgg=x.isAgg
 val:x'.val=true
 ids:∀ m,σ'.next≤m->m∉x'.ids
 slots:σ'.slots=σ.slots
 next:σ.next≤σ'.next
 cells:∀ id z,σ'.objs id=some (.cell z)->σ.objs id=some (.cell z)∧g'.blk id=g.blk id
theorem zxy {x:AVal} {f:AVal->St->Option R} {cs:List Value} (hst:StOK n g w a σ) (hf:z18 g σ) (hval:x.val=true) (hx:AOK w g σ.objs x cs) (hids:∀ m,σ.next≤m->m∉x.ids) (h:zxz σ x f=some r) :
  ∃ x' σ' g',f x' σ'=some r∧StOK n g' w a σ'∧Ext w g w g'∧z18 g' σ'∧Turned w g σ x cs g' σ' x':=by
 unfold zxz at h;split at h
 ·rename_i id ep p q;split at h
  ·rename_i t l e hobj
   cases hb:Nat.beq e ep with
   | false=>rw [hb] at h;simp at h
   | true=>
    rw [hb] at h;have he:=zE hb;subst he;simp only [cond_true] at h;obtain ⟨u,rfl,hone,hv⟩:=hx;obtain ⟨_,h0,hab,hbl,e1⟩:=(hv _ _ _ hobj).2 rfl;let c:Ctx:=⟨0,fun _=>none,fun _=>none,n,fun _=>[],fun _=>none,fun _ _=>none,⟨[],[]⟩,fun _=>none,fun _=>none,fun _=>false,fun _=>false,fun _ _=>none⟩;obtain ⟨hst1,hext1,hfr1⟩:=zmn (c:=c) (e':=e+1) hst hobj h0 hab hbl (Nat.lt_succ_self _);refine ⟨_,_,_,h,hst1,hext1,fun m hm=>hfr1 m (hf m hm),⟨u,rfl,hone,fun t' l' e' ho'=>?_⟩,rfl,rfl,rfl,fun m hm=>hids m hm,rfl,Nat.le_refl _,fun i z hz=>?_⟩
    ·simp only [St.setObj,z0j,zI,Obj.row.injEq] at ho';obtain ⟨_,_,rfl⟩:=ho';exact ⟨Nat.le_refl _,fun _=>by simp only [svG,if_true];exact e1⟩
    ·by_cases hi:i=id
     ·subst hi;simp [St.setObj,z0j] at hz
     ·simp only [St.setObj] at hz;rw [z0k _ _ hi] at hz;exact ⟨hz,rfl⟩
  ·simp at h
 ·exact ⟨_,σ,g,h,hst,Ext.refl w g,hf,hx,rfl,rfl,hval,hids,rfl,Nat.le_refl _,fun _ _ hz=>⟨hz,rfl⟩⟩
theorem z18.nil_row {t:Ty} (hst:StOK n g w a σ) (hf:z18 g σ) (ht:t.isRo=true) :
  StOK n (svG g σ.next (.slice none 0 0)) w a { σ.setObj σ.next (.row t [] 0) with next:=σ.next+1 }∧Ext w g w (svG g σ.next (.slice none 0 0))∧
   z18 (svG g σ.next (.slice none 0 0)) { σ.setObj σ.next (.row t [] 0) with next:=σ.next+1 }:=by
 have hst':StOK n (svG g σ.next (.slice none 0 0)) w a (σ.setObj σ.next (.row t [] 0)):=by
  refine hst.turn ⟨fun b hb=>⟨hb,rfl⟩⟩ (fun i hi=>zel hi) (.inr (hf _ (Nat.le_refl _))) ?_ hst.heap.tags;exact ⟨ht,none,0,by simp [svG],by simp [svG],Nat.le_refl _,Nat.zero_le _,.inl ⟨rfl,rfl,rfl⟩⟩
 refine ⟨⟨hst'.slots,hst'.heap,hst'.size,hst'.defers,hst'.known⟩,⟨rfl,rfl,rfl,Nat.le_refl _,Nat.le_refl _,fun b _ _=>⟨rfl,rfl⟩⟩,fun m hm=>?_⟩;have hm':σ.next+1≤m:=hm;have:=Fresh.turn (g:=g) (g':=svG g σ.next (.slice none 0 0)) (o:=.row t [] 0) (id:=σ.next) (fun b=>.inl rfl) (by omega) (by simp) (hf m (by omega));exact ⟨this.objs,this.row,this.box,this.slots,this.cells⟩
theorem zt7 {x:AVal} {cv:Conv} {f:AVal->St->Option R} {cs:List Value} (hst:StOK n g w a σ) (hf:z18 g σ) (hval:x.val=true) (hx:AOK w g σ.objs x cs) (hids:∀ m,σ.next≤m->m∉x.ids) (h:zqx σ x cv f=some r) :
  ∃ x' σ' g',f x' σ'=some r∧StOK n g' w a σ'∧Ext w g w g'∧z18 g' σ'∧Turned w g σ x cs g' σ' x':=by
 cases cv with
 | row t=>
  simp only [zqx] at h;split at h
  ·cases ht:t.isRo with
   | false=>rw [ht] at h;simp at h
   | true=>
    rw [ht] at h;simp only [cond_true] at h;obtain ⟨h1,h2,h3⟩:=z18.nil_row hst hf ht;have hx':cs=[.slice none 0 0]:=hx;subst hx';refine ⟨_,_,_,h,h1,h2,h3,⟨_,rfl,rfl,fun t' l' e' ho'=>?_⟩,rfl,rfl,rfl,fun m hm=>?_,rfl,Nat.le_succ _,fun i z hz=>?_⟩
    ·simp only [St.setObj,z0j,zI,Obj.row.injEq] at ho';obtain ⟨_,_,rfl⟩:=ho';exact ⟨Nat.le_refl _,fun _=>by simp [svG]⟩
    ·simp only [AVal.ids,List.mem_singleton];have hm':σ.next+1≤m:=hm;omega
    ·by_cases hi:i=σ.next
     ·subst hi;simp [St.setObj,z0j] at hz
     ·simp only [St.setObj] at hz;rw [z0k _ _ hi] at hz;exact ⟨hz,rfl⟩
  ·exact zxy hst hf hval hx hids h
 | dat t=>
  simp only [zqx] at h
  cases hb:(t.isRo && x.val && x.sk.same t.sk) with
  | false=>rw [hb] at h;simp at h
  | true=>
   rw [hb] at h;simp only [cond_true] at h;simp only [zA] at hb;have hsk:=Sk.same_eq hb.2;obtain ⟨d,σ',g',hk,hs,hn,hsh,hrep⟩:=z5v 20 hst.heap hx hb.1.1 h;refine ⟨_,σ',g',hk,hsh.st hs hst,hsh.ext,hsh.freshUp hs hn hf,⟨hb.1.1,hrep⟩,hsk.symm,?_,rfl,fun m _=>by simp [AVal.ids],hs,by rw [hn];exact Nat.le_refl _,fun i z hz=>?_⟩
   ·rw [(z2t hval).1,hsk];rfl
   ·rcases hsh.objs i with e | e
    ·rw [←e];exact ⟨hz,by rw [hsh.blk]⟩
    ·rw [e] at hz;simp at hz
 | con=>simp [zqx] at h
theorem zpx (l:List Value) (off n:Nat) (h:off+n≤l.length):z0f l off (seg l off n)=l:=by
 have hs:(seg l off n).length=n:=z20 h;simp only [z0f,hs];rw [seg];have h1:l.drop (off+n)=(l.drop off).drop n:=by rw [List.drop_drop]
 rw [h1]
 conv=>rhs;rw [←List.take_append_drop off l,←List.take_append_drop n (l.drop off)]
 simp
theorem StOK.set {i:Nat} {x:AVal} {v:Value} (hst:StOK n g w a σ) (hv:a.tmps[i]? = some v) (hx:VOK w g σ.objs x v):StOK n g w a (σ.set i x):=by
 refine ⟨fun j y hj=>?_,hst.heap,hst.size,hst.defers,hst.known⟩;simp only [St.set,upd] at hj
 cases hb:Nat.beq j i with
 | true=>
  rw [hb] at hj;simp only [cond_true,zI] at hj;subst hj;have:=zE hb;subst this
  exact ⟨v,hv,hx⟩
 | false=>rw [hb] at hj;exact hst.slots j y hj
theorem cell_set {id:Nat} {x x':AVal} (hst:StOK n g w a σ) (hobj:σ.objs id=some (.cell x)) (hsk:x'.sk=x.sk)
  (hok:∃ c e,w.heap[g.blk id]? = some (.cells c e (0,0))∧g.tag (g.blk id) = .box id∧AOK w g σ.objs x' c.toList):StOK n g w a (σ.setObj id (.cell x')):=by
 have hk:z15 g g id (σ.objs id) (some (.cell x')):=.inr (.inr (.inl ⟨x,x',hobj,rfl,hsk,rfl⟩));refine hst.turn ⟨fun b hb=>⟨hb,rfl⟩⟩ (fun i hi=>⟨⟨fun _=>rfl,fun _ b hb=>⟨hb,rfl⟩⟩,rfl,fun hb=>⟨hb,rfl⟩⟩) (.inl hk) ?_ hst.heap.tags;obtain ⟨c,e,h1,h2,h3⟩:=hok;refine z14.mk ⟨c,e,h1,h2,?_⟩;refine AOK.frame ⟨fun b hb=>⟨hb,rfl⟩⟩ (fun i _=>?_) h3;by_cases hi:i=id
 ·subst hi;simp only [St.setObj,z0j];exact hk
 ·simp only [St.setObj];rw [z0k _ _ hi];exact z15.refl g i _
theorem zur {id m:Nat} {x x':AVal} (hf:Fresh g σ m) (hobj:σ.objs id=some (.cell x)) (hx:m∉x'.ids):Fresh g (σ.setObj id (.cell x')) m:=by
 have hm:m≠id:=by intro he;subst he;have:=hf.objs;rw [hobj] at this;simp at this
 refine ⟨by simp only [St.setObj];rw [z0k _ _ hm];exact hf.objs,hf.row,hf.box,hf.slots,fun i y hi=>?_⟩;by_cases he:i=id
 ·subst he;simp only [St.setObj,z0j,zI,Obj.cell.injEq] at hi;subst hi;exact hx
 ·simp only [St.setObj] at hi;rw [z0k _ _ he] at hi;exact hf.cells i y hi
theorem zov (i:Nat) (p:z1a) (cv:Conv) (l:List (Nat×Option z1a×Conv))
  (ih:∀ {g:Ghost} {σ:St} {k:St->Option R},StOK n g w a σ->z18 g σ->zi3 l σ k=some r->∃ σ' g',k σ'=some r∧StOK n g' w a σ'∧Ext w g w g'∧z18 g' σ')
  (hcv:cv≠.con) {g:Ghost} {σ:St} {k:St->Option R} (hst:StOK n g w a σ) (hf:z18 g σ) (h:zi3 ((i,some p,cv) :: l) σ k=some r) :
  ∃ σ' g',k σ'=some r∧StOK n g' w a σ'∧Ext w g w g'∧z18 g' σ':=by
  have h:(match σ.slots i with
   | some (.bptr id _)=>zcq σ id p fun a=>cond a.val (zqx σ a cv fun a σ=>zcq σ id [] fun whole=>z7n a whole p fun whole=>zi3 l (σ.setObj id (.cell whole)) k) none
   | _=>none)=some r:=by
   cases cv with
   | con=>exact absurd rfl hcv
   | row u=>exact h
   | dat u=>exact h
  split at h
  ·rename_i id q hx;obtain ⟨y,y',off,cc,e,hobj,h,hoff,hcell,htag,hsz,hall,hpart,hids⟩:=zm5 hst.heap h;have hym:∀ m,σ.next≤m->m∉y'.ids:=fun m hm=>hids m ((hf m hm).cells id y hobj)
   cases hval:y'.val with
   | false=>rw [hval] at h;simp at h
   | true=>
    rw [hval] at h;simp only [cond_true] at h;obtain ⟨x',σ1,g1,h,hst1,hext1,hf1,ht⟩:=zt7 hst hf hval hpart hym h;obtain ⟨z,z',off2,cc2,e2,hobj2,h,hoff2,hcell2,htag2,hsz2,hall2,hpart2,hids2⟩:=zm5 hst1.heap h;have hcell3:=hcell2;have htag3:=htag2;obtain ⟨hz,hblk⟩:=ht.cells id z hobj2;rw [hobj] at hz;simp only [zI,Obj.cell.injEq] at hz;subst hz;rw [hblk,hcell] at hcell2;simp only [zI,Go.Obj.cells.injEq] at hcell2;obtain ⟨rfl,_,_⟩:=hcell2;simp only [Sk.off,zI,Prod.mk.injEq] at hoff2;obtain ⟨rfl,hzs⟩:=hoff2;have hz':AOK w g1 σ1.objs z' cc.toList:=by
     have hl:z'.sk.size=cc.toList.length:=by rw [←hzs,←hall2.len]
     rw [hl,z6b] at hpart2;exact hpart2
    rw [hzs,←ht.sk] at hoff;obtain ⟨w',hk,hws,hwok,hwids⟩:=zbp ht.ok hz' hoff h;rw [zpx _ _ _ (by rw [Array.length_toList];exact hsz)] at hwok;obtain ⟨σ2,g2,h2,hst2,hext2,hf2⟩:=ih (cell_set hst1 hobj2 (hws.trans hzs.symm) ⟨_,_,hcell3,htag3,hwok⟩)
     (fun m hm=>zur (hf1 m hm) hobj2 (hwids m (hids2 m ((hf1 m hm).cells _ _ hobj2)) (ht.ids m hm))) hk
    exact ⟨σ2,g2,h2,hst2,hext1.trans hext2,hf2⟩
  ·simp at h
theorem zaa:(l:List (Nat×Option z1a×Conv))->{g:Ghost}->{σ:St}->{k:St->Option R}->StOK n g w a σ->z18 g σ->zi3 l σ k=some r->
  ∃ σ' g',k σ'=some r∧StOK n g' w a σ'∧Ext w g w g'∧z18 g' σ'
 | [],g,σ,k,hst,hf,h=>⟨σ,g,h,hst,Ext.refl w g,hf⟩
 | (i,none,cv) :: l,g,σ,k,hst,hf,h=>by
  simp only [zi3] at h;split at h
  ·rename_i x hx;obtain ⟨v,hv,hok⟩:=hst.slots i x hx
   cases hval:x.val with
   | false=>rw [hval] at h;simp at h
   | true=>
    rw [hval] at h;simp only [cond_true] at h;obtain ⟨hag,hn1,hn2,hn3⟩:=z2t hval;obtain ⟨cs,hcs,hmk⟩:=z4y hok hn3;obtain ⟨x',σ1,g1,h,hst1,hext1,hf1,ht⟩:=zt7 hst hf hval hcs (hf.ids hx) h;obtain ⟨_,hm1,hm2,_⟩:=z2t ht.val;have hv1:VOK w g1 σ1.objs x' v:=z19 ht.ok (by rw [ht.agg];exact hmk) hm1 hm2;obtain ⟨σ2,g2,h2,hst2,hext2,hf2⟩:=zaa l (hst1.set hv hv1) (fun m hm=>(hf1 m hm).set i (ht.ids m hm)) h;exact ⟨σ2,g2,h2,hst2,hext1.trans hext2,hf2⟩
  ·simp at h
 | (i,some p,.con) :: l,g,σ,k,hst,hf,h=>by
  simp only [zi3,convC] at h;split at h
  ·rename_i id q hx;split at h
   ·exact zaa l hst hf h
   ·rename_i x _ ho
    cases hcon:(AVal.tup x).isCon with
    | false=>rw [hcon] at h;simp at h
    | true=>
    rw [hcon] at h;simp only [cond_true] at h;obtain ⟨g1,h1,h2,h2r,h3,h4⟩:=zy1 hst ho hcon;obtain ⟨σ2,g2,k1,k2,k3,k4⟩:=zaa l h1 (fun m hm=>h3 m (hf m hm)) h;exact ⟨σ2,g2,k1,k2,h2.trans k3,k4⟩
   ·simp at h
  ·simp at h
 | (i,some p,.row u) :: l,g,σ,k,hst,hf,h=>zov i p (.row u) l (fun {_ _ _} a b c=>zaa l a b c) (by simp) hst hf h
 | (i,some p,.dat u) :: l,g,σ,k,hst,hf,h=>zov i p (.dat u) l (fun {_ _ _} a b c=>zaa l a b c) (by simp) hst hf h
theorem zer {cut:Cut} {k:List (Nat×AVal)->List Obj->Option R} (hst:StOK n g w a σ) (hf:z18 g σ) (h:znc cut σ k=some r) :
  ∃ sl os g',k sl os=some r∧StOK n g' w a (St.of sl os)∧Ext w g w g'∧z18 g' (St.of sl os):=by
 obtain ⟨σ1,g1,h,hst1,hext1,hf1⟩:=zaa cut.conv hst hf h;split at h
 ·rename_i l hl;obtain ⟨sl,os,g2,h2,hst2,hext2,hf2⟩:=zzk (zaj hl) hst1 h;exact ⟨sl,os,g2,h2,hst2,hext1.trans hext2,hf2⟩
 ·simp at h
theorem zd4 {cut:Cut} (hst:StOK n g w a σ) (hf:z18 g σ) (h:norm cut σ k=some r) :
  ∃ σ' g',k σ'=some r∧StOK n g' w a σ'∧Ext w g w g'∧z18 g' σ':=by
 obtain ⟨sl,os,g',h1,h2,h3,h4⟩:=zer hst hf h;exact ⟨_,g',h1,h2,h3,h4⟩
end
end Go.Kz
namespace Go.Kz
variable {R:Type}
def AExit.to:AExit->Exit
 | .normal=>.normal
 | .exit i=>.exit i
 | .ret=>.ret
def zrd (s:Nat):List Oper->Bool
 | []=>false
 | o :: l=>(match o.dst with
  | some d=>Nat.beq d s
  | none=>false) || zrd s l
def zbe (s:Nat):Code->Bool
 | .region _ ops _=>zrd s ops.toList
 | .seq a b=>zbe s a || zbe s b
 | .cond _ a b=>zbe s a || zbe s b
 | .block _ b=>zbe s b
 | .loop b=>zbe s b
 | _=>false
theorem zm1 {s:Nat}:{l:List Oper}->zrd s l=false->∀ o∈l,o.dst≠some s
 | [],_,o,h=>by simp at h
 | x :: l,hw,o,h=>by
  simp only [zrd,Bool.or_eq_false_iff] at hw;rcases List.mem_cons.1 h with rfl | h
  ·intro hd;have h1:=hw.1;rw [hd] at h1;simp only [Nat.beq_refl] at h1;cases h1
  ·exact zm1 hw.2 o h
def Kept (b:Code) (a a':Act):Prop:=∀ s,zbe s b=false->a'.tmps[s]? = a.tmps[s]?
def Kont (n:Nat) (g:Ghost) (w:World) (k:AExit->St->Option R) (r:R) (F:Act->Prop) (Q:Exit->Act->World->Prop):Prop:=
 ∀ e σ' g' a' w',k e σ'=some r->StOK n g' w' a' σ'->Ext w g w' g'->z18 g' σ'->F a'->Q e.to a' w'
theorem Kont.later {n:Nat} {g g':Ghost} {w w':World} {k:AExit->St->Option R} {r:R} {F F':Act->Prop} {Q:Exit->Act->World->Prop} (h:Kont n g w k r F Q) (he:Ext w g w' g') (hF:∀ a,F' a->F a):Kont n g' w' k r F' Q:=
 fun e σ' g2 a' w2 hk hst hext hf hF'=>h e σ' g2 a' w2 hk hst (he.trans hext) hf (hF a' hF')
section
variable {P:Program} {c:Ctx}
theorem z5g (hc:CtxOK P c) (hm:P.follows .mixedOrders=true):(code:Code)->(∀ b∈z00 code,z0r c b)->{σ:St}->{g:Ghost}->{a:Act}->{w:World}->{k:AExit->St->Option R}->{r:R}->{Q:Exit->Act->World->Prop}->
  (∀ ch a w,¬ Q (.panic ch) a w)->z0z c code σ k=some r->StOK c.ntmps g w a σ->z18 g σ->Kont c.ntmps g w k r (Kept code a) Q->code.wp P Q a w
 | .skip,_,σ,g,a,w,k,r,Q,_,h,hst,hf,hk=>Go.wp_skip (hk .normal σ g a w h hst (Ext.refl _ _) hf (fun _ _=>rfl))
 | .region id ops draw,_,σ,g,a,w,k,r,Q,hQ,h,hst,hf,hk=>zvq hc hm hQ h hst hf (fun σ' g' a' w' h' hst' hext' hf' hkp=>hk .normal σ' g' a' w' h' hst' hext' hf' (fun s hs=>hkp s (zm1 hs)))
 | .seq x y,hlo,σ,g,a,w,k,r,Q,hQ,h,hst,hf,hk=>by
  simp only [z0z] at h;refine wp_seq (z5g hc hm x (fun b hb=>hlo b (by simp [z00,hb])) (Q:=Exit.then (y.wp P Q) Q) hQ h hst hf ?_);intro e σ1 g1 a1 w1 h1 hst1 hext1 hf1 hkp1;have hy:∀ a',Kept y a1 a'->Kept (.seq x y) a a':=fun a' h s hs=>by
   simp only [zbe,Bool.or_eq_false_iff] at hs;rw [h s hs.2,hkp1 s hs.1]
  have hx:Kept (.seq x y) a a1:=fun s hs=>by
   simp only [zbe,Bool.or_eq_false_iff] at hs;exact hkp1 s hs.1
  cases e with
  | normal=>
   simp only [kSeq,kCut] at h1;show y.wp P Q a1 w1;split at h1
   ·obtain ⟨σ2,g2,h2,hst2,hext2,hf2⟩:=zd4 hst1 hf1 h1;exact z5g hc hm y (fun b hb=>hlo b (by simp [z00,hb])) hQ h2 hst2 hf2 (hk.later (hext1.trans hext2) hy)
   ·exact z5g hc hm y (fun b hb=>hlo b (by simp [z00,hb])) hQ h1 hst1 hf1 (hk.later hext1 hy)
  | exit i=>exact hk (.exit i) σ1 g1 a1 w1 h1 hst1 hext1 hf1 hx
  | ret=>exact hk .ret σ1 g1 a1 w1 h1 hst1 hext1 hf1 hx
 | .cond x p q,hlo,σ,g,a,w,k,r,Q,hQ,h,hst,hf,hk=>by
  simp only [z0z] at h;split at h
  ·rename_i t ht;have hv:=z8s (z24 hst ht).1;refine wp_cond hv ?_
   cases t with
   | true=>exact z5g hc hm p (fun b hb=>hlo b (by simp [z00,hb])) hQ h hst hf (hk.later (Ext.refl _ _) fun a' h s hs=>h s (by simp only [zbe,Bool.or_eq_false_iff] at hs;exact hs.1))
   | false=>exact z5g hc hm q (fun b hb=>hlo b (by simp [z00,hb])) hQ h hst hf (hk.later (Ext.refl _ _) fun a' h s hs=>h s (by simp only [zbe,Bool.or_eq_false_iff] at hs;exact hs.2))
  ·simp at h
 | .block id b,hlo,σ,g,a,w,k,r,Q,hQ,h,hst,hf,hk=>by
  simp only [z0z] at h;refine wp_block (z5g hc hm b (fun b' hb=>hlo b' (by simp [z00,hb])) (Q:=Exit.inBlock id Q) hQ h hst hf ?_);intro e σ1 g1 a1 w1 h1 hst1 hext1 hf1 hkp1;have hx:Kept (.block id b) a a1:=hkp1
  cases e with
  | normal=>exact hk .normal σ1 g1 a1 w1 h1 hst1 hext1 hf1 hx
  | exit i=>
   simp only [kBlock] at h1;simp only [AExit.to,Exit.inBlock]
   cases hb:Nat.beq i id with
   | true=>
    rw [hb] at h1;rw [if_pos (zE hb)]
    exact hk .normal σ1 g1 a1 w1 h1 hst1 hext1 hf1 hx
   | false=>
    rw [hb] at h1;rw [if_neg (fun he=>by subst he;rw [Nat.beq_refl] at hb;simp at hb)]
    exact hk (.exit i) σ1 g1 a1 w1 h1 hst1 hext1 hf1 hx
  | ret=>exact hk .ret σ1 g1 a1 w1 h1 hst1 hext1 hf1 hx
 | .loop b,hlo,σ,g,a,w,k,r,Q,hQ,h,hst,hf,hk=>by
  simp only [z0z] at h;split at h
  ·rename_i rg hrg;split at h
   ·rename_i lv hlv;split at h
    ·rename_i L hL;obtain ⟨sl0,os0,g0,h,hst0,hext0,hf0⟩:=zer hst hf h;have h:=hlo b (by simp [z00]) rg lv L hrg hlv hL R sl0 os0 k r h;refine wp_loop_rounds c.fuel ?_;have rounds:∀ (n:Nat) {sl:List (Nat×AVal)} {os:List Obj} {g1:Ghost} {a1:Act} {w1:World},zg3 (z0z c b) lv n sl os (zg9 c rg k)=some r->StOK c.ntmps g1 w1 a1 (St.of sl os)->z18 g1 (St.of sl os)->Ext w g w1 g1->Kept b a a1->Code.rounds P b Q n a1 w1:=by
      intro n
      induction n with
      | zero=>intro sl os g1 a1 w1 h;simp [zg3] at h
      | succ n ih=>
      intro sl os g1 a1 w1 h hst hf hext hkp;simp only [zg3] at h;rw [rounds_succ];refine z5g hc hm b (fun b' hb=>hlo b' (by simp [z00,hb])) (Q:=Exit.then (Code.rounds P b Q n) Q) hQ h hst hf ?_;intro e σ2 g2 a2 w2 h2 hst2 hext2 hf2 hkp2;have hx:Kept (.loop b) a a2:=fun s hs=>(hkp2 s hs).trans (hkp s hs)
      cases e with
      | normal=>
       obtain ⟨sl3,os3,g3,h3,hst3,hext3,hf3⟩:=zer hst2 hf2 h2
       exact ih h3 hst3 hf3 ((hext.trans hext2).trans hext3) hx
      | exit i=>
       simp only [zg9] at h2;split at h2
       ·obtain ⟨σ3,g3,h3,hst3,hext3,hf3⟩:=zd4 hst2 hf2 h2;exact hk (.exit i) σ3 g3 a2 w2 h3 hst3 ((hext.trans hext2).trans hext3) hf3 hx
       ·simp at h2
      | ret=>
       simp only [zg9] at h2;obtain ⟨σ3,g3,h3,hst3,hext3,hf3⟩:=zd4 hst2 hf2 h2;exact hk .ret σ3 g3 a2 w2 h3 hst3 ((hext.trans hext2).trans hext3) hf3 hx
     exact rounds c.fuel h hst0 hf0 hext0 (fun _ _=>rfl)
    ·simp at h
   ·simp at h
  ·simp at h
 | .exit id,_,σ,g,a,w,k,r,Q,_,h,hst,hf,hk=>wp_exit (hk (.exit id) σ g a w h hst (Ext.refl _ _) hf (fun _ _=>rfl))
 | .ret,_,σ,g,a,w,k,r,Q,_,h,hst,hf,hk=>wp_ret (hk .ret σ g a w h hst (Ext.refl _ _) hf (fun _ _=>rfl))
 | .goto _,_,_,_,_,_,_,_,_,_,h,_,_,_=>by simp [z0z] at h
 | .label _,_,_,_,_,_,_,_,_,_,h,_,_,_=>by simp [z0z] at h
 | .scope _,_,_,_,_,_,_,_,_,_,h,_,_,_=>by simp [z0z] at h
 | .rangeFunc _ _ _ _,_,_,_,_,_,_,_,_,_,h,_,_,_=>by simp [z0z] at h
 | .refuse _,_,_,_,_,_,_,_,_,_,h,_,_,_=>by simp [z0z] at h
end
end Go.Kz
namespace Go.Kz
variable {R:Type}
def Ty.isChain:Ty->Bool
 | .pair _ _ | .unit=>true
 | _=>false
def Ty.exOK:Ty->Bool
 | .sl true t=>t.isRo
 | .pair a b=>a.exOK && b.exOK && b.isChain
 | t=>t.isRo
structure Shr (g:Ghost) (objs0:z2c) (g':Ghost) (objs':z2c) (ml:List (Option Nat)):Prop where
 sv:g'.sv=g.sv
 blk:g'.blk=g.blk
 objs:∀ i,objs' i=objs0 i∨objs' i=none
 tag:∀ b,g'.tag b=g.tag b∨(g'.tag b = .ro∧∃ id,objs0 id≠none∧objs' id=none∧some id∉ml∧((∃ p,g.tag b = .row id p)∨g.tag b = .box id))
 mv:∀ i,some i∈ml->objs0 i≠none∧objs' i=none
 nodup:(ml.filterMap id).Nodup
theorem Shrunk.shr {g g':Ghost} {o o':z2c} (h:Shrunk g o g' o'):Shr g o g' o' []:=by
 refine ⟨h.sv,h.blk,h.objs,fun b=>?_,fun i hi=>by simp at hi,by simp⟩;rcases h.tag b with e | ⟨e,id,h1,h2,h3⟩
 ·exact .inl e
 ·exact .inr ⟨e,id,h1,h2,by simp,h3⟩
theorem Shr.refl (g:Ghost) (objs:z2c):Shr g objs g objs []:=⟨rfl,rfl,fun _=>.inl rfl,fun _=>.inl rfl,fun i h=>by simp at h,by simp⟩
theorem Shr.nil (g:Ghost) (objs:z2c):Shr g objs g objs [none]:=⟨rfl,rfl,fun _=>.inl rfl,fun _=>.inl rfl,fun i h=>by simp at h,by simp⟩
theorem Shr.ro {g g':Ghost} {o o':z2c} {mv:List (Option Nat)} (h:Shr g o g' o' mv) (w:World):RoKept w g w g':=by
 refine ⟨fun b hb=>⟨?_,rfl⟩⟩;rcases h.tag b with e | ⟨e,_⟩
 ·rw [e,hb]
 ·exact e
theorem Shr.stays {g g':Ghost} {o o':z2c} {mv:List (Option Nat)} (h:Shr g o g' o' mv) (w:World) {id:Nat} (hid:o id=none∨o' id≠none∨some id∈mv):Same w g w g' id:=by
 have hno:∀ id',o id'≠none->o' id'=none->some id'∉mv->id'≠id:=by
  intro id' h1 h2 h3 he;subst he;rcases hid with h | h | h
  ·exact h1 h
  ·exact h h2
  ·exact h3 h
 refine ⟨⟨fun q=>by rw [h.sv],fun q b hb=>⟨?_,rfl⟩⟩,by rw [h.blk],fun hb=>⟨?_,rfl⟩⟩
 ·rcases h.tag b with e | ⟨_,id',h1,h2,h3,ht⟩
  ·rw [e,hb]
  ·rw [hb] at ht;rcases ht with ⟨p,ht⟩ | ht
   ·simp only [Tag.row.injEq] at ht;exact absurd ht.1.symm (hno id' h1 h2 h3)
   ·simp at ht
 ·rcases h.tag (g.blk id) with e | ⟨_,id',h1,h2,h3,ht⟩
  ·rw [e,hb]
  ·rw [hb] at ht;rcases ht with ⟨p,ht⟩ | ht
   ·simp at ht
   ·simp only [Tag.box.injEq] at ht;exact absurd ht.symm (hno id' h1 h2 h3)
theorem Shr.trans {g g' g'':Ghost} {o o' o'':z2c} {m1 m2:List (Option Nat)} (h:Shr g o g' o' m1) (k:Shr g' o' g'' o'' m2):Shr g o g'' o'' (m1++m2):=by
 have hback:∀ i,o' i≠Option.none->o i≠Option.none:=by
  intro i hi;rcases h.objs i with e | e
  ·rw [←e];exact hi
  ·exact absurd e hi
 have hfwd:∀ i,o' i=Option.none->o'' i=Option.none:=by
  intro i hi;rcases k.objs i with e | e
  ·rw [e];exact hi
  ·exact e
 refine ⟨k.sv.trans h.sv,k.blk.trans h.blk,fun i=>?_,fun b=>?_,fun i hi=>?_,?_⟩
 ·rcases k.objs i with e | e
  ·rw [e];exact h.objs i
  ·exact .inr e
 ·rcases k.tag b with e | ⟨e,id,h1,h2,h3,ht⟩
  ·rcases h.tag b with e2 | ⟨e2,id,h1,h2,h3,ht⟩
   ·exact .inl (e.trans e2)
   ·refine .inr ⟨e.trans e2,id,h1,hfwd id h2,fun hm=>?_,ht⟩;rcases List.mem_append.1 hm with hm | hm
    ·exact h3 hm
    ·exact absurd h2 (k.mv id hm).1
  ·rcases h.tag b with e2 | ⟨e2,_⟩
   ·rw [e2] at ht;refine .inr ⟨e,id,hback id h1,h2,fun hm=>?_,ht⟩;rcases List.mem_append.1 hm with hm | hm
    ·exact h1 (h.mv id hm).2
    ·exact h3 hm
   ·rw [e2] at ht;rcases ht with ⟨p,ht⟩ | ht <;> simp at ht
 ·rcases List.mem_append.1 hi with hi | hi
  ·exact ⟨(h.mv i hi).1,hfwd i (h.mv i hi).2⟩
  ·exact ⟨hback i (k.mv i hi).1,(k.mv i hi).2⟩
 ·rw [List.filterMap_append,List.nodup_append];refine ⟨h.nodup,k.nodup,fun a ha b hb=>?_⟩;have ha':some a∈m1:=by obtain ⟨x,hx,he⟩:=List.mem_filterMap.1 ha;simp at he;rw [←he];exact hx
  have hb':some b∈m2:=by obtain ⟨x,hx,he⟩:=List.mem_filterMap.1 hb;simp at he;rw [←he];exact hx
  intro he;subst he;exact (k.mv a hb').1 (h.mv a ha').2
theorem Shr.kept {w:World} {g g':Ghost} {o o':z2c} {mv:List (Option Nat)} (h:Shr g o g' o' mv) (id:Nat):z15 g g' id (o id) (o' id):=by
 rcases h.objs id with e | e
 ·rw [e];by_cases hn:o' id=Option.none
  ·left;rw [←e];exact hn
  ·exact z15.same (h.stays w (.inr (.inl hn)))
 ·exact .inl e
theorem Shr.heap {w:World} {g g':Ghost} {o o':z2c} {mv:List (Option Nat)} (h:Shr g o g' o' mv) (hh:HeapOK w g o):HeapOK w g' o':=by
 refine ⟨fun id x hx=>?_,fun b hb=>?_⟩
 ·have hid:o' id≠Option.none:=by rw [hx];simp
  have hx':o id=some x:=by
   rcases h.objs id with e | e
   ·rw [←e];exact hx
   ·exact absurd e hid
  exact z14.frame (h.ro w) (h.stays w (.inr (.inl hid))) (fun a ha id' _=>h.kept (w:=w) id') (hh.objs id x hx')
 ·refine hh.tags b ?_;rcases h.tag b with e | ⟨e,id',_,_,_,ht⟩
  ·rw [←e];exact hb
  ·rcases ht with ⟨p,ht⟩ | ht <;> rw [ht] <;> simp
theorem Shr.ext {w:World} {g g':Ghost} {o o':z2c} {mv:List (Option Nat)} (h:Shr g o g' o' mv):Ext w g w g':=by
 refine ⟨rfl,rfl,rfl,Nat.le_refl _,Nat.le_refl _,fun b _ ht=>⟨rfl,?_⟩⟩;rcases h.tag b with e | ⟨_,id',_,_,_,h2⟩
 ·exact e
 ·rcases h2 with ⟨p,h2⟩ | h2 <;> rw [h2] at ht <;> simp at ht
theorem kill_shr {g:Ghost} {σ:St} {id:Nat} (hid:σ.objs id≠none):Shr g σ.objs g (σ.kill id).objs [some id]:=by
 refine ⟨rfl,rfl,(z3g (g:=g) (σ:=σ) id hid).objs,fun b=>.inl rfl,fun i hi=>?_,by simp⟩;simp only [List.mem_singleton,zI] at hi;subst hi;exact ⟨hid,by simp [St.kill,upd]⟩
structure Laid (w:World) (g:Ghost) (mv:List (Option Nat)) (G:Ghost) (base:Nat):Prop where
 ro:RoKept w g w G
 row:∀ j i,z12 mv j=some (some i)->Moved w g w G i [] (base+j) []
 nil:∀ j,z12 mv j=some none->G.sv (base+j) [] = .slice none 0 0
theorem z4d {α:Type}:(l m:List α)->(i:Nat)->z12 (l++m) i=if i < l.length then z12 l i else z12 m (i-l.length)
 | [],m,i=>by simp
 | x :: l,m,0=>by simp [z12]
 | x :: l,m,i+1=>by simp [z12,z4d l m i]
theorem Laid.left {w:World} {g g' G:Ghost} {o o':z2c} {m1 m2:List (Option Nat)} {base:Nat} (k:Shr g o g' o' m2) (hm:∀ i,some i∈m1->o i=none) (h:Laid w g' (m1++m2) G base):Laid w g m1 G base:=by
 refine ⟨⟨fun b hb=>h.ro.blk b ((k.ro w).blk b hb).1⟩,fun j i hj=>?_,fun j hj=>?_⟩
 ·have hlt:=z4o hj;have hx:=h.row j i (by rw [z4d,if_pos hlt];exact hj);have hs:=k.stays w (.inl (hm i (z31 hj)));refine ⟨fun q=>(hx.sv q).trans (hs.row.sv q),fun q b hb=>?_⟩;exact hx.blk q b (hs.row.blk q b hb).1
 ·exact h.nil j (by rw [z4d,if_pos (z4o hj)];exact hj)
theorem Laid.right {w:World} {g G:Ghost} {m1 m2:List (Option Nat)} {base:Nat} (h:Laid w g (m1++m2) G base):Laid w g m2 G (base+m1.length):=by
 refine ⟨h.ro,fun j i hj=>?_,fun j hj=>?_⟩
 ·have:=h.row (m1.length+j) i (by rw [z4d,if_neg (by omega)];rw [Nat.add_sub_cancel_left];exact hj);rw [←Nat.add_assoc] at this;exact this
 ·have:=h.nil (m1.length+j) (by rw [z4d,if_neg (by omega)];rw [Nat.add_sub_cancel_left];exact hj);rw [←Nat.add_assoc] at this;exact this
theorem zh1:(t:Ty)->(d:t.den)->(n:Nat)->t.isRo=true->z06 t d n=(.data t d,[])
 | .sl true t,l,n,h=>by simp [Ty.isRo] at h
 | .sl false t,l,n,_=>rfl
 | .int _,_,_,_=>rfl
 | .bool,_,_,_=>rfl
 | .str,_,_,_=>rfl
 | .unit,_,_,_=>rfl
 | .arr _ _,_,_,_=>rfl
 | .ptr _,_,_,_=>rfl
 | .fn _ _,_,_,_=>rfl
 | .pair a b,(x,y),n,h=>by simp only [z06,h,cond_true]
theorem za8 {w:World} {g:Ghost} {objs:z2c}:(t:Ty)->(d:t.den)->(n:Nat)->{cs:List Value}->t.isRo=true->t.isChain=true->t.exOK=true->Rep w g none t d cs->
  AOK w g objs (z06.exposeC t d n).1 cs∧(z06.exposeC t d n).2=[]
 | .unit,_,_,cs,_,_,_,h=>⟨h,rfl⟩
 | .pair a b,(x,y),n,cs,h,_,he,hr=>by
  obtain ⟨c1,c2,rfl,h1,h2⟩:=hr;simp only [Ty.isRo,zA] at h;simp only [Ty.exOK,zA] at he;have ha:=zh1 a x n h.1;have hb:=fun n=>za8 (objs:=objs) b y n h.2 he.2 he.1.2 h2
  simp only [z06.exposeC,ha,List.length_nil,Nat.add_zero,List.nil_append]
  exact ⟨⟨c1,c2,rfl,⟨h.1,h1⟩,(hb n).1⟩,(hb n).2⟩
 | .int _,_,_,_,_,h,_,_=>by simp [Ty.isChain] at h
 | .bool,_,_,_,_,h,_,_=>by simp [Ty.isChain] at h
 | .str,_,_,_,_,h,_,_=>by simp [Ty.isChain] at h
 | .arr _ _,_,_,_,_,h,_,_=>by simp [Ty.isChain] at h
 | .sl _ _,_,_,_,_,h,_,_=>by simp [Ty.isChain] at h
 | .ptr _,_,_,_,_,h,_,_=>by simp [Ty.isChain] at h
 | .fn _ _,_,_,_,_,h,_,_=>by simp [Ty.isChain] at h
structure Exposed (w:World) (G:Ghost) (x:AVal×List Obj) (base:Nat) (cs:List Value):Prop where
 ok:∀ O,AOK w G O x.1 cs
 objs:∀ O j o,z12 x.2 j=some o->z14 w G O (base+j) o
theorem give_nv {R:Type} {n:Nat} {pt:Bool} {id:Nat} {p:z1a} {ep:Nat} {u:Ty} {σ:St} {k:u.den->St->Option R} {r:R} (h:z2y n (.nv pt id p ep) u σ k=some r):∃ v,u = .sl false v:=by
 cases n with
 | zero=>simp [z2y] at h
 | succ n=>
  cases pt with
  | true=>simp [z2y] at h
  | false=>
   cases p with
   | cons s q=>simp [z2y] at h
   | nil=>
    simp only [z2y] at h;split at h
    ·rename_i t l e i ho
     cases hb:Nat.beq e ep with
     | false=>rw [hb] at h;simp at h
     | true=>
      rw [hb] at h;simp only [cond_true] at h;split at h
      ·exact ⟨_,rfl⟩
      ·simp at h
    ·simp at h
theorem zeu {w:World}:(n:Nat)->{a:AVal}->{u:Ty}->{σ:St}->{g:Ghost}->{k:u.den->St->Option R}->{r:R}->{cs:List Value}->
  HeapOK w g σ.objs->AOK w g σ.objs a cs->u.exOK=true->z2y n a u σ k=some r->
  ∃ d σ' g' mv,k d σ'=some r∧σ'.slots=σ.slots∧σ'.next=σ.next∧Shr g σ.objs g' σ'.objs mv∧(∀ m,(z06 u d m).2.length=mv.length)∧
   (∀ G base,Laid w g' mv G base->Exposed w G (z06 u d base) base cs)∧
   (u.isChain=true->(∀ m,(z06.exposeC u d m).2.length=mv.length)∧∀ G base,Laid w g' mv G base->Exposed w G (z06.exposeC u d base) base cs)
 | 0,_,_,_,_,_,_,_,_,_,_,h=>by simp [z2y] at h
 | n+1,a,u,σ,g,k,r,cs,hh,hok,hu,h=>by
  have ro:∀ d σ' g',u.isRo=true->k d σ'=some r->σ'.slots=σ.slots->σ'.next=σ.next->Shr g σ.objs g' σ'.objs []->Rep w g' none u d cs->
    ∃ d σ' g' mv,k d σ'=some r∧σ'.slots=σ.slots∧σ'.next=σ.next∧Shr g σ.objs g' σ'.objs mv∧(∀ m,(z06 u d m).2.length=mv.length)∧
     (∀ G base,Laid w g' mv G base->Exposed w G (z06 u d base) base cs)∧
     (u.isChain=true->(∀ m,(z06.exposeC u d m).2.length=mv.length)∧∀ G base,Laid w g' mv G base->Exposed w G (z06.exposeC u d base) base cs):=by
   intro d σ' g' hro hk h1 h2 h3 hrep;refine ⟨d,σ',g',[],hk,h1,h2,h3,fun m=>by rw [zh1 u d m hro];rfl,fun G base hl=>?_,fun hch=>⟨fun m=>?_,fun G base hl=>?_⟩⟩
   ·rw [zh1 u d base hro];exact ⟨fun O=>⟨hro,hrep.kept hl.ro⟩,fun O j o hj=>by cases j <;> simp [z12] at hj⟩
   ·rw [(za8 (w:=w) (objs:=fun _=>none) u d m hro hch hu hrep).2];rfl
   ·refine ⟨fun O=>(za8 u d base hro hch hu (hrep.kept hl.ro)).1,fun O j o hj=>?_⟩;rw [(za8 (w:=w) (objs:=fun _=>none) u d base hro hch hu hrep).2] at hj;cases j <;> simp [z12] at hj
  cases hro:u.isRo with
  | true=>
   obtain ⟨d,σ',g',hk,h1,h2,h3,hrep⟩:=z5v (n+1) hh hok hro h
   exact ro d σ' g' hro hk h1 h2 h3.shr hrep
  | false=>
  cases a with
  | data t d=>
   simp only [z2y] at h;obtain ⟨rfl,h⟩:=z0u h
   rw [hok.1] at hro;simp at hro
  | nilS=>
   simp only [z2y] at h;obtain ⟨o,v,rfl,h⟩:=zbz h;have hok':cs=[.slice none 0 0]:=hok;subst hok'
   cases o with
   | false=>rw [show (Ty.sl false v).isRo=true from by simpa [Ty.exOK] using hu] at hro;simp at hro
   | true=>
    refine ⟨_,σ,g,[none],h,rfl,rfl,Shr.nil _ _,fun m=>rfl,fun G base hl=>?_,fun hch=>by simp [Ty.isChain] at hch⟩;have hsv:=hl.nil 0 rfl;refine ⟨fun O=>⟨_,rfl,rfl,fun t l e _=>⟨Nat.zero_le _,fun _=>hsv.symm⟩⟩,fun O j o hj=>?_⟩
    cases j with
    | succ j=>cases j <;> simp [z06,z12] at hj
    | zero=>
     simp only [z06,z12,zI] at hj;subst hj;refine ⟨hu,?_⟩;rw [hsv]
     exact ⟨none,0,rfl,hsv,Nat.le_refl _,Nat.zero_le _,.inl ⟨rfl,rfl,rfl⟩⟩
  | ref id p ep=>
   cases p with
   | cons s q=>simp [z2y] at h
   | nil=>
    simp only [z2y] at h;split at h
    ·rename_i t l e ho
     cases hb:Nat.beq e ep with
     | false=>rw [hb] at h;simp at h
     | true=>
      have he:e=ep:=zE hb;subst he;rw [hb] at h;simp only [cond_true] at h;obtain ⟨v,rfl,_,hv⟩:=hok;have hsv:=(hv _ _ _ ho).2 rfl;have hobj:=hh.objs id _ ho;split at h
      ·rename_i v' kk;obtain ⟨he,h⟩:=z0u h;simp only [Ty.sl.injEq,true_and] at he;subst he;refine ⟨_,σ.kill id,g,[some id],h,rfl,rfl,kill_shr (by rw [ho];simp),fun m=>rfl,fun G base hl=>?_,fun hch=>by simp [Ty.isChain] at hch⟩;have hm:=hl.row 0 id rfl;have hsv':=hm.sv [];simp only [List.append_nil] at hsv';refine ⟨fun O=>⟨_,rfl,?_,fun t l e _=>⟨Nat.zero_le _,fun _=>?_⟩⟩,fun O j o hj=>?_⟩
       ·obtain ⟨_,_,_,_,hx,_⟩:=hobj;rw [hsv,hx];rfl
       ·rw [hsv];exact hsv'.symm
       ·cases j with
        | succ j=>cases j <;> simp [z06,z12] at hj
        | zero=>
         simp only [z06,z12,zI] at hj;subst hj;refine ⟨hobj.1,?_⟩;have:=Rep.move hl.ro (o:=some (id,[])) (o':=some (base,[])) hm hobj.2;show Rep w G (some (base,[])) _ _ [G.sv base []];rw [show G.sv base []=g.sv id [] from hsv'];exact this
      ·rename_i v' kk;rw [show (Ty.sl false v').isRo=true from by simpa [Ty.exOK] using hu] at hro;simp at hro
      ·simp at h
    ·simp at h
  | bptr id p=>
   cases u with
   | ptr u=>rw [show (Ty.ptr u).isRo=true from hu] at hro;simp at hro
   | _=>cases p <;> simp [z2y] at h
  | clos f c=>
   cases u with
   | fn f' t=>rw [show (Ty.fn f' t).isRo=true from hu] at hro;simp at hro
   | _=>simp [z2y] at h
  | ifc t c=>simp [z2y] at h
  | agg c=>
   simp only [z2y] at h
   exact zeu n (a:=c) hh hok hu h
  | pr a b=>
   cases u with
   | pair t u=>
    simp only [z2y] at h;simp only [Ty.exOK,zA] at hu;obtain ⟨c1,c2,rfl,ha,hb⟩:=hok;obtain ⟨x,σ1,g1,mv1,hk1,h1,h2,h3,hl1,he1,_⟩:=zeu n hh ha hu.1.1 h;have hb':=AOK.frame (objs':=σ1.objs) (h3.ro w) (fun i _=>h3.kept (w:=w) i) hb;obtain ⟨y,σ2,g2,mv2,hk2,h4,h5,h6,hl2,he2,hc2⟩:=zeu n (h3.heap hh) hb' hu.1.2 hk1;obtain ⟨hcl2,hce2⟩:=hc2 hu.2;have hlenC:∀ m,(z06.exposeC (.pair t u) (x,y) m).2.length=(mv1++mv2).length:=fun m=>by
     simp only [z06.exposeC,List.length_append,hl1,hcl2]
    have hexC:∀ G base,Laid w g2 (mv1++mv2) G base->Exposed w G (z06.exposeC (.pair t u) (x,y) base) base (c1++c2):=fun G base hl=>by
     have e1:=he1 G base (hl.left h6 (fun i hi=>(h3.mv i hi).2));have e2:=hce2 G (base+mv1.length) hl.right;simp only [z06.exposeC];rw [hl1 base];refine ⟨fun O=>⟨c1,c2,rfl,e1.ok O,e2.ok O⟩,fun O j o hj=>?_⟩;rw [z4d] at hj;split at hj
     ·exact e1.objs O j o hj
     ·rename_i hge;rw [hl1 base] at hj hge;have:=e2.objs O _ o hj;rw [show base+mv1.length+(j-mv1.length)=base+j from by omega] at this;exact this
    refine ⟨(x,y),σ2,g2,mv1++mv2,hk2,h4.trans h1,h5.trans h2,h3.trans h6,fun m=>?_,fun G base hl=>?_,fun _=>⟨hlenC,hexC⟩⟩
    ·simp only [z06];rw [hro];exact hlenC m
    ·simp only [z06];rw [hro]
     exact ⟨fun O=>(hexC G base hl).ok O,(hexC G base hl).objs⟩
   | _=>simp [z2y] at h
  | un=>
   cases u with
   | unit=>
    simp only [z2y] at h
    simp [Ty.isRo] at hro
   | _=>simp [z2y] at h
  | view id p ep x y=>cases u <;> simp [z2y] at h
  | eptr id p ep=>cases u <;> simp [z2y] at h
  | mref id=>cases u <;> simp [z2y] at h
  | nv pt id p ep=>
   obtain ⟨v',rfl⟩:=give_nv h
   rw [show (Ty.sl false v').isRo=true from by simpa [Ty.exOK] using hu] at hro;simp at hro
  | tup c=>exact hok.elim
end Go.Kz
