/-
  slices.SortFunc where the comparison tells all elements apart: the one ascending list, by insertion.
-/
import Derived.Test.YtafhchecfmiieaaKzAQ
import Derived.Test.YtafhchecfmiieaaKzAR
set_option linter.unusedVariables false
set_option linter.unusedSimpArgs false
namespace Go.Kz
open Go.Proofs Go.Sort Go.Shelf
def eqT:(t:Ty)→t.den→t.den→Bool
 | .int _,a,b=>decide (a=b)
 | .bool,a,b=>a == b
 | .str,a,b=>decide (a=b)
 | .unit,_,_=>true
 | .pair a b,(x,u),(y,v)=>eqT a x y && eqT b u v
 | .arr _ t,x,y=>listEq (eqT t) x y
 | .sl _ t,x,y=>listEq (eqT t) x y
 | .ptr t,x,y=>eqT t x y
 | .fn _ t,x,y=>eqT t x y
theorem listEq_eq {α:Type} {f:α→α→Bool} (hf:∀ x y,f x y=true→x=y):{l m:List α}→listEq f l m=true→l=m
 | [],[],_=>rfl
 | x :: l,y :: m,h=>by
  simp only [listEq] at h
  cases hb:f x y with
  | false=>rw [hb] at h;simp at h
  | true=>
   rw [hb] at h
   rw [hf x y hb,listEq_eq hf h]
 | [],_ :: _,h=>by simp [listEq] at h
 | _ :: _,[],h=>by simp [listEq] at h
theorem eqT_eq:(t:Ty)→(x y:t.den)→eqT t x y=true→x=y
 | .int _,a,b,h=>by simpa [eqT] using h
 | .bool,a,b,h=>by simpa [eqT] using h
 | .str,a,b,h=>by simpa [eqT] using h
 | .unit,_,_,_=>rfl
 | .pair a b,(x,u),(y,v),h=>by
  simp only [eqT,Bool.and_eq_true] at h
  rw [eqT_eq a x y h.1,eqT_eq b u v h.2]
 | .arr _ t,x,y,h=>listEq_eq (eqT_eq t) h
 | .sl _ t,x,y,h=>listEq_eq (eqT_eq t) h
 | .ptr t,x,y,h=>eqT_eq t x y h
 | .fn _ t,x,y,h=>eqT_eq t x y h
theorem listEq_refl {α:Type} {f:α→α→Bool} (hf:∀ x,f x x=true):(l:List α)→listEq f l l=true
 | []=>rfl
 | x :: l=>by simp only [listEq,hf x,cond_true];exact listEq_refl hf l
theorem eqT_refl:(t:Ty)→(x:t.den)→eqT t x x=true
 | .int _,a=>by simp [eqT]
 | .bool,a=>by simp [eqT]
 | .str,a=>by simp [eqT]
 | .unit,_=>rfl
 | .pair a b,(x,u)=>by simp only [eqT,eqT_refl a x,eqT_refl b u,Bool.and_self]
 | .arr _ t,x=>listEq_refl (eqT_refl t) x
 | .sl _ t,x=>listEq_refl (eqT_refl t) x
 | .ptr t,x=>eqT_refl t x
 | .fn _ t,x=>eqT_refl t x
def sepB {β:Type} (eq lt:β→β→Bool) (l:List β):Bool:=allB (fun x=>allB (fun y=>lt x y || lt y x || eq x y) l) l
def sortS (t:Ty) (Fc:t.den→t.den→Option Int) (l:List t.den):Option (List t.den):=
 cond (ordB Fc l && sepB (eqT t) (ltI (cmpO Fc)) l && Nat.blt l.length 4611686018427387904) (some (isortD (ltI (cmpO Fc)) l)) none
theorem sortS_ok {t:Ty} {Fc:t.den→t.den→Option Int} {l l':List t.den} (h:sortS t Fc l=some l'):sortF Fc l=some l':=by
 unfold sortS at h
 replace h:=cond_some h
 obtain ⟨hb,h⟩:=h
 simp only [Bool.and_eq_true] at hb
 obtain ⟨⟨h1,h2⟩,h3⟩:=hb
 simp only [Option.some.injEq] at h
 subst h
 unfold sortF
 rw [h1,h3]
 simp only [Bool.and_self,cond_true,Option.some.injEq]
 have hord:=(ordB_ok h1).1
 obtain ⟨p1,p2⟩:=sortQ_ok hord
 refine asc_unique (lt:=ltI (cmpO Fc)) (fun x y hx hy hxy hyx=>?_) (p1.trans (isortD_perm _ l).symm) p2 (isortD_asc hord l fun y hy=>hy)
 have hx':=p1.mem_iff.1 hx
 have hy':=p1.mem_iff.1 hy
 simp only [sepB,allB_iff,Bool.or_eq_true] at h2
 rcases h2 x hx' y hy' with (h | h) | h
 ·rw [hxy] at h;cases h
 ·rw [hyx] at h;cases h
 ·exact eqT_eq t x y h
theorem callee_less {P:Program} {f:Nat} {fin:SForm} {anch:List Nat} {fout:SForm} {F F':fin.den→Option fout.den} (h:CalleeOK P f (.mut fin anch fout F)) (hF:∀ d r,F' d=some r→F d=some r):CalleeOK P f (.mut fin anch fout F'):=by
 intro w g d vals r h1 h2 h3 h4
 exact h w g d vals r h1 h2 h3 (hF d r h4)
theorem sortFuncS_ok {P:Program} {ρ:Ren} (L:SlLaysF0.n6 P ρ) {t:Ty} (hns:t.noSl=true) (hag:t.sk.isAgg=true) (aE:∀ w,(isAgg (ρ.t 24)).run P w = .ok true w) (zE:∀ w,(Go.sizeOf (ρ.t 24)).run P w = .ok t.size w)
  {g:Nat} (eg:∀ args w,(callFunc g args).run P w = .ok (.enter g args) w) {Fc:t.den×t.den×Unit→Option Int}
  (hc:CalleeOK P g (.pure (.pr (.val t) (.pr (.val t) .un)) [.int .i64] Fc)) :
  CalleeOK P (ρ.f 6) (.mut ⟨[(0,.ref 0),(1,.val (.fn g .unit))],[.row t]⟩ [0] ⟨[(0,.ref 0)],[.row t]⟩ fun d=>(sortS t (fun x y=>Fc (x,y,())) d.2.1).map fun l=>(((),()),(l,()))):=
 callee_less (sortFunc_ok L hns hag aE zE eg hc) fun d r h=>by
  simp only [Option.map_eq_some_iff] at h ⊢
  obtain ⟨l',h1,h2⟩:=h
  exact ⟨l',sortS_ok h1,h2⟩
end Go.Kz
