/-
  slices.SortFunc where the comparison tells all elements apart: the one ascending list, by insertion.
-/
import Derived.Test.YtnjfafnflbackaaKzAQ
import Derived.Test.YtnjfafnflbackaaKzAR
set_option linter.unusedVariables false
set_option linter.unusedSimpArgs false
namespace Go.Kz
open Go.Proofs Go.Sort Go.Shelf
def eqT:(t:Ty)->t.den->t.den->Bool
 | .int _,a,b=>decide (a=b)
 | .bool,a,b=>a == b
 | .str,a,b=>decide (a=b)
 | .unit,_,_=>true
 | .pair a b,(x,u),(y,v)=>eqT a x y && eqT b u v
 | .arr _ t,x,y=>z5p (eqT t) x y
 | .sl _ t,x,y=>z5p (eqT t) x y
 | .ptr t,x,y=>eqT t x y
 | .fn _ t,x,y=>eqT t x y
theorem zg6 {α:Type} {f:α->α->Bool} (hf:∀ x y,f x y=true->x=y):{l m:List α}->z5p f l m=true->l=m
 | [],[],_=>rfl
 | x :: l,y :: m,h=>by
  simp only [z5p] at h
  cases hb:f x y with
  | false=>rw [hb] at h;simp at h
  | true=>
   rw [hb] at h
   rw [hf x y hb,zg6 hf h]
 | [],_ :: _,h=>by simp [z5p] at h
 | _ :: _,[],h=>by simp [z5p] at h
theorem zh3:(t:Ty)->(x y:t.den)->eqT t x y=true->x=y
 | .int _,a,b,h=>by simpa [eqT] using h
 | .bool,a,b,h=>by simpa [eqT] using h
 | .str,a,b,h=>by simpa [eqT] using h
 | .unit,_,_,_=>rfl
 | .pair a b,(x,u),(y,v),h=>by
  simp only [eqT,zA] at h
  rw [zh3 a x y h.1,zh3 b u v h.2]
 | .arr _ t,x,y,h=>zg6 (zh3 t) h
 | .sl _ t,x,y,h=>zg6 (zh3 t) h
 | .ptr t,x,y,h=>zh3 t x y h
 | .fn _ t,x,y,h=>zh3 t x y h
theorem zay {α:Type} {f:α->α->Bool} (hf:∀ x,f x x=true):(l:List α)->z5p f l l=true
 | []=>rfl
 | x :: l=>by simp only [z5p,hf x,cond_true];exact zay hf l
theorem z75:(t:Ty)->(x:t.den)->eqT t x x=true
 | .int _,a=>by simp [eqT]
 | .bool,a=>by simp [eqT]
 | .str,a=>by simp [eqT]
 | .unit,_=>rfl
 | .pair a b,(x,u)=>by simp only [eqT,z75 a x,z75 b u,Bool.and_self]
 | .arr _ t,x=>zay (z75 t) x
 | .sl _ t,x=>zay (z75 t) x
 | .ptr t,x=>z75 t x
 | .fn _ t,x=>z75 t x
def sepB {β:Type} (eq lt:β->β->Bool) (l:List β):Bool:=zyu (fun x=>zyu (fun y=>lt x y || lt y x || eq x y) l) l
def zpz (t:Ty) (Fc:t.den->t.den->Option Int) (l:List t.den):Option (List t.den):=
 cond (ordB Fc l && sepB (eqT t) (ltI (zaf Fc)) l && Nat.blt l.length 4611686018427387904) (some (znl (ltI (zaf Fc)) l)) none
theorem zz7 {t:Ty} {Fc:t.den->t.den->Option Int} {l l':List t.den} (h:zpz t Fc l=some l'):zve Fc l=some l':=by
 unfold zpz at h;replace h:=z1l h;obtain ⟨hb,h⟩:=h;simp only [zA] at hb;obtain ⟨⟨h1,h2⟩,h3⟩:=hb;simp only [zI] at h;subst h;unfold zve;rw [h1,h3];simp only [Bool.and_self,cond_true,zI];have hord:=(zw0 h1).1;obtain ⟨p1,p2⟩:=zri hord;refine zk3 (lt:=ltI (zaf Fc)) (fun x y hx hy hxy hyx=>?_) (p1.trans (z3r _ l).symm) p2 (za3 hord l fun y hy=>hy);have hx':=p1.mem_iff.1 hx;have hy':=p1.mem_iff.1 hy;simp only [sepB,z78,Bool.or_eq_true] at h2;rcases h2 x hx' y hy' with (h | h) | h
 ·rw [hxy] at h;cases h
 ·rw [hyx] at h;cases h
 ·exact zh3 t x y h
theorem zr1 {P:Program} {f:Nat} {fin:SForm} {anch:List Nat} {fout:SForm} {F F':fin.den->Option fout.den} (h:z03 P f (.mut fin anch fout F)) (hF:∀ d r,F' d=some r->F d=some r):z03 P f (.mut fin anch fout F'):=by
 intro w g d vals r h1 h2 h3 h4;exact h w g d vals r h1 h2 h3 (hF d r h4)
theorem zds {P:Program} {ρ:Ren} (L:SlLaysF0.n6 P ρ) {t:Ty} (hns:t.noSl=true) (hag:t.sk.isAgg=true) (aE:∀ w,(isAgg (ρ.t 24)).run P w = .ok true w) (zE:∀ w,(Go.sizeOf (ρ.t 24)).run P w = .ok t.size w)
  {g:Nat} (eg:∀ args w,(callFunc g args).run P w = .ok (.enter g args) w) {Fc:t.den×t.den×Unit->Option Int}
  (hc:z03 P g (.pure (.pr (.val t) (.pr (.val t) .un)) [.int .i64] Fc)) :
  z03 P (ρ.f 6) (.mut ⟨[(0,.ref 0),(1,.val (.fn g .unit))],[.row t]⟩ [0] ⟨[(0,.ref 0)],[.row t]⟩ fun d=>(zpz t (fun x y=>Fc (x,y,())) d.2.1).map fun l=>(((),()),(l,()))):=
 zr1 (zq0 L hns hag aE zE eg hc) fun d r h=>by
  simp only [Option.map_eq_some_iff] at h ⊢;obtain ⟨l',h1,h2⟩:=h;exact ⟨l',zz7 h1,h2⟩
end Go.Kz
