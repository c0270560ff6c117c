/-
  slices.SortFunc where the comparison tells all elements apart: the one ascending list, by insertion.
-/
import Derived.Test.YtnjfafnflbackaaKzAQ
import Derived.Test.YtnjfafnflbackaaKzAR
set_option linter.unusedVariables false
set_option linter.unusedSimpArgs false
namespace Go.Kz
open Go.Proofs Go.Sort Go.Shelf
def eqT:(t:Ty)->t.den->t.den->Bool
 | .int _,a,b=>decide (a=b)
 | .bool,a,b=>a == b
 | .str,a,b=>decide (a=b)
 | .unit,_,_=>true
 | .pair a b,(x,u),(y,v)=>eqT a x y && eqT b u v
 | .arr _ t,x,y=>z5i (eqT t) x y
 | .sl _ t,x,y=>z5i (eqT t) x y
 | .ptr t,x,y=>eqT t x y
 | .fn _ t,x,y=>eqT t x y
theorem zgg {α:Type} {f:α->α->Bool} (hf:∀ x y,f x y=true->x=y):{l m:List α}->z5i f l m=true->l=m
 | [],[],_=>rfl
 | x :: l,y :: m,h=>by
  simp only [z5i] at h
  cases hb:f x y with
  | false=>rw [hb] at h;simp at h
  | true=>
   rw [hb] at h
   rw [hf x y hb,zgg hf h]
 | [],_ :: _,h=>by simp [z5i] at h
 | _ :: _,[],h=>by simp [z5i] at h
theorem zhb:(t:Ty)->(x y:t.den)->eqT t x y=true->x=y
 | .int _,a,b,h=>by simpa [eqT] using h
 | .bool,a,b,h=>by simpa [eqT] using h
 | .str,a,b,h=>by simpa [eqT] using h
 | .unit,_,_,_=>rfl
 | .pair a b,(x,u),(y,v),h=>by
  simp only [eqT,zA] at h
  rw [zhb a x y h.1,zhb b u v h.2]
 | .arr _ t,x,y,h=>zgg (zhb t) h
 | .sl _ t,x,y,h=>zgg (zhb t) h
 | .ptr t,x,y,h=>zhb t x y h
 | .fn _ t,x,y,h=>zhb t x y h
theorem zb7 {α:Type} {f:α->α->Bool} (hf:∀ x,f x x=true):(l:List α)->z5i f l l=true
 | []=>rfl
 | x :: l=>by simp only [z5i,hf x,cond_true];exact zb7 hf l
theorem z8j:(t:Ty)->(x:t.den)->eqT t x x=true
 | .int _,a=>by simp [eqT]
 | .bool,a=>by simp [eqT]
 | .str,a=>by simp [eqT]
 | .unit,_=>rfl
 | .pair a b,(x,u)=>by simp only [eqT,z8j a x,z8j b u,Bool.and_self]
 | .arr _ t,x=>zb7 (z8j t) x
 | .sl _ t,x=>zb7 (z8j t) x
 | .ptr t,x=>z8j t x
 | .fn _ t,x=>z8j t x
def sepB {β:Type} (eq lt:β->β->Bool) (l:List β):Bool:=zys (fun x=>zys (fun y=>lt x y || lt y x || eq x y) l) l
def zvc (t:Ty) (Fc:t.den->t.den->Option Int) (l:List t.den):Option (List t.den):=
 cond (ordB Fc l && sepB (eqT t) (ltI (zcm Fc)) l && Nat.blt l.length 4611686018427387904) (some (zn6 (ltI (zcm Fc)) l)) none
theorem zz7 {t:Ty} {Fc:t.den->t.den->Option Int} {l l':List t.den} (h:zvc t Fc l=some l'):zve Fc l=some l':=by
 unfold zvc at h;replace h:=z1j h;obtain ⟨hb,h⟩:=h;simp only [zA] at hb;obtain ⟨⟨h1,h2⟩,h3⟩:=hb;simp only [zI] at h;subst h;unfold zve;rw [h1,h3];simp only [Bool.and_self,cond_true,zI];have hord:=(zvy h1).1;obtain ⟨p1,p2⟩:=zra hord;refine zjy (lt:=ltI (zcm Fc)) (fun x y hx hy hxy hyx=>?_) (p1.trans (z4e _ l).symm) p2 (za2 hord l fun y hy=>hy);have hx':=p1.mem_iff.1 hx;have hy':=p1.mem_iff.1 hy;simp only [sepB,zae,Bool.or_eq_true] at h2;rcases h2 x hx' y hy' with (h | h) | h
 ·rw [hxy] at h;cases h
 ·rw [hyx] at h;cases h
 ·exact zhb t x y h
theorem zqo {P:Program} {f:Nat} {fin:SForm} {anch:List Nat} {fout:SForm} {F F':fin.den->Option fout.den} (h:z04 P f (.mut fin anch fout F)) (hF:∀ d r,F' d=some r->F d=some r):z04 P f (.mut fin anch fout F'):=by
 intro w g d vals r h1 h2 h3 h4;exact h w g d vals r h1 h2 h3 (hF d r h4)
theorem zm0 {P:Program} {ρ:Ren} (L:SlLaysF0.n6 P ρ) {t:Ty} (hns:t.noSl=true) (hag:t.sk.isAgg=true) (aE:∀ w,(isAgg (ρ.t 24)).run P w = .ok true w) (zE:∀ w,(Go.sizeOf (ρ.t 24)).run P w = .ok t.size w)
  {g:Nat} (eg:∀ args w,(callFunc g args).run P w = .ok (.enter g args) w) {Fc:t.den×t.den×Unit->Option Int}
  (hc:z04 P g (.pure (.pr (.val t) (.pr (.val t) .un)) [.int .i64] Fc)) :
  z04 P (ρ.f 6) (.mut ⟨[(0,.ref 0),(1,.val (.fn g .unit))],[.row t]⟩ [0] ⟨[(0,.ref 0)],[.row t]⟩ fun d=>(zvc t (fun x y=>Fc (x,y,())) d.2.1).map fun l=>(((),()),(l,()))):=
 zqo (zpk L hns hag aE zE eg hc) fun d r h=>by
  simp only [Option.map_eq_some_iff] at h ⊢;obtain ⟨l',h1,h2⟩:=h;exact ⟨l',zz7 h1,h2⟩
end Go.Kz
