/-
  No operation gives draws back; the two appends of a builder, with their draws.
-/
import Derived.Test.YtmoggdcmpoobpaaGreatDoorKzLT
set_option linter.unusedVariables false
set_option linter.unusedSimpArgs false
namespace Go.Kz
theorem Mf{I:Type}:∀(a:Ask I)(w:World),w.drawn<=(w.ask a).2.drawn
 |.done a,w=>Nat.le_refl _
 |.ask what range k,w=>by
  unfold World.ask;simp only;split
  ·exact Mf _ _
  ·exact Nat.le_trans (Nat.le_succ _) (Mf (k _) { w with drawn:=w.drawn+1 })
theorem zh0(w:World)(c:Sys):w.drawn<=(w.sys c).2.drawn:=by
 unfold World.sys;have:=Mf (Kernel.perform c w.os) w;split
 ·exact Nat.le_refl _
 ·rename_i h;rw[h]at this;exact this
theorem DH{p:Program}{w w':World}{at_ k:Addr}{u:TypeId}{v:Value}{b:Bool}{l:List Addr}(h:w.viewStore p at_ u k v b=.ok (w',l)):w'.drawn=w.drawn:=by
 unfold World.viewStore at h;simp only[bind,Except.bind,pure,Except.pure]at h
 repeat (split at h<;>try (first|(cases h;done)|skip))
 all_goals first|(cases h;rfl)|skip
theorem I7{p:Program}{w w':World}{a:Addr}{v:Value}{b:Bool}{l:List Addr}(h:w.farStore p a v b=.ok (w',l)):w'.drawn=w.drawn:=by
 unfold World.farStore at h;split at h
 ·split at h
  ·rename_i hv;cases h;exact DH hv
  ·cases h
 ·cases h
theorem z0x{I:Type}(p:Program)(m:Sem I):∀(w:World)(a:I)(w':World),m.run p w=.ok a w'->w.drawn<=w'.drawn:=by
 induction m with
 |pure a=>intro w b w' h;simp only[Sem.run,Result.ok.injEq]at h;rw[h.2];exact Nat.le_refl _
 |load m a k ih=>
  intro w b w' h;unfold Sem.run at h;split at h
  ·exact ih _ _ _ _ h
  ·split at h
   ·exact ih _ _ _ _ h
   ·cases h
 |store m a v k ih=>
  intro w b w' h
  have key:∀(m:Mode)(a:Addr)(v:Value),(match w.cell? a with
    |some _ =>if w.frozen? a then Result.halt (.unsupported (.unsafePointer "a write to bytes that a string shares")) w else k.run p (w.setCell a v)
    |none=>match w.farStore p a v (m == .atomic) with
     |.ok (w,_)=>k.run p w
     |.error h=>.halt h w)=Result.ok b w'->w.drawn<=w'.drawn:=by
   intro m a v h;split at h
   ·split at h
    ·cases h
    ·have:=ih _ _ _ h;have e:(w.setCell a v).drawn=w.drawn:=rfl;omega
   ·split at h
    ·rename_i hf;have:=I7 hf;have:=ih _ _ _ h;omega
    ·cases h
  cases v<;>first|exact key _ _ _ h|(simp[Sem.run]at h)
 |new o k ih=>intro w b w' h;exact ih _ { w with heap:=w.heap.push o } _ _ h
 |shape r k ih=>intro w b w' h;exact ih _ _ _ _ h
 |freeze a n k ih=>
  intro w b w' h;have:=ih _ _ _ h;have e:(w.freeze a n).drawn=w.drawn:=by unfold World.freeze;split<;>rfl
  omega
 |frozen a k ih=>intro w b w' h;exact ih _ _ _ _ h
 |getObj r k ih=>
  intro w b w' h;unfold Sem.run at h;split at h
  ·cases h
  ·exact ih _ _ _ _ h
  ·cases h
 |setObj r o k ih=>
  intro w b w' h;unfold Sem.run at h;split at h
  ·cases h
  ·exact ih { w with heap:=w.heap.setIfInBounds r o } _ _ h
  ·cases h
 |choose q k ih=>
  intro w b w' h;unfold Sem.run at h;split at h
  ·exact ih _ _ _ _ h
  ·have:=ih _ { w with drawn:=w.drawn+1 } _ _ h
   simp only at this;omega
 |sys c k ih=>
  intro w b w' h;have:=ih _ _ _ _ h;have:=zh0 w c
  omega
 |program k ih=>intro w b w' h;exact ih _ _ _ _ h
 |mark m k ih=>intro w b w' h;exact ih _ _ _ h
 |halt h0=>intro w b w' h;cases h
end Go.Kz
