/-
  The layer adaptive: values of sets of secrets; plain laws.
-/
import Derived.Test.YtnjfafnflbackaaKzF6
set_option linter.unusedVariables false
set_option linter.unusedSimpArgs false
namespace Go.Kz
theorem zio {n a:Nat} (x:Int) (h:a < n):z1l n (fun i=>if a=i then x else 0)=x:=by
 refine (z1e fun i _=>?_).trans (zme x h);by_cases hi:i=a
 ·subst hi;rfl
 ·rw [if_neg hi,if_neg (fun e=>hi e.symm)]
theorem zb5 (g:List (List Int)) {n:Nat} {P Q:Nat->Bool} (h:∀ s,s < n->P s=Q s):z1q g n P=z1q g n Q:=by
 have:∀ row,zi3 row n P=zi3 row n Q:=fun row=>z1e fun s hs=>by rw [h s hs]
 simp only [z1q,this]
theorem z7s (g:List (List Int)) {n:Nat} {P:Nat->Bool} (h:∀ s,s < n->P s=false):z1q g n P=0:=by
 have:∀ row,zi3 row n P=0:=fun row=>(z1e fun s hs=>by rw [h s hs];rfl).trans (z52 n)
 simp only [z1q,this]
 induction g with
 | nil=>rfl
 | cons a g ih=>simpa using ih
theorem zf3 {α:Type} (h:α->Int):(l:List α)->(b:Int)->b≤l.foldl (fun b x=>max b (h x)) b
 | [],_=>Int.le_refl _
 | x :: l,b=>by
  have:=zf3 h l (max b (h x));simp only [List.foldl_cons];omega
theorem zgz {α:Type} (h:α->Int):{l:List α}->{b:Int}->{x:α}->x∈l->h x≤l.foldl (fun b x=>max b (h x)) b
 | a :: l,b,x,hx=>by
  simp only [List.foldl_cons];rcases List.mem_cons.1 hx with rfl | hx
  ·have:=zf3 h l (max b (h x));omega
  ·exact zgz h hx
theorem zf2 {α:Type} (h:α->Int):{l:List α}->{b B:Int}->b≤B->(∀ x∈l,h x≤B)->l.foldl (fun b x=>max b (h x)) b≤B
 | [],_,_,hb,_=>hb
 | a :: l,b,B,hb,hl=>by
  simp only [List.foldl_cons];have:=hl a (by simp);exact zf2 h (by omega) fun x hx=>hl x (by simp [hx])
theorem z9b (g:List (List Int)) (n:Nat) (P:Nat->Bool):0≤z1q g n P:=zf3 _ g 0
theorem sumP_le {g:List (List Int)} {n:Nat} {P:Nat->Bool} {row:List Int} (h:row∈g):zi3 row n P≤z1q g n P:=zgz (fun row=>zi3 row n P) h
def z4r {τ:Type} [DecidableEq τ] (P:Nat->Bool) (f:Nat->τ) (s:Nat):Bool:=P s && (List.range s).all fun r=>!(P r && decide (f r=f s))
def clsP {τ:Type} [DecidableEq τ] (P:Nat->Bool) (f:Nat->τ) (s:Nat):Nat->Bool:=fun r=>P r && decide (f r=f s)
def WW {τ:Type} [DecidableEq τ] (g:List (List Int)) (n:Nat) (P:Nat->Bool) (f:Nat->τ):Int:=z1l n fun s=>if z4r P f s then z1q g n (clsP P f s) else 0
theorem ze9 {τ τ':Type} [DecidableEq τ] [DecidableEq τ'] {P Q:Nat->Bool} {f:Nat->τ} {f':Nat->τ'} {s:Nat} (hP:P s=Q s) (h:∀ r,r < s->(P r && decide (f r=f s))=(Q r && decide (f' r=f' s))):z4r P f s=z4r Q f' s:=by
 simp only [z4r,hP];congr 1;rw [Bool.eq_iff_iff];simp only [List.all_eq_true,List.mem_range];constructor
 ·intro H r hr;rw [←h r hr];exact H r hr
 ·intro H r hr;rw [h r hr];exact H r hr
theorem zad {τ τ':Type} [DecidableEq τ] [DecidableEq τ'] (g:List (List Int)) {n:Nat} {P Q:Nat->Bool} {f:Nat->τ} {f':Nat->τ'} (hP:∀ s,s < n->P s=Q s) (hf:∀ r s,r < n->s < n->P r=true->P s=true->(f r=f s↔f' r=f' s)):WW g n P f=WW g n Q f':=by
 refine z1e fun s hs=>?_
 cases hp:P s with
 | false=>
  have h1:z4r P f s=false:=by simp [z4r,hp]
  have h2:z4r Q f' s=false:=by simp [z4r,←hP s hs,hp]
  rw [h1,h2]
  rfl
 | true=>
  have key:∀ r,r < n->(P r && decide (f r=f s))=(Q r && decide (f' r=f' s)):=by
   intro r hr;rw [←hP r hr]
   cases hq:P r with
   | false=>simp
   | true=>simp [hf r s hr hs hq hp]
  rw [ze9 (hP s hs) (fun r hr=>key r (by omega)),zb5 g (P:=clsP P f s) (Q:=clsP Q f' s) key]
theorem WW_split {τ:Type} [DecidableEq τ] (g:List (List Int)) {n:Nat} {P:Nat->Bool} {f:Nat->τ} (v:Nat->Nat) (K:Nat) (hv:∀ s,s < n->P s=true->v s < K) (hf:∀ r s,r < n->s < n->P r=true->P s=true->f r=f s->v r=v s) :
  WW g n P f=z1l K fun c=>WW g n (fun s=>P s && decide (v s=c)) f:=by
 unfold WW;rw [zcw];refine z1e fun s hs=>?_
 cases hp:P s with
 | false=>
  rw [show z4r P f s=false from by simp [z4r,hp]];have:∀ c,z4r (fun s=>P s && decide (v s=c)) f s=false:=fun c=>by simp [z4r,hp]
  simp only [this]
  simp [z52]
 | true=>
  have hvs:=hv s hs hp;have key:∀ r,r < n->clsP (fun s'=>P s' && decide (v s'=v s)) f s r=clsP P f s r:=by
   intro r hr;simp only [clsP]
   cases hq:P r with
   | false=>simp
   | true=>
    by_cases he:f r=f s
    ·have:=hf r s hr hs hq hp he;simp [he,this]
    ·simp [he]
  have hall:∀ c,(if z4r (fun s'=>P s' && decide (v s'=c)) f s then z1q g n (clsP (fun s'=>P s' && decide (v s'=c)) f s) else 0)=if v s=c then (if z4r P f s then z1q g n (clsP P f s) else 0) else 0:=by
   intro c;by_cases hc:v s=c
   ·subst hc;rw [if_pos rfl,zb5 g key,ze9 (P:=fun s'=>P s' && decide (v s'=v s)) (Q:=P) (f':=f) (by simp [hp]) (fun r hr=>key r (by omega))]
   ·rw [if_neg hc];have:z4r (fun s'=>P s' && decide (v s'=c)) f s=false:=by simp [z4r,hc]
    rw [this];rfl
  simp only [hall];rw [zio _ hvs]
theorem zmd (P:Nat->Bool) (x:Int):(n:Nat)->z1l n (fun s=>if (P s && (List.range s).all fun r=>!P r) then x else 0)=if (List.range n).any P then x else 0
 | 0=>rfl
 | n+1=>by
  simp only [z1l];rw [zmd P x n];have e:(List.range (n+1)).any P=((List.range n).any P || P n):=by simp [List.range_succ]
  have e2:((List.range n).all fun r=>!P r) = !(List.range n).any P:=by simp [List.all_eq_not_any_not]
  rw [e,e2];cases (List.range n).any P <;> cases P n <;> simp
theorem zcq {τ:Type} [DecidableEq τ] (g:List (List Int)) {n:Nat} {P:Nat->Bool} {f:Nat->τ} (hc:∀ r s,r < n->s < n->P r=true->P s=true->f r=f s):WW g n P f=z1q g n P:=by
 have h:WW g n P f=z1l n (fun s=>if (P s && (List.range s).all fun r=>!P r) then z1q g n P else 0):=by
  refine z1e fun s hs=>?_
  cases hp:P s with
  | false=>simp [z4r,hp]
  | true=>
   have key:∀ r,r < n->(P r && decide (f r=f s))=P r:=by
    intro r hr
    cases hq:P r with
    | false=>simp
    | true=>simp [hc r s hr hs hq hp]
   have h1:z4r P f s=(P s && (List.range s).all fun r=>!P r):=by
    simp only [z4r];congr 1;rw [Bool.eq_iff_iff];simp only [List.all_eq_true,List.mem_range];constructor
    ·intro H r hr;rw [←key r (by omega)];exact H r hr
    ·intro H r hr;rw [key r (by omega)];exact H r hr
   rw [h1,hp,zb5 g (P:=clsP P f s) (Q:=P) key]
 rw [h,zmd]
 cases ha:(List.range n).any P with
 | true=>rfl
 | false=>
  rw [z7s g]
  ·rfl
  ·intro s hs
   cases hp:P s with
   | false=>rfl
   | true=>
    have:(List.range n).any P=true:=List.any_eq_true.2 ⟨s,List.mem_range.2 hs,hp⟩;rw [this] at ha;exact absurd ha (by simp)
def zcy (v:List Int) (S:Nat) (h:Nat->Int):Int:=z1l (z2j v) fun c=>if part v S c=0 then 0 else h (part v S c)
theorem zmg {v:List Int} {S:Nat} {h h':Nat->Int} (H:∀ c,c < z2j v->part v S c≠0->h (part v S c)≤h' (part v S c)):zcy v S h≤zcy v S h':=
 z7m fun c hc=>by
  split
  ·exact Int.le_refl _
  ·exact H c hc (by assumption)
theorem zcx {v:List Int} {S:Nat} {h h':Nat->Int} (H:∀ c,c < z2j v->part v S c≠0->h (part v S c)=h' (part v S c)):zcy v S h=zcy v S h':=
 z1e fun c hc=>by
  split
  ·rfl
  ·exact H c hc (by assumption)
def VV (vs:List (List Int)) (g:List (List Int)) (n:Nat):Nat->Nat->Int
 | 0=>fun S=>z1q g n S.testBit
 | l+1=>fun S=>vs.foldl (fun b v=>max b (zcy v S (VV vs g n l))) (z1q g n S.testBit)
theorem VV_ge (vs:List (List Int)) (g:List (List Int)) (n l S:Nat):z1q g n S.testBit≤VV vs g n l S:=by
 cases l with
 | zero=>exact Int.le_refl _
 | succ l=>exact zf3 _ _ _
theorem z9p (vs:List (List Int)) (g:List (List Int)) (n l S:Nat):0≤VV vs g n l S:=Int.le_trans (z9b _ _ _) (VV_ge _ _ _ _ _)
theorem VV_sum {vs:List (List Int)} (g:List (List Int)) (n l S:Nat) {v:List Int} (hv:v∈vs):zcy v S (VV vs g n l)≤VV vs g n (l+1) S:=zgz (fun v=>zcy v S (VV vs g n l)) hv
theorem VV_le {vs:List (List Int)} {g:List (List Int)} {n l S:Nat} {B:Int} (h0:z1q g n S.testBit≤B) (h:∀ v∈vs,zcy v S (VV vs g n l)≤B):VV vs g n (l+1) S≤B:=zf2 _ h0 h
theorem z48 {n:Nat} {v:List Int} (h:View n v) (S c:Nat) {s:Nat} (hs:s < n):(part v S c).testBit s=(S.testBit s && decide ((v.getD s 0).toNat=c)):=by
 have hl:=h.len;obtain ⟨d,_,_,hd⟩:=zp0 h (s:=s) (by omega);rw [zzx,hd];have:decide (s < v.length)=true:=by simp;omega
 rw [this,Bool.true_and];congr 1;rw [Bool.eq_iff_iff];simp only [decide_eq_true_eq];omega
theorem ztd {n:Nat} {v:List Int} (h:View n v) {s:Nat} (hs:s < n):(v.getD s 0).toNat < z2j v:=by
 have hl:=h.len;obtain ⟨d,_,h2,hd⟩:=zp0 h (s:=s) (by omega);rw [hd];simpa using h2
theorem zhl {n:Nat} {v:List Int} (h:View n v) {s:Nat} (hs:s < n):0≤v.getD s 0:=by
 have hl:=h.len;obtain ⟨d,_,h2,hd⟩:=zp0 h (s:=s) (by omega);rw [hd];omega
theorem WW_zero {τ:Type} [DecidableEq τ] (g:List (List Int)) (n:Nat) (f:Nat->τ):WW g n (0:Nat).testBit f=0:=by
 rw [zcq g (by intro r s _ _ h;simp at h)];exact z7s g (by simp)
theorem zff {τ:Type} [DecidableEq τ] (g:List (List Int)) {n:Nat} {v:List Int} (hv:View n v) (S:Nat) (f:Nat->τ) (hf:∀ r s,r < n->s < n->S.testBit r=true->S.testBit s=true->f r=f s->v.getD r 0=v.getD s 0) :
  WW g n S.testBit f=zcy v S fun y=>WW g n y.testBit f:=by
 rw [WW_split g (P:=S.testBit) (f:=f) (fun s=>(v.getD s 0).toNat) (z2j v) (fun s hs _=>ztd hv hs) (fun r s hr hs h1 h2 h3=>by rw [hf r s hr hs h1 h2 h3])];refine z1e fun c hc=>?_
 have e:WW g n (fun s=>S.testBit s && decide ((v.getD s 0).toNat=c)) f=WW g n (part v S c).testBit f:=zad g (fun s hs=>(z48 hv S c hs).symm) (fun r s _ _ _ _=>Iff.rfl);rw [e];split
 ·rename_i h0;rw [h0,WW_zero]
 ·rfl
theorem zip {n:Nat} {v:List Int} (hv:View n v) (S:Nat) (row:List Int):zi3 row n S.testBit=z1l (z2j v) fun c=>zi3 row n (part v S c).testBit:=by
 unfold zi3;rw [zcw];refine z1e fun s hs=>?_
 have hc:=ztd hv hs
 cases hb:S.testBit s with
 | false=>
  rw [z1e (g:=fun _=>0),z52]
  ·rfl
  ·intro c _;rw [z48 hv S c hs,hb];rfl
 | true=>
  rw [z1e (g:=fun c=>if (v.getD s 0).toNat=c then row.getD s 0 else 0),zio _ hc]
  ·rfl
  ·intro c _;rw [z48 hv S c hs,hb];by_cases h:(v.getD s 0).toNat=c <;> simp [h]
theorem leaf_sub (g:List (List Int)) {n:Nat} {v:List Int} (hv:View n v) (S:Nat):z1q g n S.testBit≤zcy v S fun y=>z1q g n y.testBit:=by
 have hz:(zcy v S fun y=>z1q g n y.testBit)=z1l (z2j v) fun c=>z1q g n (part v S c).testBit:=by
  refine z1e fun c _=>?_
  split
  ·rename_i h;rw [h];exact (z7s g (by simp)).symm
  ·rfl
 rw [hz];refine zf2 _ (z3p fun c _=>z9b _ _ _) fun row hr=>?_
 rw [zip hv S row];exact z7m fun c _=>sumP_le hr
def zym (us:List (List Int)) (s:Nat):List Int:=us.map fun u=>u.getD s 0
theorem WS_cons (g:List (List Int)) {n:Nat} {u:List Int} (hu:View n u) (us:List (List Int)) (S:Nat):WW g n S.testBit (zym (u :: us))=zcy u S fun y=>WW g n y.testBit (zym us):=by
 rw [zff g hu S _ (fun r s _ _ _ _ h=>by simp only [zym,List.map_cons,List.cons.injEq] at h;exact h.1)];refine zcx fun c hc _=>zad g (fun _ _=>rfl) fun r s hr hs h1 h2=>?_
 rw [z48 hu S c hr,zA,decide_eq_true_eq] at h1;rw [z48 hu S c hs,zA,decide_eq_true_eq] at h2;have e:u.getD r 0=u.getD s 0:=by have:=zhl hu hr;have:=zhl hu hs;omega
 simp only [zym,List.map_cons,e,List.cons.injEq,true_and]
theorem zb4 (g:List (List Int)) {n:Nat}:(us:List (List Int))->(∀ u∈us,View n u)->(S:Nat)->z1q g n S.testBit≤WW g n S.testBit (zym us)
 | [],_,S=>by rw [zcq g (by intro r s _ _ _ _;rfl)];exact Int.le_refl _
 | u :: us,h,S=>by
  have hu:=h u (by simp);rw [WS_cons g hu];exact Int.le_trans (leaf_sub g hu S) (zmg fun c _ _=>zb4 g us (fun x hx=>h x (by simp [hx])) _)
theorem zpk (g:List (List Int)) {n:Nat} {vs:List (List Int)} (h:∀ v∈vs,View n v):(l S:Nat)->VV vs g n l S≤WW g n S.testBit (zym vs)
 | 0,S=>zb4 g vs h S
 | l+1,S=>by
  refine VV_le (zb4 g vs h S) fun v hv=>?_
  rw [zff g (h v hv) S _ (fun r s _ _ _ _ he=>by
   simp only [zym] at he;exact List.map_inj_left.1 he v hv)]
  exact zmg fun c _ _=>zpk g h l _
theorem zeu {n:Nat} {v:List Int} (hv:View n v) (S c:Nat):part v S c < 2 ^ n:=by
 have:=part_lt v S c
 rwa [hv.len] at this
end Go.Kz
