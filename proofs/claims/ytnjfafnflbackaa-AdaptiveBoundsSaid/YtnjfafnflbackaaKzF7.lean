/-
  The layer adaptive: values of sets of secrets; plain laws.
-/
import Derived.Test.YtnjfafnflbackaaKzF6
set_option linter.unusedVariables false
set_option linter.unusedSimpArgs false
namespace Go.Kz
theorem zi7 {n a:Nat} (x:Int) (h:a < n):z1i n (fun i=>if a=i then x else 0)=x:=by
 refine (z1a fun i _=>?_).trans (zlu x h);by_cases hi:i=a
 ·subst hi;rfl
 ·rw [if_neg hi,if_neg (fun e=>hi e.symm)]
theorem zaz (g:List (List Int)) {n:Nat} {P Q:Nat->Bool} (h:∀ s,s < n->P s=Q s):z1u g n P=z1u g n Q:=by
 have:∀ row,zhn row n P=zhn row n Q:=fun row=>z1a fun s hs=>by rw [h s hs]
 simp only [z1u,this]
theorem z7o (g:List (List Int)) {n:Nat} {P:Nat->Bool} (h:∀ s,s < n->P s=false):z1u g n P=0:=by
 have:∀ row,zhn row n P=0:=fun row=>(z1a fun s hs=>by rw [h s hs];rfl).trans (z4w n)
 simp only [z1u,this]
 induction g with
 | nil=>rfl
 | cons a g ih=>simpa using ih
theorem zet {α:Type} (h:α->Int):(l:List α)->(b:Int)->b≤l.foldl (fun b x=>max b (h x)) b
 | [],_=>Int.le_refl _
 | x :: l,b=>by
  have:=zet h l (max b (h x));simp only [List.foldl_cons];omega
theorem zgk {α:Type} (h:α->Int):{l:List α}->{b:Int}->{x:α}->x∈l->h x≤l.foldl (fun b x=>max b (h x)) b
 | a :: l,b,x,hx=>by
  simp only [List.foldl_cons];rcases List.mem_cons.1 hx with rfl | hx
  ·have:=zet h l (max b (h x));omega
  ·exact zgk h hx
theorem zl2 {α:Type} (h:α->Int):{l:List α}->{b B:Int}->b≤B->(∀ x∈l,h x≤B)->l.foldl (fun b x=>max b (h x)) b≤B
 | [],_,_,hb,_=>hb
 | a :: l,b,B,hb,hl=>by
  simp only [List.foldl_cons];have:=hl a (by simp);exact zl2 h (by omega) fun x hx=>hl x (by simp [hx])
theorem z94 (g:List (List Int)) (n:Nat) (P:Nat->Bool):0≤z1u g n P:=zet _ g 0
theorem sumP_le {g:List (List Int)} {n:Nat} {P:Nat->Bool} {row:List Int} (h:row∈g):zhn row n P≤z1u g n P:=zgk (fun row=>zhn row n P) h
def z4m {τ:Type} [DecidableEq τ] (P:Nat->Bool) (f:Nat->τ) (s:Nat):Bool:=P s && (List.range s).all fun r=>!(P r && decide (f r=f s))
def clsP {τ:Type} [DecidableEq τ] (P:Nat->Bool) (f:Nat->τ) (s:Nat):Nat->Bool:=fun r=>P r && decide (f r=f s)
def WW {τ:Type} [DecidableEq τ] (g:List (List Int)) (n:Nat) (P:Nat->Bool) (f:Nat->τ):Int:=z1i n fun s=>if z4m P f s then z1u g n (clsP P f s) else 0
theorem zdz {τ τ':Type} [DecidableEq τ] [DecidableEq τ'] {P Q:Nat->Bool} {f:Nat->τ} {f':Nat->τ'} {s:Nat} (hP:P s=Q s) (h:∀ r,r < s->(P r && decide (f r=f s))=(Q r && decide (f' r=f' s))):z4m P f s=z4m Q f' s:=by
 simp only [z4m,hP];congr 1;rw [Bool.eq_iff_iff];simp only [List.all_eq_true,List.mem_range];constructor
 ·intro H r hr;rw [←h r hr];exact H r hr
 ·intro H r hr;rw [h r hr];exact H r hr
theorem zci {τ τ':Type} [DecidableEq τ] [DecidableEq τ'] (g:List (List Int)) {n:Nat} {P Q:Nat->Bool} {f:Nat->τ} {f':Nat->τ'} (hP:∀ s,s < n->P s=Q s) (hf:∀ r s,r < n->s < n->P r=true->P s=true->(f r=f s↔f' r=f' s)):WW g n P f=WW g n Q f':=by
 refine z1a fun s hs=>?_
 cases hp:P s with
 | false=>
  have h1:z4m P f s=false:=by simp [z4m,hp]
  have h2:z4m Q f' s=false:=by simp [z4m,←hP s hs,hp]
  rw [h1,h2]
  rfl
 | true=>
  have key:∀ r,r < n->(P r && decide (f r=f s))=(Q r && decide (f' r=f' s)):=by
   intro r hr;rw [←hP r hr]
   cases hq:P r with
   | false=>simp
   | true=>simp [hf r s hr hs hq hp]
  rw [zdz (hP s hs) (fun r hr=>key r (by omega)),zaz g (P:=clsP P f s) (Q:=clsP Q f' s) key]
theorem WW_split {τ:Type} [DecidableEq τ] (g:List (List Int)) {n:Nat} {P:Nat->Bool} {f:Nat->τ} (v:Nat->Nat) (K:Nat) (hv:∀ s,s < n->P s=true->v s < K) (hf:∀ r s,r < n->s < n->P r=true->P s=true->f r=f s->v r=v s) :
  WW g n P f=z1i K fun c=>WW g n (fun s=>P s && decide (v s=c)) f:=by
 unfold WW;rw [zcp];refine z1a fun s hs=>?_
 cases hp:P s with
 | false=>
  rw [show z4m P f s=false from by simp [z4m,hp]];have:∀ c,z4m (fun s=>P s && decide (v s=c)) f s=false:=fun c=>by simp [z4m,hp]
  simp only [this]
  simp [z4w]
 | true=>
  have hvs:=hv s hs hp;have key:∀ r,r < n->clsP (fun s'=>P s' && decide (v s'=v s)) f s r=clsP P f s r:=by
   intro r hr;simp only [clsP]
   cases hq:P r with
   | false=>simp
   | true=>
    by_cases he:f r=f s
    ·have:=hf r s hr hs hq hp he;simp [he,this]
    ·simp [he]
  have hall:∀ c,(if z4m (fun s'=>P s' && decide (v s'=c)) f s then z1u g n (clsP (fun s'=>P s' && decide (v s'=c)) f s) else 0)=if v s=c then (if z4m P f s then z1u g n (clsP P f s) else 0) else 0:=by
   intro c;by_cases hc:v s=c
   ·subst hc;rw [if_pos rfl,zaz g key,zdz (P:=fun s'=>P s' && decide (v s'=v s)) (Q:=P) (f':=f) (by simp [hp]) (fun r hr=>key r (by omega))]
   ·rw [if_neg hc];have:z4m (fun s'=>P s' && decide (v s'=c)) f s=false:=by simp [z4m,hc]
    rw [this];rfl
  simp only [hall];rw [zi7 _ hvs]
theorem zlt (P:Nat->Bool) (x:Int):(n:Nat)->z1i n (fun s=>if (P s && (List.range s).all fun r=>!P r) then x else 0)=if (List.range n).any P then x else 0
 | 0=>rfl
 | n+1=>by
  simp only [z1i];rw [zlt P x n];have e:(List.range (n+1)).any P=((List.range n).any P || P n):=by simp [List.range_succ]
  have e2:((List.range n).all fun r=>!P r) = !(List.range n).any P:=by simp [List.all_eq_not_any_not]
  rw [e,e2];cases (List.range n).any P <;> cases P n <;> simp
theorem zch {τ:Type} [DecidableEq τ] (g:List (List Int)) {n:Nat} {P:Nat->Bool} {f:Nat->τ} (hc:∀ r s,r < n->s < n->P r=true->P s=true->f r=f s):WW g n P f=z1u g n P:=by
 have h:WW g n P f=z1i n (fun s=>if (P s && (List.range s).all fun r=>!P r) then z1u g n P else 0):=by
  refine z1a fun s hs=>?_
  cases hp:P s with
  | false=>simp [z4m,hp]
  | true=>
   have key:∀ r,r < n->(P r && decide (f r=f s))=P r:=by
    intro r hr
    cases hq:P r with
    | false=>simp
    | true=>simp [hc r s hr hs hq hp]
   have h1:z4m P f s=(P s && (List.range s).all fun r=>!P r):=by
    simp only [z4m];congr 1;rw [Bool.eq_iff_iff];simp only [List.all_eq_true,List.mem_range];constructor
    ·intro H r hr;rw [←key r (by omega)];exact H r hr
    ·intro H r hr;rw [key r (by omega)];exact H r hr
   rw [h1,hp,zaz g (P:=clsP P f s) (Q:=P) key]
 rw [h,zlt]
 cases ha:(List.range n).any P with
 | true=>rfl
 | false=>
  rw [z7o g]
  ·rfl
  ·intro s hs
   cases hp:P s with
   | false=>rfl
   | true=>
    have:(List.range n).any P=true:=List.any_eq_true.2 ⟨s,List.mem_range.2 hs,hp⟩;rw [this] at ha;exact absurd ha (by simp)
def zej (v:List Int) (S:Nat) (h:Nat->Int):Int:=z1i (z2z v) fun c=>if part v S c=0 then 0 else h (part v S c)
theorem zff {v:List Int} {S:Nat} {h h':Nat->Int} (H:∀ c,c < z2z v->part v S c≠0->h (part v S c)≤h' (part v S c)):zej v S h≤zej v S h':=
 z7g fun c hc=>by
  split
  ·exact Int.le_refl _
  ·exact H c hc (by assumption)
theorem zi8 {v:List Int} {S:Nat} {h h':Nat->Int} (H:∀ c,c < z2z v->part v S c≠0->h (part v S c)=h' (part v S c)):zej v S h=zej v S h':=
 z1a fun c hc=>by
  split
  ·rfl
  ·exact H c hc (by assumption)
def VV (vs:List (List Int)) (g:List (List Int)) (n:Nat):Nat->Nat->Int
 | 0=>fun S=>z1u g n S.testBit
 | l+1=>fun S=>vs.foldl (fun b v=>max b (zej v S (VV vs g n l))) (z1u g n S.testBit)
theorem VV_ge (vs:List (List Int)) (g:List (List Int)) (n l S:Nat):z1u g n S.testBit≤VV vs g n l S:=by
 cases l with
 | zero=>exact Int.le_refl _
 | succ l=>exact zet _ _ _
theorem zcj (vs:List (List Int)) (g:List (List Int)) (n l S:Nat):0≤VV vs g n l S:=Int.le_trans (z94 _ _ _) (VV_ge _ _ _ _ _)
theorem VV_le {vs:List (List Int)} {g:List (List Int)} {n l S:Nat} {B:Int} (h0:z1u g n S.testBit≤B) (h:∀ v∈vs,zej v S (VV vs g n l)≤B):VV vs g n (l+1) S≤B:=zl2 _ h0 h
theorem z4i {n:Nat} {v:List Int} (h:View n v) (S c:Nat) {s:Nat} (hs:s < n):(part v S c).testBit s=(S.testBit s && decide ((v.getD s 0).toNat=c)):=by
 have hl:=h.len;obtain ⟨d,_,_,hd⟩:=zoi h (s:=s) (by omega);rw [zz5,hd];have:decide (s < v.length)=true:=by simp;omega
 rw [this,Bool.true_and];congr 1;rw [Bool.eq_iff_iff];simp only [decide_eq_true_eq];omega
theorem cls_lt {n:Nat} {v:List Int} (h:View n v) {s:Nat} (hs:s < n):(v.getD s 0).toNat < z2z v:=by
 have hl:=h.len;obtain ⟨d,_,h2,hd⟩:=zoi h (s:=s) (by omega);rw [hd];simpa using h2
theorem zh6 {n:Nat} {v:List Int} (h:View n v) {s:Nat} (hs:s < n):0≤v.getD s 0:=by
 have hl:=h.len;obtain ⟨d,_,h2,hd⟩:=zoi h (s:=s) (by omega);rw [hd];omega
theorem WW_zero {τ:Type} [DecidableEq τ] (g:List (List Int)) (n:Nat) (f:Nat->τ):WW g n (0:Nat).testBit f=0:=by
 rw [zch g (by intro r s _ _ h;simp at h)];exact z7o g (by simp)
theorem zf4 {τ:Type} [DecidableEq τ] (g:List (List Int)) {n:Nat} {v:List Int} (hv:View n v) (S:Nat) (f:Nat->τ) (hf:∀ r s,r < n->s < n->S.testBit r=true->S.testBit s=true->f r=f s->v.getD r 0=v.getD s 0) :
  WW g n S.testBit f=zej v S fun y=>WW g n y.testBit f:=by
 rw [WW_split g (P:=S.testBit) (f:=f) (fun s=>(v.getD s 0).toNat) (z2z v) (fun s hs _=>cls_lt hv hs) (fun r s hr hs h1 h2 h3=>by rw [hf r s hr hs h1 h2 h3])];refine z1a fun c hc=>?_
 have e:WW g n (fun s=>S.testBit s && decide ((v.getD s 0).toNat=c)) f=WW g n (part v S c).testBit f:=zci g (fun s hs=>(z4i hv S c hs).symm) (fun r s _ _ _ _=>Iff.rfl);rw [e];split
 ·rename_i h0;rw [h0,WW_zero]
 ·rfl
theorem zi9 {n:Nat} {v:List Int} (hv:View n v) (S:Nat) (row:List Int):zhn row n S.testBit=z1i (z2z v) fun c=>zhn row n (part v S c).testBit:=by
 unfold zhn;rw [zcp];refine z1a fun s hs=>?_
 have hc:=cls_lt hv hs
 cases hb:S.testBit s with
 | false=>
  rw [z1a (g:=fun _=>0),z4w]
  ·rfl
  ·intro c _;rw [z4i hv S c hs,hb];rfl
 | true=>
  rw [z1a (g:=fun c=>if (v.getD s 0).toNat=c then row.getD s 0 else 0),zi7 _ hc]
  ·rfl
  ·intro c _;rw [z4i hv S c hs,hb];by_cases h:(v.getD s 0).toNat=c <;> simp [h]
theorem leaf_sub (g:List (List Int)) {n:Nat} {v:List Int} (hv:View n v) (S:Nat):z1u g n S.testBit≤zej v S fun y=>z1u g n y.testBit:=by
 have hz:(zej v S fun y=>z1u g n y.testBit)=z1i (z2z v) fun c=>z1u g n (part v S c).testBit:=by
  refine z1a fun c _=>?_
  split
  ·rename_i h;rw [h];exact (z7o g (by simp)).symm
  ·rfl
 rw [hz];refine zl2 _ (z3n fun c _=>z94 _ _ _) fun row hr=>?_
 rw [zi9 hv S row];exact z7g fun c _=>sumP_le hr
def zxw (us:List (List Int)) (s:Nat):List Int:=us.map fun u=>u.getD s 0
theorem WS_cons (g:List (List Int)) {n:Nat} {u:List Int} (hu:View n u) (us:List (List Int)) (S:Nat):WW g n S.testBit (zxw (u :: us))=zej u S fun y=>WW g n y.testBit (zxw us):=by
 rw [zf4 g hu S _ (fun r s _ _ _ _ h=>by simp only [zxw,List.map_cons,List.cons.injEq] at h;exact h.1)];refine zi8 fun c hc _=>zci g (fun _ _=>rfl) fun r s hr hs h1 h2=>?_
 rw [z4i hu S c hr,zA,decide_eq_true_eq] at h1;rw [z4i hu S c hs,zA,decide_eq_true_eq] at h2;have e:u.getD r 0=u.getD s 0:=by have:=zh6 hu hr;have:=zh6 hu hs;omega
 simp only [zxw,List.map_cons,e,List.cons.injEq,true_and]
theorem zay (g:List (List Int)) {n:Nat}:(us:List (List Int))->(∀ u∈us,View n u)->(S:Nat)->z1u g n S.testBit≤WW g n S.testBit (zxw us)
 | [],_,S=>by rw [zch g (by intro r s _ _ _ _;rfl)];exact Int.le_refl _
 | u :: us,h,S=>by
  have hu:=h u (by simp);rw [WS_cons g hu];exact Int.le_trans (leaf_sub g hu S) (zff fun c _ _=>zay g us (fun x hx=>h x (by simp [hx])) _)
theorem zp1 (g:List (List Int)) {n:Nat} {vs:List (List Int)} (h:∀ v∈vs,View n v):(l S:Nat)->VV vs g n l S≤WW g n S.testBit (zxw vs)
 | 0,S=>zay g vs h S
 | l+1,S=>by
  refine VV_le (zay g vs h S) fun v hv=>?_
  rw [zf4 g (h v hv) S _ (fun r s _ _ _ _ he=>by
   simp only [zxw] at he;exact List.map_inj_left.1 he v hv)]
  exact zff fun c _ _=>zp1 g h l _
theorem zel {n:Nat} {v:List Int} (hv:View n v) (S c:Nat):part v S c < 2 ^ n:=by
 have:=part_lt v S c
 rwa [hv.len] at this
end Go.Kz
