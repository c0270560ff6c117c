/-
  The layer adaptive: values of sets of secrets; plain laws.
-/
import Derived.Test.YtnjfafnflbackaaKzF6
set_option linter.unusedVariables false
set_option linter.unusedSimpArgs false
namespace Go.Kz
theorem zie {n a:Nat} (x:Int) (h:a < n):z1r n (fun i=>if a=i then x else 0)=x:=by
 refine (z1j fun i _=>?_).trans (zma x h);by_cases hi:i=a
 ·subst hi;rfl
 ·rw [if_neg hi,if_neg (fun e=>hi e.symm)]
theorem zb0 (g:List (List Int)) {n:Nat} {P Q:Nat->Bool} (h:∀ s,s < n->P s=Q s):z1m g n P=z1m g n Q:=by
 have:∀ row,zht row n P=zht row n Q:=fun row=>z1j fun s hs=>by rw [h s hs]
 simp only [z1m,this]
theorem za2 (g:List (List Int)) {n:Nat} {P:Nat->Bool} (h:∀ s,s < n->P s=false):z1m g n P=0:=by
 have:∀ row,zht row n P=0:=fun row=>(z1j fun s hs=>by rw [h s hs];rfl).trans (z59 n)
 simp only [z1m,this]
 induction g with
 | nil=>rfl
 | cons a g ih=>simpa using ih
theorem zev {α:Type} (h:α->Int):(l:List α)->(b:Int)->b≤l.foldl (fun b x=>max b (h x)) b
 | [],_=>Int.le_refl _
 | x :: l,b=>by
  have:=zev h l (max b (h x));simp only [List.foldl_cons];omega
theorem zno {α:Type} (h:α->Int):{l:List α}->{b:Int}->{x:α}->x∈l->h x≤l.foldl (fun b x=>max b (h x)) b
 | a :: l,b,x,hx=>by
  simp only [List.foldl_cons];rcases List.mem_cons.1 hx with rfl | hx
  ·have:=zev h l (max b (h x));omega
  ·exact zno h hx
theorem zla {α:Type} (h:α->Int):{l:List α}->{b B:Int}->b≤B->(∀ x∈l,h x≤B)->l.foldl (fun b x=>max b (h x)) b≤B
 | [],_,_,hb,_=>hb
 | a :: l,b,B,hb,hl=>by
  simp only [List.foldl_cons];have:=hl a (by simp);exact zla h (by omega) fun x hx=>hl x (by simp [hx])
theorem ze3 (g:List (List Int)) (n:Nat) (P:Nat->Bool):0≤z1m g n P:=zev _ g 0
theorem sumP_le {g:List (List Int)} {n:Nat} {P:Nat->Bool} {row:List Int} (h:row∈g):zht row n P≤z1m g n P:=zno (fun row=>zht row n P) h
def z4s {τ:Type} [DecidableEq τ] (P:Nat->Bool) (f:Nat->τ) (s:Nat):Bool:=P s && (List.range s).all fun r=>!(P r && decide (f r=f s))
def clsP {τ:Type} [DecidableEq τ] (P:Nat->Bool) (f:Nat->τ) (s:Nat):Nat->Bool:=fun r=>P r && decide (f r=f s)
def WW {τ:Type} [DecidableEq τ] (g:List (List Int)) (n:Nat) (P:Nat->Bool) (f:Nat->τ):Int:=z1r n fun s=>if z4s P f s then z1m g n (clsP P f s) else 0
theorem ze4 {τ τ':Type} [DecidableEq τ] [DecidableEq τ'] {P Q:Nat->Bool} {f:Nat->τ} {f':Nat->τ'} {s:Nat} (hP:P s=Q s) (h:∀ r,r < s->(P r && decide (f r=f s))=(Q r && decide (f' r=f' s))):z4s P f s=z4s Q f' s:=by
 simp only [z4s,hP];congr 1;rw [Bool.eq_iff_iff];simp only [List.all_eq_true,List.mem_range];constructor
 ·intro H r hr;rw [←h r hr];exact H r hr
 ·intro H r hr;rw [h r hr];exact H r hr
theorem zlt {τ τ':Type} [DecidableEq τ] [DecidableEq τ'] (g:List (List Int)) {n:Nat} {P Q:Nat->Bool} {f:Nat->τ} {f':Nat->τ'} (hP:∀ s,s < n->P s=Q s) (hf:∀ r s,r < n->s < n->P r=true->P s=true->(f r=f s↔f' r=f' s)):WW g n P f=WW g n Q f':=by
 refine z1j fun s hs=>?_
 cases hp:P s with
 | false=>
  have h1:z4s P f s=false:=by simp [z4s,hp]
  have h2:z4s Q f' s=false:=by simp [z4s,←hP s hs,hp]
  rw [h1,h2]
  rfl
 | true=>
  have key:∀ r,r < n->(P r && decide (f r=f s))=(Q r && decide (f' r=f' s)):=by
   intro r hr;rw [←hP r hr]
   cases hq:P r with
   | false=>simp
   | true=>simp [hf r s hr hs hq hp]
  rw [ze4 (hP s hs) (fun r hr=>key r (by omega)),zb0 g (P:=clsP P f s) (Q:=clsP Q f' s) key]
theorem WW_split {τ:Type} [DecidableEq τ] (g:List (List Int)) {n:Nat} {P:Nat->Bool} {f:Nat->τ} (v:Nat->Nat) (K:Nat) (hv:∀ s,s < n->P s=true->v s < K) (hf:∀ r s,r < n->s < n->P r=true->P s=true->f r=f s->v r=v s) :
  WW g n P f=z1r K fun c=>WW g n (fun s=>P s && decide (v s=c)) f:=by
 unfold WW;rw [zcs];refine z1j fun s hs=>?_
 cases hp:P s with
 | false=>
  rw [show z4s P f s=false from by simp [z4s,hp]];have:∀ c,z4s (fun s=>P s && decide (v s=c)) f s=false:=fun c=>by simp [z4s,hp]
  simp only [this]
  simp [z59]
 | true=>
  have hvs:=hv s hs hp;have key:∀ r,r < n->clsP (fun s'=>P s' && decide (v s'=v s)) f s r=clsP P f s r:=by
   intro r hr;simp only [clsP]
   cases hq:P r with
   | false=>simp
   | true=>
    by_cases he:f r=f s
    ·have:=hf r s hr hs hq hp he;simp [he,this]
    ·simp [he]
  have hall:∀ c,(if z4s (fun s'=>P s' && decide (v s'=c)) f s then z1m g n (clsP (fun s'=>P s' && decide (v s'=c)) f s) else 0)=if v s=c then (if z4s P f s then z1m g n (clsP P f s) else 0) else 0:=by
   intro c;by_cases hc:v s=c
   ·subst hc;rw [if_pos rfl,zb0 g key,ze4 (P:=fun s'=>P s' && decide (v s'=v s)) (Q:=P) (f':=f) (by simp [hp]) (fun r hr=>key r (by omega))]
   ·rw [if_neg hc];have:z4s (fun s'=>P s' && decide (v s'=c)) f s=false:=by simp [z4s,hc]
    rw [this];rfl
  simp only [hall];rw [zie _ hvs]
theorem zm9 (P:Nat->Bool) (x:Int):(n:Nat)->z1r n (fun s=>if (P s && (List.range s).all fun r=>!P r) then x else 0)=if (List.range n).any P then x else 0
 | 0=>rfl
 | n+1=>by
  simp only [z1r];rw [zm9 P x n];have e:(List.range (n+1)).any P=((List.range n).any P || P n):=by simp [List.range_succ]
  have e2:((List.range n).all fun r=>!P r) = !(List.range n).any P:=by simp [List.all_eq_not_any_not]
  rw [e,e2];cases (List.range n).any P <;> cases P n <;> simp
theorem zls {τ:Type} [DecidableEq τ] (g:List (List Int)) {n:Nat} {P:Nat->Bool} {f:Nat->τ} (hc:∀ r s,r < n->s < n->P r=true->P s=true->f r=f s):WW g n P f=z1m g n P:=by
 have h:WW g n P f=z1r n (fun s=>if (P s && (List.range s).all fun r=>!P r) then z1m g n P else 0):=by
  refine z1j fun s hs=>?_
  cases hp:P s with
  | false=>simp [z4s,hp]
  | true=>
   have key:∀ r,r < n->(P r && decide (f r=f s))=P r:=by
    intro r hr
    cases hq:P r with
    | false=>simp
    | true=>simp [hc r s hr hs hq hp]
   have h1:z4s P f s=(P s && (List.range s).all fun r=>!P r):=by
    simp only [z4s];congr 1;rw [Bool.eq_iff_iff];simp only [List.all_eq_true,List.mem_range];constructor
    ·intro H r hr;rw [←key r (by omega)];exact H r hr
    ·intro H r hr;rw [key r (by omega)];exact H r hr
   rw [h1,hp,zb0 g (P:=clsP P f s) (Q:=P) key]
 rw [h,zm9]
 cases ha:(List.range n).any P with
 | true=>rfl
 | false=>
  rw [za2 g]
  ·rfl
  ·intro s hs
   cases hp:P s with
   | false=>rfl
   | true=>
    have:(List.range n).any P=true:=List.any_eq_true.2 ⟨s,List.mem_range.2 hs,hp⟩;rw [this] at ha;exact absurd ha (by simp)
def zct (v:List Int) (S:Nat) (h:Nat->Int):Int:=z1r (z2f v) fun c=>if part v S c=0 then 0 else h (part v S c)
theorem zmc {v:List Int} {S:Nat} {h h':Nat->Int} (H:∀ c,c < z2f v->part v S c≠0->h (part v S c)≤h' (part v S c)):zct v S h≤zct v S h':=
 z7p fun c hc=>by
  split
  ·exact Int.le_refl _
  ·exact H c hc (by assumption)
theorem zif {v:List Int} {S:Nat} {h h':Nat->Int} (H:∀ c,c < z2f v->part v S c≠0->h (part v S c)=h' (part v S c)):zct v S h=zct v S h':=
 z1j fun c hc=>by
  split
  ·rfl
  ·exact H c hc (by assumption)
def VV (vs:List (List Int)) (g:List (List Int)) (n:Nat):Nat->Nat->Int
 | 0=>fun S=>z1m g n S.testBit
 | l+1=>fun S=>vs.foldl (fun b v=>max b (zct v S (VV vs g n l))) (z1m g n S.testBit)
theorem VV_ge (vs:List (List Int)) (g:List (List Int)) (n l S:Nat):z1m g n S.testBit≤VV vs g n l S:=by
 cases l with
 | zero=>exact Int.le_refl _
 | succ l=>exact zev _ _ _
theorem z9r (vs:List (List Int)) (g:List (List Int)) (n l S:Nat):0≤VV vs g n l S:=Int.le_trans (ze3 _ _ _) (VV_ge _ _ _ _ _)
theorem VV_le {vs:List (List Int)} {g:List (List Int)} {n l S:Nat} {B:Int} (h0:z1m g n S.testBit≤B) (h:∀ v∈vs,zct v S (VV vs g n l)≤B):VV vs g n (l+1) S≤B:=zla _ h0 h
theorem z5n {n:Nat} {v:List Int} (h:View n v) (S c:Nat) {s:Nat} (hs:s < n):(part v S c).testBit s=(S.testBit s && decide ((v.getD s 0).toNat=c)):=by
 have hl:=h.len;obtain ⟨d,_,_,hd⟩:=zt8 h (s:=s) (by omega);rw [zzn,hd];have:decide (s < v.length)=true:=by simp;omega
 rw [this,Bool.true_and];congr 1;rw [Bool.eq_iff_iff];simp only [decide_eq_true_eq];omega
theorem cls_lt {n:Nat} {v:List Int} (h:View n v) {s:Nat} (hs:s < n):(v.getD s 0).toNat < z2f v:=by
 have hl:=h.len;obtain ⟨d,_,h2,hd⟩:=zt8 h (s:=s) (by omega);rw [hd];simpa using h2
theorem zox {n:Nat} {v:List Int} (h:View n v) {s:Nat} (hs:s < n):0≤v.getD s 0:=by
 have hl:=h.len;obtain ⟨d,_,h2,hd⟩:=zt8 h (s:=s) (by omega);rw [hd];omega
theorem WW_zero {τ:Type} [DecidableEq τ] (g:List (List Int)) (n:Nat) (f:Nat->τ):WW g n (0:Nat).testBit f=0:=by
 rw [zls g (by intro r s _ _ h;simp at h)];exact za2 g (by simp)
theorem zlu {τ:Type} [DecidableEq τ] (g:List (List Int)) {n:Nat} {v:List Int} (hv:View n v) (S:Nat) (f:Nat->τ) (hf:∀ r s,r < n->s < n->S.testBit r=true->S.testBit s=true->f r=f s->v.getD r 0=v.getD s 0) :
  WW g n S.testBit f=zct v S fun y=>WW g n y.testBit f:=by
 rw [WW_split g (P:=S.testBit) (f:=f) (fun s=>(v.getD s 0).toNat) (z2f v) (fun s hs _=>cls_lt hv hs) (fun r s hr hs h1 h2 h3=>by rw [hf r s hr hs h1 h2 h3])];refine z1j fun c hc=>?_
 have e:WW g n (fun s=>S.testBit s && decide ((v.getD s 0).toNat=c)) f=WW g n (part v S c).testBit f:=zlt g (fun s hs=>(z5n hv S c hs).symm) (fun r s _ _ _ _=>Iff.rfl);rw [e];split
 ·rename_i h0;rw [h0,WW_zero]
 ·rfl
theorem zig {n:Nat} {v:List Int} (hv:View n v) (S:Nat) (row:List Int):zht row n S.testBit=z1r (z2f v) fun c=>zht row n (part v S c).testBit:=by
 unfold zht;rw [zcs];refine z1j fun s hs=>?_
 have hc:=cls_lt hv hs
 cases hb:S.testBit s with
 | false=>
  rw [z1j (g:=fun _=>0),z59]
  ·rfl
  ·intro c _;rw [z5n hv S c hs,hb];rfl
 | true=>
  rw [z1j (g:=fun c=>if (v.getD s 0).toNat=c then row.getD s 0 else 0),zie _ hc]
  ·rfl
  ·intro c _;rw [z5n hv S c hs,hb];by_cases h:(v.getD s 0).toNat=c <;> simp [h]
theorem leaf_sub (g:List (List Int)) {n:Nat} {v:List Int} (hv:View n v) (S:Nat):z1m g n S.testBit≤zct v S fun y=>z1m g n y.testBit:=by
 have hz:(zct v S fun y=>z1m g n y.testBit)=z1r (z2f v) fun c=>z1m g n (part v S c).testBit:=by
  refine z1j fun c _=>?_
  split
  ·rename_i h;rw [h];exact (za2 g (by simp)).symm
  ·rfl
 rw [hz];refine zla _ (z4f fun c _=>ze3 _ _ _) fun row hr=>?_
 rw [zig hv S row];exact z7p fun c _=>sumP_le hr
def zyc (us:List (List Int)) (s:Nat):List Int:=us.map fun u=>u.getD s 0
theorem WS_cons (g:List (List Int)) {n:Nat} {u:List Int} (hu:View n u) (us:List (List Int)) (S:Nat):WW g n S.testBit (zyc (u :: us))=zct u S fun y=>WW g n y.testBit (zyc us):=by
 rw [zlu g hu S _ (fun r s _ _ _ _ h=>by simp only [zyc,List.map_cons,List.cons.injEq] at h;exact h.1)];refine zif fun c hc _=>zlt g (fun _ _=>rfl) fun r s hr hs h1 h2=>?_
 rw [z5n hu S c hr,zA,decide_eq_true_eq] at h1;rw [z5n hu S c hs,zA,decide_eq_true_eq] at h2;have e:u.getD r 0=u.getD s 0:=by have:=zox hu hr;have:=zox hu hs;omega
 simp only [zyc,List.map_cons,e,List.cons.injEq,true_and]
theorem zaz (g:List (List Int)) {n:Nat}:(us:List (List Int))->(∀ u∈us,View n u)->(S:Nat)->z1m g n S.testBit≤WW g n S.testBit (zyc us)
 | [],_,S=>by rw [zls g (by intro r s _ _ _ _;rfl)];exact Int.le_refl _
 | u :: us,h,S=>by
  have hu:=h u (by simp);rw [WS_cons g hu];exact Int.le_trans (leaf_sub g hu S) (zmc fun c _ _=>zaz g us (fun x hx=>h x (by simp [hx])) _)
theorem zpg (g:List (List Int)) {n:Nat} {vs:List (List Int)} (h:∀ v∈vs,View n v):(l S:Nat)->VV vs g n l S≤WW g n S.testBit (zyc vs)
 | 0,S=>zaz g vs h S
 | l+1,S=>by
  refine VV_le (zaz g vs h S) fun v hv=>?_
  rw [zlu g (h v hv) S _ (fun r s _ _ _ _ he=>by
   simp only [zyc] at he;exact List.map_inj_left.1 he v hv)]
  exact zmc fun c _ _=>zpg g h l _
theorem zkq {n:Nat} {v:List Int} (hv:View n v) (S c:Nat):part v S c < 2 ^ n:=by
 have:=part_lt v S c
 rwa [hv.len] at this
end Go.Kz
