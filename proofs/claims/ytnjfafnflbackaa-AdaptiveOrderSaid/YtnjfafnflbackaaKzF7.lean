/-
  The layer adaptive: values of sets of secrets; plain laws.
-/
import Derived.Test.YtnjfafnflbackaaKzF6
set_option linter.unusedVariables false
set_option linter.unusedSimpArgs false
namespace Go.Kz
theorem zd1 {n a:Nat} (x:Int) (h:a < n):z1k n (fun i=>if a=i then x else 0)=x:=by
 refine (z12 fun i _=>?_).trans (zlv x h);by_cases hi:i=a
 ·subst hi;rfl
 ·rw [if_neg hi,if_neg (fun e=>hi e.symm)]
theorem zb9 (g:List (List Int)) {n:Nat} {P Q:Nat->Bool} (h:∀ s,s < n->P s=Q s):z1q g n P=z1q g n Q:=by
 have:∀ row,zhx row n P=zhx row n Q:=fun row=>z12 fun s hs=>by rw [h s hs]
 simp only [z1q,this]
theorem z57 (g:List (List Int)) {n:Nat} {P:Nat->Bool} (h:∀ s,s < n->P s=false):z1q g n P=0:=by
 have:∀ row,zhx row n P=0:=fun row=>(z12 fun s hs=>by rw [h s hs];rfl).trans (z3x n)
 simp only [z1q,this]
 induction g with
 | nil=>rfl
 | cons a g ih=>simpa using ih
theorem zf6 {α:Type} (h:α->Int):(l:List α)->(b:Int)->b≤l.foldl (fun b x=>max b (h x)) b
 | [],_=>Int.le_refl _
 | x :: l,b=>by
  have:=zf6 h l (max b (h x));simp only [List.foldl_cons];omega
theorem zgv {α:Type} (h:α->Int):{l:List α}->{b:Int}->{x:α}->x∈l->h x≤l.foldl (fun b x=>max b (h x)) b
 | a :: l,b,x,hx=>by
  simp only [List.foldl_cons];rcases List.mem_cons.1 hx with rfl | hx
  ·have:=zf6 h l (max b (h x));omega
  ·exact zgv h hx
theorem zl1 {α:Type} (h:α->Int):{l:List α}->{b B:Int}->b≤B->(∀ x∈l,h x≤B)->l.foldl (fun b x=>max b (h x)) b≤B
 | [],_,_,hb,_=>hb
 | a :: l,b,B,hb,hl=>by
  simp only [List.foldl_cons];have:=hl a (by simp);exact zl1 h (by omega) fun x hx=>hl x (by simp [hx])
theorem z6y (g:List (List Int)) (n:Nat) (P:Nat->Bool):0≤z1q g n P:=zf6 _ g 0
theorem sumP_le {g:List (List Int)} {n:Nat} {P:Nat->Bool} {row:List Int} (h:row∈g):zhx row n P≤z1q g n P:=zgv (fun row=>zhx row n P) h
def z4o {τ:Type} [DecidableEq τ] (P:Nat->Bool) (f:Nat->τ) (s:Nat):Bool:=P s && (List.range s).all fun r=>!(P r && decide (f r=f s))
def clsP {τ:Type} [DecidableEq τ] (P:Nat->Bool) (f:Nat->τ) (s:Nat):Nat->Bool:=fun r=>P r && decide (f r=f s)
def WW {τ:Type} [DecidableEq τ] (g:List (List Int)) (n:Nat) (P:Nat->Bool) (f:Nat->τ):Int:=z1k n fun s=>if z4o P f s then z1q g n (clsP P f s) else 0
theorem zeb {τ τ':Type} [DecidableEq τ] [DecidableEq τ'] {P Q:Nat->Bool} {f:Nat->τ} {f':Nat->τ'} {s:Nat} (hP:P s=Q s) (h:∀ r,r < s->(P r && decide (f r=f s))=(Q r && decide (f' r=f' s))):z4o P f s=z4o Q f' s:=by
 simp only [z4o,hP];congr 1;rw [Bool.eq_iff_iff];simp only [List.all_eq_true,List.mem_range];constructor
 ·intro H r hr;rw [←h r hr];exact H r hr
 ·intro H r hr;rw [h r hr];exact H r hr
theorem zlg {τ τ':Type} [DecidableEq τ] [DecidableEq τ'] (g:List (List Int)) {n:Nat} {P Q:Nat->Bool} {f:Nat->τ} {f':Nat->τ'} (hP:∀ s,s < n->P s=Q s) (hf:∀ r s,r < n->s < n->P r=true->P s=true->(f r=f s↔f' r=f' s)):WW g n P f=WW g n Q f':=by
 refine z12 fun s hs=>?_
 cases hp:P s with
 | false=>
  have h1:z4o P f s=false:=by simp [z4o,hp]
  have h2:z4o Q f' s=false:=by simp [z4o,←hP s hs,hp]
  rw [h1,h2]
  rfl
 | true=>
  have key:∀ r,r < n->(P r && decide (f r=f s))=(Q r && decide (f' r=f' s)):=by
   intro r hr;rw [←hP r hr]
   cases hq:P r with
   | false=>simp
   | true=>simp [hf r s hr hs hq hp]
  rw [zeb (hP s hs) (fun r hr=>key r (by omega)),zb9 g (P:=clsP P f s) (Q:=clsP Q f' s) key]
theorem WW_split {τ:Type} [DecidableEq τ] (g:List (List Int)) {n:Nat} {P:Nat->Bool} {f:Nat->τ} (v:Nat->Nat) (K:Nat) (hv:∀ s,s < n->P s=true->v s < K) (hf:∀ r s,r < n->s < n->P r=true->P s=true->f r=f s->v r=v s) :
  WW g n P f=z1k K fun c=>WW g n (fun s=>P s && decide (v s=c)) f:=by
 unfold WW;rw [zd0];refine z12 fun s hs=>?_
 cases hp:P s with
 | false=>
  rw [show z4o P f s=false from by simp [z4o,hp]];have:∀ c,z4o (fun s=>P s && decide (v s=c)) f s=false:=fun c=>by simp [z4o,hp]
  simp only [this]
  simp [z3x]
 | true=>
  have hvs:=hv s hs hp;have key:∀ r,r < n->clsP (fun s'=>P s' && decide (v s'=v s)) f s r=clsP P f s r:=by
   intro r hr;simp only [clsP]
   cases hq:P r with
   | false=>simp
   | true=>
    by_cases he:f r=f s
    ·have:=hf r s hr hs hq hp he;simp [he,this]
    ·simp [he]
  have hall:∀ c,(if z4o (fun s'=>P s' && decide (v s'=c)) f s then z1q g n (clsP (fun s'=>P s' && decide (v s'=c)) f s) else 0)=if v s=c then (if z4o P f s then z1q g n (clsP P f s) else 0) else 0:=by
   intro c;by_cases hc:v s=c
   ·subst hc;rw [if_pos rfl,zb9 g key,zeb (P:=fun s'=>P s' && decide (v s'=v s)) (Q:=P) (f':=f) (by simp [hp]) (fun r hr=>key r (by omega))]
   ·rw [if_neg hc];have:z4o (fun s'=>P s' && decide (v s'=c)) f s=false:=by simp [z4o,hc]
    rw [this];rfl
  simp only [hall];rw [zd1 _ hvs]
theorem zlu (P:Nat->Bool) (x:Int):(n:Nat)->z1k n (fun s=>if (P s && (List.range s).all fun r=>!P r) then x else 0)=if (List.range n).any P then x else 0
 | 0=>rfl
 | n+1=>by
  simp only [z1k];rw [zlu P x n];have e:(List.range (n+1)).any P=((List.range n).any P || P n):=by simp [List.range_succ]
  have e2:((List.range n).all fun r=>!P r) = !(List.range n).any P:=by simp [List.all_eq_not_any_not]
  rw [e,e2];cases (List.range n).any P <;> cases P n <;> simp
theorem zaf {τ:Type} [DecidableEq τ] (g:List (List Int)) {n:Nat} {P:Nat->Bool} {f:Nat->τ} (hc:∀ r s,r < n->s < n->P r=true->P s=true->f r=f s):WW g n P f=z1q g n P:=by
 have h:WW g n P f=z1k n (fun s=>if (P s && (List.range s).all fun r=>!P r) then z1q g n P else 0):=by
  refine z12 fun s hs=>?_
  cases hp:P s with
  | false=>simp [z4o,hp]
  | true=>
   have key:∀ r,r < n->(P r && decide (f r=f s))=P r:=by
    intro r hr
    cases hq:P r with
    | false=>simp
    | true=>simp [hc r s hr hs hq hp]
   have h1:z4o P f s=(P s && (List.range s).all fun r=>!P r):=by
    simp only [z4o];congr 1;rw [Bool.eq_iff_iff];simp only [List.all_eq_true,List.mem_range];constructor
    ·intro H r hr;rw [←key r (by omega)];exact H r hr
    ·intro H r hr;rw [key r (by omega)];exact H r hr
   rw [h1,hp,zb9 g (P:=clsP P f s) (Q:=P) key]
 rw [h,zlu]
 cases ha:(List.range n).any P with
 | true=>rfl
 | false=>
  rw [z57 g]
  ·rfl
  ·intro s hs
   cases hp:P s with
   | false=>rfl
   | true=>
    have:(List.range n).any P=true:=List.any_eq_true.2 ⟨s,List.mem_range.2 hs,hp⟩;rw [this] at ha;exact absurd ha (by simp)
def zcu (v:List Int) (S:Nat) (h:Nat->Int):Int:=z1k (z3c v) fun c=>if part v S c=0 then 0 else h (part v S c)
theorem zbt {v:List Int} {S:Nat} {h h':Nat->Int} (H:∀ c,c < z3c v->part v S c≠0->h (part v S c)≤h' (part v S c)):zcu v S h≤zcu v S h':=
 z7k fun c hc=>by
  split
  ·exact Int.le_refl _
  ·exact H c hc (by assumption)
theorem z9s {v:List Int} {S:Nat} {h h':Nat->Int} (H:∀ c,c < z3c v->part v S c≠0->h (part v S c)=h' (part v S c)):zcu v S h=zcu v S h':=
 z12 fun c hc=>by
  split
  ·rfl
  ·exact H c hc (by assumption)
def VV (vs:List (List Int)) (g:List (List Int)) (n:Nat):Nat->Nat->Int
 | 0=>fun S=>z1q g n S.testBit
 | l+1=>fun S=>vs.foldl (fun b v=>max b (zcu v S (VV vs g n l))) (z1q g n S.testBit)
theorem zyd (vs:List (List Int)) (g:List (List Int)) (n l S:Nat):z1q g n S.testBit≤VV vs g n l S:=by
 cases l with
 | zero=>exact Int.le_refl _
 | succ l=>exact zf6 _ _ _
theorem z9p (vs:List (List Int)) (g:List (List Int)) (n l S:Nat):0≤VV vs g n l S:=Int.le_trans (z6y _ _ _) (zyd _ _ _ _ _)
theorem zyb {vs:List (List Int)} (g:List (List Int)) (n l S:Nat) {v:List Int} (hv:v∈vs):zcu v S (VV vs g n l)≤VV vs g n (l+1) S:=zgv (fun v=>zcu v S (VV vs g n l)) hv
theorem zyc {vs:List (List Int)} {g:List (List Int)} {n l S:Nat} {B:Int} (h0:z1q g n S.testBit≤B) (h:∀ v∈vs,zcu v S (VV vs g n l)≤B):VV vs g n (l+1) S≤B:=zl1 _ h0 h
theorem zr0 (vs:List (List Int)) (g:List (List Int)) (n:Nat):(l:Nat)->(S:Nat)->VV vs g n l S≤VV vs g n (l+1) S
 | 0,S=>zyd _ _ _ _ _
 | l+1,S=>zyc (zyd _ _ _ _ _) fun v hv=>Int.le_trans (zbt fun c _ _=>zr0 vs g n l _) (zyb g n (l+1) S hv)
theorem ze7 (v:List Int) (c:Nat):part v 0 c=0:=by
 apply Nat.eq_of_testBit_eq;intro i;rw [zrp];simp
theorem z31 {n:Nat} {v:List Int} (h:View n v) (S c:Nat) {s:Nat} (hs:s < n):(part v S c).testBit s=(S.testBit s && decide ((v.getD s 0).toNat=c)):=by
 have hl:=h.len;obtain ⟨d,_,_,hd⟩:=zsy h (s:=s) (by omega);rw [zrp,hd];have:decide (s < v.length)=true:=by simp;omega
 rw [this,Bool.true_and];congr 1;rw [Bool.eq_iff_iff];simp only [decide_eq_true_eq];omega
theorem zxy {n:Nat} {v:List Int} (h:View n v) {s:Nat} (hs:s < n):(v.getD s 0).toNat < z3c v:=by
 have hl:=h.len;obtain ⟨d,_,h2,hd⟩:=zsy h (s:=s) (by omega);rw [hd];simpa using h2
theorem zhh {n:Nat} {v:List Int} (h:View n v) {s:Nat} (hs:s < n):0≤v.getD s 0:=by
 have hl:=h.len;obtain ⟨d,_,h2,hd⟩:=zsy h (s:=s) (by omega);rw [hd];omega
theorem WW_zero {τ:Type} [DecidableEq τ] (g:List (List Int)) (n:Nat) (f:Nat->τ):WW g n (0:Nat).testBit f=0:=by
 rw [zaf g (by intro r s _ _ h;simp at h)];exact z57 g (by simp)
theorem zlh {τ:Type} [DecidableEq τ] (g:List (List Int)) {n:Nat} {v:List Int} (hv:View n v) (S:Nat) (f:Nat->τ) (hf:∀ r s,r < n->s < n->S.testBit r=true->S.testBit s=true->f r=f s->v.getD r 0=v.getD s 0) :
  WW g n S.testBit f=zcu v S fun y=>WW g n y.testBit f:=by
 rw [WW_split g (P:=S.testBit) (f:=f) (fun s=>(v.getD s 0).toNat) (z3c v) (fun s hs _=>zxy hv hs) (fun r s hr hs h1 h2 h3=>by rw [hf r s hr hs h1 h2 h3])];refine z12 fun c hc=>?_
 have e:WW g n (fun s=>S.testBit s && decide ((v.getD s 0).toNat=c)) f=WW g n (part v S c).testBit f:=zlg g (fun s hs=>(z31 hv S c hs).symm) (fun r s _ _ _ _=>Iff.rfl);rw [e];split
 ·rename_i h0;rw [h0,WW_zero]
 ·rfl
theorem zih {n:Nat} {v:List Int} (hv:View n v) (S:Nat) (row:List Int):zhx row n S.testBit=z1k (z3c v) fun c=>zhx row n (part v S c).testBit:=by
 unfold zhx;rw [zd0];refine z12 fun s hs=>?_
 have hc:=zxy hv hs
 cases hb:S.testBit s with
 | false=>
  rw [z12 (g:=fun _=>0),z3x]
  ·rfl
  ·intro c _;rw [z31 hv S c hs,hb];rfl
 | true=>
  rw [z12 (g:=fun c=>if (v.getD s 0).toNat=c then row.getD s 0 else 0),zd1 _ hc]
  ·rfl
  ·intro c _;rw [z31 hv S c hs,hb];by_cases h:(v.getD s 0).toNat=c <;> simp [h]
theorem leaf_sub (g:List (List Int)) {n:Nat} {v:List Int} (hv:View n v) (S:Nat):z1q g n S.testBit≤zcu v S fun y=>z1q g n y.testBit:=by
 have hz:(zcu v S fun y=>z1q g n y.testBit)=z1k (z3c v) fun c=>z1q g n (part v S c).testBit:=by
  refine z12 fun c _=>?_
  split
  ·rename_i h;rw [h];exact (z57 g (by simp)).symm
  ·rfl
 rw [hz];refine zl1 _ (z35 fun c _=>z6y _ _ _) fun row hr=>?_
 rw [zih hv S row];exact z7k fun c _=>sumP_le hr
def zt3 (us:List (List Int)) (s:Nat):List Int:=us.map fun u=>u.getD s 0
theorem zqy (g:List (List Int)) {n:Nat} {u:List Int} (hu:View n u) (us:List (List Int)) (S:Nat):WW g n S.testBit (zt3 (u :: us))=zcu u S fun y=>WW g n y.testBit (zt3 us):=by
 rw [zlh g hu S _ (fun r s _ _ _ _ h=>by simp only [zt3,List.map_cons,List.cons.injEq] at h;exact h.1)];refine z9s fun c hc _=>zlg g (fun _ _=>rfl) fun r s hr hs h1 h2=>?_
 rw [z31 hu S c hr,zA,decide_eq_true_eq] at h1;rw [z31 hu S c hs,zA,decide_eq_true_eq] at h2;have e:u.getD r 0=u.getD s 0:=by have:=zhh hu hr;have:=zhh hu hs;omega
 simp only [zt3,List.map_cons,e,List.cons.injEq,true_and]
theorem zb8 (g:List (List Int)) {n:Nat}:(us:List (List Int))->(∀ u∈us,View n u)->(S:Nat)->z1q g n S.testBit≤WW g n S.testBit (zt3 us)
 | [],_,S=>by rw [zaf g (by intro r s _ _ _ _;rfl)];exact Int.le_refl _
 | u :: us,h,S=>by
  have hu:=h u (by simp);rw [zqy g hu];exact Int.le_trans (leaf_sub g hu S) (zbt fun c _ _=>zb8 g us (fun x hx=>h x (by simp [hx])) _)
theorem zhs (g:List (List Int)) {n:Nat} {vs:List (List Int)} (h:∀ v∈vs,View n v):(l S:Nat)->VV vs g n l S≤WW g n S.testBit (zt3 vs)
 | 0,S=>zb8 g vs h S
 | l+1,S=>by
  refine zyc (zb8 g vs h S) fun v hv=>?_
  rw [zlh g (h v hv) S _ (fun r s _ _ _ _ he=>by
   simp only [zt3] at he;exact List.map_inj_left.1 he v hv)]
  exact zbt fun c _ _=>zhs g h l _
theorem zoy (g:List (List Int)) {n:Nat} {vs:List (List Int)} (h:∀ v∈vs,View n v):(us:List (List Int))->(∀ u∈us,u∈vs)->(l S:Nat)->us.length≤l->WW g n S.testBit (zt3 us)≤VV vs g n l S
 | [],_,l,S,_=>by rw [zaf g (by intro r s _ _ _ _;rfl)];exact zyd _ _ _ _ _
 | u :: us,hs,l,S,hl=>by
  obtain ⟨l,rfl⟩:∃ k,l=k+1:=⟨l-1,by simp at hl;omega⟩;have hu:=hs u (by simp);rw [zqy g (h u hu)];exact Int.le_trans (zbt fun c _ _=>zoy g h us (fun x hx=>hs x (by simp [hx])) l _ (by simpa using hl)) (zyb g n l S hu)
def z6r (n:Nat) (S:Nat) (v:List Int):Bool:=(List.range n).any fun r=>(List.range n).any fun s=>S.testBit r && S.testBit s && decide (v.getD r 0≠v.getD s 0)
theorem zfr {n S:Nat} {v:List Int} (h:z6r n S v=false) {r s:Nat} (hr:r < n) (hs:s < n) (h1:S.testBit r=true) (h2:S.testBit s=true):v.getD r 0=v.getD s 0:=by
 apply Classical.byContradiction;intro hne;have:z6r n S v=true:=List.any_eq_true.2 ⟨r,List.mem_range.2 hr,List.any_eq_true.2 ⟨s,List.mem_range.2 hs,by rw [h1,h2,decide_eq_true hne];rfl⟩⟩;rw [this] at h;exact absurd h (by simp)
theorem ztn {n S T:Nat} {v:List Int} (hst:∀ s,s < n->T.testBit s=true->S.testBit s=true) (h:z6r n S v=false):z6r n T v=false:=by
 cases ht:z6r n T v with
 | false=>rfl
 | true=>
  obtain ⟨r,hr,h1⟩:=List.any_eq_true.1 ht;obtain ⟨s,hs,h2⟩:=List.any_eq_true.1 h1;have hr:=List.mem_range.1 hr;have hs:=List.mem_range.1 hs;simp only [zA,decide_eq_true_eq] at h2;exact absurd (zfr h hr hs (hst r hr h2.1.1) (hst s hs h2.1.2)) h2.2
theorem zpg {n:Nat} {v:List Int} (hv:View n v) (S c:Nat):z6r n (part v S c) v=false:=by
 cases ht:z6r n (part v S c) v with
 | false=>rfl
 | true=>
  obtain ⟨r,hr,h1⟩:=List.any_eq_true.1 ht;obtain ⟨s,hs,h2⟩:=List.any_eq_true.1 h1;have hr:=List.mem_range.1 hr;have hs:=List.mem_range.1 hs;simp only [zA,decide_eq_true_eq] at h2;rw [z31 hv S c hr,z31 hv S c hs] at h2;simp only [zA,decide_eq_true_eq] at h2;have:=zhh hv hr;have:=zhh hv hs;omega
theorem zzn {n:Nat} {v:List Int} (hv:View n v) (S c:Nat):∀ s,s < n->(part v S c).testBit s=true->S.testBit s=true:=by
 intro s hs h;rw [z31 hv S c hs] at h;simp only [zA] at h;exact h.1
theorem ztl {n S:Nat} {v:List Int} (hv:View n v) (hS:S < 2 ^ n) (h:z6r n S v=false) (f:Nat->Int) (f0:f 0=0):zcu v S f=f S:=by
 by_cases he:∃ s,s < n∧S.testBit s=true
 ·obtain ⟨s,hs,hb⟩:=he;have hc:=zxy hv hs;rw [←zd1 (f S) hc];refine z12 fun c _=>?_
  by_cases hcs:(v.getD s 0).toNat=c
  ·have e:part v S c=S:=by
    apply Nat.eq_of_testBit_eq;intro i;by_cases hi:i < n
    ·rw [z31 hv S c hi]
     cases hbi:S.testBit i with
     | false=>rfl
     | true=>
      have:=zfr h hi hs hbi hb;rw [this,decide_eq_true hcs];rfl
    ·rw [Nat.testBit_lt_two_pow (x:=S) (Nat.lt_of_lt_of_le hS (Nat.pow_le_pow_right (by omega) (by omega)))];have hp:=zpu v S c;rw [hv.len] at hp;exact Nat.testBit_lt_two_pow (Nat.lt_of_lt_of_le hp (Nat.pow_le_pow_right (by omega) (by omega)))
   rw [e,if_pos hcs];split
   ·rename_i h0;rw [h0,f0]
   ·rfl
  ·have e:part v S c=0:=by
    apply Nat.eq_of_testBit_eq;intro i;rw [Nat.zero_testBit];by_cases hi:i < n
    ·rw [z31 hv S c hi]
     cases hbi:S.testBit i with
     | false=>rfl
     | true=>
      have:=zfr h hi hs hbi hb;rw [this,decide_eq_false hcs];rfl
    ·have hp:=zpu v S c;rw [hv.len] at hp;exact Nat.testBit_lt_two_pow (Nat.lt_of_lt_of_le hp (Nat.pow_le_pow_right (by omega) (by omega)))
   rw [e,if_pos rfl,if_neg hcs]
 ·have e:S=0:=by
   apply Nat.eq_of_testBit_eq;intro i;rw [Nat.zero_testBit];by_cases hi:i < n
   ·cases hb:S.testBit i with
    | false=>rfl
    | true=>exact absurd ⟨i,hi,hb⟩ he
   ·exact Nat.testBit_lt_two_pow (Nat.lt_of_lt_of_le hS (Nat.pow_le_pow_right (by omega) (by omega)))
  subst e;rw [f0];refine (z12 fun c _=>?_).trans (z3x (z3c v));rw [ze7,if_pos rfl]
theorem VV_zero (vs:List (List Int)) (g:List (List Int)) (n:Nat):(l:Nat)->VV vs g n l 0=0
 | 0=>z57 g (by simp)
 | l+1=>by
  have h0:z1q g n (0:Nat).testBit=0:=z57 g (by simp);have:=z9p vs g n (l+1) 0;have h1:VV vs g n (l+1) 0≤0:=zyc (by omega) fun v hv=>by
   have:zcu v 0 (VV vs g n l)=0:=(z12 fun c _=>by rw [ze7,if_pos rfl]).trans (z3x (z3c v));omega
  omega
theorem zey {n:Nat} {v:List Int} (hv:View n v) (S c:Nat):part v S c < 2 ^ n:=by
 have:=zpu v S c
 rwa [hv.len] at this
theorem znc {α:Type} {p q:α->Bool}:{l:List α}->(∀ x∈l,p x=true->q x=true)->{a:α}->a∈l->q a=true->p a=false->(l.filter p).length < (l.filter q).length
 | x :: l,h,a,ha,hq,hp=>by
  have hle:(l.filter p).length≤(l.filter q).length:=by
   have:∀ {l:List α},(∀ x∈l,p x=true->q x=true)->(l.filter p).length≤(l.filter q).length:=by
    intro l
    induction l with
    | nil=>intro _;simp
    | cons y l ih=>
     intro h;have h1:=ih fun x hx=>h x (by simp [hx])
     have h2:=h y (by simp)
     cases hy:p y with
     | false=>cases hy2:q y <;> simp [hy,hy2] <;> omega
     | true=>simp [hy,h2 hy];omega
   exact this fun x hx=>h x (by simp [hx])
  rcases List.mem_cons.1 ha with rfl | ha
  ·simp [hp,hq];omega
  ·have h1:=znc (l:=l) (fun x hx=>h x (by simp [hx])) ha hq hp;have h2:=h x (by simp)
   cases hx:p x with
   | false=>cases hy2:q x <;> simp [hx,hy2] <;> omega
   | true=>simp [hx,h2 hx];omega
theorem zp2 (g:List (List Int)) {n:Nat} {vs:List (List Int)} (h:∀ v∈vs,View n v):(k S:Nat)->S < 2 ^ n->(vs.filter (z6r n S)).length≤k->VV vs g n (k+1) S=VV vs g n k S
 | k,S,hS,hk=>by
  have h1:=zr0 vs g n k S;have h2:VV vs g n (k+1) S≤VV vs g n k S:=by
   refine zyc (zyd _ _ _ _ _) fun v hv=>?_
   cases hs:z6r n S v with
   | false=>
    rw [ztl (h v hv) hS hs _ (VV_zero _ _ _ _)]
    exact Int.le_refl _
   | true=>
    cases k with
    | zero=>
     have:v∈vs.filter (z6r n S):=List.mem_filter.2 ⟨hv,hs⟩;have:=List.length_pos_of_mem this
     omega
    | succ k=>
     refine Int.le_trans (Int.le_of_eq (z9s fun c _ _=>?_)) (zyb g n k S hv);refine zp2 g h k _ (zey (h v hv) S c) ?_;have:=znc (p:=z6r n (part v S c)) (q:=z6r n S) (l:=vs) (fun x _ hx=>by
      cases hq:z6r n S x with
      | true=>rfl
      | false=>rw [ztn (zzn (h v hv) S c) hq] at hx;exact absurd hx (by simp)) hv hs (zpg (h v hv) S c)
     omega
  omega
 termination_by k=>k
end Go.Kz
