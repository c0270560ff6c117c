/-
  The layer adaptive: hardness; plain laws.
-/
import Derived.Test.YtnjfafnflbackaaGreatKzFSz
set_option linter.unusedVariables false
set_option linter.unusedSimpArgs false
namespace Go.Kz
def za1 (v:List Int) (S:Nat) (h:Nat->Int):Int:=(List.range (z1z v)).foldl (fun b c=>max b (if part v S c=0 then 0 else h (part v S c))) 0
def z3q (n S:Nat) (f:Nat->Int) (b:Int) (v:List Int):Int:=if z0e n S v then min b (za1 v S f+1) else b
def HF (vs:List (List Int)) (p:List Int) (n:Nat):Nat->Nat->Int
 | 0=>fun _=>0
 | k+1=>fun S=>if z0e n S p then vs.foldl (z3q n S (HF vs p n k)) (n:Int) else 0
theorem z42 (v:List Int) (S:Nat) (h:Nat->Int):0≤za1 v S h:=z98 _ _ 0
theorem ztm {v:List Int} {S c:Nat} (h:Nat->Int) (hc:c < z1z v) (h0:part v S c≠0):h (part v S c)≤za1 v S h:=by
 have:=zfb (fun c=>if part v S c=0 then 0 else h (part v S c)) (l:=List.range (z1z v)) (b:=0) (List.mem_range.2 hc);simp only [if_neg h0] at this;exact this
theorem zno {v:List Int} {S:Nat} {h:Nat->Int} {B:Int} (h0:0≤B) (H:∀ c,c < z1z v->part v S c≠0->h (part v S c)≤B):za1 v S h≤B:=by
 refine zj7 _ h0 fun c hc=>?_
 split
 ·exact h0
 ·exact H c (List.mem_range.1 hc) (by assumption)
theorem zpe {v:List Int} {S:Nat} {h:Nat->Int} (hp:0 < za1 v S h):∃ c,c < z1z v∧part v S c≠0∧h (part v S c)=za1 v S h:=by
 rcases zl9 (fun c=>if part v S c=0 then 0 else h (part v S c)) (l:=List.range (z1z v)) (b:=0) with e | ⟨c,hc,e⟩
 ·have:za1 v S h=0:=e;omega
 ·have e':(if part v S c=0 then 0 else h (part v S c))=za1 v S h:=e;split at e'
  ·omega
  ·exact ⟨c,List.mem_range.1 hc,by assumption,e'⟩
theorem zrj {v:List Int} {S:Nat} {h h':Nat->Int} (H:∀ c,c < z1z v->part v S c≠0->h (part v S c)=h' (part v S c)):za1 v S h=za1 v S h':=by
 have key:∀ (l:List Nat) (b:Int),(∀ c∈l,c < z1z v)->l.foldl (fun b c=>max b (if part v S c=0 then 0 else h (part v S c))) b=l.foldl (fun b c=>max b (if part v S c=0 then 0 else h' (part v S c))) b:=by
  intro l
  induction l with
  | nil=>intro b _;rfl
  | cons c l ih=>
   intro b hl;simp only [List.foldl_cons];have:(if part v S c=0 then 0 else h (part v S c))=(if part v S c=0 then 0 else h' (part v S c)):=by
    split
    ·rfl
    ·exact H c (hl c (by simp)) (by assumption)
   rw [this];exact ih _ fun x hx=>hl x (by simp [hx])
 exact key _ _ fun c hc=>List.mem_range.1 hc
theorem z4j {n:Nat} {v:List Int} (hv:View n v) {S:Nat} (hs:z0e n S v=true) (c:Nat):zcg n (part v S c)+1≤zcg n S:=by
 obtain ⟨r,s,hr,hsn,b1,b2,hne⟩:=z5h hs;have:∃ x,x < n∧S.testBit x=true∧(part v S c).testBit x=false:=by
  rw [show (∃ x,x < n∧S.testBit x=true∧(part v S c).testBit x=false)↔_ from Iff.rfl];by_cases h1:(v.getD r 0).toNat=c
  ·refine ⟨s,hsn,b2,?_⟩;rw [z2q hv S c hsn,b2,Bool.true_and,decide_eq_false_iff_not];have:=zd4 hv hr;have:=zd4 hv hsn;omega
  ·refine ⟨r,hr,b1,?_⟩;rw [z2q hv S c hr,b1,Bool.true_and,decide_eq_false_iff_not];exact h1
 obtain ⟨x,hx,bx,px⟩:=this;have h1:=z8y (n:=n) (f:=fun i=>(if (part v S c).testBit i then (List.replicate n (1:Int)).getD i 0 else 0)+if i=x then 1 else 0) (g:=fun i=>if S.testBit i then (List.replicate n (1:Int)).getD i 0 else 0) (fun i hi=>by
  have hrep:(List.replicate n (1:Int)).getD i 0=1:=by rw [List.getD_eq_getElem?_getD,List.getElem?_replicate,if_pos hi];rfl
  simp only [hrep];by_cases he:i=x
  ·subst he;rw [px,bx];simp
  ·simp only [if_neg he]
   cases hp:(part v S c).testBit i with
   | true=>rw [zwt hv S c i hi hp];simp
   | false=>simp only [Bool.false_eq_true,if_false];split <;> omega)
 rw [zec,zea 1 hx] at h1;exact h1
theorem zb8 (n S:Nat) (f:Nat->Int):(l:List (List Int))->(b:Int)->l.foldl (z3q n S f) b≤b
 | [],b=>Int.le_refl _
 | v :: l,b=>by
  simp only [List.foldl_cons];have:=zb8 n S f l (z3q n S f b v);have h2:z3q n S f b v≤b:=by unfold z3q;split <;> omega
  omega
theorem z33 (n S:Nat) (f:Nat->Int):{l:List (List Int)}->{b:Int}->{v:List Int}->v∈l->z0e n S v=true->l.foldl (z3q n S f) b≤za1 v S f+1
 | a :: l,b,v,hv,hs=>by
  simp only [List.foldl_cons];rcases List.mem_cons.1 hv with rfl | hv
  ·have:=zb8 n S f l (z3q n S f b v);have h2:z3q n S f b v≤za1 v S f+1:=by unfold z3q;rw [if_pos hs];omega
   omega
  ·exact z33 n S f hv hs
theorem z3t (n S:Nat) (f:Nat->Int):(l:List (List Int))->(b:Int)->l.foldl (z3q n S f) b=b∨∃ v∈l,z0e n S v=true∧l.foldl (z3q n S f) b=za1 v S f+1
 | [],b=>.inl rfl
 | v :: l,b=>by
  simp only [List.foldl_cons];rcases z3t n S f l (z3q n S f b v) with h | ⟨w,hw,h1,h2⟩
  ·rw [h];unfold z3q;split
   ·by_cases hm:za1 v S f+1≤b
    ·right;exact ⟨v,by simp,by assumption,by omega⟩
    ·left;omega
   ·left;rfl
  ·right;exact ⟨w,by simp [hw],h1,h2⟩
theorem zfa {n S:Nat} {f f':Nat->Int}:{l:List (List Int)}->(∀ v∈l,z0e n S v=true->za1 v S f=za1 v S f')->(b:Int)->l.foldl (z3q n S f) b=l.foldl (z3q n S f') b
 | [],_,b=>rfl
 | v :: l,h,b=>by
  simp only [List.foldl_cons];have:z3q n S f b v=z3q n S f' b v:=by
   unfold z3q;split
   ·rw [h v (by simp) (by assumption)]
   ·rfl
  rw [this];exact zfa (fun w hw=>h w (by simp [hw])) _
def zqi (vs:List (List Int)) (p:List Int) (n:Nat):Prop:=∀ r s,r < n->s < n->((∀ v∈vs,v.getD r 0=v.getD s 0)↔p.getD r 0=p.getD s 0)
theorem zgi {vs:List (List Int)} {p:List Int} {n S:Nat} (hj:zqi vs p n) (hs:z0e n S p=true):∃ v∈vs,z0e n S v=true:=by
 obtain ⟨r,s,hr,hsn,b1,b2,hne⟩:=z5h hs;apply Classical.byContradiction;intro hno;apply hne;rw [←hj r s hr hsn];intro v hv
 cases hsp:z0e n S v with
 | true=>exact absurd ⟨v,hv,hsp⟩ hno
 | false=>exact z6r hsp hr hsn b1 b2
section
variable {vs:List (List Int)} {p:List Int} {n:Nat} (hvs:∀ v∈vs,View n v) (hj:zqi vs p n)
include hvs hj
theorem zqk:∀ (k S:Nat),S < 2 ^ n->S≠0->zcg n S≤k->0≤HF vs p n k S∧HF vs p n k S+1≤zcg n S
 | 0,S,hS,h0,hc=>by have:=z4k hS h0;omega
 | k+1,S,hS,h0,hc=>by
  have hpos:=z4k hS h0;have hle:=z4u n S;simp only [HF];split
  ·rename_i hs;obtain ⟨v,hv,hsv⟩:=zgi hj hs;have h1:=z33 n S (HF vs p n k) (b:=(n:Int)) hv hsv;have h2:za1 v S (HF vs p n k)+2≤zcg n S:=by
    have:za1 v S (HF vs p n k)≤zcg n S-2:=by
     refine zno ?_ fun c hcl hp=>?_
     ·obtain ⟨r,s,hr,hsn,b1,b2,hne⟩:=z5h hsv;have hcp:=z4j (hvs v hv) hsv (v.getD r 0).toNat;have hpp:part v S (v.getD r 0).toNat≠0:=by
       intro e;have:=z2q (hvs v hv) S (v.getD r 0).toNat hr;rw [e,b1] at this;simp at this
      have:=z4k (z21 (hvs v hv) S _) hpp;omega
     ·have hcp:=z4j (hvs v hv) hsv c;have:=(zqk k (part v S c) (z21 (hvs v hv) S c) hp (by omega)).2;omega
    omega
   have h3:0≤vs.foldl (z3q n S (HF vs p n k)) (n:Int):=by
    rcases z3t n S (HF vs p n k) vs (n:Int) with e | ⟨w,hw,_,e⟩
    ·omega
    ·have:=z42 w S (HF vs p n k);omega
   omega
  ·omega
theorem zvn:∀ (k k' S:Nat),S < 2 ^ n->S≠0->zcg n S≤k->zcg n S≤k'->HF vs p n k S=HF vs p n k' S
 | 0,_,S,hS,h0,hc,_=>by have:=z4k hS h0;omega
 | k+1,0,S,hS,h0,_,hc=>by have:=z4k hS h0;omega
 | k+1,k'+1,S,hS,h0,hc,hc'=>by
  have _:=hj;simp only [HF];split
  ·refine zfa (fun v hv hs=>zrj fun c hcl hp=>?_) _;have hcp:=z4j (hvs v hv) hs c;exact zvn k k' _ (z21 (hvs v hv) S c) hp (by omega) (by omega)
  ·rfl
end
def HH (vs:List (List Int)) (p:List Int) (n S:Nat):Int:=HF vs p n n S
section
variable {vs:List (List Int)} {p:List Int} {n:Nat} (hvs:∀ v∈vs,View n v) (hj:zqi vs p n)
include hvs hj
theorem zga {S:Nat} (hS:S < 2 ^ n) (h0:S≠0):HH vs p n S=if z0e n S p then vs.foldl (z3q n S (HH vs p n)) (n:Int) else 0:=by
 have hle:=z4u n S;have h1:HH vs p n S=HF vs p n (n+1) S:=zvn hvs hj n (n+1) S hS h0 hle (by omega);rw [h1];rfl
theorem z7v {S:Nat} (hS:S < 2 ^ n) (h0:S≠0):0≤HH vs p n S∧HH vs p n S+1≤zcg n S:=zqk hvs hj n S hS h0 (z4u n S)
theorem HH_from {S:Nat} (hS:S < 2 ^ n) (h0:S≠0) (hs:z0e n S p=true) {B:Int} (hB:(n:Int)≤B):vs.foldl (z3q n S (HH vs p n)) B=HH vs p n S:=by
 have hb:=z7v hvs hj hS h0;have hle:=z4u n S;rw [zga hvs hj hS h0,if_pos hs] at hb ⊢;obtain ⟨v,hv,hsv⟩:=zgi hj hs;rcases z3t n S (HH vs p n) vs (n:Int) with e | ⟨w,hw,hsw,e⟩
 ·omega
 ·rcases z3t n S (HH vs p n) vs B with e' | ⟨w',hw',hsw',e'⟩
  ·have:=z33 n S (HH vs p n) (b:=B) hw hsw;omega
  ·have h1:=z33 n S (HH vs p n) (b:=B) hw hsw;have h2:=z33 n S (HH vs p n) (b:=(n:Int)) hw' hsw';omega
theorem zvm {S:Nat} (hS:S < 2 ^ n) (h0:S≠0) (hs:z0e n S p=true):∃ v∈vs,z0e n S v=true∧HH vs p n S=za1 v S (HH vs p n)+1:=by
 have hb:=z7v hvs hj hS h0;have hle:=z4u n S;rw [zga hvs hj hS h0,if_pos hs] at hb ⊢;rcases z3t n S (HH vs p n) vs (n:Int) with e | h
 ·omega
 ·exact h
theorem HH_le {S:Nat} (hS:S < 2 ^ n) (h0:S≠0) (hs:z0e n S p=true) {v:List Int} (hv:v∈vs) (hsv:z0e n S v=true):HH vs p n S≤za1 v S (HH vs p n)+1:=by
 rw [zga hvs hj hS h0,if_pos hs];exact z33 n S _ hv hsv
end
end Go.Kz
