/-
  The layer adaptive: values of sets of secrets; plain laws.
-/
import Derived.Test.YtnjfafnflbackaaGreatKzF6z
set_option linter.unusedVariables false
set_option linter.unusedSimpArgs false
namespace Go.Kz
theorem zr0 {n a:Nat} (x:Int) (h:a < n):z2z n (fun i=>if a=i then x else 0)=x:=by
 refine (z4n fun i _=>?_).trans (zea x h);by_cases hi:i=a
 ·subst hi;rfl
 ·rw [if_neg hi,if_neg (fun e=>hi e.symm)]
theorem z98 {α:Type} (h:α->Int):(l:List α)->(b:Int)->b≤l.foldl (fun b x=>max b (h x)) b
 | [],_=>Int.le_refl _
 | x :: l,b=>by
  have:=z98 h l (max b (h x));simp only [List.foldl_cons];omega
theorem zfb {α:Type} (h:α->Int):{l:List α}->{b:Int}->{x:α}->x∈l->h x≤l.foldl (fun b x=>max b (h x)) b
 | a :: l,b,x,hx=>by
  simp only [List.foldl_cons];rcases List.mem_cons.1 hx with rfl | hx
  ·have:=z98 h l (max b (h x));omega
  ·exact zfb h hx
theorem zj7 {α:Type} (h:α->Int):{l:List α}->{b B:Int}->b≤B->(∀ x∈l,h x≤B)->l.foldl (fun b x=>max b (h x)) b≤B
 | [],_,_,hb,_=>hb
 | a :: l,b,B,hb,hl=>by
  simp only [List.foldl_cons];have:=hl a (by simp);exact zj7 h (by omega) fun x hx=>hl x (by simp [hx])
def sumQ (v:List Int) (S:Nat) (h:Nat->Int):Int:=z2z (z1z v) fun c=>if part v S c=0 then 0 else h (part v S c)
def VV (vs:List (List Int)) (g:List (List Int)) (n:Nat):Nat->Nat->Int
 | 0=>fun S=>leafP g n S.testBit
 | l+1=>fun S=>vs.foldl (fun b v=>max b (sumQ v S (VV vs g n l))) (leafP g n S.testBit)
theorem z2q {n:Nat} {v:List Int} (h:View n v) (S c:Nat) {s:Nat} (hs:s < n):(part v S c).testBit s=(S.testBit s && decide ((v.getD s 0).toNat=c)):=by
 have hl:=h.len;obtain ⟨d,_,_,hd⟩:=zm4 h (s:=s) (by omega);rw [zwu,hd];have:decide (s < v.length)=true:=by simp;omega
 rw [this,Bool.true_and];congr 1;rw [Bool.eq_iff_iff];simp only [decide_eq_true_eq];omega
theorem zfs {n:Nat} {v:List Int} (h:View n v) {s:Nat} (hs:s < n):(v.getD s 0).toNat < z1z v:=by
 have hl:=h.len;obtain ⟨d,_,h2,hd⟩:=zm4 h (s:=s) (by omega);rw [hd];simpa using h2
theorem zd4 {n:Nat} {v:List Int} (h:View n v) {s:Nat} (hs:s < n):0≤v.getD s 0:=by
 have hl:=h.len;obtain ⟨d,_,h2,hd⟩:=zm4 h (s:=s) (by omega);rw [hd];omega
theorem zr1 {n:Nat} {v:List Int} (hv:View n v) (S:Nat) (row:List Int):sumP row n S.testBit=z2z (z1z v) fun c=>sumP row n (part v S c).testBit:=by
 unfold sumP;rw [zgg];refine z4n fun s hs=>?_
 have hc:=zfs hv hs
 cases hb:S.testBit s with
 | false=>
  rw [z4n (g:=fun _=>0),z6p]
  ·rfl
  ·intro c _;rw [z2q hv S c hs,hb];rfl
 | true=>
  rw [z4n (g:=fun c=>if (v.getD s 0).toNat=c then row.getD s 0 else 0),zr0 _ hc]
  ·rfl
  ·intro c _;rw [z2q hv S c hs,hb];by_cases h:(v.getD s 0).toNat=c <;> simp [h]
def ansF (us:List (List Int)) (s:Nat):List Int:=us.map fun u=>u.getD s 0
def z0e (n:Nat) (S:Nat) (v:List Int):Bool:=(List.range n).any fun r=>(List.range n).any fun s=>S.testBit r && S.testBit s && decide (v.getD r 0≠v.getD s 0)
theorem z6r {n S:Nat} {v:List Int} (h:z0e n S v=false) {r s:Nat} (hr:r < n) (hs:s < n) (h1:S.testBit r=true) (h2:S.testBit s=true):v.getD r 0=v.getD s 0:=by
 apply Classical.byContradiction;intro hne;have:z0e n S v=true:=List.any_eq_true.2 ⟨r,List.mem_range.2 hr,List.any_eq_true.2 ⟨s,List.mem_range.2 hs,by rw [h1,h2,decide_eq_true hne];rfl⟩⟩;rw [this] at h;exact absurd h (by simp)
theorem zn2 {n:Nat} {v:List Int} (hv:View n v) (S c:Nat):z0e n (part v S c) v=false:=by
 cases ht:z0e n (part v S c) v with
 | false=>rfl
 | true=>
  obtain ⟨r,hr,h1⟩:=List.any_eq_true.1 ht;obtain ⟨s,hs,h2⟩:=List.any_eq_true.1 h1;have hr:=List.mem_range.1 hr;have hs:=List.mem_range.1 hs;simp only [zA,decide_eq_true_eq] at h2;rw [z2q hv S c hr,z2q hv S c hs] at h2;simp only [zA,decide_eq_true_eq] at h2;have:=zd4 hv hr;have:=zd4 hv hs;omega
theorem zwt {n:Nat} {v:List Int} (hv:View n v) (S c:Nat):∀ s,s < n->(part v S c).testBit s=true->S.testBit s=true:=by
 intro s hs h;rw [z2q hv S c hs] at h;simp only [zA] at h;exact h.1
theorem z21 {n:Nat} {v:List Int} (hv:View n v) (S c:Nat):part v S c < 2 ^ n:=by
 have:=part_lt v S c
 rwa [hv.len] at this
end Go.Kz
