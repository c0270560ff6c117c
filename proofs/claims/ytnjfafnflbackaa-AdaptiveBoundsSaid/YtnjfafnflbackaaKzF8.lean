/-
  The layer adaptive: strategies, and what an accepted table bounds; plain laws.
-/
import Derived.Test.YtnjfafnflbackaaKzF7
set_option linter.unusedVariables false
set_option linter.unusedSimpArgs false
namespace Go.Kz
def zih (vs:List (List Int)) (st:List z1k):Nat->Int->Nat->List Ans
 | 0,_,_=>[]
 | k+1,at0,x=>if at0 < 0 then [] else match st[at0.toNat]? with
  | none=>[]
  | some c=>(c.1,((vs.getD c.1.toNat []).getD x 0,())) :: zih vs st k (c.2.1.getD ((vs.getD c.1.toNat []).getD x 0).toNat (-1)) x
def zn1 (len i:Nat) (z:Int):Bool:=decide (z = -1) || (decide ((i:Int) < z) && decide (z < (len:Int)))
def z7k (vs:List (List Int)) (len i:Nat) (c:z1k):Bool:=decide (0≤c.1) && decide (c.1 < (vs.length:Int)) && decide (c.2.1.length=z2z (vs.getD c.1.toNat [])) && c.2.1.all (zn1 len i)
def zjy (vs:List (List Int)) (st:List z1k):Prop:=∀ i (h:i < st.length),z7k vs st.length i st[i]=true
structure NodeP (vs:List (List Int)) (len i:Nat) (c:z1k) (n:Nat):Prop where
 ask0:0≤c.1
 ask1:c.1.toNat < vs.length
 next:c.2.1.length=z2z (vs.getD c.1.toNat [])
 to:∀ d,d < c.2.1.length->c.2.1.getD d (-1) = -1∨((i:Int) < c.2.1.getD d (-1)∧c.2.1.getD d (-1) < (len:Int))
 mem:vs.getD c.1.toNat []∈vs
theorem zjy.node {vs:List (List Int)} {st:List z1k} (h:zjy vs st) (n:Nat) {i:Nat} (hi:i < st.length):NodeP vs st.length i st[i] n:=by
 have h1:=h i hi;simp only [z7k,zA,decide_eq_true_eq] at h1;obtain ⟨⟨⟨a,b⟩,c⟩,d⟩:=h1;have hl:st[i].1.toNat < vs.length:=by omega
 refine ⟨a,hl,c,fun e he=>?_,?_⟩
 ·have:=List.all_eq_true.1 d _ (List.getElem_mem he);simp only [zn1,Bool.or_eq_true,zA,decide_eq_true_eq] at this;rw [List.getD_eq_getElem?_getD,List.getElem?_eq_getElem he];exact this
 ·rw [List.getD_eq_getElem?_getD,List.getElem?_eq_getElem hl];exact List.getElem_mem hl
theorem zlw:{l:List (Option Int)}->{s:Int}->zia l=some s->(∀ x∈l,∃ a,x=some a)∧s=(l.map fun x=>x.getD 0).foldr (· + ·) 0
 | [],s,h=>by simp only [zia,zI] at h;subst h;simp
 | x :: l,s,h=>by
  simp only [zia] at h
  cases x with
  | none=>simp at h
  | some a=>
   cases hl:zia l with
   | none=>rw [hl] at h;simp at h
   | some t=>
    rw [hl] at h;simp only [Option.bind_some,Option.map_some,zI] at h;obtain ⟨h1,h2⟩:=zlw hl;refine ⟨fun y hy=>?_,?_⟩
    ·rcases List.mem_cons.1 hy with rfl | hy
     ·exact ⟨a,rfl⟩
     ·exact h1 y hy
    ·simp only [List.map_cons,Option.getD_some,List.foldr_cons,←h2,h]
theorem zgj (f:Nat->Int):(n:Nat)->((List.range n).map f).foldr (· + ·) 0=z1i n f
 | 0=>rfl
 | n+1=>by
  have e:∀ (l:List Int) (b:Int),l.foldr (· + ·) b=l.foldr (· + ·) 0+b:=by
   intro l b
   induction l with
   | nil=>simp
   | cons x l ih=>simp only [List.foldr_cons,ih];omega
  simp only [List.range_succ,List.map_append,List.map_cons,List.map_nil,List.foldr_append,List.foldr_cons,List.foldr_nil];rw [e,zgj f n];simp only [z1i];omega
theorem zuv {v:List Int} {S:Nat} {h:Nat->Option Int} {s:Int} (hs:sumV v S h=some s):(∀ c,c < z2z v->part v S c≠0->∃ a,h (part v S c)=some a)∧s=zej v S fun y=>(h y).getD 0:=by
 obtain ⟨h1,h2⟩:=zlw hs;refine ⟨fun c hc hp=>?_,?_⟩
 ·have:=h1 _ (List.mem_map.2 ⟨c,List.mem_range.2 hc,rfl⟩)
  rwa [if_neg hp] at this
 ·rw [h2,List.map_map,zgj];refine z1a fun c _=>?_
  simp only [Function.comp];split <;> rfl
structure TableP (m:z1s) (g:List (List Int)) (n:Nat) (t:List z5m):Prop where
 ent:∀ x∈t,zca g n x=true
 rel:∀ x∈t,zmd m t x=true
theorem zrx {t:List z5m} {S l v:Int} (h:look t S l=some v):∃ x∈t,x.1=S∧x.2.1=l∧x.2.2.1=v:=by
 have:=zw6 h;simp only [zrv,List.mem_map] at this;obtain ⟨x,hx,he⟩:=this;simp only [Prod.mk.injEq] at he;exact ⟨x,hx,he.1.1,he.1.2.1,he.2⟩
theorem tableP {m:z1s} {g:List (List Int)} {k:Int} {t:List z5m} {b:Int} (h:zio m g k t b=0):zqq m g k=true∧TableP m g m.1.toNat t∧∃ v,look t (z6j m.1.toNat) k=some v∧v≤b:=by
 unfold zio at h;split at h
 ·rename_i ha;split at h
  ·split at h
   ·split at h
    ·rename_i he;split at h
     ·rename_i hr;refine ⟨ha,⟨fun x hx=>List.all_eq_true.1 he x hx,fun x hx=>List.all_eq_true.1 hr x hx⟩,?_⟩;split at h
      ·exact absurd h (by decide)
      ·rename_i v hv;refine ⟨v,hv,?_⟩;split at h
       ·exact absurd h (by decide)
       ·omega
     ·exact absurd h (by decide)
    ·exact absurd h (by decide)
   ·exact absurd h (by decide)
  ·exact absurd h (by decide)
 ·exact absurd h (by decide)
theorem zv2 {m:z1s} {g:List (List Int)} {n:Nat} {t:List z5m} (hm:MenuP m n) (ht:TableP m g n t) {st:List z1k} (hst:zjy m.2.1 st) :
  ∀ (k:Nat) (at0:Int) (l S:Nat) (v:Int),(at0 = -1∨(0≤at0∧at0 < st.length))->S < 2 ^ n->S≠0->l≤8->(∀ s,s < n->S.testBit s=true->(zih m.2.1 st k at0 s).length≤l)->look t (S:Int) (l:Int)=some v->
   WW g n S.testBit (zih m.2.1 st k at0)≤v:=by
 intro k
 induction k with
 | zero=>
  intro at0 l S v _ _ _ _ _ hv;rw [zch g (by intro r s _ _ _ _;rfl)];obtain ⟨x,hx,h1,h2,h3⟩:=zrx hv;have:=z9c.1 (ht.ent x hx);rw [h1,h3,Int.toNat_natCast] at this
  exact this.2.2.2.1
 | succ k ih=>
  intro at0 l S v ha hS h0 hl8 hl hv;obtain ⟨x,hx,h1,h2,h3⟩:=zrx hv;have hent:=z9c.1 (ht.ent x hx);rw [h1,h3,Int.toNat_natCast] at hent;by_cases hneg:at0 < 0
  ·rw [zch g (by intro r s _ _ _ _;simp [zih,hneg])];exact hent.2.2.2.1
  ·have hi:at0.toNat < st.length:=by omega
   have hnode:=hst.node n hi;have hview:View n (m.2.1.getD st[at0.toNat].1.toNat []):=hm.view _ hnode.mem;generalize hu:m.2.1.getD st[at0.toNat].1.toNat []=u at *;have hrun:∀ s,zih m.2.1 st (k+1) at0 s=(st[at0.toNat].1,(u.getD s 0,())) :: zih m.2.1 st k (st[at0.toNat].2.1.getD (u.getD s 0).toNat (-1)) s:=by
    intro s;simp only [zih,if_neg hneg,List.getElem?_eq_getElem hi,hu]
   obtain ⟨s0,hs0,hb0⟩:∃ s,s < n∧S.testBit s=true:=by
    apply Classical.byContradiction;intro hno;apply h0;apply Nat.eq_of_testBit_eq;intro i;rw [Nat.zero_testBit];by_cases hi:i < n
    ·cases hb:S.testBit i with
     | false=>rfl
     | true=>exact absurd ⟨i,hi,hb⟩ hno
    ·exact Nat.testBit_lt_two_pow (Nat.lt_of_lt_of_le hS (Nat.pow_le_pow_right (by omega) (by omega)))
   have hl1:=hl s0 hs0 hb0;rw [hrun] at hl1;simp only [List.length_cons] at hl1;have hrel:=ht.rel x hx;simp only [zmd,Bool.or_eq_true,Bool.not_eq_true',decide_eq_false_iff_not,h1,h2,h3,Int.toNat_natCast] at hrel;rcases hrel with hrel | hrel
   ·omega
   ·have hb:=List.all_eq_true.1 hrel u (hu ▸ hnode.mem)
    cases hs:sumV u S (nextB t x) with
    | none=>rw [hs] at hb;exact absurd hb (by simp)
    | some s'=>
     rw [hs] at hb;simp only [decide_eq_true_eq] at hb;obtain ⟨p1,p2⟩:=zuv hs;refine Int.le_trans ?_ hb;rw [p2,zf4 g hview S _ (fun r s _ _ _ _ he=>by
      rw [hrun,hrun] at he;simp only [List.cons.injEq,Prod.mk.injEq] at he;exact he.1.2.1)]
     refine zff fun c hc hp=>?_
     obtain ⟨a,ha2⟩:=p1 c hc hp;rw [ha2,Option.getD_some];have hcls:∀ s,s < n->(part u S c).testBit s=true->(u.getD s 0).toNat=c∧S.testBit s=true:=by
      intro s hsn hb;rw [z4i hview S c hsn] at hb;simp only [zA,decide_eq_true_eq] at hb;exact ⟨hb.2,hb.1⟩
     have hw:WW g n (part u S c).testBit (zih m.2.1 st (k+1) at0)=WW g n (part u S c).testBit (zih m.2.1 st k (st[at0.toNat].2.1.getD c (-1))):=by
      refine zci g (fun _ _=>rfl) fun r s hr hsn b1 b2=>?_
      obtain ⟨c1,_⟩:=hcls r hr b1;obtain ⟨c2,_⟩:=hcls s hsn b2;have e:u.getD r 0=u.getD s 0:=by have:=zh6 hview hr;have:=zh6 hview hsn;omega
      rw [hrun,hrun,c1,c2,e];simp
     rw [hw];have hcl:c < st[at0.toNat].2.1.length:=by rw [hnode.next,hu];exact hc
     refine ih _ (l-1) _ a ?_ (zel hview S c) hp (by omega) ?_ ?_
     ·rcases hnode.to c hcl with h | h
      ·exact .inl h
      ·exact .inr ⟨by omega,h.2⟩
     ·intro s hsn b1;obtain ⟨c1,c2⟩:=hcls s hsn b1;have:=hl s hsn c2;rw [hrun,c1] at this;simp only [List.length_cons] at this;omega
     ·simp only [nextB,h2] at ha2;rw [z09 (by omega) (by omega)] at ha2;rw [←ha2];congr 1;omega
end Go.Kz
