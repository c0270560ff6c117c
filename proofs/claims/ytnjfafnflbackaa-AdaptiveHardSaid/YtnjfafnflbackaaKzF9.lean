/-
  The layer adaptive: depths that a table proves; plain laws.
-/
import Derived.Test.YtnjfafnflbackaaKzF8
set_option linter.unusedVariables false
set_option linter.unusedSimpArgs false
namespace Go.Kz
abbrev Hrd:=Int×(Int×Unit)
def zh0 (t:List Hrd) (ys:List Nat) (d:Int):Bool:=t.any fun x=>decide (d≤x.2.1) && ys.any fun y=>decide ((y:Int)=x.1)
def zdl (m:z1n) (n:Nat) (p:List Int) (t:List Hrd) (x:Hrd):Bool:=
 decide (1≤x.1) && decide (x.1≤(z7e n:Int)) && (!decide (0 < x.2.1) || z7j n x.1.toNat p) && (!decide (1 < x.2.1) || m.2.1.all fun v=>zh0 t (z6t v x.1.toNat) (z0i (x.2.1-1)))
theorem zo0 {m:z1n} {n:Nat} {p:List Int} {t:List Hrd} {x:Hrd}:zdl m n p t x=true↔1≤x.1∧x.1≤(z7e n:Int)∧(0 < x.2.1->z7j n x.1.toNat p=true)∧(1 < x.2.1->∀ v∈m.2.1,zh0 t (z6t v x.1.toNat) (z0i (x.2.1-1))=true):=by
 simp only [zdl,zA,Bool.or_eq_true,Bool.not_eq_true',decide_eq_true_eq,decide_eq_false_iff_not,List.all_eq_true,and_assoc];constructor
 ·rintro ⟨a,b,c,d⟩;exact ⟨a,b,fun h=>c.resolve_left (fun hn=>hn h),fun h=>d.resolve_left (fun hn=>hn h)⟩
 ·rintro ⟨a,b,c,d⟩;refine ⟨a,b,?_,?_⟩
  ·by_cases h:0 < x.2.1
   ·exact .inr (c h)
   ·exact .inl h
  ·by_cases h:1 < x.2.1
   ·exact .inr (d h)
   ·exact .inl h
theorem zo1 {t:List Hrd} {ys:List Nat} {d:Int}:zh0 t ys d=true↔∃ x∈t,d≤x.2.1∧∃ y∈ys,(y:Int)=x.1:=by
 simp [zh0,List.any_eq_true]
theorem zj9 {v:List Int} {S y:Nat} (h:y∈z6t v S):y≠0∧∃ c,c < z37 v∧part v S c=y:=by
 simp only [z6t,List.mem_filter,List.mem_map,List.mem_range,decide_eq_true_eq] at h;exact ⟨h.2,h.1⟩
theorem zd4 {n S:Nat} {v:List Int} (h:z7j n S v=true):∃ r s,r < n∧s < n∧S.testBit r=true∧S.testBit s=true∧v.getD r 0≠v.getD s 0:=by
 obtain ⟨r,hr,h1⟩:=List.any_eq_true.1 h;obtain ⟨s,hs,h2⟩:=List.any_eq_true.1 h1;simp only [zA,decide_eq_true_eq] at h2;exact ⟨r,s,List.mem_range.1 hr,List.mem_range.1 hs,h2.1.1,h2.1.2,h2.2⟩
theorem zkn {n S:Nat} (hS:S < 2 ^ n) (h0:S≠0):∃ s,s < n∧S.testBit s=true:=by
 apply Classical.byContradiction;intro hno;apply h0;apply Nat.eq_of_testBit_eq;intro i;rw [Nat.zero_testBit];by_cases hi:i < n
 ·cases hb:S.testBit i with
  | false=>rfl
  | true=>exact absurd ⟨i,hi,hb⟩ hno
 ·exact Nat.testBit_lt_two_pow (Nat.lt_of_lt_of_le hS (Nat.pow_le_pow_right (by omega) (by omega)))
theorem zqz {n:Nat} {x:Int} (h:1≤x) (h2:x≤(z7e n:Int)):x.toNat < 2 ^ n∧x.toNat≠0∧x=(x.toNat:Int):=by
 have:=zm0 n;omega
theorem run_deep {m:z1n} {n:Nat} {p:List Int} {t:List Hrd} (hm:MenuP m n) (ht:∀ x∈t,zdl m n p t x=true) (hr:∀ x∈t,x.2.1 < 9223372036854775808) {st:List z1j} (hst:zkf m.2.1 st) :
  ∀ (k:Nat) (at0:Int) (S:Nat) (x:Hrd),(at0 = -1∨(0≤at0∧at0 < st.length))->x∈t->x.1=(S:Int)->
   (∀ r s,r < n->s < n->S.testBit r=true->S.testBit s=true->zi2 m.2.1 st k at0 r=zi2 m.2.1 st k at0 s->p.getD r 0=p.getD s 0)->
   ∃ s,s < n∧S.testBit s=true∧x.2.1≤(zi2 m.2.1 st k at0 s).length:=by
 intro k
 induction k with
 | zero=>
  intro at0 S x _ hx hxs hsep;obtain ⟨h1,h2,h3,h4⟩:=zo0.1 (ht x hx);obtain ⟨a1,a2,a3⟩:=zqz h1 h2;rw [hxs,Int.toNat_natCast] at a1 a2 h3;obtain ⟨s,hs,hb⟩:=zkn a1 a2;refine ⟨s,hs,hb,?_⟩;by_cases hd:0 < x.2.1
  ·obtain ⟨r,s,q1,q2,q3,q4,q5⟩:=zd4 (h3 hd);exact absurd (hsep r s q1 q2 q3 q4 rfl) q5
  ·simp only [zi2,List.length_nil];omega
 | succ k ih=>
  intro at0 S x ha hx hxs hsep;obtain ⟨h1,h2,h3,h4⟩:=zo0.1 (ht x hx);obtain ⟨a1,a2,a3⟩:=zqz h1 h2;rw [hxs,Int.toNat_natCast] at a1 a2 h3 h4;obtain ⟨s0,hs0,hb0⟩:=zkn a1 a2;by_cases hneg:at0 < 0
  ·refine ⟨s0,hs0,hb0,?_⟩;by_cases hd:0 < x.2.1
   ·obtain ⟨r,s,q1,q2,q3,q4,q5⟩:=zd4 (h3 hd);exact absurd (hsep r s q1 q2 q3 q4 (by simp [zi2,hneg])) q5
   ·simp only [zi2,if_pos hneg,List.length_nil];omega
  ·have hi:at0.toNat < st.length:=by omega
   have hnode:=hst.node n hi;have hview:View n (m.2.1.getD st[at0.toNat].1.toNat []):=hm.view _ hnode.mem;generalize hu:m.2.1.getD st[at0.toNat].1.toNat []=u at *;have hrun:∀ s,zi2 m.2.1 st (k+1) at0 s=(st[at0.toNat].1,(u.getD s 0,())) :: zi2 m.2.1 st k (st[at0.toNat].2.1.getD (u.getD s 0).toNat (-1)) s:=by
    intro s;simp only [zi2,if_neg hneg,List.getElem?_eq_getElem hi,hu]
   by_cases hd:1 < x.2.1
   ·obtain ⟨x',hx',d1,y,hy,e1⟩:=zo1.1 (h4 hd u (hu ▸ hnode.mem));obtain ⟨_,c,hc,e2⟩:=zj9 hy;subst e2;have hcls:∀ s,s < n->(part u S c).testBit s=true->(u.getD s 0).toNat=c∧S.testBit s=true:=by
     intro s hsn hb;rw [z4m hview S c hsn] at hb;simp only [zA,decide_eq_true_eq] at hb;exact ⟨hb.2,hb.1⟩
    have hcl:c < st[at0.toNat].2.1.length:=by rw [hnode.next,hu];exact hc
    obtain ⟨s,hs,hb,hlen⟩:=ih (st[at0.toNat].2.1.getD c (-1)) (part u S c) x' (by
     rcases hnode.to c hcl with h | h
     ·exact .inl h
     ·exact .inr ⟨by omega,h.2⟩) hx' e1.symm (fun r s hr hs b1 b2 he=>by
      obtain ⟨c1,e1⟩:=hcls r hr b1;obtain ⟨c2,e2⟩:=hcls s hs b2;have e:u.getD r 0=u.getD s 0:=by have:=zej hview hr;have:=zej hview hs;omega
      refine hsep r s hr hs e1 e2 ?_;rw [hrun,hrun,c1,c2,e,he])
    obtain ⟨c1,e3⟩:=hcls s hs hb;refine ⟨s,hs,e3,?_⟩;rw [hrun,c1];have:=hr x hx;rw [z06 (by omega) (by omega)] at d1;simp only [List.length_cons];push_cast;omega
   ·refine ⟨s0,hs0,hb0,?_⟩;rw [hrun];simp only [List.length_cons];push_cast;omega
end Go.Kz
