/-
  The layer adaptive: the laws Reaches and Order.
-/
import Derived.Test.YtnjfafnflbackaaKzFR
set_option linter.unusedVariables false
set_option linter.unusedSimpArgs false
namespace Go.Kz
theorem zmq (vs:List (List Int)) (st:List z1b) (k x:Nat):zbk vs st k (-1) x=[]:=by cases k <;> simp [zbk]
theorem zfx {m:z1s} {n:Nat} (hm:MenuP m n) {st:List z1b} (hst:zhy m.2.1 st) {x:Nat} (hx:x < n):∀ (k k':Nat) (at0:Int),(at0 = -1∨(0≤at0∧at0 < st.length∧st.length-at0.toNat≤k∧st.length-at0.toNat≤k'))->zbk m.2.1 st k at0 x=zbk m.2.1 st k' at0 x
 | k,k',at0,.inl h=>by subst h;rw [zmq,zmq]
 | 0,k',at0,.inr ⟨h0,h1,h2,h3⟩=>by omega
 | k+1,k',at0,.inr ⟨h0,h1,h2,h3⟩=>by
  obtain ⟨k',rfl⟩:∃ j,k'=j+1:=⟨k'-1,by omega⟩;have hi:at0.toNat < st.length:=by omega
  have hneg:¬ at0 < 0:=by omega
  have hnode:=hst.node n hi;have hview:View n (m.2.1.getD st[at0.toNat].1.toNat []):=hm.view _ hnode.mem;have hc:=ztd hview hx;simp only [zbk,if_neg hneg,List.getElem?_eq_getElem hi];have hcl:((m.2.1.getD st[at0.toNat].1.toNat []).getD x 0).toNat < st[at0.toNat].2.1.length:=by rw [hnode.next];exact hc
  rw [zfx hm hst hx k k' _ (by
   rcases hnode.to _ hcl with h | h
   ·exact .inl h
   ·exact .inr ⟨by omega,h.2,by omega,by omega⟩)]
theorem best_run {m:z1s} {n:Nat} (hm:MenuP m n) (hn8:n≤8) (g:List (List Int)) {k:Int} (h0:0≤k) (h8:k≤8) :
  (zdo m g n k).length≤256∧(∀ x,x < n->(trS m (zdo m g n k) x).length≤k.toNat)∧WW g n (z3v n).testBit (trS m (zdo m g n k))=VV m.2.1 g n k.toNat (z3v n):=by
 have h2:2 ^ 1≤2 ^ n:=Nat.pow_le_pow_right (by omega) hm.pos;have h3:z3v n=2 ^ n-1:=rfl;have hS:=zly n;have hst:=ztg hm g k;by_cases hs:z1q g n (z3v n).testBit=VV m.2.1 g n k.toNat (z3v n)
 ·have e:zdo m g n k=[]:=if_pos hs;rw [e];refine ⟨by simp,fun x _=>by simp [trS,zbk],?_⟩;rw [zcq g (by intro r s _ _ _ _;rfl)];exact hs
 ·have e:zdo m g n k=z3a m.2.1 g n k.toNat (z3v n) 0:=if_neg hs;have hlen:=zs1 hm hn8 g (l:=k.toNat) (by omega) (z3v n) 0 hS (by omega);have hsb:z6p m.2.1 g n k.toNat (z3v n)=false:=by
   have:¬ z3v n=0:=by omega
   simp [z6p,hs,this]
  obtain ⟨_,_,l,hl⟩:=z9t hsb;have hpos:0 < (z3a m.2.1 g n k.toNat (z3v n) 0).length:=by rw [hl];exact zn2 ..
  have hrun:=zs0 hm g k.toNat (z3v n) 0 (z3a m.2.1 g n k.toNat (z3v n) 0) ((z3a m.2.1 g n k.toNat (z3v n) 0).length+k.toNat) hS hsb (fun j c hj=>by rw [Nat.zero_add];exact hj) (by omega);have htr:∀ x,x < n->trS m (zdo m g n k) x=zbk m.2.1 (z3a m.2.1 g n k.toNat (z3v n) 0) ((z3a m.2.1 g n k.toNat (z3v n) 0).length+k.toNat) ((0:Nat):Int) x:=by
   intro x hx;rw [e] at hst ⊢;have hstart:zdz (z3a m.2.1 g n k.toNat (z3v n) 0)=((0:Nat):Int):=by
    unfold zdz;rw [if_neg (by omega)];rfl
   unfold trS;rw [hstart];exact zfx hm hst hx _ _ _ (.inr ⟨by simp,by simp;omega,by simp,by simp⟩)
  refine ⟨by rw [e];omega,fun x hx=>?_,?_⟩
  ·rw [htr x hx];exact hrun.1 x hx (by rw [zlz];simp [hx])
  ·rw [←hrun.2];exact zad g (fun _ _=>rfl) fun r s hr hs _ _=>by rw [htr r hr,htr s hs]
theorem law7 (m:z1s) (g:List (List Int)) (k:Int):f7 100000 m g k=some true:=by
 unfold f7;rw [known];simp only [Option.bind_some,Bool.not_true,cond_false];rw [f12_eq 100000 (by omega) m g _ _ (by omega)];simp only [Option.bind_some]
 cases hf:fewB m g 8 4 with
 | false=>rfl
 | true=>
 simp only [Bool.not_true,cond_false];rw [f15_eq 100000 (by omega)];simp only [Option.bind_some]
 cases ha:zr8 m g k with
 | false=>rfl
 | true=>
 obtain ⟨a1,a2,a3,a4⟩:=zfb.1 ha;have hm:=zl9 a1;have hsec:=hm.secrets;have hg:GainP g m.1.toNat:=gainP (by rw [←hsec];exact a2);have hn8:m.1.toNat≤8:=by
  simp only [fewB,zA,Bool.not_eq_true',decide_eq_false_iff_not,len] at hf;have:=hf.1.1.1.1;omega
 obtain ⟨K,h20,hs,hr,hK⟩:=f20_ok 100000 (by omega) repOK ha hn8;obtain ⟨b1,b2,b3⟩:=best_run hm hn8 g a3 a4;have hst:=ztg hm g k;have hlen:=zld hn8 hs.nd hs.keys;have hVb:=zcr hm.view hg.row hm.few k.toNat (z3v m.1.toNat);have hV0:=z9p m.2.1 g m.1.toNat k.toNat (z3v m.1.toNat);have hdep:depT (trS m (zdo m g m.1.toNat k)) m.1.toNat≤k:=depT_ub _ a3 fun x hx=>by
  have:=b2 x hx;simp only [len];omega
 simp only [Bool.not_true,cond_false];rw [h20];simp only [Option.bind_some];rw [show decide ((0:Int)=4)=false from rfl,cond_false];simp only [decide_true,Bool.not_true,cond_false];rw [f16_eq 100000 (by omega) hm,zvg b1 hst];simp only [Option.bind_some,Bool.not_true,cond_false];rw [f17_eq 100000 (by omega) hm hst b1];simp only [Option.bind_some];rw [decide_eq_true hdep,cond_true,f18_eq 100000 (by omega) hm hg (zp1 _ _),zva,b3];simp only [Option.bind_some,decide_true,cond_true];rw [zy4 100000 (by omega),zy4 100000 (by omega),zmc hs ha rfl (by omega) hr,zmc hs ha rfl (by omega) hr,if_neg (by omega),z09 (by omega) (by omega),if_pos (by omega)];rfl
end Go.Kz
