/-
  The layer adaptive: the laws Reaches and Order.
-/
import Derived.Test.YtnjfafnflbackaaKzFR
set_option linter.unusedVariables false
set_option linter.unusedSimpArgs false
namespace Go.Kz
theorem mask_ok {m:z1o} {a:List Int} (h:a∈zj3 m.2.1.length):a.all (z7z m)=true:=by
 simp only [zj3,List.mem_map,List.mem_range] at h;obtain ⟨z,_,rfl⟩:=h;rw [List.all_eq_true];intro q hq;simp only [bitsL,List.mem_map,List.mem_filter,List.mem_range] at hq;obtain ⟨b,⟨hb,_⟩,rfl⟩:=hq;simp only [z7z,zA,decide_eq_true_eq];omega
theorem mask_few:((List.range 6).all fun nv=>decide ([]∈zj3 nv) && (List.range nv).all fun q=>decide ([(q:Int)]∈zj3 nv))=true:=by kernel_rfl
theorem zyy {m:z1o} {a:List Int} (h:a.all (z7z m)=true):∀ u∈a.map (fun q=>z3d m q),u∈m.2.1:=by
 intro u hu;obtain ⟨q,hq,rfl⟩:=List.mem_map.1 hu;have:=List.all_eq_true.1 h q hq;simp only [z7z,zA,decide_eq_true_eq] at this;have hq2:q.toNat < m.2.1.length:=by omega
 have e:z3d m q=m.2.1[q.toNat]:=by simp [z3d,hq2]
 rw [e];exact List.getElem_mem hq2
theorem law5 (m:z1o) (g:List (List Int)) (k:Int):f5 100000 m g k=some true:=by
 unfold f5;rw [known];simp only [Option.bind_some,Bool.not_true,cond_false];rw [f12_eq 100000 (by omega) m g _ _ (by omega)];simp only [Option.bind_some]
 cases hf:fewB m g 6 4 with
 | false=>rfl
 | true=>
 simp only [Bool.not_true,cond_false];rw [f15_eq 100000 (by omega)];simp only [Option.bind_some]
 cases ha:zqt m g k with
 | false=>rfl
 | true=>
 simp only [Bool.not_true,cond_false,Option.bind_some];by_cases hk8:k=8
 ·rw [decide_eq_true hk8];rfl
 ·rw [decide_eq_false hk8,cond_false];obtain ⟨a1,a2,a3,a4⟩:=zcq.1 ha;have hm:=zi1 a1;have hsec:=hm.secrets;have hg:GainP g m.1.toNat:=gainP (by rw [←hsec];exact a2);have hfew:m.1.toNat≤6∧m.2.1.length≤4:=by
   simp only [fewB,zA,Bool.not_eq_true',decide_eq_false_iff_not,len] at hf;have h1:=hf.1.1.1.1;have h2:=hf.1.1.1.2;omega
  have hk1:z0l (k+1)=k+1:=z09 (by omega) (by omega);have ha1:zqt m g (k+1)=true:=zcq.2 ⟨a1,a2,by omega,by omega⟩;obtain ⟨K,h20,_⟩:=zxq 100000 (by omega) repOK ha (by omega);obtain ⟨K1,h21,_⟩:=zxq 100000 (by omega) repOK ha1 (by omega);have hkk:(k+1).toNat=k.toNat+1:=by omega
  rw [f19_eq 100000 (by omega),if_pos ha,h20,hk1,h21];simp only [Option.bind_some,decide_true,Bool.not_true,cond_false,hkk];have hfix:fixOK m.2.1.length k.toNat=true:=by
   have:=List.all_eq_true.1 fix_all m.2.1.length (List.mem_range.2 (by omega));exact List.all_eq_true.1 this k.toNat (List.mem_range.2 (by omega))
  simp only [fixOK,zA,List.all_eq_true,decide_eq_true_eq,Bool.or_eq_true,List.mem_range] at hfix;obtain ⟨⟨⟨⟨g1,g2⟩,g3⟩,g4⟩,g5⟩:=hfix;obtain ⟨i,hi,e1,e2⟩:=zvg (zar m g m.1.toNat) (fun a=>(zpc hm hg a).1) (allC m.2.1.length (min k.toNat m.2.1.length)) g5;have hmf:=List.all_eq_true.1 mask_few m.2.1.length (List.mem_range.2 (by omega));simp only [zA,decide_eq_true_eq,List.all_eq_true,List.mem_range] at hmf;rw [e1];generalize hP:allC m.2.1.length (min k.toNat m.2.1.length)=P at *;have hub:∀ a∈P,zar m g m.1.toNat a≤zar m g m.1.toNat P[i]:=by
   intro a haP;obtain ⟨j,hj,rfl⟩:=List.mem_iff_getElem.1 haP;exact (e2 j hj).1
  have hle:zar m g m.1.toNat P[i]≤VV m.2.1 g m.1.toNat k.toNat (z4u m.1.toNat):=by
   have hPi:=g4 P[i] (List.getElem_mem hi);exact zoy g hm.view _ (zyy (mask_ok hPi.1)) _ _ (by simpa using hPi.2)
  have hmono:=zr0 m.2.1 g m.1.toNat k.toNat (z4u m.1.toNat);have hall:VV m.2.1 g m.1.toNat (k.toNat+1) (z4u m.1.toNat)≤zbo g (zn4 m):=by
   have h1:=zhs g hm.view (k.toNat+1) (z4u m.1.toNat);have h2:zbo g (zn4 m)=WW g m.1.toNat (z4u m.1.toNat).testBit (zt3 m.2.1):=by
    rw [zn4,zfh hm,zar,zou]
   omega
  have hone:k≤1->VV m.2.1 g m.1.toNat k.toNat (z4u m.1.toNat)≤zar m g m.1.toNat P[i]:=by
   intro hk;have hnil:z1q g m.1.toNat (z4u m.1.toNat).testBit≤zar m g m.1.toNat P[i]:=by
    have h1:=hub [] ((g3 [] hmf.1).resolve_left (by simp));have h2:zar m g m.1.toNat []=z1q g m.1.toNat (z4u m.1.toNat).testBit:=zaf g (by intro r s _ _ _ _;rfl);omega
   cases hkn:k.toNat with
   | zero=>exact hnil
   | succ j=>
    have hj:j=0:=by omega
    subst hj;refine zyc hnil fun v hv=>?_
    obtain ⟨q,hq,rfl⟩:=List.mem_iff_getElem.1 hv;have h1:=hub [(q:Int)] ((g3 _ (hmf.2 q hq)).resolve_left (by simp;omega));have h2:zar m g m.1.toNat [(q:Int)]=zcu m.2.1[q] (z4u m.1.toNat) (VV m.2.1 g m.1.toNat 0):=by
     have e:([(q:Int)].map fun q=>z3d m q)=[m.2.1[q]]:=by simp [z3d,hq]
     rw [zar,e,zqy g (hm.view _ (List.getElem_mem hq))];refine z9s fun c _ _=>?_
     exact zaf g (by intro r s _ _ _ _;rfl)
    omega
  have hst:m.2.1.length≤k.toNat->VV m.2.1 g m.1.toNat (k.toNat+1) (z4u m.1.toNat)=VV m.2.1 g m.1.toNat k.toNat (z4u m.1.toNat):=by
   intro h;refine zp2 g hm.view k.toNat _ (zlf _) ?_;exact Nat.le_trans (List.length_filter_le _ _) h
  rw [f21_eq 100000 (by omega) a1];simp only [Option.bind_some];rw [f18_eq 100000 (by omega) hm hg (zqb hm)];simp only [Option.bind_some];rw [decide_eq_true hle,decide_eq_true hmono,decide_eq_true hall];simp only [cond_true,Option.bind_some];have e3:(cond (decide (1 < k)) (some true) (some (decide (zar m g m.1.toNat P[i]=VV m.2.1 g m.1.toNat k.toNat (z4u m.1.toNat)))))=some true:=by
   by_cases h:1 < k
   ·rw [decide_eq_true h];rfl
   ·have:=hone (by omega);have:zar m g m.1.toNat P[i]=VV m.2.1 g m.1.toNat k.toNat (z4u m.1.toNat):=by omega
    rw [decide_eq_false h,decide_eq_true this];rfl
  have e4:(cond (decide (k < len m.2.1)) (some true) (some (decide (VV m.2.1 g m.1.toNat k.toNat (z4u m.1.toNat)=VV m.2.1 g m.1.toNat (k.toNat+1) (z4u m.1.toNat)))))=some true:=by
   by_cases h:k < len m.2.1
   ·rw [decide_eq_true h];rfl
   ·have:=hst (by simp only [len] at h;omega);rw [decide_eq_false h,decide_eq_true this.symm];rfl
  rw [e3];simp only [Option.bind_some,cond_true];rw [e4];rfl
end Go.Kz
