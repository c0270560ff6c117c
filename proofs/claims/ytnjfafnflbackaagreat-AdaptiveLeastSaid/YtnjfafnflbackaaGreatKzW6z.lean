/-
  The layer adaptive: the law Least.
-/
import Derived.Test.YtnjfafnflbackaaGreatKzW5z
set_option linter.unusedVariables false
set_option linter.unusedSimpArgs false
namespace Go.Kz
theorem zgn {R:Type} (x:Option R):z17 [x,x,x,x]=x:=by simp [z17]
theorem hm_nil (vs:List (List Int)) (p:List Int) (n:Nat):HM vs p n []:=⟨by simp,fun x v h=>by simp [lk] at h,fun S h=>by simp [lk] at h⟩
theorem zps (N:Nat) (hN:5000 < N) {m:z1m} {p:List Int} {n:Nat} (hs:Sep m p n) (hn7:n≤7) {M:z82} (hM:HM m.2.1 p n M) (s:List z14) (v:Int) :
  iter (fun w=>z5c N s v (len M) M w (fun o0_1=>(f26 N () o0_1).bind fun r_6=>some (v,(s,(r_6.2.1,(0:Int)))))) N (([]:List Hrd),(zbl (List.length M)),(-1))=some (v,(s,(z6s N (M.map z43),0))):=by
 have hlen:=zjj hs hM;have h128:2 ^ n≤2 ^ 7:=Nat.pow_le_pow_right (by omega) hn7;have e128:(2:Nat) ^ 7=128:=by decide
 have hsets:=zlw hs hM;have hinj:=zq6 hs hM;have hfm:(List.range M.length).filterMap (fun i=>M[i]?.map z43)=M.map z43:=by
  have:∀ (L:z82),(List.range L.length).filterMap (fun i=>L[i]?.map z43)=L.map z43:=by
   intro L
   induction L using zek with
   | h0=>rfl
   | h1 L x ih=>
    rw [List.length_append,List.length_singleton,List.range_succ,List.filterMap_append,List.map_append,←ih];congr 1
    ·apply zj9;intro i hi;rw [List.getElem?_append_left (List.mem_range.1 hi)]
    ·simp
  exact this M
 rw [zbo];have:=zud N s v M (by omega) (fun o0_1=>(f26 N () o0_1).bind fun r_6=>some (v,(s,(r_6.2.1,(0:Int))))) (fun b=>some (v,(s,(z6s N b,0))))
  (fun a b hab hb=>by
   have hma:∀ x,x∈a->x∈M.map z43:=fun x hx=>(hab.trans hb).mem_iff.1 hx
   have hla:a.length=M.length:=by have:=(hab.trans hb).length_eq;simpa using this
   have hsa:zfz a:=fun x hx=>hsets x (hma x hx)
   have hia:zmq a:=fun x hx y hy=>hinj x (hma x hx) y (hma y hy)
   rw [f26_eq N hsa hia (by omega),zwb N hsa hia hab];rfl)
  M.length N (List.range M.length) [] (-1) (by simp) (by omega) List.nodup_range (fun i hi=>List.mem_range.1 hi) (by rw [hfm];exact List.Perm.refl _)
 rw [hfm,List.nil_append] at this;rw [this]
theorem f6_ok (N:Nat) (hN:5000 < N) (hrep:zyk N) {m:z1m} (hmk:z4a m=true) (hn7:m.1.toNat≤7) :
  ∃ s t,f6 N m=some (HH m.2.1 (z0v m) m.1.toNat (z2y m.1.toNat),(s,(t,0)))∧s=(if z0e m.1.toNat (z2y m.1.toNat) (z0v m)=true then z4c m.2.1 (z0v m) m.1.toNat m.1.toNat (z2y m.1.toNat) 0 else [])∧t.length≤128∧zl1 m t (HH m.2.1 (z0v m) m.1.toNat (z2y m.1.toNat))=0:=by
 have hs:=zsm hmk;have hm:=hs.menu;have hsec:=hm.secrets;have hS:=zjp m.1.toNat;have h2:2 ^ 1≤2 ^ m.1.toNat:=Nat.pow_le_pow_right (by omega) hm.pos;have h3:z2y m.1.toNat=2 ^ m.1.toNat-1:=rfl;have h0:z2y m.1.toNat≠0:=by omega
 have hcl:=z4u m.1.toNat (z2y m.1.toNat);have h128:2 ^ m.1.toNat≤2 ^ 7:=Nat.pow_le_pow_right (by omega) hn7;have e128:(2:Nat) ^ 7=128:=by decide
 obtain ⟨y,h23,M1,hy,hM1,_,hroot⟩:=zur N hN hs hS h0 [] (hm_nil _ _ _);subst hy;unfold f6;rw [zut N (by omega)];simp only [Option.bind_some,zb2,hmk,if_true,decide_true,Bool.not_true,cond_false];have e12:decide ((12:Int) < m.1)=false:=by simp;omega
 rw [e12,cond_false,f22_eq N hN hmk];simp only [Option.bind_some,z5m,z7c,zgn];rw [zzj N hm];simp only [Option.bind_some];rw [h23];simp only [Option.bind_some,zs2];have hlenT:∀ M,HM m.2.1 (z0v m) m.1.toNat M->(z6s N (M.map z43)).length≤128:=by
  intro M hM;have:=zjj hs hM;rw [(z3p N _).length_eq,List.length_map];omega
 by_cases hpos:0 < HH m.2.1 (z0v m) m.1.toNat (z2y m.1.toNat)
 ·have hsp:z0e m.1.toNat (z2y m.1.toNat) (z0v m)=true:=by
   cases hsp:z0e m.1.toNat (z2y m.1.toNat) (z0v m) with
   | true=>rfl
   | false=>
    rw [zga hm.view hs.joint hS h0,hsp] at hpos;simp at hpos
  obtain ⟨l,hl⟩:∃ l,m.1.toNat=l+1:=⟨m.1.toNat-1,by have:=hm.pos;omega⟩;have hlen:=zen hs m.1.toNat (z2y m.1.toNat) 0 hS hsp hcl;have hlen2:(m.1.toNat:Int)*zcg m.1.toNat (z2y m.1.toNat)≤7*7:=Int.mul_le_mul (by omega) (by omega) (z5u _ _) (by omega);have hlen3:(z4c m.2.1 (z0v m) m.1.toNat (l+1) (z2y m.1.toNat) 0).length≤100000:=by
   rw [←hl];omega
  obtain ⟨y,h25,M2,hy,hM2,hsub⟩:=f25_ok N hN hrep hs (l:=l) hS hsp (by omega) (by omega) M1 hM1 hlen3;subst hy;rw [decide_eq_true hpos,cond_true,h25];simp only [Option.bind_some];rw [zps N hN hs hn7 hM2,←hl];refine ⟨_,_,rfl,by rw [if_pos hsp],hlenT M2 hM2,zov hs hM2 N hmk rfl rfl hn7 (hsub _ hroot)⟩
 ·have hsp:z0e m.1.toNat (z2y m.1.toNat) (z0v m)=false:=by
   cases hsp:z0e m.1.toNat (z2y m.1.toNat) (z0v m) with
   | false=>rfl
   | true=>
    obtain ⟨v,_,_,e⟩:=zvm hm.view hs.joint hS h0 hsp;have:=z42 v (z2y m.1.toNat) (HH m.2.1 (z0v m) m.1.toNat);omega
  rw [decide_eq_false hpos,cond_false,zps N hN hs hn7 hM1];refine ⟨_,_,rfl,by rw [hsp];rfl,hlenT M1 hM1,zov hs hM1 N hmk rfl rfl hn7 hroot⟩
theorem law3 (m:z1m):f3 100000 m=some true:=by
 unfold f3;rw [known];simp only [Option.bind_some,Bool.not_true,cond_false];rw [f5_eq 100000 (by omega) m _ _ _ (by omega)];simp only [Option.bind_some]
 cases hf:fewB m [] 7 4 with
 | false=>rfl
 | true=>
 simp only [Bool.not_true,cond_false];rw [f7_eq 100000 (by omega)];simp only [Option.bind_some]
 cases hmk:z4a m with
 | false=>
  have h6:f6 100000 m=some (0,([],([],1))):=by
   unfold f6;rw [zut 100000 (by omega)];simp [zb2,hmk]
  rw [h6]
  rfl
 | true=>
 have hs:=zsm hmk;have hm:=hs.menu;have hsec:=hm.secrets;have hn7:m.1.toNat≤7:=by
  simp only [fewB,zA,Bool.not_eq_true',decide_eq_false_iff_not,len] at hf;have:=hf.1.1.1.1;omega
 have hS:=zjp m.1.toNat;have h2:2 ^ 1≤2 ^ m.1.toNat:=Nat.pow_le_pow_right (by omega) hm.pos;have h3:z2y m.1.toNat=2 ^ m.1.toNat-1:=rfl;have h0:z2y m.1.toNat≠0:=by omega
 have hcl:=z4u m.1.toNat (z2y m.1.toNat);obtain ⟨s,t,h6,hse,htl,hlc⟩:=f6_ok 100000 (by omega) repOK hmk hn7;obtain ⟨g1,g2,g3,g4⟩:=znr hmk hn7 s hse;obtain ⟨y,h8,M',hy,_⟩:=zz8 100000 (by omega) hs 100000 (z2y m.1.toNat) hS h0 (by omega) [] (fun x v h=>by simp [lk] at h);subst hy;have h8':f8 100000 m ((z2y m.1.toNat:Nat):Int) (z0v m) []=some (((),((),(HH m.2.1 (z0v m) m.1.toNat (z2y m.1.toNat),()))),(z0v m,(M',()))):=h8;have h11:f11 100000 m s=some true:=by rw [f11_eq 100000 (by omega) hm,zsf g1 g2]
 have h12:f12 100000 m s=some (z0v m,HH m.2.1 (z0v m) m.1.toNat (z2y m.1.toNat)):=by rw [f12_eq 100000 (by omega) hm g2 g1,g3,g4]
 have hjl:=(za6 hm).len;have h13:f13 100000 (z0v m) (z0v m)=some true:=by
  rw [f13_eq 100000 _ _ (by omega) (by omega)];simp
 have h14:f14 100000 m t (HH m.2.1 (z0v m) m.1.toNat (z2y m.1.toNat))=some 0:=by rw [f14_eq 100000 (by omega),hlc]
 have h200:decide ((200:Int) < len t)=false:=by simp [len];omega
 rw [h6];simp only [Option.bind_some,Bool.not_true,cond_false,decide_true,f9_eq 100000 (by omega) hmk,zzk 100000 hm,h8',h11,h200,h12,h13,h14,cond_true,z5m,z7c,zgn]
end Go.Kz
