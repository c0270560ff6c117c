/-
  The layer adaptive: Fixed; plain laws.
-/
import Derived.Test.YtnjfafnflbackaaKzFK
set_option linter.unusedVariables false
set_option linter.unusedSimpArgs false
namespace Go.Kz
def z8l (nv:Nat):Nat->Nat->List (List Int)
 | 0=>fun _=>[[]]
 | s+1=>fun fr=>(List.range' fr (nv-fr)).flatMap fun q=>(z8l nv s (q+1)).map fun l=>((q:Nat):Int) :: l
def zva (V:List Int->Int) (st:Int×List Int) (a:List Int):Int×List Int:=if st.1 < V a then (V a,a) else st
def zio (V:List Int->Int) (st:Int×List Int) (l:List (List Int)):Int×List Int:=l.foldl (zva V) st
theorem zex (V:List Int->Int) (st:Int×List Int) (l k:List (List Int)):zio V st (l++k)=zio V (zio V st l) k:=List.foldl_append ..
theorem zjo (nv s fr:Nat) (h:fr < nv):z8l nv (s+1) fr=((z8l nv s (fr+1)).map fun l=>((fr:Nat):Int) :: l)++z8l nv (s+1) (fr+1):=by
 simp only [z8l];rw [show nv-fr=(nv-(fr+1))+1 by omega,List.range'_succ,List.flatMap_cons]
theorem zoh (nv s fr:Nat) (h:nv≤fr):z8l nv (s+1) fr=[]:=by
 simp only [z8l];rw [show nv-fr=0 by omega];rfl
theorem zpc {m:z1o} {g:List (List Int)} {n:Nat} (hm:MenuP m n) (hg:GainP g n) (qs:List Int):0≤zar m g n qs∧zar m g n qs≤3936256:=by
 have h1:=zt7 hg.row (z4u n).testBit (zt3 (qs.map fun q=>z3d m q));have hn:=hm.few;have h3:(n:Int)*(n*1024)≤62*(62*1024):=Int.mul_le_mul (by omega) (by omega) (by omega) (by omega);have h0:0≤zar m g n qs:=z35 fun s _=>by
  split
  ·exact z6y _ _ _
  ·omega
 unfold zar at h0 ⊢;omega
section
variable {m:z1o} {g:List (List Int)}
theorem zot (N:Nat) (hN:400 < N) (hmk:z3r m=true) (hgk:z5s g m.1=true) {qs:List Int} (hl:qs.length≤300) (hq:qs.all (z7z m)=true) :
  f49 N m qs=some (z1i m qs,0)∧f50 N m g (z1i m qs)=some (zar m g m.1.toNat qs,0):=by
 have hm:=zi1 hmk;have hv:=z58 hm qs;refine ⟨by rw [f49_eq N hN m qs hl,hmk,hq];rfl,?_⟩;have hl2:len (z1i m qs)=m.1:=by
  have:=hm.secrets;simp only [len,hv.len];omega
 rw [f50_eq N hN,if_pos ⟨hmk,hgk,hl2,hv.ok⟩,zfh hm]
abbrev FixR:=((Unit×(Unit×(Unit×(Unit×(Unit×(Unit×Unit))))))×((List Int)×(z1o×(List (List Int)×(Int×(Unit×((List Int)×((Unit×(Unit×(Unit×(Unit×(Unit×Unit)))))×Unit))))))))
def resF (a:List Int) (m:z1o) (g:List (List Int)) (st:Int×List Int):FixR:=(((),((),((),((),((),((),())))))),(a,(m,(g,(st.1,((),(st.2,(((),((),((),((),((),()))))),()))))))))
theorem zsn (N:Nat) (l:List Int) (h:l.length≤1000):f51 N l=some l:=by
 have hroom:z3i=4294967296:=rfl;unfold f51;rw [z0k (by rw [decide_eq_true_eq,hroom];omega)]
theorem zns (N:Nat) (hN:5000 < N) (hmk:z3r m=true) (hgk:z5s g m.1=true):∀ (k s fr:Nat) (a:List Int) (b:Int) (c:List Int),s < k->fr≤m.2.1.length->a.length+s≤100->a.all (z7z m)=true->
  zjh N k (s:Int) (fr:Int) a m g b c=some (resF a m g (zio (zar m g m.1.toNat) (b,c) ((z8l m.2.1.length s fr).map fun l=>a++l)))
 | 0,_,_,_,_,_,h,_,_,_=>absurd h (by omega)
 | k+1,s,fr,a,b,c,hk,hfr,hal,ha=>by
  have hm:=zi1 hmk;have hv8:=hm.views;show znt N (zjh N k) (s:Int) (fr:Int) a m g b c=_;unfold znt
  cases s with
  | zero=>
   obtain ⟨h1,h2⟩:=zot N (by omega) hmk hgk (qs:=a) (by omega) ha;simp only [Int.ofNat_zero,decide_true,cond_true];rw [h1];simp only [Option.bind_some];rw [h2];simp only [Option.bind_some,z8l,List.map_cons,List.map_nil,List.append_nil,zio,List.foldl_cons,List.foldl_nil,zva];by_cases hb:b < zar m g m.1.toNat a
   ·rw [decide_eq_true hb,cond_true,zsn N a (by omega),if_pos hb];rfl
   ·rw [decide_eq_false hb,cond_false,if_neg hb]
    rfl
  | succ s=>
   have e0:decide (((s+1:Nat):Int)=0)=false:=by simp;omega
   rw [e0,cond_false];refine z2s (fun x:Int×z1o×List (List Int)×Int×List Int=>∃ (q:Nat) (st:Int×List Int),x=((q:Int),m,g,st.1,st.2)∧fr≤q∧q≤m.2.1.length∧zio (zar m g m.1.toNat) (b,c) ((z8l m.2.1.length (s+1) fr).map fun l=>a++l)=zio (zar m g m.1.toNat) st ((z8l m.2.1.length (s+1) q).map fun l=>a++l)) (fun x=>m.2.1.length-x.1.toNat) ?_ N _ ⟨fr,(b,c),rfl,Nat.le_refl _,hfr,rfl⟩ (by simp;omega);rintro x w ⟨q,st,rfl,hq1,hq2,hst⟩ hw;simp only [zck];by_cases hlt:q < m.2.1.length
   ·rw [z1g hlt,cond_true];simp only [zsn N a (by omega),Option.bind_some,z5g,zaw];rw [zab (by omega),z09 (n:=((s+1:Nat):Int)-1) (by omega) (by omega),z09 (n:=(q:Int)+1) (by omega) (by omega)];have e1:((s+1:Nat):Int)-1=(s:Int):=by omega
    have e2:(q:Int)+1=((q+1:Nat):Int):=by omega
    rw [e1,e2,zns N hN hmk hgk k s (q+1) (a++[(q:Int)]) st.1 st.2 (by omega) (by omega) (by simp;omega) (by
     rw [List.all_append,ha];simp only [List.all_cons,List.all_nil,Bool.and_true,Bool.true_and,z7z,zA,decide_eq_true_eq];omega)]
    simp only [Option.bind_some,resF];refine hw _ ⟨q+1,_,rfl,by omega,by omega,?_⟩ (by simp;omega);rw [hst,zjo _ _ _ hlt,List.map_append,zex];congr 2;rw [List.map_map];refine List.map_congr_left fun l _=>?_
    simp
   ·have he:q=m.2.1.length:=by omega
    subst he;rw [z11,cond_false,hst,zoh _ _ _ (Nat.le_refl _)];rfl
 termination_by k=>k
def allC (nv k:Nat):List (List Int):=(List.range (k+1)).flatMap fun s=>z8l nv s 0
theorem f48v3_ok (N:Nat) (hN:5000 < N) (hmk:z3r m=true) (hgk:z5s g m.1=true) (s:Nat) (hs:s≤50) (b:Int) (c:List Int) :
  zxj N (s:Int) 0 m g b c=some ((((),((),((),((),((),()))))),(m,(g,((zio (zar m g m.1.toNat) (b,c) (z8l m.2.1.length s 0)).1,((),((zio (zar m g m.1.toNat) (b,c) (z8l m.2.1.length s 0)).2,(((),((),((),((),((),()))))),())))))))):=by
 have hm:=zi1 hmk;have hv8:=hm.views;unfold zxj
 cases s with
 | zero=>
  obtain ⟨h1,h2⟩:=zot N (by omega) hmk hgk (qs:=[]) (by simp) (by simp);simp only [Int.ofNat_zero,decide_true,cond_true];rw [h1];simp only [Option.bind_some];rw [h2];simp only [Option.bind_some,z8l,zio,List.foldl_cons,List.foldl_nil,zva];by_cases hb:b < zar m g m.1.toNat []
  ·rw [decide_eq_true hb,cond_true,zsn N [] (by simp),if_pos hb];rfl
  ·rw [decide_eq_false hb,cond_false,if_neg hb]
 | succ s=>
  have e0:decide (((s+1:Nat):Int)=0)=false:=by simp;omega
  rw [e0,cond_false];refine z2s (fun x:Int×z1o×List (List Int)×Int×List Int=>∃ (q:Nat) (st:Int×List Int),x=((q:Int),m,g,st.1,st.2)∧q≤m.2.1.length∧zio (zar m g m.1.toNat) (b,c) (z8l m.2.1.length (s+1) 0)=zio (zar m g m.1.toNat) st (z8l m.2.1.length (s+1) q)) (fun x=>m.2.1.length-x.1.toNat) ?_ N _ ⟨0,(b,c),rfl,Nat.zero_le _,rfl⟩ (by simp;omega);rintro x w ⟨q,st,rfl,hq2,hst⟩ hw;simp only [zf7];by_cases hlt:q < m.2.1.length
  ·rw [z1g hlt,cond_true];simp only [zsn N [] (by simp),Option.bind_some,z5g,zaw];rw [zab (by simp),z09 (n:=((s+1:Nat):Int)-1) (by omega) (by omega),z09 (n:=(q:Int)+1) (by omega) (by omega)];have e1:((s+1:Nat):Int)-1=(s:Int):=by omega
   have e2:(q:Int)+1=((q+1:Nat):Int):=by omega
   rw [e1,e2];have hc:=zns N hN hmk hgk N s (q+1) ([]++[(q:Int)]) st.1 st.2 (by omega) (by omega) (by simp;omega) (by
    simp only [List.nil_append,List.all_cons,List.all_nil,Bool.and_true,z7z,zA,decide_eq_true_eq];omega)
   have hd:zi6 N (s:Int) ((q+1:Nat):Int) ([]++[(q:Int)]) m g st.1 st.2=zjh N N (s:Int) ((q+1:Nat):Int) ([]++[(q:Int)]) m g st.1 st.2:=rfl;rw [hd,hc];simp only [Option.bind_some,resF];refine hw _ ⟨q+1,_,rfl,by omega,?_⟩ (by simp;omega);rw [hst,zjo _ _ _ hlt,zex];simp
  ·have he:q=m.2.1.length:=by omega
   subst he;rw [z11,cond_false,hst,zoh _ _ _ (Nat.le_refl _)];rfl
theorem f19_eq (N:Nat) (hN:5000 < N) (k:Int):f19 N m g k=some (if zqt m g k=true then ((zio (zar m g m.1.toNat) (-1,[]) (allC m.2.1.length (min k.toNat m.2.1.length))).1,((zio (zar m g m.1.toNat) (-1,[]) (allC m.2.1.length (min k.toNat m.2.1.length))).2,0)) else (0,([],1))):=by
 unfold f19;rw [zxn N (by omega)];simp only [Option.bind_some]
 cases ha:zqt m g k with
 | false=>simp
 | true=>
  obtain ⟨a1,a2,a3,a4⟩:=zcq.1 ha;have hm:=zi1 a1;have hv8:=hm.views;have hmin:z0l (minI k (len m.2.1)+1)=((min k.toNat m.2.1.length+1:Nat):Int):=by
   rw [minI_eq];simp only [len];rw [z09 (by omega) (by omega)];omega
  simp only [if_true,decide_true,Bool.not_true,cond_false];rw [hmin];refine z1w (fun q x=>x=(m,g,(zio (zar m g m.1.toNat) (-1,[]) ((List.range q).flatMap fun s=>z8l m.2.1.length s 0)).1,(zio (zar m g m.1.toNat) (-1,[]) ((List.range q).flatMap fun s=>z8l m.2.1.length s 0)).2)) (min k.toNat m.2.1.length+1) ?_ ?_ N (by omega) _ rfl
  ·intro q x w hq hx hw;subst hx;simp only [zo4];rw [dlt hq,cond_true,f48v3_ok N hN a1 a2 q (by omega)];simp only [Option.bind_some];rw [z09 (n:=(q:Int)+1) (by omega) (by omega)];refine hw _ ?_;rw [List.range_succ,List.flatMap_append,zex];simp
  ·intro x w hx;subst hx;simp only [zo4];rw [dnlt,cond_false];rfl
end
end Go.Kz
