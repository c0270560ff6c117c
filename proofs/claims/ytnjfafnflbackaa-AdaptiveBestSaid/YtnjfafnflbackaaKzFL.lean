/-
  The layer adaptive: Fixed; plain laws.
-/
import Derived.Test.YtnjfafnflbackaaKzFK
set_option linter.unusedVariables false
set_option linter.unusedSimpArgs false
namespace Go.Kz
def z8o (nv:Nat):Nat->Nat->List (List Int)
 | 0=>fun _=>[[]]
 | s+1=>fun fr=>(List.range' fr (nv-fr)).flatMap fun q=>(z8o nv s (q+1)).map fun l=>((q:Nat):Int) :: l
def stepA (V:List Int->Int) (st:Int×List Int) (a:List Int):Int×List Int:=if st.1 < V a then (V a,a) else st
def zml (V:List Int->Int) (st:Int×List Int) (l:List (List Int)):Int×List Int:=l.foldl (stepA V) st
theorem zki (V:List Int->Int) (st:Int×List Int) (l k:List (List Int)):zml V st (l++k)=zml V (zml V st l) k:=List.foldl_append ..
theorem zjt (nv s fr:Nat) (h:fr < nv):z8o nv (s+1) fr=((z8o nv s (fr+1)).map fun l=>((fr:Nat):Int) :: l)++z8o nv (s+1) (fr+1):=by
 simp only [z8o];rw [show nv-fr=(nv-(fr+1))+1 by omega,List.range'_succ,List.flatMap_cons]
theorem zow (nv s fr:Nat) (h:nv≤fr):z8o nv (s+1) fr=[]:=by
 simp only [z8o];rw [show nv-fr=0 by omega];rfl
section
variable {m:z1i} {g:List (List Int)}
theorem zpa (N:Nat) (hN:400 < N) (hmk:z41 m=true) (hgk:z5x g m.1=true) {qs:List Int} (hl:qs.length≤300) (hq:qs.all (zhf m)=true) :
  f49 N m qs=some (z2a m qs,0)∧f50 N m g (z2a m qs)=some (zpr m g m.1.toNat qs,0):=by
 have hm:=zhx hmk;have hv:=zga hm qs;refine ⟨by rw [f49_eq N hN m qs hl,hmk,hq];rfl,?_⟩;have hl2:len (z2a m qs)=m.1:=by
  have:=hm.secrets;simp only [len,hv.len];omega
 rw [f50_eq N hN,if_pos ⟨hmk,hgk,hl2,hv.ok⟩,zpt hm]
abbrev FixR:=((Unit×(Unit×(Unit×(Unit×(Unit×(Unit×Unit))))))×((List Int)×(z1i×(List (List Int)×(Int×(Unit×((List Int)×((Unit×(Unit×(Unit×(Unit×(Unit×Unit)))))×Unit))))))))
def resF (a:List Int) (m:z1i) (g:List (List Int)) (st:Int×List Int):FixR:=(((),((),((),((),((),((),())))))),(a,(m,(g,(st.1,((),(st.2,(((),((),((),((),((),()))))),()))))))))
theorem zsv (N:Nat) (l:List Int) (h:l.length≤1000):f51 N l=some l:=by
 have hroom:z3e=4294967296:=rfl;unfold f51;rw [z0h (by rw [decide_eq_true_eq,hroom];omega)]
theorem zo7 (N:Nat) (hN:5000 < N) (hmk:z41 m=true) (hgk:z5x g m.1=true):∀ (k s fr:Nat) (a:List Int) (b:Int) (c:List Int),s < k->fr≤m.2.1.length->a.length+s≤100->a.all (zhf m)=true->
  zjl N k (s:Int) (fr:Int) a m g b c=some (resF a m g (zml (zpr m g m.1.toNat) (b,c) ((z8o m.2.1.length s fr).map fun l=>a++l)))
 | 0,_,_,_,_,_,h,_,_,_=>absurd h (by omega)
 | k+1,s,fr,a,b,c,hk,hfr,hal,ha=>by
  have hm:=zhx hmk;have hv8:=hm.views;show zo8 N (zjl N k) (s:Int) (fr:Int) a m g b c=_;unfold zo8
  cases s with
  | zero=>
   obtain ⟨h1,h2⟩:=zpa N (by omega) hmk hgk (qs:=a) (by omega) ha;simp only [Int.ofNat_zero,decide_true,cond_true];rw [h1];simp only [Option.bind_some];rw [h2];simp only [Option.bind_some,z8o,List.map_cons,List.map_nil,List.append_nil,zml,List.foldl_cons,List.foldl_nil,stepA];by_cases hb:b < zpr m g m.1.toNat a
   ·rw [decide_eq_true hb,cond_true,zsv N a (by omega),if_pos hb];rfl
   ·rw [decide_eq_false hb,cond_false,if_neg hb]
    rfl
  | succ s=>
   have e0:decide (((s+1:Nat):Int)=0)=false:=by simp;omega
   rw [e0,cond_false];refine z34 (fun x:Int×z1i×List (List Int)×Int×List Int=>∃ (q:Nat) (st:Int×List Int),x=((q:Int),m,g,st.1,st.2)∧fr≤q∧q≤m.2.1.length∧zml (zpr m g m.1.toNat) (b,c) ((z8o m.2.1.length (s+1) fr).map fun l=>a++l)=zml (zpr m g m.1.toNat) st ((z8o m.2.1.length (s+1) q).map fun l=>a++l)) (fun x=>m.2.1.length-x.1.toNat) ?_ N _ ⟨fr,(b,c),rfl,Nat.le_refl _,hfr,rfl⟩ (by simp;omega);rintro x w ⟨q,st,rfl,hq1,hq2,hst⟩ hw;simp only [zcf];by_cases hlt:q < m.2.1.length
   ·rw [z17 hlt,cond_true];simp only [zsv N a (by omega),Option.bind_some,z4m,z86];rw [z4v (by omega),z07 (n:=((s+1:Nat):Int)-1) (by omega) (by omega),z07 (n:=(q:Int)+1) (by omega) (by omega)];have e1:((s+1:Nat):Int)-1=(s:Int):=by omega
    have e2:(q:Int)+1=((q+1:Nat):Int):=by omega
    rw [e1,e2,zo7 N hN hmk hgk k s (q+1) (a++[(q:Int)]) st.1 st.2 (by omega) (by omega) (by simp;omega) (by
     rw [List.all_append,ha];simp only [List.all_cons,List.all_nil,Bool.and_true,Bool.true_and,zhf,zA,decide_eq_true_eq];omega)]
    simp only [Option.bind_some,resF];refine hw _ ⟨q+1,_,rfl,by omega,by omega,?_⟩ (by simp;omega);rw [hst,zjt _ _ _ hlt,List.map_append,zki];congr 2;rw [List.map_map];refine List.map_congr_left fun l _=>?_
    simp
   ·have he:q=m.2.1.length:=by omega
    subst he;rw [z0v,cond_false,hst,zow _ _ _ (Nat.le_refl _)];rfl
 termination_by k=>k
def allC (nv k:Nat):List (List Int):=(List.range (k+1)).flatMap fun s=>z8o nv s 0
theorem f48v3_ok (N:Nat) (hN:5000 < N) (hmk:z41 m=true) (hgk:z5x g m.1=true) (s:Nat) (hs:s≤50) (b:Int) (c:List Int) :
  zxr N (s:Int) 0 m g b c=some ((((),((),((),((),((),()))))),(m,(g,((zml (zpr m g m.1.toNat) (b,c) (z8o m.2.1.length s 0)).1,((),((zml (zpr m g m.1.toNat) (b,c) (z8o m.2.1.length s 0)).2,(((),((),((),((),((),()))))),())))))))):=by
 have hm:=zhx hmk;have hv8:=hm.views;unfold zxr
 cases s with
 | zero=>
  obtain ⟨h1,h2⟩:=zpa N (by omega) hmk hgk (qs:=[]) (by simp) (by simp);simp only [Int.ofNat_zero,decide_true,cond_true];rw [h1];simp only [Option.bind_some];rw [h2];simp only [Option.bind_some,z8o,zml,List.foldl_cons,List.foldl_nil,stepA];by_cases hb:b < zpr m g m.1.toNat []
  ·rw [decide_eq_true hb,cond_true,zsv N [] (by simp),if_pos hb];rfl
  ·rw [decide_eq_false hb,cond_false,if_neg hb]
 | succ s=>
  have e0:decide (((s+1:Nat):Int)=0)=false:=by simp;omega
  rw [e0,cond_false];refine z34 (fun x:Int×z1i×List (List Int)×Int×List Int=>∃ (q:Nat) (st:Int×List Int),x=((q:Int),m,g,st.1,st.2)∧q≤m.2.1.length∧zml (zpr m g m.1.toNat) (b,c) (z8o m.2.1.length (s+1) 0)=zml (zpr m g m.1.toNat) st (z8o m.2.1.length (s+1) q)) (fun x=>m.2.1.length-x.1.toNat) ?_ N _ ⟨0,(b,c),rfl,Nat.zero_le _,rfl⟩ (by simp;omega);rintro x w ⟨q,st,rfl,hq2,hst⟩ hw;simp only [zew];by_cases hlt:q < m.2.1.length
  ·rw [z17 hlt,cond_true];simp only [zsv N [] (by simp),Option.bind_some,z4m,z86];rw [z4v (by simp),z07 (n:=((s+1:Nat):Int)-1) (by omega) (by omega),z07 (n:=(q:Int)+1) (by omega) (by omega)];have e1:((s+1:Nat):Int)-1=(s:Int):=by omega
   have e2:(q:Int)+1=((q+1:Nat):Int):=by omega
   rw [e1,e2];have hc:=zo7 N hN hmk hgk N s (q+1) ([]++[(q:Int)]) st.1 st.2 (by omega) (by omega) (by simp;omega) (by
    simp only [List.nil_append,List.all_cons,List.all_nil,Bool.and_true,zhf,zA,decide_eq_true_eq];omega)
   have hd:zi2 N (s:Int) ((q+1:Nat):Int) ([]++[(q:Int)]) m g st.1 st.2=zjl N N (s:Int) ((q+1:Nat):Int) ([]++[(q:Int)]) m g st.1 st.2:=rfl;rw [hd,hc];simp only [Option.bind_some,resF];refine hw _ ⟨q+1,_,rfl,by omega,?_⟩ (by simp;omega);rw [hst,zjt _ _ _ hlt,zki];simp
  ·have he:q=m.2.1.length:=by omega
   subst he;rw [z0v,cond_false,hst,zow _ _ _ (Nat.le_refl _)];rfl
theorem f19_eq (N:Nat) (hN:5000 < N) (k:Int):f19 N m g k=some (if zr5 m g k=true then ((zml (zpr m g m.1.toNat) (-1,[]) (allC m.2.1.length (min k.toNat m.2.1.length))).1,((zml (zpr m g m.1.toNat) (-1,[]) (allC m.2.1.length (min k.toNat m.2.1.length))).2,0)) else (0,([],1))):=by
 unfold f19;rw [zsx N (by omega)];simp only [Option.bind_some]
 cases ha:zr5 m g k with
 | false=>simp
 | true=>
  obtain ⟨a1,a2,a3,a4⟩:=zcl.1 ha;have hm:=zhx a1;have hv8:=hm.views;have hmin:z0l (minI k (len m.2.1)+1)=((min k.toNat m.2.1.length+1:Nat):Int):=by
   rw [minI_eq];simp only [len];rw [z07 (by omega) (by omega)];omega
  simp only [if_true,decide_true,Bool.not_true,cond_false];rw [hmin];refine z2h (fun q x=>x=(m,g,(zml (zpr m g m.1.toNat) (-1,[]) ((List.range q).flatMap fun s=>z8o m.2.1.length s 0)).1,(zml (zpr m g m.1.toNat) (-1,[]) ((List.range q).flatMap fun s=>z8o m.2.1.length s 0)).2)) (min k.toNat m.2.1.length+1) ?_ ?_ N (by omega) _ rfl
  ·intro q x w hq hx hw;subst hx;simp only [zol];rw [dlt hq,cond_true,f48v3_ok N hN a1 a2 q (by omega)];simp only [Option.bind_some];rw [z07 (n:=(q:Int)+1) (by omega) (by omega)];refine hw _ ?_;rw [List.range_succ,List.flatMap_append,zki];simp
  ·intro x w hx;subst hx;simp only [zol];rw [dnlt,cond_false];rfl
end
end Go.Kz
