/-
  The layer adaptive: the model's table; the law Best.
-/
import Derived.Test.YtnjfafnflbackaaKzFU
set_option linter.unusedVariables false
set_option linter.unusedSimpArgs false
namespace Go.Kz
theorem f64_eq (N:Nat) (l:List Key) (hN:l.length < N) (hl:l.length≤100000) (v:Key):f64 N l v=some (decide (v∈l)):=by
 unfold f64 f88;have key:∀ (M k:Nat),k≤l.length->l.length-k < M->v∉l.take k->∃ i,iter (fun w=>zjg N l (len l) v w (fun t4=>some t4) (fun (_:Unit)=>some (-1))) M (k:Int)=some i∧decide (0≤i)=decide (v∈l):=by
  intro M
  induction M with
  | zero=>intro k _ h;omega
  | succ M ih=>
   intro k hk hM hv;simp only [iter,zjg,eqK];by_cases hlt:k < l.length
   ·rw [z17 hlt,cond_true,z0s hlt];simp only [Option.bind_some];by_cases he:v=l[k]
    ·rw [decide_eq_true he,cond_true];refine ⟨(k:Int),rfl,?_⟩;have:v∈l:=he ▸ List.getElem_mem hlt;simp [this]
    ·rw [decide_eq_false he,cond_false,z07 (by omega) (by omega)];refine ih (k+1) (by omega) (by omega) ?_;rw [z1h hlt];intro hmem;rcases List.mem_append.1 hmem with h | h
     ·exact hv h
     ·exact he (List.mem_singleton.1 h)
   ·have he:k=l.length:=by omega
    subst he;rw [List.take_length] at hv;rw [z0v,cond_false];exact ⟨-1,rfl,by simp [hv]⟩
 obtain ⟨i,h1,h2⟩:=key N 0 (Nat.zero_le _) (by omega) (by simp);have h1':iter (fun w=>zjg N l (len l) v w (fun t4=>some t4) (fun (_:Unit)=>some (-1))) N 0=some i:=h1;rw [h1'];simp only [Option.bind_some,h2]
structure RL (m:z1i) (n:Nat) (root:Key) (out:List Key):Prop where
 nd:out.Nodup
 rch:∀ x∈out,Rch m.2.1 root x
 root:root∈out
theorem RL.add {m:z1i} {n:Nat} {root p:Key} {out:List Key} (h:RL m n root out) (hp:Rch m.2.1 root p) (hn:p∉out):RL m n root (out++[p]):=by
 refine ⟨?_,fun x hx=>?_,by simp [h.root]⟩
 ·rw [List.nodup_append];refine ⟨h.nd,by simp,fun a ha b hb=>?_⟩;simp only [List.mem_singleton] at hb;subst hb;intro e;subst e;exact hn ha
 ·rcases List.mem_append.1 hx with h1 | h1
  ·exact h.rch x h1
  ·simp only [List.mem_singleton] at h1;subst h1;exact hp
theorem RL.few {m:z1i} {n:Nat} (hm:MenuP m n) (hn8:n≤8) {root:Key} {out:List Key} (hr:KeyU n 8 root) (h:RL m n root out):out.length < 4096:=zc5 hn8 h.nd fun x hx=>(h.rch x hx).ok hm hr
theorem f25_ok (N:Nat) (hN:10000 < N) {m:z1i} {n:Nat} (hm:MenuP m n) (hn8:n≤8) {k:Int} (h0:0≤k) (h8:k≤8):∃ K,f25 N m k=some K∧K.Nodup∧∀ x,x∈K↔Rch m.2.1 (z4k n k) x:=by
 have hv8:=hm.views;have hn:=hm.few;have hrU:=zzi hm.pos h0 h8
 suffices Yld (f25 N m k) fun K=>K.Nodup∧∀ x,x∈K↔Rch m.2.1 (z4k n k) x from this
 unfold f25;rw [f39_eq N hm];simp only [Option.bind_some];refine Yld.iter (fun x=>∃ i:Nat,x.1=(i:Int)∧i≤x.2.length∧RL m n (z4k n k) x.2∧∀ j (hj:j < i) (hjl:j < x.2.length),∀ y∈zly m.2.1 x.2[j],y∈x.2) (fun x=>4096-x.1.toNat) ?_ N _ ⟨0,rfl,Nat.zero_le _,⟨by simp,fun x hx=>?_,by simp [z4k]⟩,fun j hj=>absurd hj (by omega)⟩ (by simp;omega)
 ·rintro ⟨i',out⟩ w ⟨i,hi,hil,hrl,hcl⟩ hw;simp only at hi hil hrl hcl;subst hi;have hfew:=hrl.few hm hn8 hrU;simp only [zsz];by_cases hlt:i < out.length
  ·rw [z17 hlt,cond_true];have hpR:=hrl.rch _ (List.getElem_mem hlt);have hku:=hpR.ok hm hrU;obtain ⟨k1,k2,k3,k4⟩:=z4q hku;have hl8:=hku.left1;have hl0:=hku.left0;have hgl:∀ {ext:List Key} (h:i < (out++ext).length),(out++ext)[i]=out[i]:=fun h=>List.getElem_append_left hlt
   have hlen:len m.2.1=(m.2.1.length:Int):=rfl;refine Yld.up (fun q o=>∃ ext,o=out++ext∧RL m n (z4k n k) o∧∀ j,j < q->∀ y∈zni (z05 m j) out[i],y∈o) m.2.1.length ?_ ?_ N 0 (by omega) (by omega) _ ⟨[],by simp,hrl,fun j hj=>absurd hj (by omega)⟩
   ·rintro q o v hq ⟨ext,rfl,hr1,hc1⟩ hv;have hio:i < (out++ext).length:=by simp;omega
    have hfw:=hr1.few hm hn8 hrU;obtain ⟨e1,hview⟩:=hm.at hq;simp only [zoj];rw [z17 hq,cond_true,z0h (z2m hio),z0s hio,hgl hio];simp only [Option.bind_some];rw [z07 (n:=(q:Int)+1) (by omega) (by omega)];by_cases hz:out[i].2.1=0
    ·rw [decide_eq_true hz,cond_true];refine hv _ ⟨ext,rfl,hr1,fun j hj y hy=>absurd hz (z5o.1 hy).1⟩
    ·rw [decide_eq_false hz,cond_false,z0h (z2m hio)];have h41:f41 N m out[i].1 (q:Int)=some (zpq (z26 (z05 m q) out[i].1.toNat)):=by
      conv=>lhs;rw [k1]
      exact f41_eq N (by omega) hm hq (zsc hn k2)
     rw [h41];simp only [Option.bind_some];have hpl:(z26 (z05 m q) out[i].1.toNat).length≤n:=by
      have h1:=z57 hview;have:=List.length_filter_le (fun y=>decide (y≠0)) ((List.range (z2f (z05 m q))).map (part (z05 m q) out[i].1.toNat));simp only [z26];simp only [List.length_map,List.length_range] at this;omega
     have hil2:len (zpq (z26 (z05 m q) out[i].1.toNat))=((z26 (z05 m q) out[i].1.toNat).length:Int):=by simp only [len,zc9]
     rw [hil2];refine Yld.up (fun c o=>∃ ext2,o=out++ext2∧RL m n (z4k n k) o∧(∀ y∈out++ext,y∈o)∧∀ d (hd:d < (z26 (z05 m q) out[i].1.toNat).length),d < c->((((z26 (z05 m q) out[i].1.toNat)[d]:Nat):Int),out[i].2.1-1,())∈o) (z26 (z05 m q) out[i].1.toNat).length ?_ ?_ N 0 (by omega) (by omega) _ ⟨ext,rfl,hr1,fun _ h=>h,fun d _ hd=>absurd hd (by omega)⟩
     ·rintro c o v2 hc ⟨ext2,rfl,hr2,hsub,hc2⟩ hv2;have hio2:i < (out++ext2).length:=by simp;omega
      have hfw2:=hr2.few hm hn8 hrU;have hci:c < (zpq (z26 (z05 m q) out[i].1.toNat)).length:=by rw [zc9];exact hc
      have hge:(zpq (z26 (z05 m q) out[i].1.toNat))[c]=(((z26 (z05 m q) out[i].1.toNat)[c]:Nat):Int):=by simp [zpq]
      obtain ⟨hne,d,hd,hde⟩:=zj4 (List.getElem_mem hc);have hkid:=zd8 hm hq (p:=out[i]) hz hd (by rw [hde];exact hne);rw [hde] at hkid;simp only [zgw];rw [dlt hc,cond_true,z0h (z2m hci),z0s hci,hge];simp only [Option.bind_some];rw [z0h (z2m hio2),z0s hio2,hgl hio2];simp only [Option.bind_some];rw [z07 (n:=out[i].2.1-1) (by omega) (by omega),z07 (n:=(c:Int)+1) (by omega) (by omega),f64_eq N _ (by omega) (by omega)];simp only [Option.bind_some];by_cases hmem:((((z26 (z05 m q) out[i].1.toNat)[c]:Nat):Int),out[i].2.1-1,())∈out++ext2
      ·rw [decide_eq_true hmem];simp only [Bool.not_true,cond_false];refine hv2 _ ⟨ext2,rfl,hr2,hsub,fun d hd hdc=>?_⟩;by_cases he:d=c
       ·subst he;exact hmem
       ·exact hc2 d hd (by omega)
      ·rw [decide_eq_false hmem];simp only [Bool.not_false,cond_true];rw [z4v (by omega)];refine hv2 _ ⟨ext2++[((((z26 (z05 m q) out[i].1.toNat)[c]:Nat):Int),out[i].2.1-1,())],by simp,hr2.add (hpR.step hkid) hmem,fun y hy=>by simp only [List.mem_append] at *;exact .inl (hsub y hy),fun d hd hdc=>?_⟩;by_cases he:d=c
       ·subst he;simp
       ·have:=hc2 d hd (by omega);simp only [List.mem_append] at *;exact .inl this
     ·rintro o v2 ⟨ext2,rfl,hr2,hsub,hc2⟩;simp only [zgw];rw [hil2.symm,hil2,dnlt,cond_false];refine hv _ ⟨ext2,rfl,hr2,fun j hj y hy=>?_⟩;by_cases he:j=q
      ·subst he;obtain ⟨_,c,hc,hp,rfl⟩:=z5o.1 hy;have hin:part (z05 m j) out[i].1.toNat c∈z26 (z05 m j) out[i].1.toNat:=by
        simp only [z26,List.mem_filter,List.mem_map,List.mem_range,decide_eq_true_eq];exact ⟨⟨c,hc,rfl⟩,hp⟩
       obtain ⟨d,hd,hde⟩:=List.mem_iff_getElem.1 hin;have:=hc2 d hd hd;rw [hde] at this;exact this
      ·exact hsub y (hc1 j (by omega) y hy)
   ·rintro o v ⟨ext,rfl,hr1,hc1⟩;simp only [zoj];rw [z0v,cond_false,z07 (by omega) (by omega)];have hfw:=hr1.few hm hn8 hrU;refine hw _ ⟨i+1,by simp,by simp;omega,hr1,fun j hj hjl y hy=>?_⟩ (by simp;omega);simp only at hy hjl ⊢;by_cases he:j=i
    ·subst he;rw [hgl hjl] at hy;obtain ⟨v,hv,hy⟩:=z8f.1 hy;obtain ⟨j2,hj2,rfl⟩:=List.mem_iff_getElem.1 hv;rw [(hm.at hj2).1] at hy;exact hc1 j2 hj2 y hy
    ·have hjo:j < out.length:=by omega
     rw [List.getElem_append_left hjo] at hy;exact List.mem_append.2 (.inl (hcl j (by omega) hjo y hy))
  ·have he:i=out.length:=by omega
   subst he;rw [z0v,cond_false];refine Yld.ret ⟨hrl.nd,fun x=>⟨fun hx=>hrl.rch x hx,fun hx=>?_⟩⟩
   induction hx with
   | base=>exact hrl.root
   | step _ hq ih=>
    obtain ⟨j,hj,rfl⟩:=List.mem_iff_getElem.1 ih;exact hcl j hj hj _ hq
 ·simp only [List.mem_singleton] at hx;subst hx;exact .base
theorem f61_eq (N:Nat) (x y:z56):f61 N x y=some (if z9m x y=true then -1 else 1):=by
 unfold f61 f38 z9m;by_cases h:x.2.1=y.2.1
 ·rw [decide_eq_true h,if_pos h];simp only [Bool.not_true,cond_false,Option.bind_some];cases decide (x.1 < y.1) <;> rfl
 ·rw [decide_eq_false h,if_neg h];simp only [Bool.not_false,cond_true,Option.bind_some];cases decide (y.2.1 < x.2.1) <;> rfl
theorem lt61 (N:Nat):ltI (zaf fun x y:z56=>f61 N x y)=z9m:=by
 funext x y;simp only [ltI,zaf,f61_eq];cases z9m x y <;> rfl
theorem f60v1_eq (N:Nat) {l:List z56} (hk:zk7 l) (hl:l.length < 4611686018427387904):zul N () l=some (((),()),(zbl l,())):=by
 have hord:OrdOn (ltI (zaf fun x y:z56=>f61 N x y)) (·∈l):=by rw [lt61 N];exact zlp _
 have hB:ordB (fun x y:z56=>f61 N x y) l=true:=zw1 hord fun x _ y _=>by rw [f61_eq N];rfl
 have hS:sepB (eqT (.pair (.int .i64) (.pair (.int .i64) (.pair (.int .i64) .unit)))) (ltI (zaf fun x y:z56=>f61 N x y)) l=true:=by
  unfold sepB;rw [z78];intro x hx;rw [z78];intro y hy;rw [lt61 N];by_cases h:x.1=y.1∧x.2.1=y.2.1
  ·have he:=hk x hx y hy h.1 h.2;subst he;have:=z75 (.pair (.int .i64) (.pair (.int .i64) (.pair (.int .i64) .unit))) x;rw [this];simp
  ·have:z9m x y=true∨z9m y x=true:=zp8 x y h;rcases this with h | h <;> simp [h]
 unfold zul zpz;rw [hB,hS,show Nat.blt l.length 4611686018427387904=true from by rw [Nat.blt_eq];exact hl,lt61 N];rfl
theorem f22_ok (N:Nat) (hN:10000 < N) {m:z1i} {g:List (List Int)} {k:Int} (ha:zr5 m g k=true) (hn8:m.1.toNat≤8) {K:List Key} (hs:Slv m g m.1.toNat K) (hK:∀ x,x∈K↔Rch m.2.1 (z4k m.1.toNat k) x) :
  f22 N m g k=some (VV m.2.1 g m.1.toNat k.toNat (z6u m.1.toNat),(zhd m g m.1.toNat k,zbl (K.map (zhe m g m.1.toNat)))):=by
 obtain ⟨a1,a2,a3,a4⟩:=zcl.1 ha;have hm:=zhx a1;have hsec:=hm.secrets;have hg:GainP g m.1.toNat:=gainP (by rw [←hsec];exact a2);have hrU:=zzi hm.pos a3 a4;obtain ⟨K2,h25,hnd2,hK2⟩:=f25_ok N hN hm hn8 a3 a4;have hperm:K2.Perm K:=(List.perm_ext_iff_of_nodup hnd2 hs.nd).2 fun x=>(hK2 x).trans (hK x).symm
 have hinj:zk7 (K2.map (zhe m g m.1.toNat)):=by
  intro x hx y hy e1 e2;obtain ⟨p,_,rfl⟩:=List.mem_map.1 hx;obtain ⟨q,_,rfl⟩:=List.mem_map.1 hy;have:p=q:=zqm e1 e2;rw [this]
 have hlen2:K2.length < 4096:=zc5 hn8 hnd2 fun x hx=>((hK2 x).1 hx).ok hm hrU
 have hsort:zbl (K2.map (zhe m g m.1.toNat))=zbl (K.map (zhe m g m.1.toNat)):=zii hinj (hperm.map _);have hWr:WK m g m.1.toNat (z4k m.1.toNat k)=VV m.2.1 g m.1.toNat k.toNat (z6u m.1.toNat):=by simp [WK,z4k]
 have hra:(z4k m.1.toNat k).1.toNat=z6u m.1.toNat:=by simp [z4k]
 have hku0:=z4q hrU;rw [hra] at hku0;have htab:∀ (M:z7a) (s:List z1c) (V:Int),z54 m g m.1.toNat M->iter (fun w=>zjn N V (len K2) K2 s w (fun o0_1=>(zul N () o0_1).bind fun r_12=>some (V,(s,r_12.2.1)))) N (0,m,g,M,([]:List z56))=some (V,(s,zbl (K.map (zhe m g m.1.toNat)))):=by
  intro M s V hM;refine z34 (fun x:Int×z1i×List (List Int)×z7a×List z56=>∃ (i:Nat) (M':z7a),x=((i:Int),m,g,M',(K2.take i).map (zhe m g m.1.toNat))∧i≤K2.length∧z54 m g m.1.toNat M') (fun x=>K2.length-x.1.toNat) ?_ N _ ⟨0,M,rfl,Nat.zero_le _,hM⟩ (by simp;omega);rintro x w ⟨i,M',rfl,hi,hM'⟩ hw;simp only [zjn,z4m,z86];by_cases hlt:i < K2.length
  ·have hku:=((hK2 _).1 (List.getElem_mem hlt)).ok hm hrU;obtain ⟨y,h58,M2,hy,hM2⟩:=zo0 N (by omega) hm hg hku M' hM';subst hy;rw [z17 hlt,cond_true,z0h (z2m hlt),z0s hlt];simp only [Option.bind_some];rw [h58];simp only [Option.bind_some,back];rw [z4v (by simp;omega),z07 (by omega) (by omega)];refine hw _ ⟨i+1,M2,?_,by omega,hM2⟩ (by simp;omega);rw [z1h hlt,List.map_append];rfl
  ·have he:i=K2.length:=by omega
   subst he;rw [z0v,cond_false,List.take_length,f60v1_eq N hinj (by simp;omega),hsort];rfl
 obtain ⟨y,h58,M1',hy,hM1⟩:=zo0 N (by omega) hm hg hrU [] (fun p v h=>by simp [lk] at h);subst hy;have h58':f58 N ((z6u m.1.toNat:Nat):Int) k m g []=some (((),(WK m g m.1.toNat (z4k m.1.toNat k),())),back m g M1'):=h58;unfold f22;rw [f39_eq N hm];simp only [Option.bind_some];rw [h58'];simp only [Option.bind_some,back,hWr];rw [zxs N (by omega) hm hg (zsc hm.few (zhl _))];simp only [Option.bind_some];by_cases hst:z1m g m.1.toNat (z6u m.1.toNat).testBit=VV m.2.1 g m.1.toNat k.toNat (z6u m.1.toNat)
 ·rw [decide_eq_true hst];simp only [Bool.not_true,cond_false];rw [h25];simp only [Option.bind_some];rw [htab M1' [] _ hM1,zhd,if_pos hst]
 ·rw [decide_eq_false hst];simp only [Bool.not_false,cond_true];have hrk:(z4k m.1.toNat k).2.1.toNat=k.toNat:=rfl;obtain ⟨y,h59,M2,hy,hM2⟩:=zxl N (by omega) hm hg N (z4k m.1.toNat k) hrU (by simp only [z4k];omega) (by rw [hra,hWr];exact hst) M1' hM1 [] (by
   have:=zkn hm hn8 g (l:=k.toNat) (by omega) (z6u m.1.toNat) 0 hku0.2.1 hku0.2.2.1;rw [hra,hrk];simp only [List.length_nil];omega)
  subst hy;rw [hra,hrk] at h59;have h59':f59 N ((z6u m.1.toNat:Nat):Int) k m g M1' []=some (((),((),())),zi5 m g M2 (z3j m.2.1 g m.1.toNat k.toNat (z6u m.1.toNat) 0)):=h59;rw [h59'];simp only [Option.bind_some,zi5];rw [h25];simp only [Option.bind_some];rw [htab M2 _ _ hM2,zhd,if_neg hst]
theorem f23_refl (N:Nat) (s:List z1c) (hN:s.length < N) (hl:s.length≤1000) (h:∀ c∈s,c.2.1.length≤1000) (hN2:1000 < N):f23 N s s=some true:=by
 unfold f23 f62;rw [decide_eq_true rfl];simp only [Bool.not_true,cond_false];have:iter (fun w=>zji N () s s (len s) w (fun t6=>some t6) (fun (_:Unit)=>some true)) N 0=some true:=by
  refine zc8 (fun _=>True) s.length ?_ ?_ N hN trivial
  ·intro k w hk _ hw;have hb:=h _ (List.getElem_mem hk);simp only [zji];rw [z17 hk,cond_true,z0s hk];simp only [Option.bind_some];have h63:f63 N s[k] s[k]=some true:=by
    unfold f63;rw [decide_eq_true rfl,cond_true,f27_eq N _ _ (by omega) (by omega)];simp
   rw [h63,z07 (by omega) (by omega)];simp only [Option.bind_some,Bool.not_true,cond_false];exact hw trivial
  ·intro w _;simp only [zji];rw [z0v,cond_false]
 rw [this];rfl
theorem f24_refl (N:Nat) (t:List z56) (hN:t.length < N) (hl:t.length≤10000):f24 N t t=some true:=by
 unfold f24;rw [decide_eq_true rfl];simp only [Bool.not_true,cond_false];refine zc8 (fun _=>True) t.length ?_ ?_ N hN trivial
 ·intro k w hk _ hw;simp only [zok];rw [z17 hk,cond_true,z0s hk];simp only [Option.bind_some];have he:eqD (.pair (.int .i64) (.pair (.int .i64) (.pair (.int .i64) .unit))) t[k] t[k]=true:=by
   generalize t[k]=x;obtain ⟨a,b,c,u⟩:=x;simp [eqD,z42]
  rw [he,z07 (by omega) (by omega)];simp only [Bool.not_true,cond_false];exact hw trivial
 ·intro w _;simp only [zok];rw [z0v,cond_false]
theorem law6 (m:z1i) (g:List (List Int)) (k:Int):f6 100000 m g k=some true:=by
 unfold f6;rw [known];simp only [Option.bind_some,Bool.not_true,cond_false];rw [f12_eq 100000 (by omega) m g _ _ (by omega)];simp only [Option.bind_some]
 cases hf:fewB m g 6 4 with
 | false=>rfl
 | true=>
 simp only [Bool.not_true,cond_false];rw [f15_eq 100000 (by omega)]
 cases ha:zr5 m g k with
 | false=>
  have h20:f20 100000 m g k=some (0,([],([],1))):=by
   unfold f20;rw [zsx 100000 (by omega),ha];rfl
  rw [h20]
  rfl
 | true=>
  obtain ⟨a1,a2,a3,a4⟩:=zcl.1 ha;have hm:=zhx a1;have hn8:m.1.toNat≤8:=by
   simp only [fewB,zA,Bool.not_eq_true',decide_eq_false_iff_not,len] at hf;have:=hf.1.1.1.1;omega
  obtain ⟨K,h20,hs,hr,hK⟩:=f20_ok 100000 (by omega) repOK ha hn8;have h22:=f22_ok 100000 (by omega) ha hn8 hs hK;have hlen:=zc5 hn8 hs.nd hs.keys;rw [h20];simp only [Option.bind_some,Bool.not_true,cond_false];rw [h22];simp only [Option.bind_some,decide_true,cond_true];have hst:=bestS_ok hm g k;have hbl:(zhd m g m.1.toNat k).length≤64:=by
   unfold zhd;split
   ·simp
   ·have h2:2 ^ 1≤2 ^ m.1.toNat:=Nat.pow_le_pow_right (by omega) hm.pos;have h3:z6u m.1.toNat=2 ^ m.1.toNat-1:=rfl;exact zkn hm hn8 g (by omega) _ _ (zhl _) (by omega)
  rw [f23_refl 100000 _ (by omega) (by omega) (fun c hc=>?_) (by omega)]
  ·simp only [Option.bind_some,cond_true];have htl:(zbl (K.map (zhe m g m.1.toNat))).length=K.length:=by
    have:=(z3r z9m (K.map (zhe m g m.1.toNat))).length_eq;simpa [zbl] using this
   rw [f24_refl 100000 _ (by omega) (by omega)];rfl
  ·obtain ⟨i,hi,rfl⟩:=List.mem_iff_getElem.1 hc;have hnode:=hst.node m.1.toNat hi;have:=z57 (hm.view _ hnode.mem);have:=hm.few;have:=hnode.next;omega
end Go.Kz
