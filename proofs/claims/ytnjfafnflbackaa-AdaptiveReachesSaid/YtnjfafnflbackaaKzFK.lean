/-
  The layer adaptive: Prove accepts the table of Best; plain laws.
-/
import Derived.Test.YtnjfafnflbackaaKzFJ
set_option linter.unusedVariables false
set_option linter.unusedSimpArgs false
namespace Go.Kz
theorem zsl {α β:Type} [DecidableEq α] {x:α} {y:β}:{l:List (α×β)}->(l.map Prod.fst).Nodup->(x,y)∈l->lk l x=some y
 | (k,v) :: l,hd,h=>by
  simp only [List.map_cons,List.nodup_cons] at hd;simp only [lk];rcases List.mem_cons.1 h with h | h
  ·simp only [Prod.mk.injEq] at h;rw [if_pos h.1,h.2]
  ·have:¬ x=k:=fun e=>hd.1 (e ▸ List.mem_map.2 ⟨_,h,rfl⟩)
   rw [if_neg this];exact zsl hd.2 h
theorem zzi {t:List z5m} (h:∀ i (hi:i+1 < t.length),zbh t[i] t[i+1]=true):zkk t=true:=by
 simp only [zkk,List.all_eq_true,List.mem_range,Nat.sub_zero,Nat.zero_add,Bool.not_eq_true',bad1,Bool.and_eq_false_iff,decide_eq_false_iff_not,Nat.not_lt,Bool.not_eq_false'];intro j hj
 cases j with
 | zero=>left;omega
 | succ j=>
  right;have e1:t.getD j (0,0,0,())=t[j]:=by rw [List.getD_eq_getElem?_getD,List.getElem?_eq_getElem (by omega)];rfl
  have e2:t.getD (j+1) (0,0,0,())=t[j+1]:=by rw [List.getD_eq_getElem?_getD,List.getElem?_eq_getElem (by omega)];rfl
  simp only [Nat.add_sub_cancel,e1,e2];exact h j hj
section
variable {m:z1s} {g:List (List Int)} {n:Nat} {K:List Key} (hs:Slv m g n K)
include hs
theorem zbr:(z4l (K.map (z3g m g n))).Perm (K.map (z3g m g n)):=by
 have _:=hs;exact z3r zbh _
theorem zkg {x:z5m} (hx:x∈z4l (K.map (z3g m g n))):∃ p∈K,x=z3g m g n p:=by
 obtain ⟨p,hp,rfl⟩:=List.mem_map.1 ((zbr hs).mem_iff.1 hx);exact ⟨p,hp,rfl⟩
theorem tab_nd:(z4l (K.map (z3g m g n))).Nodup:=by
 rw [(zbr hs).nodup_iff];refine zg7 (fun p _ q _ e=>?_) hs.nd;simp only [z3g,Prod.mk.injEq] at e;exact zle e.1 e.2.1
theorem zrk {p:Key} (hp:p∈K):look (z4l (K.map (z3g m g n))) p.1 p.2.1=some (WK m g n p):=by
 refine zsl ?_ ?_
 ·have h1:((zsi (z4l (K.map (z3g m g n)))).map Prod.fst).Perm K:=by
   have h2:=((zbr hs).map fun x:z5m=>((x.1,x.2.1,()),x.2.2.1)).map Prod.fst;refine h2.trans ?_;rw [List.map_map,List.map_map];have:((Prod.fst ∘ fun x:z5m=>(((x.1,x.2.1,()):Key),x.2.2.1)) ∘ z3g m g n)=id:=by
    funext p;exact zle rfl rfl
   rw [this,List.map_id]
  rw [h1.nodup_iff];exact hs.nd
 ·refine List.mem_map.2 ⟨z3g m g n p,(zbr hs).mem_iff.2 (List.mem_map.2 ⟨p,hp,rfl⟩),?_⟩;simp only [z3g]
theorem zze:zkk (z4l (K.map (z3g m g n)))=true:=by
 refine zzi fun i hi=>?_
 have hasc:Asc zbh (z4l (K.map (z3g m g n))):=z7u (zlv fun _=>True) _ fun _ _=>trivial
 have h1:=List.pairwise_iff_getElem.1 hasc i (i+1) (by omega) hi (by omega);have hnd:=List.pairwise_iff_getElem.1 (tab_nd hs) i (i+1) (by omega) hi (by omega);obtain ⟨p,hp,e1⟩:=zkg hs (List.getElem_mem (l:=z4l (K.map (z3g m g n))) (n:=i) (by omega));obtain ⟨q,hq,e2⟩:=zkg hs (List.getElem_mem hi);rcases zpc ((z4l (K.map (z3g m g n)))[i]'(by omega)) (z4l (K.map (z3g m g n)))[i+1] (fun h=>hnd (by
  rw [e1,e2] at h ⊢;have:p=q:=zle h.1 h.2;rw [this])) with h | h
 ·exact h
 ·rw [h1] at h;exact absurd h (by simp)
theorem tab_ent {x:z5m} (hx:x∈z4l (K.map (z3g m g n))):zah g n x=true:=by
 obtain ⟨p,hp,rfl⟩:=zkg hs hx;have hk:=hs.keys p hp;obtain ⟨k1,k2,k3,k4⟩:=z7b hk;have a1:=hk.set1;have a2:=hk.set2;have a3:=hk.left0;have b1:=VV_ge m.2.1 g n p.2.1.toNat p.1.toNat;have b2:=zcr hs.menu.view hs.gain.row hs.menu.few p.2.1.toNat p.1.toNat;have h3:z3v n=2 ^ n-1:=rfl;rw [zcj];simp only [z3g,WK];refine ⟨a3,a1,by omega,b1,by omega⟩
theorem tab_rel {x:z5m} (hx:x∈z4l (K.map (z3g m g n))):zi4 m (z4l (K.map (z3g m g n))) x=true:=by
 obtain ⟨p,hp,rfl⟩:=zkg hs hx;have hk:=hs.keys p hp;obtain ⟨k1,k2,k3,k4⟩:=z7b hk;have a3:=hk.left0;have a4:=hk.left1;simp only [zi4,Bool.or_eq_true,Bool.not_eq_true',decide_eq_false_iff_not,z3g];by_cases hl:0 < p.2.1
 ·right;simp only [bndV,List.all_eq_true];intro v hv;have hval:∀ c,c < z2j v->part v p.1.toNat c≠0->zwi (z4l (K.map (z3g m g n))) (z3g m g n p) (part v p.1.toNat c)=some (VV m.2.1 g n (p.2.1.toNat-1) (part v p.1.toNat c)):=by
   intro c hc h0;have hkid:(((part v p.1.toNat c:Nat):Int),p.2.1-1,())∈zpt m.2.1 p:=z8d.2 ⟨v,hv,z6h.2 ⟨by omega,c,hc,h0,rfl⟩⟩;have:=zrk hs (hs.closed p hp _ hkid);simp only [zyo] at this;simp only [zwi,z3g];rw [z09 (by omega) (by omega)];exact this
  have hsum:sumV v p.1.toNat (zwi (z4l (K.map (z3g m g n))) (z3g m g n p))=some (zcy v p.1.toNat (VV m.2.1 g n (p.2.1.toNat-1))):=by
   have gen:∀ (f:Nat->Option Int) (h:Nat->Int),∀ k,(∀ c,c < k->f c=some (h c))->zmh ((List.range k).map f)=some (z1l k h):=by
    intro f h k
    induction k with
    | zero=>intro _;rfl
    | succ k ih=>
     intro hf;rw [List.range_succ,List.map_append,List.map_cons,List.map_nil,zfq,ih (fun c hc=>hf c (by omega)),hf k (by omega)];rfl
   refine gen _ _ _ fun c hc=>?_
   by_cases h0:part v p.1.toNat c=0
   ·rw [if_pos h0,if_pos h0]
   ·rw [if_neg h0,if_neg h0,hval c hc h0]
  have hb:(match sumV v p.1.toNat (zwi (z4l (K.map (z3g m g n))) (z3g m g n p)) with
   | none=>false
   | some s=>decide (s≤WK m g n p))=true:=by
   have hle:zcy v p.1.toNat (VV m.2.1 g n (p.2.1.toNat-1))≤WK m g n p:=by
    obtain ⟨l,hl'⟩:∃ l,p.2.1.toNat=l+1:=⟨p.2.1.toNat-1,by omega⟩;simp only [WK,hl',Nat.add_sub_cancel];exact VV_sum g n l _ hv
   rw [hsum];exact decide_eq_true hle
  exact hb
 ·left;exact decide_eq_false hl
theorem zmc {k:Int} (ha:zr8 m g k=true) (hn:m.1.toNat=n) (hl:K.length≤4096) (hr:z8v n k∈K) (b:Int):zmy m g k (z4l (K.map (z3g m g n))) b=if b < VV m.2.1 g n k.toNat (z3v n) then 13 else 0:=by
 have h1:(z4l (K.map (z3g m g n))).length≤4096:=by
  rw [(zbr hs).length_eq,List.length_map];exact hl
 have h2:(z4l (K.map (z3g m g n))).all (zah g n)=true:=List.all_eq_true.2 fun x hx=>tab_ent hs hx
 have h3:(z4l (K.map (z3g m g n))).all (zi4 m (z4l (K.map (z3g m g n))))=true:=List.all_eq_true.2 fun x hx=>tab_rel hs hx
 have h4:=zrk hs hr;have h5:WK m g n (z8v n k)=VV m.2.1 g n k.toNat (z3v n):=by simp [WK,z8v]
 rw [h5] at h4;unfold zmy;rw [if_pos ha,if_pos h1,zze hs,hn,h2,h3];have h6:look (z4l (K.map (z3g m g n))) ((z3v n:Nat):Int) k=some (VV m.2.1 g n k.toNat (z3v n)):=h4;rw [h6];rfl
end
end Go.Kz
