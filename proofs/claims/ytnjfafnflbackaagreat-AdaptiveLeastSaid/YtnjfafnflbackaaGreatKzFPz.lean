/-
  The layer adaptive: questions chosen in advance, by the model; the law Fixed.
-/
import Derived.Test.YtnjfafnflbackaaGreatKzFOz
set_option linter.unusedVariables false
set_option linter.unusedSimpArgs false
namespace Go.Kz
theorem zpi {m:z1m} {n:Nat} (hm:MenuP m n) (qs:List Int) {i j:Nat} (hi:i < n) (hj:j < n):(z1l m qs)[i]? = (z1l m qs)[j]?↔ziz m qs i=ziz m qs j:=by
 have hl:=(z7l hm qs).len;have:=za5 hm qs hi hj;rw [List.getD_eq_getElem?_getD,List.getD_eq_getElem?_getD,List.getElem?_eq_getElem (by omega),List.getElem?_eq_getElem (by omega)] at this;rw [List.getElem?_eq_getElem (by omega),List.getElem?_eq_getElem (by omega),zI];exact this
theorem zrm {m:z1m} {n:Nat} (hm:MenuP m n) (qs:List Int) {q:Int} (h0:0≤q) (h1:q < (m.2.1.length:Int)):IsMeet n (z1l m qs) (z3z m q) (z1l m (qs++[q])):=by
 have hv:=z7l hm (qs++[q]);have hq:q.toNat < m.2.1.length:=by omega
 obtain ⟨e1,hw⟩:=hm.at hq;have hwl:=hw.len;have hvi:z3z m q=z07 m q.toNat:=rfl;refine ⟨hv.ok,hv.len,fun i j hi hj=>?_⟩;rw [zpi hm _ hi hj,zf3,zf3];unfold zvx;rw [zpi hm _ hi hj,hvi];have e2:(z07 m q.toNat)[i]? = some ((z07 m q.toNat).getD i 0):=by rw [List.getD_eq_getElem?_getD,List.getElem?_eq_getElem (by omega)];rfl
 have e3:(z07 m q.toNat)[j]? = some ((z07 m q.toNat).getD j 0):=by rw [List.getD_eq_getElem?_getD,List.getElem?_eq_getElem (by omega)];rfl
 rw [e2,e3,zI];constructor
 ·intro h;have h1:=List.append_inj h (by simp [ziz]);exact ⟨h1.1,by simpa using h1.2⟩
 ·rintro ⟨a,b⟩;rw [a,b]
theorem ztu (m:z1m):List.replicate m.1.toNat (0:Int)=z1l m []:=by
 have h1:ofL (List.replicate m.1.toNat (0:Int))=List.replicate m.1.toNat 0:=(zc0 _).2 (zby _ 0 (by omega));rw [←h1];refine z8e (by simp) ?_;intro i j hi hj;simp [ziz]
theorem f31_eq (N:Nat) (hN:5000 < N) {m:z1m} {n:Nat} (hm:MenuP m n) {qs:List Int} (hl:qs.length≤300) (hq:qs.all (zck m)=true):f31 N m qs=some (z1l m qs):=by
 have hn:=hm.few;have hs:=hm.secrets;unfold f31;rw [z0x (by rw [show ((z31:Nat):Int)=4294967296 from rfl];simp;omega)];refine z2x (fun k o=>o=z1l m (qs.take k)) qs.length ?_ ?_ N (by omega) _ ?_
 ·intro k o w hk ho hw;subst ho;have hqk:=List.all_eq_true.1 hq _ (List.getElem_mem hk);simp only [zck,zA,decide_eq_true_eq] at hqk;have hqn:qs[k].toNat < m.2.1.length:=by omega
  obtain ⟨e1,hv⟩:=hm.at hqn;have hvl:=hv.len;have hj:=z7l hm (qs.take k);have hjl:=hj.len;have hidx:idx m.2.1 qs[k]=some (z3z m qs[k]):=by
   have:qs[k]=(qs[k].toNat:Int):=by omega
   conv=>lhs;rw [this]
   rw [z0s hqn,e1];rfl
  simp only [zlm];rw [z1p hk,cond_true,z0s hk];simp only [Option.bind_some];rw [hidx];simp only [Option.bind_some];obtain ⟨mm,h84,hmm⟩:=f61_eq N (z1l m (qs.take k)) (z3z m qs[k]) (by omega) (by omega) (by rw [hjl];exact hvl) hj.ok hv.ok;rw [h84];simp only [Option.bind_some];rw [z0c (by omega) (by omega)];refine hw _ ?_;rw [hjl] at hmm;rw [z27 hk];exact IsMeet.unique hmm (zrm hm _ hqk.1 hqk.2)
 ·intro o w ho;subst ho;simp only [zlm];rw [z1e,cond_false,List.take_length]
 ·rw [ztu];rfl
end Go.Kz
