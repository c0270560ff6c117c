/-
  The layer adaptive: questions chosen in advance, by the model; the law Fixed.
-/
import Derived.Test.YtnjfafnflbackaaKzFO
set_option linter.unusedVariables false
set_option linter.unusedSimpArgs false
namespace Go.Kz
theorem zt1 {m:z1n} {n:Nat} (hm:MenuP m n) (qs:List Int) {i j:Nat} (hi:i < n) (hj:j < n):(z1i m qs)[i]? = (z1i m qs)[j]?↔zle m qs i=zle m qs j:=by
 have hl:=(z58 hm qs).len;have:=zgq hm qs hi hj;rw [List.getD_eq_getElem?_getD,List.getD_eq_getElem?_getD,List.getElem?_eq_getElem (by omega),List.getElem?_eq_getElem (by omega)] at this;rw [List.getElem?_eq_getElem (by omega),List.getElem?_eq_getElem (by omega),zI];exact this
theorem zv3 {m:z1n} {n:Nat} (hm:MenuP m n) (qs:List Int) {q:Int} (h0:0≤q) (h1:q < (m.2.1.length:Int)):IsMeet n (z1i m qs) (z4i m q) (z1i m (qs++[q])):=by
 have hv:=z58 hm (qs++[q]);have hq:q.toNat < m.2.1.length:=by omega
 obtain ⟨e1,hw⟩:=hm.at hq;have hwl:=hw.len;have hvi:z4i m q=z0b m q.toNat:=rfl;refine ⟨hv.ok,hv.len,fun i j hi hj=>?_⟩;rw [zt1 hm _ hi hj,zgo,zgo];unfold zzn;rw [zt1 hm _ hi hj,hvi];have e2:(z0b m q.toNat)[i]? = some ((z0b m q.toNat).getD i 0):=by rw [List.getD_eq_getElem?_getD,List.getElem?_eq_getElem (by omega)];rfl
 have e3:(z0b m q.toNat)[j]? = some ((z0b m q.toNat).getD j 0):=by rw [List.getD_eq_getElem?_getD,List.getElem?_eq_getElem (by omega)];rfl
 rw [e2,e3,zI];constructor
 ·intro h;have h1:=List.append_inj h (by simp [zle]);exact ⟨h1.1,by simpa using h1.2⟩
 ·rintro ⟨a,b⟩;rw [a,b]
theorem zxi (m:z1n):List.replicate m.1.toNat (0:Int)=z1i m []:=by
 have h1:ofL (List.replicate m.1.toNat (0:Int))=List.replicate m.1.toNat 0:=(zde _).2 (zdc _ 0 (by omega));rw [←h1];refine zc9 (by simp) ?_;intro i j hi hj;simp [zle]
theorem f57_eq (N:Nat) (hN:5000 < N) {m:z1n} {n:Nat} (hm:MenuP m n) {qs:List Int} (hl:qs.length≤300) (hq:qs.all (z9m m)=true):f57 N m qs=some (z1i m qs):=by
 have hn:=hm.few;have hs:=hm.secrets;unfold f57;rw [z0l (by rw [show ((z38:Nat):Int)=4294967296 from rfl];simp;omega)];refine z1r (fun k o=>o=z1i m (qs.take k)) qs.length ?_ ?_ N (by omega) _ ?_
 ·intro k o w hk ho hw;subst ho;have hqk:=List.all_eq_true.1 hq _ (List.getElem_mem hk);simp only [z9m,zA,decide_eq_true_eq] at hqk;have hqn:qs[k].toNat < m.2.1.length:=by omega
  obtain ⟨e1,hv⟩:=hm.at hqn;have hvl:=hv.len;have hj:=z58 hm (qs.take k);have hjl:=hj.len;have hidx:idx m.2.1 qs[k]=some (z4i m qs[k]):=by
   have:qs[k]=(qs[k].toNat:Int):=by omega
   conv=>lhs;rw [this]
   rw [z0k hqn,e1];rfl
  simp only [zog];rw [z12 hk,cond_true,z0k hk];simp only [Option.bind_some];rw [hidx];simp only [Option.bind_some];obtain ⟨mm,h84,hmm⟩:=f84_eq N (z1i m (qs.take k)) (z4i m qs[k]) (by omega) (by omega) (by rw [hjl];exact hvl) hj.ok hv.ok;rw [h84];simp only [Option.bind_some];rw [z06 (by omega) (by omega)];refine hw _ ?_;rw [hjl] at hmm;rw [z1k hk];exact IsMeet.unique hmm (zv3 hm _ hqk.1 hqk.2)
 ·intro o w ho;subst ho;simp only [zog];rw [z0u,cond_false,List.take_length]
 ·rw [zxi];rfl
end Go.Kz
