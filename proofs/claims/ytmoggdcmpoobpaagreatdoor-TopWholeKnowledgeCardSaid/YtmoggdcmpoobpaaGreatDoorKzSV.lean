/-
  The function that spells an observation: what it gives, for every observation.
-/
import Derived.Test.YtmoggdcmpoobpaaGreatDoorKzSR
set_option linter.unusedSimpArgs false
namespace Go.Proofs
open Go.Shelf Go.RowKit Go.Kz
set_option linter.unusedVariables false
theorem bappT (l m:List UInt8):(⟨l.toArray⟩:ByteArray)++⟨m.toArray⟩=⟨(l++m).toArray⟩:=by
 apply ByteArray.ext;simp [ByteArray.data_append]
set_option maxHeartbeats 4000000 in
set_option maxRecDepth 100000 in
theorem Tryz.text180 (b off n c:Nat) (tm:Int) (zs:List Int) (w:World) (hz:zs.length=n) (hn:n<=4294967296) (hbB:b < w.heap.size)
  (hc:∀ j,j < n->w.cell? ⟨b,off+j,none⟩=some (.int .i64 (zs.getD j 0))) (hr:∀ x∈zs,-9223372036854775808<=x/\x<=9223372036854775807) (ht : -9223372036854775808<=tm/\tm<=9223372036854775807)
  (htab : Lib.TabIs Tryz.prog w "internal/strconv.uint64pow10" .u64 Lib.pow10Tab) :
  Calls Tryz.prog 180 #[.agg #[.slice (some ⟨b,off,none⟩) n c,.int .i64 tm]] w fun e w'=>e = .returned (.string ⟨(wF zs++Lib.itoa tm).toArray⟩)/\Below w.heap.size w w'/\w.drawn<=w'.drawn:=by
 have hT:=Lib.tabBelow_of_tabIs htab;have e144:∀ args w,(callFunc 144 args).run Tryz.prog w = .ok (.enter 144 args) w:=enters_of Tryz.func144 (by kernel_rfl) rfl
 go_enter Tryz.func180,Tryz.ntmps180
 go_wp2
 go_loopw [9] (fun i wr=>∃ k,k<=n/\i = .int .i64 (k:Nat)/\Lib.IsBuilderF 224 5 (w.heap.size+1) (w.heap.size+1) (Lib.byteCells (wF (zs.take k))) wr/\Below (w.heap.size+1) (w.alloc (.cells #[.slice (some ⟨b,off,none⟩) n c,.int .i64 tm] 39 (0,0))) wr/\w.drawn<=wr.drawn) (fun i _=>n-(intOf i).toNat)
 case atStart=>
  have hwb:(w.alloc (.cells #[.slice (some ⟨b,off,none⟩) n c,.int .i64 tm] 39 (0,0))).heap.size=w.heap.size+1:=by simp
  have e:=Lib.fresh_isBuilder 224 5 (w.alloc (.cells #[.slice (some ⟨b,off,none⟩) n c,.int .i64 tm] 39 (0,0)));have e2:=(Below.refl (w.heap.size+1) (w.alloc (.cells #[.slice (some ⟨b,off,none⟩) n c,.int .i64 tm] 39 (0,0)))).alloc (Nat.le_of_eq hwb.symm) (.cells #[.pointer none,.slice none 0 0] 224 (0,0));rw [hwb] at e;exact ⟨0,Nat.zero_le _,rfl,Lib.IsBuilderF.of e,e2,Nat.le_refl _⟩
 case round=>
  obtain ⟨k,hk,rfl,hI,hnx,hdr⟩:=hrel;have hwb:(w.alloc (.cells #[.slice (some ⟨b,off,none⟩) n c,.int .i64 tm] 39 (0,0))).heap.size=w.heap.size+1:=by simp
  have hb0:Below w.heap.size w (w.alloc (.cells #[.slice (some ⟨b,off,none⟩) n c,.int .i64 tm] 39 (0,0))):=(Below.refl _ w).alloc (Nat.le_refl _) _;have hbox0:(w.alloc (.cells #[.slice (some ⟨b,off,none⟩) n c,.int .i64 tm] 39 (0,0))).heap[w.heap.size]? = some (.cells #[.slice (some ⟨b,off,none⟩) n c,.int .i64 tm] 39 (0,0)):=by
   show (w.heap.push _)[w.heap.size]? = _;exact Array.getElem?_push_size
  generalize w.alloc (.cells #[.slice (some ⟨b,off,none⟩) n c,.int .i64 tm] 39 (0,0))=wb at hnx hwb hb0 hbox0 ⊢;have hbox:wr.heap[w.heap.size]? = some (.cells #[.slice (some ⟨b,off,none⟩) n c,.int .i64 tm] 39 (0,0)):=(hnx.block _ (by omega)).trans hbox0;have hnw:Below w.heap.size w wr:=hb0.trans ⟨hnx.os,hnx.tape,hnx.output,hnx.size,fun q hq=>hnx.block q (by omega)⟩;have hcx:k < n->wr.cell? ⟨b,off+k,none⟩=some (.int .i64 (zs.getD k 0)):=fun h=>(hnw.cell (by exact hbB)).trans (hc k h)
  have hT2:=hT.on hnw;have hs00:=hnx.size;clear hc;have hlen:(wF (zs.take k)).length<=22*n:=by
   have:=len_sum (f:=fun n=>Lib.itoa n++[44]) (m:=22) (zs.take k) fun x hx=>by
    have:=hr x (List.mem_of_mem_take hx);have:=Lib.itoa_length_le x this.1 this.2;simp;omega
   simp only [List.length_take] at this;simp only [wF];omega
  by_cases hlt:k < n
  ·have hcell:=hcx hlt;have hmem:zs.getD k 0∈zs:=by
    rw [List.getD_eq_getElem?_getD,List.getElem?_eq_getElem (by omega)];exact List.getElem_mem _
   have hrx:=hr _ hmem;have hil:=Lib.itoa_length_le _ hrx.1 hrx.2;have hsn:=take_snocT (f:=fun n=>Lib.itoa n++[44]) (zs:=zs) (k:=k) (by omega);generalize zs.getD k 0=x at hcell hrx hil hsn;replace hsn:=Lib.hid hsn;clear hcx hmem
   go_wp2_with (go_at_call 144;refine (Tryz.strconv_Itoa x hrx.1 hrx.2 _ hT2.here).mono ?_;rintro e W1 ⟨rfl,k1,os,rfl⟩;refine Hid.out ?_)
   refine Lib.hid ?_;have B1:=below_growT wr k1 os;have D1:wr.drawn<=(Sort.grow (wr.drewN k1) os).drawn:=Nat.le_add_right _ _;have hsz1:=B1.size;have hI1:=IsBuilderF.belowT hI B1;have hn1:Below (w.heap.size+1) wb (Sort.grow (wr.drewN k1) os):=hnx.trans ⟨B1.os,B1.tape,B1.output,B1.size,fun q hq=>B1.block q (by omega)⟩;generalize Sort.grow (wr.drewN k1) os=W1 at B1 hsz1 hI1 hn1 D1 ⊢;have eb:(⟨(Lib.itoa x).toArray⟩:ByteArray)++⟨#[44]⟩=⟨(Lib.itoa x++[44]).toArray⟩:=bappT _ [44];have es:(⟨(Lib.itoa x).toArray⟩++⟨#[44]⟩:ByteArray).size=(Lib.itoa x).length+1:=by rw [eb,bsize,List.length_append];rfl
   replace eb:=Lib.hid eb;have hle:(Lib.byteCells (wF (zs.take k))).length+(⟨(Lib.itoa x).toArray⟩++⟨#[44]⟩:ByteArray).size<=140737488355328:=by rw [es,Lib.byteCells_length];omega
   have hBw:w.heap.size+1<=W1.heap.size:=by omega
   clear es;have hWS:=Tryz.WriteString_k (w.heap.size+1) (w.heap.size+1) _ _ _ hI1 hle hBw;clear hle
   go_wp2_with (go_at_call 143;refine hWS.mono ?_;rintro e W2 ⟨rfl,h2,b2,d2⟩;refine Hid.out ?_)
   refine Lib.hid ?_;have hs2:=b2.size;have hn2:=hn1.trans b2;have hd2:w.drawn<=W2.drawn:=by omega
   have h3':Lib.IsBuilderF 224 5 (w.heap.size+1) (w.heap.size+1) (Lib.byteCells (wF (zs.take (k+1)))) W2:=by
    have e:wF (zs.take (k+1))=wF (zs.take k)++(Lib.itoa x++[44]):=by
     have:=hsn.out;simp only [wF] at this ⊢;rw [this]
    rw [e,Lib.byteCells_append];rw [eb.out] at h2;exact .inr h2
   clear hsn
   go_wp2
   go_roundw
   case rel=>exact ⟨k+1,by omega,by simp,h3',hn2,hd2⟩
   case measure=>simp [intOf];omega
  ·have hkn:k=n:=by omega
   subst hkn;rw [List.take_of_length_le (by omega)] at hI hlen;have hil:=Lib.itoa_length_le tm ht.1 ht.2;have e1:=bsize (wF zs);have e2:=bsize (Lib.itoa tm);have hbb:(⟨(wF zs).toArray⟩:ByteArray).size+(⟨(Lib.itoa tm).toArray⟩:ByteArray).size<=maxLen:=by rw [e1,e2];unfold maxLen;omega
   clear hcx;have hn0:Below w.heap.size w wr.drew:=hnw.trans (Below.drew (Below.refl _ wr));have hbox1:wr.drew.cell? ⟨w.heap.size,1,none⟩=some (.int .i64 tm):=by
    have:wr.drew.heap[w.heap.size]? = some (.cells #[.slice (some ⟨b,off,none⟩) k c,.int .i64 tm] 39 (0,0)):=hbox;rw [Lib.cell_of_heap this];rfl
   have hD:w.drawn<=wr.drew.drawn:=Nat.le_succ_of_le hdr;have hS:=Tryz.String_k (w.heap.size+1) (w.heap.size+1) (wF zs) wr.drew (IsBuilderF.belowT hI (Below.drew (Below.refl _ wr))) (by show w.heap.size+1<=wr.heap.size;omega);have eb:=bappT (wF zs) (Lib.itoa tm);replace eb:=Lib.hid eb
   go_wp2
   go_region_with (first
    | (go_at_call 146;refine hS.mono ?_;rintro e W1 ⟨rfl,_,b1,d1⟩;have hbx:W1.cell? ⟨w.heap.size,1,none⟩=some (.int .i64 tm):=(b1.cell (p:=⟨w.heap.size,1,none⟩) (Nat.lt_succ_self _)).trans hbox1;have hn1:Below w.heap.size w W1:=hn0.trans ⟨b1.os,b1.tape,b1.output,b1.size,fun q hq=>b1.block q (Nat.lt_succ_of_lt hq)⟩;have hTT:=(hT.on hn1).here;have hD1:=Nat.le_trans hD d1)
    | (go_at_call 144;refine (Tryz.strconv_Itoa tm ht.1 ht.2 _ hTT).mono ?_;rintro e W2 ⟨rfl,k1,os,rfl⟩))
   all_goals
    go_wp2
    go_ret
    have B:=below_growT W1 k1 os;exact ⟨congrArg (fun s=>Ending.returned (.string s)) eb.out,hn1.trans ⟨B.os,B.tape,B.output,B.size,fun q hq=>B.block q (Nat.lt_of_lt_of_le hq hn1.size)⟩,Nat.le_trans hD1 (Nat.le_add_right _ _)⟩
set_option maxHeartbeats 4000000 in
set_option maxRecDepth 100000 in
theorem Tryz.text180z (ao:Option Addr) (c:Nat) (tm:Int) (w:World) (ht : -9223372036854775808<=tm/\tm<=9223372036854775807)
  (htab : Lib.TabIs Tryz.prog w "internal/strconv.uint64pow10" .u64 Lib.pow10Tab) :
  Calls Tryz.prog 180 #[.agg #[.slice ao 0 c,.int .i64 tm]] w fun e w'=>e = .returned (.string ⟨(Lib.itoa tm).toArray⟩)/\Below w.heap.size w w'/\w.drawn<=w'.drawn:=by
 have hT:=Lib.tabBelow_of_tabIs htab;have e144:∀ args w,(callFunc 144 args).run Tryz.prog w = .ok (.enter 144 args) w:=enters_of Tryz.func144 (by kernel_rfl) rfl
 go_enter Tryz.func180,Tryz.ntmps180
 go_wp2
 go_loopw [9] (fun i wr=>i = .int .i64 0/\Lib.IsBuilderF 224 5 (w.heap.size+1) (w.heap.size+1) (Lib.byteCells []) wr/\Below (w.heap.size+1) (w.alloc (.cells #[.slice ao 0 c,.int .i64 tm] 39 (0,0))) wr/\w.drawn<=wr.drawn) (fun i _=>0-(intOf i).toNat)
 case atStart=>
  have hwb:(w.alloc (.cells #[.slice ao 0 c,.int .i64 tm] 39 (0,0))).heap.size=w.heap.size+1:=by simp
  have e:=Lib.fresh_isBuilder 224 5 (w.alloc (.cells #[.slice ao 0 c,.int .i64 tm] 39 (0,0)));have e2:=(Below.refl (w.heap.size+1) (w.alloc (.cells #[.slice ao 0 c,.int .i64 tm] 39 (0,0)))).alloc (Nat.le_of_eq hwb.symm) (.cells #[.pointer none,.slice none 0 0] 224 (0,0));rw [hwb] at e;exact ⟨rfl,Lib.IsBuilderF.of e,e2,Nat.le_refl _⟩
 case round=>
  obtain ⟨rfl,hI,hnx,hdr⟩:=hrel;have hwb:(w.alloc (.cells #[.slice ao 0 c,.int .i64 tm] 39 (0,0))).heap.size=w.heap.size+1:=by simp
  have hb0:Below w.heap.size w (w.alloc (.cells #[.slice ao 0 c,.int .i64 tm] 39 (0,0))):=(Below.refl _ w).alloc (Nat.le_refl _) _;have hbox0:(w.alloc (.cells #[.slice ao 0 c,.int .i64 tm] 39 (0,0))).heap[w.heap.size]? = some (.cells #[.slice ao 0 c,.int .i64 tm] 39 (0,0)):=by
   show (w.heap.push _)[w.heap.size]? = _;exact Array.getElem?_push_size
  generalize w.alloc (.cells #[.slice ao 0 c,.int .i64 tm] 39 (0,0))=wb at hnx hwb hb0 hbox0 ⊢;have hbox:wr.heap[w.heap.size]? = some (.cells #[.slice ao 0 c,.int .i64 tm] 39 (0,0)):=(hnx.block _ (by omega)).trans hbox0;have hnw:Below w.heap.size w wr:=hb0.trans ⟨hnx.os,hnx.tape,hnx.output,hnx.size,fun q hq=>hnx.block q (by omega)⟩;have hs00:=hnx.size;have hil:=Lib.itoa_length_le tm ht.1 ht.2;have e2:=bsize (Lib.itoa tm);have hbb:(⟨([]:List UInt8).toArray⟩:ByteArray).size+(⟨(Lib.itoa tm).toArray⟩:ByteArray).size<=maxLen:=by rw [e2,bsize];simp only [List.length_nil];unfold maxLen;omega
  have hn0:Below w.heap.size w wr.drew:=hnw.trans (Below.drew (Below.refl _ wr));have hbox1:wr.drew.cell? ⟨w.heap.size,1,none⟩=some (.int .i64 tm):=by
   have:wr.drew.heap[w.heap.size]? = some (.cells #[.slice ao 0 c,.int .i64 tm] 39 (0,0)):=hbox;rw [Lib.cell_of_heap this];rfl
  have hD:w.drawn<=wr.drew.drawn:=Nat.le_succ_of_le hdr;have hS:=Tryz.String_k (w.heap.size+1) (w.heap.size+1) [] wr.drew (IsBuilderF.belowT hI (Below.drew (Below.refl _ wr))) (by show w.heap.size+1<=wr.heap.size;omega);have eb:=bappT [] (Lib.itoa tm);rw [List.nil_append] at eb;replace eb:=Lib.hid eb
  go_wp2
  go_region_with (first
   | (go_at_call 146;refine hS.mono ?_;rintro e W1 ⟨rfl,_,b1,d1⟩;have hbx:W1.cell? ⟨w.heap.size,1,none⟩=some (.int .i64 tm):=(b1.cell (p:=⟨w.heap.size,1,none⟩) (Nat.lt_succ_self _)).trans hbox1;have hn1:Below w.heap.size w W1:=hn0.trans ⟨b1.os,b1.tape,b1.output,b1.size,fun q hq=>b1.block q (Nat.lt_succ_of_lt hq)⟩;have hTT:=(hT.on hn1).here;have hD1:=Nat.le_trans hD d1)
   | (go_at_call 144;refine (Tryz.strconv_Itoa tm ht.1 ht.2 _ hTT).mono ?_;rintro e W2 ⟨rfl,k1,os,rfl⟩))
  all_goals
   go_wp2
   go_ret
   have B:=below_growT W1 k1 os;exact ⟨congrArg (fun s=>Ending.returned (.string s)) eb.out,hn1.trans ⟨B.os,B.tape,B.output,B.size,fun q hq=>B.block q (Nat.lt_of_lt_of_le hq hn1.size)⟩,Nat.le_trans hD1 (Nat.le_add_right _ _)⟩
end Go.Proofs
namespace Go.Kz
open Go.Proofs
def ZT (o:List Int×(Int×Unit)):List UInt8:=(o.1.flatMap fun n=>gQ n++[44])++gQ o.2.1
theorem Br {o:List Int×(Int×Unit)} (h:∀ x∈o.1,-9223372036854775808<=x/\x<=9223372036854775807) (h2 : -9223372036854775808<=o.2.1/\o.2.1<=9223372036854775807):ZT o=wF o.1++Lib.itoa o.2.1:=by
 obtain ⟨l,t,u⟩:=o;simp only [ZT];rw [X0 h2.1 h2.2];congr 1;clear h2
 induction l with
 | nil=>rfl
 | cons x l ih=>
  have hx:=h x (by simp);have:=ih fun y hy=>h y (List.mem_cons_of_mem _ hy)
  simp only [wF,List.flatMap_cons] at this ⊢;rw [this,X0 hx.1 hx.2]
def Df (o:List Int×(Int×Unit)):Option (List UInt8):=qR (decide (o.1.length<=room)) (some (ZT o))
theorem On {l:List Int} {t:Int} (hl:l.length<=room) (hr:∀ x∈l,-9223372036854775808<=x/\x<=9223372036854775807) (ht : -9223372036854775808<=t/\t<=9223372036854775807):(wF l++Lib.itoa t).length<=maxLen:=by
 have:=len_sum (f:=fun n=>Lib.itoa n++[44]) (m:=22) l fun x hx=>by
  have h:=hr x hx;have:=Lib.itoa_length_le x h.1 h.2;simp;omega
 have h2:=Lib.itoa_length_le t ht.1 ht.2;simp only [room] at hl;simp only [wF,maxLen,List.length_append];omega
theorem Hj:qD Tryz.prog 180 (.pure (.pr (.val (.pair (.sl false (.int .i64)) (.pair (.int .i64) .unit))) .un) [.str] fun d=>Df d.1):=by
 intro w g d vals r htag hkn hargs hF;obtain ⟨⟨l,t,⟨⟩⟩,⟨⟩⟩:=d
 match vals,hargs with
 | [v],hargs=>
  obtain ⟨_,⟨cs,⟨c1,c2,rfl,hR1,c3,c4,rfl,⟨rfl,ht1,ht2⟩,hR3⟩,rfl⟩,_⟩:=hargs;have:c4=[]:=hR3;subst this;simp only [Df] at hF;obtain ⟨hc,hF⟩:=qC hF;simp only [Option.some.injEq] at hF;subst hF;have hl:l.length<=room:=of_decide_eq_true hc;have ht : -9223372036854775808<=t/\t<=9223372036854775807:=⟨ht1,ht2⟩;left;refine ⟨enters_of Tryz.func180 (by kernel_rfl) rfl _ _,?_⟩;obtain ⟨a,cap,rfl,_,_,_⟩:=id hR1;rcases U1 (v:=.slice a l.length cap) ⟨[.slice a l.length cap],hR1,rfl⟩ with ⟨hn,a',c',hv⟩ | ⟨b,off,c',hv,hb,hcell,hr⟩
  ·subst hn;refine (Tryz.text180z a cap t w ht (Rl hkn)).mono ?_;rintro e w' ⟨rfl,hbw,hdw⟩;have hx:=J9 htag hbw hdw;refine ⟨_,rfl,g,hx,?_⟩;have e0:ZT ([],t,())=Lib.itoa t:=(Br (by simp) ht).trans rfl;rw [e0];exact P6 (fun b hb=>Nat.lt_of_lt_of_le (htag b hb).2 hx.size) (by have:=Lib.itoa_length_le t ht.1 ht.2;simp only [maxLen];omega)
  ·simp only [Value.slice.injEq] at hv;obtain ⟨rfl,_,rfl⟩:=hv;refine (Tryz.text180 b off l.length cap t l w rfl hl hb hcell hr ht (Rl hkn)).mono ?_;rintro e w' ⟨rfl,hbw,hdw⟩;have hx:=J9 htag hbw hdw;refine ⟨_,rfl,g,hx,?_⟩;rw [Br (o:=(l,t,())) hr ht];exact P6 (fun b hb=>Nat.lt_of_lt_of_le (htag b hb).2 hx.size) (On hl hr ht)
end Go.Kz
