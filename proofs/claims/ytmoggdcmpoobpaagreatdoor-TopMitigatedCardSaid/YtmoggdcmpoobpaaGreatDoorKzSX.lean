/-
  The function that spells an observation for its comparison: what it gives, for every observation.
-/
import Derived.Test.YtmoggdcmpoobpaaGreatDoorKzSR
set_option linter.unusedSimpArgs false
namespace Go.Proofs
open Go.Shelf Go.RowKit Go.Kz
set_option linter.unusedVariables false
set_option maxHeartbeats 4000000 in
set_option maxRecDepth 100000 in
theorem Tryz.text213(a:Option Addr)(n c:Nat)(tm:Int)(zs:List Int)(w:World)(hz:zs.length=n)(hn:n<=4294967296)
  (hc:∀j,j<n->∃b off,a=some ⟨b,off,none⟩/\b<w.heap.size/\w.cell? ⟨b,off+j,none⟩=some (.int .i64 (zs.getD j 0))) (hr:∀x∈zs,-9223372036854775808<=x/\x<=9223372036854775807) (ht : -9223372036854775808<=tm/\tm<=9223372036854775807)
  (htab:Lib.TabIs Tryz.prog w "internal/strconv.uint64pow10" .u64 Lib.pow10Tab) :
  Calls Tryz.prog 213 #[.agg #[.slice a n c,.int .i64 tm]] w λe w'=>e=.returned (.string ⟨(jQ zs++97::116::32::Lib.itoa tm).toArray⟩)/\Below w.heap.size w w'/\w.drawn<=w'.drawn:=by
 have hT:=Lib.tabBelow_of_tabIs htab;have e144:∀args w,(callFunc 144 args).run Tryz.prog w=.ok (.enter 144 args) w:=enters_of Tryz.func144 (by kernel_rfl) rfl
 go_enter Tryz.func213,Tryz.ntmps213
 go_wp2
 go_loopw [9] (λi wr=>∃k,k<=n/\i=.int .i64 (k:Nat)/\Lib.IsBuilderF 224 5 (w.heap.size+1) (w.heap.size+1) (Lib.byteCells (jQ (zs.take k))) wr/\Below (w.heap.size+1) (w.alloc (.cells #[.slice a n c,.int .i64 tm] 39 (0,0))) wr/\w.drawn<=wr.drawn) (λi _=>n-(intOf i).toNat)
 case atStart=>
  have hwb:(w.alloc (.cells #[.slice a n c,.int .i64 tm] 39 (0,0))).heap.size=w.heap.size+1:=by simp
  have e:=Lib.fresh_isBuilder 224 5 (w.alloc (.cells #[.slice a n c,.int .i64 tm] 39 (0,0)));have e2:=(Below.refl (w.heap.size+1) (w.alloc (.cells #[.slice a n c,.int .i64 tm] 39 (0,0)))).alloc (Nat.le_of_eq hwb.symm) (.cells #[.pointer none,.slice none 0 0] 224 (0,0));rw[hwb]at e;exact⟨0,Nat.zero_le _,rfl,Lib.IsBuilderF.of e,e2,Nat.le_refl _⟩
 case round=>
  obtain⟨k,hk,rfl,hI,hnx,hdr⟩:=hrel;have hwb:(w.alloc (.cells #[.slice a n c,.int .i64 tm] 39 (0,0))).heap.size=w.heap.size+1:=by simp
  have hb0:Below w.heap.size w (w.alloc (.cells #[.slice a n c,.int .i64 tm] 39 (0,0))):=(Below.refl _ w).alloc (Nat.le_refl _) _;have hbox0:(w.alloc (.cells #[.slice a n c,.int .i64 tm] 39 (0,0))).heap[w.heap.size]? = some (.cells #[.slice a n c,.int .i64 tm] 39 (0,0)):=by
   show(w.heap.push _)[w.heap.size]? = _;exact Array.getElem?_push_size
  generalize w.alloc (.cells #[.slice a n c,.int .i64 tm] 39 (0,0))=wb at hnx hwb hb0 hbox0⊢;have hbox:wr.heap[w.heap.size]? = some (.cells #[.slice a n c,.int .i64 tm] 39 (0,0)):=(hnx.block _ (by omega)).trans hbox0;have hnw:Below w.heap.size w wr:=hb0.trans ⟨hnx.os,hnx.tape,hnx.output,hnx.size,λq hq=>hnx.block q (by omega)⟩;have hT2:=hT.on hnw;have hs00:=hnx.size;have hlen:(jQ (zs.take k)).length<=22*n:=by
   have:=len_sum (f:=λn=>Lib.itoa n++[32]) (m:=22) (zs.take k) λx hx=>by
    have:=hr x (List.mem_of_mem_take hx);have:=Lib.itoa_length_le x this.1 this.2;simp;omega
   simp only[List.length_take]at this;simp only[jQ];omega
  by_cases hlt:k<n
  ·obtain⟨b,off,rfl,hbB,hcell0⟩:=hc k hlt;clear hc;have hcell:wr.cell? ⟨b,off+k,none⟩=some (.int .i64 (zs.getD k 0)):=(hnw.cell (by exact hbB)).trans hcell0;clear hcell0;have hmem:zs.getD k 0∈zs:=by
    rw[List.getD_eq_getElem?_getD,List.getElem?_eq_getElem (by omega)];exact List.getElem_mem _
   have hrx:=hr _ hmem;have hil:=Lib.itoa_length_le _ hrx.1 hrx.2;have hsn:=take_snocT (f:=λn=>Lib.itoa n++[32]) (zs:=zs) (k:=k) (by omega);generalize zs.getD k 0=x at hcell hrx hil hsn;replace hsn:=Lib.hid hsn;clear hmem
   go_wp2_with (go_at_call 144;refine(Tryz.strconv_Itoa x hrx.1 hrx.2 _ hT2.here).mono ?_;rintro e W1 ⟨rfl,k1,os,rfl⟩;refine Hid.out ?_)
   refine Lib.hid ?_;have B1:=below_growT wr k1 os;have D1:wr.drawn<=(Sort.grow (wr.drewN k1) os).drawn:=Nat.le_add_right _ _;have hsz1:=B1.size;have hI1:=IsBuilderF.belowT hI B1;have hn1:Below (w.heap.size+1) wb (Sort.grow (wr.drewN k1) os):=hnx.trans ⟨B1.os,B1.tape,B1.output,B1.size,λq hq=>B1.block q (by omega)⟩;generalize Sort.grow (wr.drewN k1) os=W1 at B1 hsz1 hI1 hn1 D1⊢;have hBw:w.heap.size+1<=W1.heap.size:=by omega
   have hWS:=Tryz.WriteString_k (w.heap.size+1) (w.heap.size+1) _ ⟨(Lib.itoa x).toArray⟩ _ hI1 (by rw[Lib.byteCells_length,bsize];omega) hBw
   go_wp2_with (go_at_call 143;refine hWS.mono ?_;rintro e W2 ⟨rfl,h2,b2,d2⟩;refine Hid.out ?_)
   refine Lib.hid ?_;have hs2:=b2.size;have hn2:=hn1.trans b2;have h2':Lib.IsBuilderF 224 5 (w.heap.size+1) (w.heap.size+1) (Lib.byteCells (jQ (zs.take k)++Lib.itoa x)) W2:=by rw[Lib.byteCells_append];exact .inr h2
   have hWB:=Tryz.WriteByte_k (w.heap.size+1) (w.heap.size+1) _ 32 _ h2' (by rw[Lib.byteCells_length,List.length_append];omega) (by omega)
   go_wp2_with (go_at_call 145;refine hWB.mono ?_;rintro e W3 ⟨rfl,h3,b3,d3⟩;refine Hid.out ?_)
   refine Lib.hid ?_;have hn3:=hn2.trans b3;have hd3:w.drawn<=W3.drawn:=by omega
   have h3':Lib.IsBuilderF 224 5 (w.heap.size+1) (w.heap.size+1) (Lib.byteCells (jQ (zs.take (k+1)))) W3:=by
    have e:jQ (zs.take (k+1))=(jQ (zs.take k)++Lib.itoa x)++[32]:=by
     have:=hsn.out;simp only[jQ]at this⊢;rw[this,List.append_assoc]
    rw[e,Lib.byteCells_append];exact .inr h3
   clear hsn
   go_wp2
   go_roundw
   case rel=>exact⟨k+1,by omega,by simp,h3',hn3,hd3⟩
   case measure=>simp[intOf];omega
  ·have hkn:k=n:=by omega
   subst hkn;clear hc;rw[List.take_of_length_le (by omega)]at hI hlen;have hil:=Lib.itoa_length_le tm ht.1 ht.2;have hbox1:wr.cell? ⟨w.heap.size,1,none⟩=some (.int .i64 tm):=by
    rw[Lib.cell_of_heap hbox];rfl
   have hWS:=Tryz.WriteString_k (w.heap.size+1) (w.heap.size+1) _ ⟨#[97,116,32]⟩ _ hI (by rw[Lib.byteCells_length];show _+3<=_;omega) (by omega)
   go_wp2_with (go_at_call 143;refine hWS.mono ?_;rintro e W1 ⟨rfl,h1,b1,d1⟩;refine Hid.out ?_)
   refine Lib.hid ?_;have hs1:=b1.size;have hn1:=hnx.trans b1;have hnw1:Below w.heap.size w W1:=hb0.trans ⟨hn1.os,hn1.tape,hn1.output,hn1.size,λq hq=>hn1.block q (by omega)⟩;have hbx1:W1.cell? ⟨w.heap.size,1,none⟩=some (.int .i64 tm):=(b1.cell (p:=⟨w.heap.size,1,none⟩) (Nat.lt_succ_self _)).trans hbox1;have hT3:=hT.on hnw1;have h1':Lib.IsBuilderF 224 5 (w.heap.size+1) (w.heap.size+1) (Lib.byteCells (jQ zs++[97,116,32])) W1:=by rw[Lib.byteCells_append];exact .inr h1
   go_wp2_with (go_at_call 144;refine(Tryz.strconv_Itoa tm ht.1 ht.2 _ hT3.here).mono ?_;rintro e W2 ⟨rfl,k1,os,rfl⟩;refine Hid.out ?_)
   refine Lib.hid ?_;have B1:=below_growT W1 k1 os;have D1:W1.drawn<=(Sort.grow (W1.drewN k1) os).drawn:=Nat.le_add_right _ _;have hsz1:=B1.size;have hI1:=IsBuilderF.belowT h1' B1;have hn2:Below (w.heap.size+1) wb (Sort.grow (W1.drewN k1) os):=hn1.trans ⟨B1.os,B1.tape,B1.output,B1.size,λq hq=>B1.block q (by omega)⟩;generalize Sort.grow (W1.drewN k1) os=W2 at B1 hsz1 hI1 hn2 D1⊢;have hWS2:=Tryz.WriteString_k (w.heap.size+1) (w.heap.size+1) _ ⟨(Lib.itoa tm).toArray⟩ _ hI1 (by rw[Lib.byteCells_length,bsize,List.length_append];show _+3+_<=_;omega) (by omega)
   go_wp2_with (go_at_call 143;refine hWS2.mono ?_;rintro e W3 ⟨rfl,h3,b3,d3⟩;refine Hid.out ?_)
   refine Lib.hid ?_;have hs3:=b3.size;have hn3:=hn2.trans b3;have h3':Lib.IsBuilderF 224 5 (w.heap.size+1) (w.heap.size+1) (Lib.byteCells (jQ zs++97::116::32::Lib.itoa tm)) W3:=by rw[show jQ zs++97::116::32::Lib.itoa tm=(jQ zs++[97,116,32])++Lib.itoa tm by simp,Lib.byteCells_append];exact .inr h3
   go_wp2_with (go_at_call 146;refine(Tryz.String_k (w.heap.size+1) (w.heap.size+1) (jQ zs++97::116::32::Lib.itoa tm) _ h3' (by omega)).mono ?_;rintro e W4 ⟨rfl,_,b4,d4⟩;refine Hid.out ?_)
   refine Lib.hid ?_;have hn4:=hn3.trans b4
   go_wp2
   go_ret
   exact⟨rfl,hb0.trans ⟨hn4.os,hn4.tape,hn4.output,hn4.size,λq hq=>hn4.block q (by omega)⟩,by omega⟩
end Go.Proofs
namespace Go.Kz
open Go.Proofs
def u7(o:List Int×(Int×Unit)):List UInt8:=xr o.1++97::116::32::YI o.2.1
def LY(o:List Int×(Int×Unit)):Option (List UInt8):=zo (decide (o.1.length<=room)) (some (u7 o))
theorem FF:qL Tryz.prog 213 (.pure (.pr (.val (.pair (.sl false (.int .i64)) (.pair (.int .i64) .unit))) .un) [.str] λd=>LY d.1):=by
 intro w g d vals r htag hkn hargs hF;obtain⟨⟨l,t,⟨⟩⟩,⟨⟩⟩:=d
 match vals,hargs with
 |[v],hargs=>
  obtain⟨_,⟨cs,⟨c1,c2,rfl,hR1,c3,c4,rfl,⟨rfl,ht1,ht2⟩,hR3⟩,rfl⟩,_⟩:=hargs;have:c4=[]:=hR3;subst this;simp only[LY]at hF;obtain⟨hc,hF⟩:=qB hF;simp only[Option.some.injEq]at hF;subst hF;have hl:l.length<=room:=of_decide_eq_true hc;have ht : -9223372036854775808<=t/\t<=9223372036854775807:=⟨ht1,ht2⟩;left;refine⟨enters_of Tryz.func213 (by kernel_rfl) rfl _ _,?_⟩;obtain⟨a,cap,rfl,_,_,_⟩:=id hR1;have key:(∀j,j<l.length->∃b off,a=some ⟨b,off,none⟩/\b<w.heap.size/\w.cell? ⟨b,off+j,none⟩=some (.int .i64 (l.getD j 0)))/\∀x∈l,-9223372036854775808<=x/\x<=9223372036854775807:=by
   rcases Xp (v:=.slice a l.length cap) ⟨[.slice a l.length cap],hR1,rfl⟩ with⟨hn,_⟩|⟨b,off,c',hv,hb,hcell,hr⟩
   ·subst hn;exact⟨λj hj=>by simp at hj,by simp⟩
   ·simp only[Value.slice.injEq]at hv;exact⟨λj hj=>⟨b,off,hv.1,hb,hcell j hj⟩,hr⟩
  refine(Tryz.text213 a l.length cap t l w rfl hl key.1 key.2 ht (zel hkn)).mono ?_;rintro e w' ⟨rfl,hbw,hdw⟩;have hx:=P0 htag hbw hdw;refine⟨_,rfl,g,hx,?_⟩;have e:u7 (l,t,())=jQ l++97::116::32::Lib.itoa t:=by simp only[u7,GK key.2,HD ht.1 ht.2]
  rw[e];refine Di (λb hb=>Nat.lt_of_lt_of_le (htag b hb).2 hx.size) ?_;have h1:(jQ l).length<=22*l.length:=len_sum (f:=λn=>Lib.itoa n++[32]) l λx hx=>by
   have h:=key.2 x hx;have:=Lib.itoa_length_le x h.1 h.2;simp;omega
  have h2:=Lib.itoa_length_le t ht.1 ht.2;simp only[room]at hl;simp only[maxLen,List.length_append,List.length_cons];omega
end Go.Kz
