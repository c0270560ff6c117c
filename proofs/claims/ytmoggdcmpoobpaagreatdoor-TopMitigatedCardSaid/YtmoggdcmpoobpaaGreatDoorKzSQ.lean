/-
  The functions that spell numbers: what they give, for every list of numbers.
-/
import Derived.Test.YtmoggdcmpoobpaaGreatDoorKzSP
import Derived.Lib.AppendIntMem
import Derived.Lib.ItoaLen
set_option linter.unusedSimpArgs false
namespace Go.Kz
def jQ(l:List Int):List UInt8:=l.flatMap λn=>Lib.itoa n++[32]
end Go.Kz
namespace Go.Proofs
open Go.Shelf Go.RowKit Go.Kz
set_option linter.unusedVariables false
theorem BuilderAtF.belowT{T e:TypeId}{B b:Nat}{p:Value}{bs:List Value}{W W':World}(h:Lib.BuilderAtF T e B b p bs W)(hb:Below W.heap.size W W'):Lib.BuilderAtF T e B b p bs W':=by
 have hlt:=h.lt;obtain⟨hB,v,hv,hown,hne⟩:=h;exact⟨hB,v,(hb.block b hlt).trans hv,hown.kept (row:=none) ⟨hb.os,hb.tape,hb.output,hb.size,λk hk _=>hb.block k hk⟩ (Classical.em _),hne⟩
theorem IsBuilderF.belowT{T e:TypeId}{B b:Nat}{bs:List Value}{W W':World}(h:Lib.IsBuilderF T e B b bs W)(hb:Below W.heap.size W W'):Lib.IsBuilderF T e B b bs W':=
 h.elim (λx=>.inl (BuilderAtF.belowT x hb)) (λx=>.inr (BuilderAtF.belowT x hb))
theorem below_growT(w:World)(k:Nat)(os:Array Obj):Below w.heap.size w (Sort.grow (w.drewN k) os):=
 ⟨rfl,rfl,rfl,by simp[Sort.grow,World.drewN],λb hb=>by simp[Sort.grow,World.drewN,Array.getElem?_append,hb]⟩
theorem len_sum{f:Int->List UInt8}{m:Nat}:∀(l:List Int),(∀x∈l,(f x).length<=m)->(l.flatMap f).length<=m*l.length
 |[],_=>by simp
 |x::l,h=>by
  have h1:=h x (by simp);have h2:=len_sum l λy hy=>h y (by simp[hy])
  rw[List.flatMap_cons,List.length_append,List.length_cons,Nat.mul_add];omega
theorem take_snocT{zs:List Int}{k:Nat}(h:k<zs.length)(f:Int->List UInt8):(zs.take (k+1)).flatMap f=(zs.take k).flatMap f++f (zs.getD k 0):=by
 rw[List.take_succ_eq_append_getElem h,List.flatMap_append];simp[List.getD,List.getElem?_eq_getElem h]
theorem bsize(l:List UInt8):(⟨l.toArray⟩:ByteArray).size=l.length:=by simp[ByteArray.size]
set_option maxHeartbeats 4000000 in
set_option maxRecDepth 100000 in
theorem Tryz.spelled60(b off n c:Nat)(zs:List Int)(w:World)(hz:zs.length=n)(hn:n<=4294967296)(hbB:b<w.heap.size)
  (hc:∀j,j<n->w.cell? ⟨b,off+j,none⟩=some (.int .i64 (zs.getD j 0))) (hr:∀x∈zs,-9223372036854775808<=x/\x<=9223372036854775807)
  (htab:Lib.TabIs Tryz.prog w "internal/strconv.uint64pow10" .u64 Lib.pow10Tab) :
  Calls Tryz.prog 60 #[.slice (some ⟨b,off,none⟩) n c] w λe w'=>e=.returned (.string ⟨(jQ zs).toArray⟩)/\Below w.heap.size w w'/\w.drawn<=w'.drawn:=by
 have hT:=Lib.tabBelow_of_tabIs htab;have e144:∀args w,(callFunc 144 args).run Tryz.prog w=.ok (.enter 144 args) w:=enters_of Tryz.func144 (by kernel_rfl) rfl
 go_enter Tryz.func60,Tryz.ntmps60
 go_wp2
 go_loopw [8] (λi wr=>∃k,k<=n/\i=.int .i64 (k:Nat)/\Lib.IsBuilderF 224 5 w.heap.size w.heap.size (Lib.byteCells (jQ (zs.take k))) wr/\Below w.heap.size w wr/\w.drawn<=wr.drawn) (λi _=>n-(intOf i).toNat)
 case atStart=>
  exact⟨0,Nat.zero_le _,rfl,Lib.IsBuilderF.of (Lib.fresh_isBuilder 224 5 w),(Below.refl _ w).alloc (Nat.le_refl _) _,Nat.le_refl _⟩
 case round=>
  obtain⟨k,hk,rfl,hI,hnx,hdr⟩:=hrel;have hcx:k<n->wr.cell? ⟨b,off+k,none⟩=some (.int .i64 (zs.getD k 0)):=λh=>(hnx.cell (by exact hbB)).trans (hc k h)
  have hT2:=hT.on hnx;clear hc;have hlen:(jQ (zs.take k)).length<=22*n:=by
   have:=len_sum (f:=λn=>Lib.itoa n++[32]) (m:=22) (zs.take k) λx hx=>by
    have:=hr x (List.mem_of_mem_take hx);have:=Lib.itoa_length_le x this.1 this.2;simp;omega
   simp only[List.length_take]at this;simp only[jQ];omega
  by_cases hlt:k<n
  ·have hcell:=hcx hlt;have hmem:zs.getD k 0∈zs:=by
    rw[List.getD_eq_getElem?_getD,List.getElem?_eq_getElem (by omega)];exact List.getElem_mem _
   have hrx:=hr _ hmem;have hil:=Lib.itoa_length_le _ hrx.1 hrx.2;have hsn:=take_snocT (f:=λn=>Lib.itoa n++[32]) (zs:=zs) (k:=k) (by omega);generalize zs.getD k 0=x at hcell hrx hil hsn;replace hsn:=Lib.hid hsn;clear hcx hmem
   go_wp2_with (go_at_call 144;refine(Tryz.strconv_Itoa x hrx.1 hrx.2 _ hT2.here).mono ?_;rintro e W1 ⟨rfl,k1,os,rfl⟩;refine Hid.out ?_)
   refine Lib.hid ?_;have B1:=below_growT wr k1 os;have D1:wr.drawn<=(Sort.grow (wr.drewN k1) os).drawn:=Nat.le_add_right _ _;have hsz1:=B1.size;have hI1:=IsBuilderF.belowT hI B1;have hn1:Below w.heap.size w (Sort.grow (wr.drewN k1) os):=hnx.trans ⟨B1.os,B1.tape,B1.output,B1.size,λq hq=>B1.block q (by have:=hnx.size;omega)⟩;have hs0:=hnx.size;generalize Sort.grow (wr.drewN k1) os=W1 at B1 hsz1 hI1 hn1 D1⊢
   go_wp2_with (go_at_call 143;refine(Tryz.WriteString_k w.heap.size w.heap.size _ ⟨(Lib.itoa x).toArray⟩ _ hI1 (by rw[Lib.byteCells_length,bsize];omega) (by omega)).mono ?_;rintro e W2 ⟨rfl,h2,b2,d2⟩;refine Hid.out ?_)
   refine Lib.hid ?_;have hs2:=b2.size;have hn2:=hn1.trans b2;have h2':Lib.IsBuilderF 224 5 w.heap.size w.heap.size (Lib.byteCells (jQ (zs.take k)++Lib.itoa x)) W2:=by rw[Lib.byteCells_append];exact .inr h2
   go_wp2_with (go_at_call 145;refine(Tryz.WriteByte_k w.heap.size w.heap.size _ 32 _ h2' (by rw[Lib.byteCells_length,List.length_append];omega) (by omega)).mono ?_;rintro e W3 ⟨rfl,h3,b3,d3⟩;refine Hid.out ?_)
   refine Lib.hid ?_;have hn3:=hn2.trans b3;have hd3:w.drawn<=W3.drawn:=by omega
   have h3':Lib.IsBuilderF 224 5 w.heap.size w.heap.size (Lib.byteCells (jQ (zs.take (k+1)))) W3:=by
    have e:jQ (zs.take (k+1))=(jQ (zs.take k)++Lib.itoa x)++[32]:=by
     have:=hsn.out;simp only[jQ]at this⊢;rw[this,List.append_assoc]
    rw[e,Lib.byteCells_append];exact .inr h3
   clear hsn
   go_wp2
   go_roundw
   case rel=>exact⟨k+1,by omega,by simp,h3',hn3,hd3⟩
   case measure=>simp[intOf];omega
  ·have hkn:k=n:=by omega
   subst hkn;rw[List.take_of_length_le (by omega)]at hI;have hs0:=hnx.size;clear hcx hlen
   go_wp2_with (go_at_call 146;refine(Tryz.String_k w.heap.size w.heap.size (jQ zs) _ hI (by omega)).mono ?_;rintro e W1 ⟨rfl,_,b1,d1⟩;refine Hid.out ?_)
   refine Lib.hid ?_;have hn1:=hnx.trans b1
   go_wp2
   go_ret
   exact⟨rfl,hn1,by omega⟩
set_option maxHeartbeats 4000000 in
set_option maxRecDepth 100000 in
theorem Tryz.spelled60z(a:Option Addr)(c:Nat)(w:World):
  Calls Tryz.prog 60 #[.slice a 0 c] w λe w'=>e=.returned (.string ⟨#[]⟩)/\Below w.heap.size w w'/\w.drawn<=w'.drawn:=by
 go_enter Tryz.func60,Tryz.ntmps60
 go_wp2
 go_loopw [8] (λi wr=>i=.int .i64 0/\Lib.IsBuilderF 224 5 w.heap.size w.heap.size (Lib.byteCells []) wr/\Below w.heap.size w wr/\w.drawn<=wr.drawn) (λi _=>0-(intOf i).toNat)
 case atStart=>
  exact⟨rfl,Lib.IsBuilderF.of (Lib.fresh_isBuilder 224 5 w),(Below.refl _ w).alloc (Nat.le_refl _) _,Nat.le_refl _⟩
 case round=>
  obtain⟨rfl,hI,hnx,hdr⟩:=hrel;have hs0:=hnx.size
  go_wp2_with (go_at_call 146;refine(Tryz.String_k w.heap.size w.heap.size [] _ hI (by omega)).mono ?_;rintro e W1 ⟨rfl,_,b1,d1⟩;refine Hid.out ?_)
  refine Lib.hid ?_;have hn1:=hnx.trans b1
  go_wp2
  go_ret
  exact⟨rfl,hn1,by omega⟩
end Go.Proofs
