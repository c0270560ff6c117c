/-
  Branches and Part: plain laws; the law on sets.
-/
import Derived.Test.YtoccnkcnkcngjaaDoorKzN3
set_option linter.unusedVariables false
set_option linter.unusedSimpArgs false
namespace Go.Kz
theorem nubA_snoc (acc:List Int):(l:List Int)→(x:Int)→nubA acc (l++[x])=if x∈nubA acc l then nubA acc l else nubA acc l++[x]
 | [],x=>by by_cases h:x∈acc <;> simp [nubA,h]
 | y :: l,x=>by
  simp only [List.cons_append,nubA]
  split <;> exact nubA_snoc _ l x
theorem nubA_nodup:(acc l:List Int)→acc.Nodup→(nubA acc l).Nodup
 | acc,[],h=>h
 | acc,x :: l,h=>by
  simp only [nubA]
  split
  ·exact nubA_nodup acc l h
  ·rename_i hx
   refine nubA_nodup _ l ?_
   rw [List.nodup_append]
   refine ⟨h,by simp,?_⟩
   intro a ha b hb he
   simp only [List.mem_singleton] at hb
   subst hb;subst he
   exact hx ha
def mapT (l:List Int):List (Int×Bool):=l.map fun x=>(x,true)
theorem mput_mapT (x:Int):(l:List Int)→mput (keyEq (.int .i64)) (mapT l) x true=mapT (if x∈l then l else l++[x])
 | []=>by simp [mapT,mput]
 | y :: l=>by
  have ih:=mput_mapT x l
  simp only [mapT,List.map_cons,mput,keyEq] at ih ⊢
  by_cases h:x=y
  ·subst h;simp
  ·simp only [d_false h,cond_false,ih,List.mem_cons,h,false_or]
   split <;> simp
def clsOf (p:List Int) (r:List Nat):List Int:=r.map fun i=>p.getD i 0
def mem (m:Nat) (W:List Nat):List Nat:=(List.range m).filter (hasB W)
theorem mem_lt {m:Nat} {W:List Nat} {i:Nat} (h:i∈mem m W):i < m:=by
 simp only [mem,List.mem_filter,List.mem_range] at h;exact h.1
theorem mem_len (m:Nat) (W:List Nat):(mem m W).length≤m:=by
 have:=List.length_filter_le (hasB W) (List.range m)
 simpa [mem] using this
theorem f6_eq (N:Nat) (hN:100≤N) (p:List Int) (n:Int) (W:List Nat) (hw:∀ x∈W,x < 2 ^ 64) (hp:p.length≤64) :
  f6 N p (n,(castL W,()))=some (if codeS p n W=0 then (((nubA [] (clsOf p (mem p.length W))).length:Nat):Int) else 0,codeS p n W):=by
 unfold f6
 rw [f19_eq N p n W (by omega) (by omega)]
 simp only [Option.bind_some]
 by_cases hc:codeS p n W=0
 ·obtain ⟨h1,h2,h3,h4⟩:=codeS_zero hc
  rw [hc]
  simp only [decide_true,Bool.not_true,cond_false,if_true]
  rw [f20_eq N hN n W hw,h2]
  simp only [if_true,Option.bind_some]
  rw [mems_ok h4]
  show iter (fun w=>f6_L6 N p (len (castL (mem p.length W))) (castL (mem p.length W)) w _) N (0,[])=_
  have hml:=mem_len p.length W
  refine iter_for (fun k s=>s=mapT (nubA [] (clsOf p ((mem p.length W).take k)))) (mem p.length W).length ?_ ?_ N (by omega) [] (by simp [clsOf,nubA,mapT])
  ·intro k s w hk hs hw'
   subst hs
   have hk':k < (castL (mem p.length W)).length:=by simpa [castL] using hk
   simp only [f6_L6]
   rw [dlt_len hk',cond_true,chk_true (inb_lt hk'),idx_lt hk']
   simp only [Option.bind_some,castL,List.getElem_map]
   have hi:=mem_lt (List.getElem_mem hk)
   rw [idx_lt hi]
   simp only [Option.bind_some]
   rw [wi64_nat (by omega),mput_mapT]
   apply hw'
   rw [take_succ hk]
   simp only [clsOf,List.map_append,List.map_cons,List.map_nil]
   rw [nubA_snoc]
   rw [List.getD_eq_getElem?_getD,List.getElem?_eq_getElem hi]
   rfl
  ·intro s w hs
   subst hs
   simp only [f6_L6]
   have:=dnlt_len (castL (mem p.length W))
   rw [castL_len] at this
   rw [this,cond_false,List.take_length]
   have hb:=nubA_length [] (clsOf p (mem p.length W))
   have e2:(mapT (nubA [] (clsOf p (mem p.length W)))).length=(nubA [] (clsOf p (mem p.length W))).length:=by simp [mapT]
   have e3:(clsOf p (mem p.length W)).length=(mem p.length W).length:=by simp [clsOf]
   simp only [List.length_nil,Nat.zero_add] at hb
   rw [chk_room (by omega)]
   simp only [len,e2]
 ·rw [if_neg hc]
  simp [d_false hc]
def brs (p:List Int) (W:List Nat) (c:Nat):Bool:=(List.range p.length).any fun i=>decide (p.getD i 0=(c:Int)) && hasB W i
theorem range_nodup (n:Nat):(List.range n).Nodup:=List.nodup_range
theorem count_eq {p:List Int} {W:List Nat} (h:okP p=true):(nubA [] (clsOf p (mem p.length W))).length=((List.range (top 0 p).toNat).filter (brs p W)).length:=by
 obtain ⟨b1,b2,b3⟩:=top_bound h
 have e:(((List.range (top 0 p).toNat).filter (brs p W)).map fun (c:Nat)=>(c:Int)).length=((List.range (top 0 p).toNat).filter (brs p W)).length:=by simp
 rw [←e]
 apply List.Perm.length_eq
 rw [List.perm_ext_iff_of_nodup (nubA_nodup [] _ (by simp))]
 ·intro x
  rw [nubA_mem]
  simp only [List.not_mem_nil,false_or,List.mem_map,List.mem_filter,List.mem_range,clsOf,mem,brs,List.any_eq_true,Bool.and_eq_true,decide_eq_true_eq]
  constructor
  ·rintro ⟨i,⟨hi,hb⟩,rfl⟩
   have hg:p.getD i 0=p[i]:=by rw [List.getD_eq_getElem?_getD,List.getElem?_eq_getElem hi];rfl
   obtain ⟨c1,c2⟩:=b3 p[i] (List.getElem_mem hi)
   refine ⟨p[i].toNat,⟨by omega,i,hi,by rw [hg];omega,hb⟩,by rw [hg];omega⟩
  ·rintro ⟨c,⟨hc,i,hi,he,hb⟩,rfl⟩
   exact ⟨i,⟨hi,hb⟩,he⟩
 ·rw [List.Nodup,List.pairwise_map]
  refine List.Pairwise.imp (fun {a b} h he=>h (by omega)) (List.Pairwise.filter _ (range_nodup _))
def stepW (o:List Int) (i:Nat):List Int:=
 o.set (i / 64) (wu64 (((((BitVec.ofInt 64 (o.getD (i / 64) 0)).or (BitVec.ofInt 64 (Go.IntKind.u64.wrap (Int.mul 1 (Int.pow 2 (min (Int.tmod (i:Int) 64).toNat 64)))))).toNat):Nat):Int))
theorem stepW_len (o:List Int) (i:Nat):(stepW o i).length=o.length:=by simp [stepW]
theorem foldW_len (l:List Nat):∀ o:List Int,(l.foldl stepW o).length=o.length:=by
 induction l with
 | nil=>intro o;rfl
 | cons i l ih=>intro o;rw [List.foldl_cons,ih,stepW_len]
theorem f32_eq (N m:Nat) (h:m≤4096):f32 N (m:Int)=some (((m:Int),(List.replicate ((m+63) / 64) 0,())),0):=by
 unfold f32
 rw [d_false (show ¬ (m:Int) < 0 by omega),cond_false,d_false (show ¬ 4096 < (m:Int) by omega)]
 simp only [Option.bind_some,cond_false]
 rw [f33_eq N m h]
 simp only [Option.bind_some]
 have hrm:((room:Nat):Int)=4294967296:=rfl
 rw [chk_true]
 ·rw [Int.toNat_natCast]
 ·simp only [Bool.and_eq_true,decide_eq_true_eq,hrm];omega
theorem f23_eq (N:Nat) (hN:100≤N) (m:Nat) (hm:m≤64) (r:List Nat) (hr:∀ i∈r,i < m) (hl:r.length≤64) :
  f23 N (m:Int) (castL r)=some (((m:Int),(r.foldl stepW (List.replicate ((m+63) / 64) 0),())),0):=by
 unfold f23
 rw [f32_eq N m (by omega)]
 simp only [Option.bind_some,decide_true,Bool.not_true,cond_false]
 refine iter_for (fun k s=>s=(r.take k).foldl stepW (List.replicate ((m+63) / 64) 0)) r.length ?_ ?_ N (by omega) _ rfl
 ·intro k s w hk hs hw'
  subst hs
  have hk':k < (castL r).length:=by simpa [castL] using hk
  simp only [f23_L5]
  rw [dlt_len hk',cond_true,idx_lt hk']
  simp only [Option.bind_some,castL,List.getElem_map]
  have hi:=hr _ (List.getElem_mem hk)
  rw [d_false (show ¬ ((r[k]:Nat):Int) < 0 by omega),cond_false,d_false (show ¬ (m:Int)≤((r[k]:Nat):Int) by omega)]
  simp only [Option.bind_some,cond_false]
  generalize hs:(r.take k).foldl stepW (List.replicate ((m+63) / 64) 0)=s
  have hsl:s.length=(m+63) / 64:=by rw [←hs,foldW_len];simp
  have hin:r[k] / 64 < s.length:=by omega
  rw [tdiv_nat,wi64_of (n:=((r[k] / 64:Nat):Int)) (by omega) (by omega),chk_true (inb_lt hin),idx_lt hin]
  simp only [Option.bind_some]
  have e3:decide (Int.tmod ((r[k]:Nat):Int) 64 < 0)=false:=by rw [tmod_nat,decide_eq_false_iff_not];omega
  rw [e3,cond_false,chk_true (inb_lt hin),wi64_nat (by omega)]
  apply hw'
  rw [take_succ hk,List.foldl_append,hs]
  simp only [List.foldl_cons,List.foldl_nil,stepW,setI_nat,List.getD_eq_getElem?_getD,List.getElem?_eq_getElem hin,Option.getD_some]
 ·intro s w hs
  subst hs
  simp only [f23_L5]
  have:=dnlt_len (castL r)
  rw [castL_len] at this
  rw [this,cond_false,List.take_length]
def partL (p:List Int) (W:List Nat) (c:Int):List Nat:=(List.range p.length).filter fun i=>hasB W i && decide (p.getD i 0=c)
theorem partL_lt {p:List Int} {W:List Nat} {c:Int} {i:Nat} (h:i∈partL p W c):i < p.length:=by
 simp only [partL,List.mem_filter,List.mem_range] at h;exact h.1
theorem partL_len (p:List Int) (W:List Nat) (c:Int):(partL p W c).length≤p.length:=by
 have:=List.length_filter_le (fun i=>hasB W i && decide (p.getD i 0=c)) (List.range p.length)
 simpa [partL] using this
theorem partL_eq (p:List Int) (W:List Nat) (c:Int):(mem p.length W).filter (fun i=>decide (p.getD i 0=c))=partL p W c:=by
 simp only [mem,partL,List.filter_filter]
 apply List.filter_congr
 intro i _
 rw [Bool.and_comm]
def partR (p:List Int) (n:Int) (W:List Nat) (c:Int):(Int×(List Int×Unit))×Int:=
 if codeS p n W=0 then (if c < 0∨top 0 p≤c then ((0,([],())),3) else ((n,((partL p W c).foldl stepW (List.replicate W.length 0),())),0)) else ((0,([],())),codeS p n W)
theorem f8_eq (N:Nat) (hN:100≤N) (p:List Int) (n:Int) (W:List Nat) (c:Int) (hw:∀ x∈W,x < 2 ^ 64) (hp:p.length≤64):f8 N p (n,(castL W,())) c=some (partR p n W c):=by
 unfold f8 partR
 rw [f19_eq N p n W (by omega) (by omega)]
 simp only [Option.bind_some]
 by_cases hc:codeS p n W=0
 ·obtain ⟨h1,h2,h3,h4⟩:=codeS_zero hc
  rw [hc]
  simp only [decide_true,Bool.not_true,cond_false,if_true]
  rw [f17_eq N p (by omega) (by omega),h1]
  simp only [if_true,Option.bind_some]
  by_cases hr:c < 0∨top 0 p≤c
  ·rw [if_pos hr]
   rcases hr with hr | hr
   ·simp [hr]
   ·by_cases h0:c < 0
    ·simp [h0]
    ·simp [h0,hr]
  ·rw [if_neg hr]
   have r1:¬ c < 0:=fun h=>hr (.inl h)
   have r2:¬ top 0 p≤c:=fun h=>hr (.inr h)
   simp only [d_false r1,d_false r2,cond_false,Option.bind_some]
   rw [f20_eq N hN n W hw,h2]
   simp only [if_true,Option.bind_some]
   rw [mems_ok h4]
   show iter (fun w=>f8_L8 N c p (len (castL (mem p.length W))) (castL (mem p.length W)) 0 _ w _) N (0,[])=_
   have hml:=mem_len p.length W
   refine iter_for (fun k s=>s=castL (((mem p.length W).take k).filter fun i=>decide (p.getD i 0=c))) (mem p.length W).length ?_ ?_ N (by omega) [] (by simp)
   ·intro k s w hk hs hw'
    subst hs
    have hk':k < (castL (mem p.length W)).length:=by simpa [castL] using hk
    simp only [f8_L8]
    rw [dlt_len hk',cond_true,chk_true (inb_lt hk'),idx_lt hk']
    simp only [Option.bind_some,castL,List.getElem_map]
    have hi:=mem_lt (List.getElem_mem hk)
    rw [idx_lt hi]
    simp only [Option.bind_some]
    have hg:p.getD (mem p.length W)[k] 0=p[(mem p.length W)[k]]:=by rw [List.getD_eq_getElem?_getD,List.getElem?_eq_getElem hi];rfl
    have hfl:=List.length_filter_le (fun i=>decide (p.getD i 0=c)) ((mem p.length W).take k)
    simp only [List.length_take] at hfl
    rw [wi64_nat (by omega)]
    by_cases he:p[(mem p.length W)[k]]=c
    ·rw [d_true he,cond_true,chk_room (by simp only [List.length_map];omega)]
     apply hw'
     rw [take_succ hk,List.filter_append,List.filter_cons_of_pos (by rw [hg,he];simp),List.filter_nil]
     simp only [castL,List.map_append,List.map_cons,List.map_nil]
    ·rw [d_false he,cond_false]
     apply hw'
     rw [take_succ hk,List.filter_append,List.filter_cons_of_neg (by rw [hg,d_false he];simp),List.filter_nil,List.append_nil]
   ·intro s w hs
    subst hs
    simp only [f8_L8]
    have:=dnlt_len (castL (mem p.length W))
    rw [castL_len] at this
    rw [this,cond_false,List.take_length,partL_eq]
    have hpl:=partL_len p W c
    subst h3
    rw [f23_eq N hN p.length hp _ (fun i hi=>partL_lt hi) (by omega)]
    have hWl:W.length=(p.length+63) / 64:=by
     simp only [okM,Bool.and_eq_true,decide_eq_true_eq] at h4;exact h4.1
    simp only [Option.bind_some,hWl]
 ·rw [if_neg hc]
  simp [d_false hc]
theorem f5_100:f5 100=some true:=by kernel_rfl
end Go.Kz
