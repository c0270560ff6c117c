/-
  Layer 07, plain: what the functions on networks compute: link, push, used, search.
-/
import Derived.Test.YtafhchecfmiieaaKzE4
set_option linter.unusedVariables false
set_option linter.unusedSimpArgs false
namespace Go.Kz
variable {W:Nw} {ld:Nat→Nat→Bool} {r:Nat→Nat→Int}
theorem idx_set_ne {α:Type} {l:List α} {u v:Nat} (x:α) (h:u≠v):idx (setI l (u:Int) x) (v:Int)=idx l (v:Int):=List.getElem?_set_ne h
theorem inb_set {α:Type} (l:List α) (u:Int) (x:α) (i:Int):inb (setI l u x) i=inb l i:=by
 unfold inb setI;rw [List.length_set]
theorem pathE (i:Int):pathEq [.idx i] [.idx i]=true:=by simp [pathEq]
theorem f46_eq {u v:Nat} (c:Int) (hu:u < W.N) (hv:v < W.N) (hne:u≠v) (h1:W.deg u≤1000) (h2:W.deg v≤1000) (S T:Int) :
  f46 10000000000000000 (u:Int) (v:Int) c S T (W.enc r)=some (((),()),(((),(S,(T,()))),((W.link u v).enc (W.linkR r u v c),()))):=by
 unfold f46
 have hl:∀ x,len (W.row r x)=(W.deg x:Int):=fun x=>by rw [len_eq,Nw.row_len]
 simp only [Nw.enc_inb r hu,Nw.enc_inb r hv,Nw.enc_idx r hu,Nw.enc_idx r hv,chk_true,Option.bind_some,pathE,inb_set,idx_set_ne _ hne,hl]
 have e1:∀ X:List ArcD,idx (setI (W.enc r) (u:Int) X) (u:Int)=some X:=fun X=>by
  show (((W.enc r).set u X)[u]?)=some X
  rw [List.getElem?_set_self (by rw [Nw.enc_len];exact hu)]
 simp only [e1,Option.bind_some]
 rw [ck0' (by rw [Nw.row_len];omega),ck0' (by rw [Nw.row_len];omega)]
 rw [show wi64 (len (W.row r u++[((v:Int),(c,((W.deg v:Int),())))])-1)=(W.deg u:Int) from by
  rw [len_eq,List.length_append,Nw.row_len,List.length_singleton,wi64_of (by omega) (by omega)];omega]
 rw [←Nw.link_enc hne]
theorem f48_eq (hW:W.Ok ld) {d:Nat×Nat} (hd:W.Is d) (a:Int) (S T:Int) (h1 : -4611686018427387904≤r d.1 d.2-a∧r d.1 d.2-a≤4611686018427387904) (h2 : -4611686018427387904≤r (W.rev d).1 (W.rev d).2+a∧r (W.rev d).1 (W.rev d).2+a≤4611686018427387904) :
  f48 10000000000000000 (d.1:Int) (d.2:Int) a S T (W.enc r)=some (((),()),(((),(S,(T,()))),(W.enc (W.push r d a),()))):=by
 unfold f48
 have hr:=hW.is d hd
 have hne:=Nw.ne_rev hW hd
 simp only [Nw.enc_inb r hd.1,Nw.enc_idx r hd.1,Nw.row_inb r hd.2,Nw.row_idx r hd.2,chk_true,Option.bind_some]
 have ea:∀ r':Nat→Nat→Int,W.arcD r' d.1 d.2=(((W.rev d).1:Int),(r' d.1 d.2,(((W.rev d).2:Int),()))):=fun _=>rfl
 have er:∀ r':Nat→Nat→Int,W.arcD r' (W.rev d).1 (W.rev d).2=(((W.rev (W.rev d)).1:Int),(r' (W.rev d).1 (W.rev d).2,(((W.rev (W.rev d)).2:Int),()))):=fun _=>rfl
 simp only [ea]
 rw [wi64_of (n:=r d.1 d.2-a) (by omega) (by omega)]
 have e1:setI (W.enc r) (d.1:Int) (setI (W.row r d.1) (d.2:Int) (((W.rev d).1:Int),(r d.1 d.2-a,(((W.rev d).2:Int),()))))=W.enc (Nw.up1 r d (r d.1 d.2-a)):=Nw.enc_up1 r d _
 simp only [e1]
 have hs:W.rev d≠d:=fun e=>hne (congrArg Prod.fst e).symm
 have e2:Nw.up1 r d (r d.1 d.2-a) (W.rev d).1 (W.rev d).2=r (W.rev d).1 (W.rev d).2:=Nw.up1_ne r _ hs
 simp only [Nw.enc_inb _ hd.1,Nw.enc_idx _ hd.1,Nw.row_inb _ hd.2,Nw.row_idx _ hd.2,Nw.enc_inb _ hr.1,Nw.enc_idx _ hr.1,Nw.row_inb _ hr.2,Nw.row_idx _ hr.2,chk_true,Option.bind_some,ea,er,e2]
 rw [wi64_of (n:=r (W.rev d).1 (W.rev d).2+a) (by omega) (by omega)]
 have e3:=Nw.enc_up1 (W:=W) (Nw.up1 r d (r d.1 d.2-a)) (W.rev d) (r (W.rev d).1 (W.rev d).2+a)
 rw [Nw.push_up hW r hd] at e3
 rw [←e3]
 rfl
theorem f49_laid {R:Type} {n v u:Nat} (K:Bool→Option R) (hv:v < 2*n+2) (hu:u < 2*n+2) (hn:n≤1000) :
  ((cond (decide ((v:Int)=((2*n:Nat):Int))) (some true) ((cond (decide (Int.tmod (v:Int) 2=0)) (some (decide ((u:Int)=wi64 ((v:Int)+1)))) (some false)).bind fun b=>some b)).bind fun b_1=>
   (cond b_1 (some true)
     ((cond (decide (Int.tmod (v:Int) 2=1))
       ((cond (decide ((u:Int)=((2*n+1:Nat):Int)))
         (some true)
         ((cond (!(decide ((u:Int)=wi64 ((v:Int)-1))))
           (some (decide (Int.tmod (u:Int) 2=0)))
           (some false)).bind fun b_2=>
         (cond b_2
           (some (!(decide ((u:Int)=((2*n:Nat):Int)))))
           (some false)).bind fun b_3=>
         some b_3)).bind fun b_4=>
       some b_4)
       (some false)).bind fun b_5=>
     some b_5)).bind K)=K (ldF n v u):=by
 have t2:∀ x:Nat,Int.tmod (x:Int) 2=((x % 2:Nat):Int):=fun x=>(Int.ofNat_tmod x 2).symm
 rw [t2,t2,wi64_of (n:=(v:Int)+1) (by omega) (by omega),wi64_of (n:=(v:Int)-1) (by omega) (by omega)]
 unfold ldF
 rw [show decide ((v:Int)=((2*n:Nat):Int))=decide (v=2*n) from decide_eq_decide.2 (by omega),
  show decide (((v % 2:Nat):Int)=0)=decide (v % 2=0) from decide_eq_decide.2 (by omega),
  show decide ((u:Int)=(v:Int)+1)=decide (u=v+1) from decide_eq_decide.2 (by omega),
  show decide (((v % 2:Nat):Int)=1)=decide (v % 2=1) from decide_eq_decide.2 (by omega),
  show decide ((u:Int)=((2*n+1:Nat):Int))=decide (u=2*n+1) from decide_eq_decide.2 (by omega),
  show decide ((u:Int)=(v:Int)-1)=decide (u+1=v) from decide_eq_decide.2 (by omega),
  show decide (((u % 2:Nat):Int)=0)=decide (u % 2=0) from decide_eq_decide.2 (by omega),
  show decide ((u:Int)=((2*n:Nat):Int))=decide (u=2*n) from decide_eq_decide.2 (by omega)]
 cases decide (v=2*n) <;> cases decide (v % 2=0) <;> cases decide (u=v+1) <;> cases decide (v % 2=1) <;> cases decide (u=2*n+1) <;> cases decide (u+1=v) <;> cases decide (u % 2=0) <;> cases decide (u=2*n) <;> rfl
theorem f49_ok {n:Nat} (hN:W.N=2*n+2) (hn:n≤1000) (hW:W.Ok (ldF n)) {v:Nat} (hv:v < W.N) (hdeg:W.deg v≤1000) :
  Yld (f49 10000000000000000 (v:Int) ((2*n:Nat):Int) ((2*n+1:Nat):Int) (W.enc r)) fun x=>
   (∃ i,W.Laid (ldF n) (v,i)∧0 < W.sent r (v,i)∧x=(((),((i:Int),())),(((),(((2*n:Nat):Int),(((2*n+1:Nat):Int),()))),(W.enc r,()))))∨
   ((∀ i,W.Laid (ldF n) (v,i)→W.sent r (v,i)≤0)∧x=(((),((-1:Int),())),(((),(((2*n:Nat):Int),(((2*n+1:Nat):Int),()))),(W.enc r,())))):=by
 unfold f49
 simp only [Nw.enc_inb r hv,Nw.enc_idx r hv,chk_true,Option.bind_some]
 rw [show len (W.row r v)=(W.deg v:Int) from by rw [len_eq,Nw.row_len]]
 refine Yld.upI (fun k=>∀ i,i < k→W.Laid (ldF n) (v,i)→W.sent r (v,i)≤0) (W.deg v) ?_ ?_ 10000000000000000 0 (Nat.zero_le _) (by omega) (fun i hi=>by omega)
 ·intro k w hk hI hw
  have hd:W.Is (v,k):=⟨hv,hk⟩
  have hr:=hW.is _ hd
  simp only [f49_L2]
  rw [d_true (show (k:Int) < (W.deg v:Int) by omega),wi64_nat (k:=k) (by omega)]
  simp only [Nw.enc_idx r hv,Nw.row_inb r hk,Nw.row_idx r hk,chk_true,Option.bind_some,cond_true]
  have ea:W.arcD r v k=(((W.rev (v,k)).1:Int),(r v k,(((W.rev (v,k)).2:Int),()))):=rfl
  have er:W.arcD r (W.rev (v,k)).1 (W.rev (v,k)).2=(((W.rev (W.rev (v,k))).1:Int),(r (W.rev (v,k)).1 (W.rev (v,k)).2,(((W.rev (W.rev (v,k))).2:Int),()))):=rfl
  simp only [ea,Nw.enc_inb r hr.1,Nw.enc_idx r hr.1,Nw.row_inb r hr.2,Nw.row_idx r hr.2,chk_true,Option.bind_some,er]
  rw [f49_laid _ (by rw [←hN];exact hv) (by rw [←hN];exact hr.1) hn]
  cases hl:ldF n v (W.rev (v,k)).1
  ·rw [cond_false]
   refine hw fun i hi hL=>?_
   rcases Nat.lt_succ_iff_lt_or_eq.1 hi with h | rfl
   ·exact hI i h hL
   ·have:=hL.2
    simp only at this
    rw [show W.hd v i=(W.rev (v,i)).1 from rfl,hl] at this
    cases this
  ·rw [cond_true]
   have hlaid:W.Laid (ldF n) (v,k):=⟨hd,hl⟩
   refine Yld.cond (fun hc=>?_) fun hc=>?_
   ·rw [decide_eq_true_eq] at hc
    exact Yld.ret (.inl ⟨k,hlaid,hc,rfl⟩)
   ·rw [decide_eq_false_iff_not] at hc
    refine hw fun i hi hL=>?_
    rcases Nat.lt_succ_iff_lt_or_eq.1 hi with h | rfl
    ·exact hI i h hL
    ·exact Int.not_lt.1 hc
 ·intro w hI
  simp only [f49_L2]
  rw [d_false (show ¬ ((W.deg v:Nat):Int) < (W.deg v:Int) by omega)]
  exact Yld.ret (.inr ⟨fun i hi=>hI i hi.1.2 hi,rfl⟩)
end Go.Kz
