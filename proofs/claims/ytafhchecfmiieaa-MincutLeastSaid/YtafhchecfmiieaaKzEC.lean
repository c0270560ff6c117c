/-
  Layer 07, plain: arguments, weights, and the first law: Separates.
-/
import Derived.Test.YtafhchecfmiieaaKzEB
set_option linter.unusedVariables false
set_option linter.unusedSimpArgs false
namespace Go.Kz
theorem known07:f11 10000000000000000=some true:=by kernel_rfl
def wOK (w:List Int):Bool:=w.all fun x=>!decide (1048576 < x)
def argS (g:Gr) (w:List Int) (Ls:List (List Int)):Int:=
 if chkS g=0 then (if (w.length:Int)=g.1 then (if wOK w then (if Ls.all fun l=>l.all (inN g.1) then 0 else 3) else 3) else 2) else 1
theorem f27_eq (g:Gr) (w:List Int) (Ls:List (List Int)) (hf:Fits g) (hl:g.2.1.length≤100) (hw:w.length≤4000) (h1:Ls.length≤100) (h2:∀ l∈Ls,l.length≤4000):f27 10000000000000000 g w Ls=some (argS g w Ls):=by
 unfold f27 argS
 rw [f38_eq g hf hl]
 rw [Option.bind_some]
 by_cases h0:chkS g=0
 ·rw [d_true h0,if_pos h0,Bool.not_true,cond_false,len_eq]
  by_cases h3:(w.length:Int)=g.1
  ·rw [d_true h3,if_pos h3,Bool.not_true,cond_false]
   refine (iter_allL w (fun x=>!decide (1048576 < x)) (if Ls.all fun l=>l.all (inN g.1) then some 0 else some 3) (some 3) (fun k z hk=>?_) (fun z=>?_) 10000000000000000 (by omega)).trans ?_
   ·simp only [f27_L6]
    rw [d_true (show (k:Int) < (w.length:Int) by omega),idx_lt hk,wi64_nat (k:=k) (by omega)]
    simp only [cond_true,Option.bind_some]
    cases decide (1048576 < w[k]) <;> rfl
   ·simp only [f27_L6]
    rw [d_false (show ¬ ((w.length:Nat):Int) < (w.length:Int) by omega),cond_false]
    refine iter_allL Ls (fun l=>l.all (inN g.1)) (some 0) (some 3) (fun k z hk=>?_) (fun z=>?_) 10000000000000000 (by omega)
    ·simp only [f27_L12]
     have hlk:=h2 _ (List.getElem_mem hk)
     rw [dlt_len hk,idx_lt hk,wi64_nat (k:=k) (by omega)]
     simp only [cond_true,Option.bind_some]
     refine (iter_allL Ls[k] (inN g.1) (z ((k:Int)+1)) (some 3) (fun j y hj=>?_) (fun y=>?_) 10000000000000000 (by omega)).trans ?_
     ·simp only [f27_L15]
      rw [dlt_len hj,idx_lt hj,wi64_nat (k:=j) (by omega)]
      simp only [cond_true,Option.bind_some]
      rw [bindc]
      unfold inN
      by_cases a1:Ls[k][j] < 0
      ·rw [d_true a1,d_false (show ¬ 0≤Ls[k][j] by omega)];rfl
      ·rw [d_false a1,d_true (show 0≤Ls[k][j] by omega)]
       by_cases a2:g.1≤Ls[k][j]
       ·rw [d_true a2,d_false (show ¬ Ls[k][j] < g.1 by omega)];rfl
       ·rw [d_false a2,d_true (show Ls[k][j] < g.1 by omega)];rfl
     ·simp only [f27_L15]
      rw [dnlt_len];rfl
     ·rfl
    ·simp only [f27_L12]
     rw [dnlt_len];rfl
   ·show _=some (if wOK w=true then _ else _)
    unfold wOK
    cases w.all fun x=>!decide (1048576 < x)
    ·rfl
    ·cases (Ls.all fun l=>l.all (inN g.1)) <;> rfl
  ·rw [d_false h3,if_neg h3];rfl
 ·rw [d_false h0,if_neg h0];rfl
theorem f17_eq (g:Gr) (w A B:List Int) (hf:Fits g) (hl:g.2.1.length≤100) (hw:w.length≤4000) (hA:A.length≤4000) (hB:B.length≤4000):f17 10000000000000000 g w A B=some (argS g w [A,B]):=by
 unfold f17 argS
 rw [f36_eq g hf hl]
 rw [Option.bind_some]
 by_cases h0:chkS g=0
 ·rw [d_true h0,if_pos h0,Bool.not_true,cond_false,len_eq]
  by_cases h3:(w.length:Int)=g.1
  ·rw [d_true h3,if_pos h3,Bool.not_true,cond_false]
   refine (iter_allL w (fun x=>!decide (1048576 < x)) (if [A,B].all fun l=>l.all (inN g.1) then some 0 else some 3) (some 3) (fun k z hk=>?_) (fun z=>?_) 10000000000000000 (by omega)).trans ?_
   ·simp only [f17_L6]
    rw [dlt_len hk,idx_lt hk,wi64_nat (k:=k) (by omega)]
    simp only [cond_true,Option.bind_some]
    cases decide (1048576 < w[k]) <;> rfl
   ·simp only [f17_L6]
    rw [dnlt_len,cond_false,f37_eq g A hA,f37_eq g B hB]
    simp only [Option.bind_some,List.all_cons,List.all_nil,Bool.and_true]
    rw [bindc]
    cases A.all (inN g.1) <;> cases B.all (inN g.1) <;> rfl
   ·show _=some (if wOK w=true then _ else _)
    unfold wOK
    cases w.all fun x=>!decide (1048576 < x)
    ·rfl
    ·cases ([A,B].all fun l=>l.all (inN g.1)) <;> rfl
  ·rw [d_false h3,if_neg h3];rfl
 ·rw [d_false h0,if_neg h0];rfl
structure Args (g:Gr) (w:List Int) (n:Nat) (E:List (Nat×Nat)):Prop where
 eq:g=grOf n E
 nod:Nod n E
 len:E.length=g.2.1.length
 wl:w.length=n
 w20:∀ x∈w,x≤1048576
theorem argsS_ok {g:Gr} {w:List Int} {Ls:List (List Int)} (hf:Fits g) (h:argS g w Ls=0):(∃ n E,Args g w n E)∧Ls.all (fun l=>l.all (inN g.1))=true:=by
 unfold argS at h
 by_cases h0:chkS g=0
 ·rw [if_pos h0] at h
  by_cases h1:(w.length:Int)=g.1
  ·rw [if_pos h1] at h
   cases h2:wOK w
   ·rw [h2] at h;simp at h
   ·rw [h2,if_pos rfl] at h
    cases h3:Ls.all fun l=>l.all (inN g.1)
    ·rw [h3] at h;simp at h
    ·obtain ⟨n,E,e1,e2,e3,_⟩:=chk_graph hf h0
     refine ⟨⟨n,E,e1,e2,e3,?_,fun x hx=>?_⟩,rfl⟩
     ·rw [e1] at h1
      have:((w.length:Nat):Int)=(n:Int):=h1
      omega
     ·have:=List.all_eq_true.1 h2 x hx
      simp only [Bool.not_eq_true',decide_eq_false_iff_not] at this
      omega
  ·rw [if_neg h1] at h;omega
 ·rw [if_neg h0] at h;omega
structure Few (a0:Gr×(List Int×(List Int×(List Int×Unit)))) (n e:Int):Prop where
 nodes:a0.1.1≤n
 edges:(a0.1.2.1.length:Int)≤e
 wl:(a0.2.1.length:Int)≤n+2
 al:(a0.2.2.1.length:Int)≤n+2
 bl:(a0.2.2.2.1.length:Int)≤n+2
theorem f12_eq (a0:Gr×(List Int×(List Int×(List Int×Unit)))) {n e:Int} (h0:0≤n) (hn:n≤100):∃ b,f12 10000000000000000 a0 n e=some b∧(b=true→Few a0 n e):=by
 unfold f12
 rw [wi64_of (n:=n+2) (by omega) (by omega)]
 rw [bindc',bindc',bindc',bindc']
 refine ⟨_,rfl,fun h=>?_⟩
 simp only [Bool.and_eq_true,decide_eq_true_eq,len_eq] at h
 exact ⟨h.1.1.1.1,h.1.1.1.2,h.1.1.2,h.1.2,h.2⟩
abbrev NetTy:Ty:=.pair (.pair (.int .i64) (.pair (.sl false (.arr 2 (.int .i64))) .unit)) (.pair (.sl false (.int .i64)) (.pair (.sl false (.int .i64)) (.pair (.sl false (.int .i64)) .unit)))
theorem net_fits {a0:Gr×(List Int×(List Int×(List Int×Unit)))} (h:Ty.fits NetTy a0):Fits a0.1:=fun e he=>by
 obtain ⟨g,r⟩:=a0
 obtain ⟨m,l,u⟩:=g
 exact (h.1.2.1 e he).1
end Go.Kz
