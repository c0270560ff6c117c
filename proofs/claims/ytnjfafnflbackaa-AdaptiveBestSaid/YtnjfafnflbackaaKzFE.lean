/-
  The layer adaptive: the strategy that the solver plans; plain laws.
-/
import Derived.Test.YtnjfafnflbackaaKzFD
set_option linter.unusedVariables false
set_option linter.unusedSimpArgs false
namespace Go.Kz
def M1 (m:z1i) (g:List (List Int)) (n:Nat) (K:List Key):z7a:=mkM (WK m g n) K fun _=>true
theorem zyj {m:z1i} {g:List (List Int)} {n:Nat} {K:List Key} {D:Key->Bool} (h:∀ p∈K,D p=true):mkM (WK m g n) K D=M1 m g n K:=zwi h
theorem zyr (m:z1i) (K:List Key):DOK m K fun _=>true:=fun _ _ _ _ _=>rfl
theorem zgq (N:Nat) (hN:5000 < N) {m:z1i} {g:List (List Int)} {n:Nat} {K:List Key} (hs:Slv m g n K) {p:Key} (hp:p∈K):f53 N p m g (M1 m g n K)=some (((),(WK m g n p,())),back m g (M1 m g n K)):=by
 obtain ⟨y,h1,D',hy,_,h3,_⟩:=zxo N hN hs hp (fun _=>true) (zyr m K);rw [M1,h1,hy,zyj fun q _=>h3 q rfl];rfl
theorem zlg (N:Nat) (hN:5000 < N) {m:z1i} {g:List (List Int)} {n:Nat} {K:List Key} (hs:Slv m g n K) {p:Key} (hp:p∈K) (hl:0 < p.2.1) {q:Nat} (hq:q < m.2.1.length) :
  f82 N (f53 N) p (q:Int) m g (M1 m g n K)=some (((),(zct (z05 m q) p.1.toNat (VV m.2.1 g n (p.2.1.toNat-1)),())),back m g (M1 m g n K)):=by
 obtain ⟨y,h1,D',hy,_,h3,_⟩:=f82_ok N hN hs hp hl hq (fun x hx=>zxo N hN hs (hs.closed p hp x hx)) (fun _=>true) (zyr m K);rw [M1,h1,hy,zyj fun q _=>h3 q rfl];rfl
theorem f53_root (N:Nat) (hN:5000 < N) {m:z1i} {g:List (List Int)} {n:Nat} {K:List Key} (hs:Slv m g n K) {p:Key} (hp:p∈K) (hr:∀ x∈K,Rch m.2.1 p x):f53 N p m g (M0 m g n K)=some (((),(WK m g n p,())),back m g (M1 m g n K)):=by
 obtain ⟨y,h1,D',hy,h2,h3,h4⟩:=zxo N hN hs hp (fun _=>false) (fun _ _ h=>by simp at h);have hall:∀ x,Rch m.2.1 p x->x∈K∧D' x=true:=by
  intro x hx
  induction hx with
  | base=>exact ⟨hp,h4⟩
  | step _ hq ih=>exact ⟨hs.closed _ ih.1 _ hq,h2 _ ih.1 ih.2 _ hq⟩
 rw [M0,h1,hy,zyj fun q hq=>(hall q (hr q hq)).2]
theorem zxn (N:Nat) (hN:5000 < N) {m:z1i} {g:List (List Int)} {n:Nat} {K:List Key} (hs:Slv m g n K) {p:Key} (hp:p∈K):f54 N p m g (M1 m g n K)=some (((),(decide (z1m g n p.1.toNat.testBit=WK m g n p),())),back m g (M1 m g n K)):=by
 obtain ⟨k1,k2,k3,k4⟩:=z4q (hs.keys p hp);have h36:f36 N g p.1=some (z1m g n p.1.toNat.testBit):=by
  conv=>lhs;rw [k1]
  exact zxt N (by omega) hs.gain hs.menu.few (zsc hs.menu.few k2)
 rw [f54_is,h36,zgq N hN hs hp];rfl
def qOf (vs:List (List Int)) (g:List (List Int)) (n l S:Nat):Nat:=vs.findIdx fun v=>decide (zct v S (VV vs g n l)=VV vs g n (l+1) S)
def z85 (vs:List (List Int)) (g:List (List Int)) (n l S:Nat):Bool:=decide (S=0) || decide (z1m g n S.testBit=VV vs g n l S)
def z2p (vs:List (List Int)) (g:List (List Int)) (n l:Nat) (f:Nat->Nat->List z1c) (v:List Int) (S base:Nat) (acc:List Int×List z1c) (c:Nat):List Int×List z1c:=
 if z85 vs g n l (part v S c) then (acc.1++[-1],acc.2) else (acc.1++[((base+1+acc.2.length:Nat):Int)],acc.2++f (part v S c) (base+1+acc.2.length))
def z3j (vs:List (List Int)) (g:List (List Int)) (n:Nat):Nat->Nat->Nat->List z1c
 | 0=>fun _ _=>[]
 | l+1=>fun S base=>
  let v:=vs.getD (qOf vs g n l S) [];let r:=(List.range (z2f v)).foldl (z2p vs g n l (z3j vs g n l) v S base) ([],[])
  (((qOf vs g n l S:Nat):Int),(r.1,())) :: r.2
theorem znp {α:Type} (h:α->Int):{l:List α}->{b:Int}->l.foldl (fun b x=>max b (h x)) b=b∨∃ x∈l,h x=l.foldl (fun b x=>max b (h x)) b
 | [],b=>.inl rfl
 | a :: l,b=>by
  simp only [List.foldl_cons];rcases znp h (l:=l) (b:=max b (h a)) with e | ⟨x,hx,e⟩
  ·rw [e];by_cases hab:h a≤b
   ·left;omega
   ·right;exact ⟨a,by simp,by omega⟩
  ·exact .inr ⟨x,by simp [hx],e⟩
theorem zrr {vs g:List (List Int)} {n l S:Nat} (h:¬ z1m g n S.testBit=VV vs g n (l+1) S):qOf vs g n l S < vs.length:=by
 rw [qOf,List.findIdx_lt_length];rcases znp (fun v=>zct v S (VV vs g n l)) (l:=vs) (b:=z1m g n S.testBit) with e | ⟨v,hv,e⟩
 ·exact absurd e.symm h
 ·exact ⟨v,hv,by rw [decide_eq_true_eq];exact e⟩
theorem zvt {vs g:List (List Int)} {n l S:Nat} (h:qOf vs g n l S < vs.length):zct (vs.getD (qOf vs g n l S) []) S (VV vs g n l)=VV vs g n (l+1) S:=by
 have:=List.findIdx_getElem (p:=fun v=>decide (zct v S (VV vs g n l)=VV vs g n (l+1) S)) (xs:=vs) (w:=h);rw [List.getD_eq_getElem?_getD,List.getElem?_eq_getElem h];exact of_decide_eq_true this
theorem zvu {vs g:List (List Int)} {n l S q:Nat} (hq:q < qOf vs g n l S) (hl:q < vs.length):¬ zct vs[q] S (VV vs g n l)=VV vs g n (l+1) S:=by
 have:=List.not_of_lt_findIdx (p:=fun v=>decide (zct v S (VV vs g n l)=VV vs g n (l+1) S)) (xs:=vs) hq;simpa using this
theorem zdy (vs g:List (List Int)) (n l:Nat) (f:Nat->Nat->List z1c) (v:List Int) (S base:Nat) (acc:List Int×List z1c) (c:Nat):(z2p vs g n l f v S base acc c).1.length=acc.1.length+1∧acc.2.length≤(z2p vs g n l f v S base acc c).2.length:=by
 unfold z2p;split
 ·simp
 ·simp
theorem zlc (vs g:List (List Int)) (n l:Nat) (f:Nat->Nat->List z1c) (v:List Int) (S base:Nat):(k:Nat)->((List.range k).foldl (z2p vs g n l f v S base) ([],[])).1.length=k
 | 0=>rfl
 | k+1=>by
  rw [List.range_succ,List.foldl_append];simp only [List.foldl_cons,List.foldl_nil];rw [(zdy ..).1,zlc]
theorem zgk (vs g:List (List Int)) (n l:Nat) (f:Nat->Nat->List z1c) (v:List Int) (S base:Nat) (j:Nat):(k:Nat)->((List.range j).foldl (z2p vs g n l f v S base) ([],[])).2.length≤((List.range (j+k)).foldl (z2p vs g n l f v S base) ([],[])).2.length
 | 0=>Nat.le_refl _
 | k+1=>by
  rw [←Nat.add_assoc,List.range_succ,List.foldl_append];simp only [List.foldl_cons,List.foldl_nil];exact Nat.le_trans (zgk vs g n l f v S base j k) (zdy ..).2
abbrev PlanFn:=Key->z1i->List (List Int)->z7a->List z1c->Option ((Unit×(Unit×Unit))×((z1i×(List (List Int)×(Unit×Unit)))×(z7a×(List z1c×Unit))))
def zi5 (m:z1i) (g:List (List Int)) (M:z7a) (s:List z1c):(z1i×(List (List Int)×(Unit×Unit)))×(z7a×(List z1c×Unit)):=((m,(g,((),()))),(M,(s,())))
def ztg (m:z1i) (g:List (List Int)) (n:Nat) (K:List Key) (r:PlanFn) (p:Key):Prop:=
 ∀ s:List z1c,s.length+(z3j m.2.1 g n p.2.1.toNat p.1.toNat s.length).length≤100000->r p m g (M1 m g n K) s=some (((),((),())),zi5 m g (M1 m g n K) (s++z3j m.2.1 g n p.2.1.toNat p.1.toNat s.length))
theorem ztc {R:Type} (N:Nat) (hN:5000 < N) {m:z1i} {g:List (List Int)} {n:Nat} {K:List Key} (hs:Slv m g n K) {p:Key} (hp:p∈K) {l:Nat} (hl:p.2.1.toNat=l+1) (hne:¬ z1m g n p.1.toNat.testBit=WK m g n p)
  {F:(Int×z1i×List (List Int)×z7a->Option R)->Int×z1i×List (List Int)×z7a->Option R} {A:Option R}
  (hF:∀ (w:Int×z1i×List (List Int)×z7a->Option R) (q:Nat),q < m.2.1.length->¬ zct (z05 m q) p.1.toNat (VV m.2.1 g n l)=WK m g n p->F w ((q:Int),m,g,M1 m g n K)=w ((q:Int)+1,m,g,M1 m g n K))
  (hA:∀ (w:Int×z1i×List (List Int)×z7a->Option R) (q:Nat),q=qOf m.2.1 g n l p.1.toNat->q < m.2.1.length->zct (z05 m q) p.1.toNat (VV m.2.1 g n l)=WK m g n p->F w ((q:Int),m,g,M1 m g n K)=A) :
  iter F N (0,m,g,M1 m g n K)=A:=by
 have hW:WK m g n p=VV m.2.1 g n (l+1) p.1.toNat:=by simp only [WK,hl]
 rw [hW] at hne hF hA;have hq0:=zrr hne;have hv8:=hs.menu.views;refine z34 (fun x=>∃ q:Nat,x=((q:Int),m,g,M1 m g n K)∧q≤qOf m.2.1 g n l p.1.toNat) (fun x=>m.2.1.length-x.1.toNat) ?_ N _ ⟨0,rfl,Nat.zero_le _⟩ (by simp;omega);rintro x w ⟨q,rfl,hq⟩ hw;by_cases he:q=qOf m.2.1 g n l p.1.toNat
 ·exact hA w q he (by omega) (by rw [he];exact zvt hq0)
 ·have hlt:q < m.2.1.length:=by omega
  have:=zvu (vs:=m.2.1) (g:=g) (n:=n) (l:=l) (S:=p.1.toNat) (q:=q) (by omega) hlt;rw [(hs.menu.at hlt).1] at this;rw [hF w q hlt this];exact hw _ ⟨q+1,by simp,by omega⟩ (by simp;omega)
theorem zkg {α:Type} (a:List α) (x y:α) (b:List α):(a++x :: b).set a.length y=a++y :: b:=by
 rw [List.set_append_right _ _ (Nat.le_refl _)];simp
theorem zmo (k n:Nat) (h:k < n):List.replicate (n-k) (-1:Int) = -1 :: List.replicate (n-(k+1)) (-1):=by
 rw [show n-k=(n-(k+1))+1 by omega,List.replicate_succ]
end Go.Kz
