/-
  States: what holds of the frame and of memory; what survives a step.
-/
import Derived.Test.YtnjfafnflbackaaKzF
set_option linter.unusedVariables false
set_option linter.unusedSimpArgs false
namespace Go.Kz
def z3f (w:World) (g:Ghost) (kt vt:Ty):List MapEntry->List (kt.den×vt.den)->Prop
 | [],[]=>True
 | e :: es,(k,v) :: m=>(∃ cs,Rep w g none kt k cs∧e.key=mkV kt.sk.isAgg cs)∧(∃ cs,Rep w g none vt v cs∧e.val=mkV vt.sk.isAgg cs)∧z3f w g kt vt es m
 | _,_=>False
theorem z3f.kept {w w':World} {g g':Ghost} (hr:RoKept w g w' g') {kt vt:Ty}:{es:List MapEntry}->{m:List (kt.den×vt.den)}->z3f w g kt vt es m->z3f w' g' kt vt es m
 | [],[],_=>trivial
 | _ :: _,(_,_) :: _,⟨⟨c1,h1,e1⟩,⟨c2,h2,e2⟩,h⟩=>⟨⟨c1,h1.kept hr,e1⟩,⟨c2,h2.kept hr,e2⟩,z3f.kept hr h⟩
 | [],_ :: _,h=>h.elim
 | _ :: _,[],h=>h.elim
structure Near (w:World) (g:Ghost) (w':World) (g':Ghost) (id:Nat) (p:z1a) (b0:Nat):Prop where
 ro:RoKept w g w' g'
 sv:∀ q,¬ p <+: q->g'.sv id q=g.sv id q
 blk:∀ q b,g.tag b = .row id q->¬ p <+: q->g'.tag b = .row id q∧(b≠b0->w'.heap[b]? = w.heap[b]?)
def zth (w:World) (g:Ghost) (id:Nat) (t:Ty) (l:List t.den) (p:z1a):Prop:=
 (∃ bk o cap,g.sv id [] = .slice (some ⟨bk,o,none⟩) l.length cap)∧
 ∃ v b0 off c e pre,tyR t p=some v∧z0w g id (.sl true t) [] 0 0 p=some (b0,off)∧g.tag b0 = .row id pre∧pre.length < p.length∧w.heap[b0]? = some (.cells c e (0,0))∧off < c.size∧
  ∀ (w':World) (g':Ghost) (l1:List v.den) (x:Value),Near w g w' g' id p b0->w'.heap[b0]? = some (.cells (z0f c.toList off [x]).toArray e (0,0))->Rep w' g' (some (id,p)) (.sl true v) l1 [x]->
   ∀ {R:Type} (f:List t.den->Option R) (r:R),z3z (.sl true t) l p (.sl true v) l1 f=some r->∃ l2,f l2=some r∧Rep w' g' (some (id,[])) (.sl true t) l2 [g'.sv id []]
def IterOK (w:World) (g:Ghost) (objs:z2c) (id:Nat) (a:AVal):Prop:=
 ∃ (mid n bm:Nat) (seen:Array Nat) (cur:Int),a=zae mid (n:Int) ((zm6 n).filter fun i=>!seen.contains i.toNat) cur∧w.heap[g.blk id]? = some (.mapIter (some bm) n seen n)∧
  g.tag (g.blk id) = .box id∧(∀ c:Nat,cur=(c:Int)->seen.back? = some c)∧∀ kt vt m,objs mid=some (.map kt vt m)->bm=g.blk mid
def ConOK (w:World) (g:Ghost) (objs:z2c) (id:Nat) (a:AVal):Prop:=∃ c e,w.heap[g.blk id]? = some (.cells c e (0,0))∧g.tag (g.blk id) = .ro∧AOK w g objs a c.toList
def TupOK (w:World) (g:Ghost) (objs:z2c) (id:Nat):AVal->Prop
 | .tup (.agg x)=>ConOK w g objs id (.agg x)
 | .tup (.mref i)=>ConOK w g objs id (.mref i)
 | a=>IterOK w g objs id a
def zea (es:List MapEntry):Prop:=es.map (·.born)=List.range es.length
def z14 (w:World) (g:Ghost) (objs:z2c) (id:Nat):Obj->Prop
 | .row t l _=>t.isRo=true∧Rep w g (some (id,[])) (.sl true t) l [g.sv id []]
 | .cell a=>if a.isTup then TupOK w g objs id a else ∃ c e,w.heap[g.blk id]? = some (.cells c e (0,0))∧g.tag (g.blk id) = .box id∧AOK w g objs a c.toList
 | .map kt vt m=>∃ es clock,w.heap[g.blk id]? = some (.map es clock)∧g.tag (g.blk id) = .box id∧kt.isRo=true∧vt.isRo=true∧z3f w g kt vt es.toList m∧clock=es.size∧zea es.toList
 | .nest t l _ _ none=>Rep w g (some (id,[])) (.sl true t) l [g.sv id []]
 | .nest t l _ _ (some p)=>zth w g id t l p
theorem AOK.noTup {w:World} {g:Ghost} {objs:z2c}:{a:AVal}->{cs:List Value}->AOK w g objs a cs->a.isTup=false
 | .tup _,_,h=>h.elim
 | .data _ _,_,_ | .nilS,_,_ | .ref _ _ _,_,_ | .view _ _ _ _ _,_,_ | .bptr _ _,_,_ | .eptr _ _ _,_,_ | .mref _,_,_ | .nv _ _ _ _,_,_ | .clos _ _,_,_ | .ifc _ _,_,_ | .agg _,_,_ | .pr _ _,_,_ | .un,_,_=>rfl
theorem z14.mk {w:World} {g:Ghost} {objs:z2c} {id:Nat} {a:AVal} (h:∃ c e,w.heap[g.blk id]? = some (.cells c e (0,0))∧g.tag (g.blk id) = .box id∧AOK w g objs a c.toList):z14 w g objs id (.cell a):=by
 obtain ⟨c,e,h1,h2,h3⟩:=h;show (if a.isTup=true then TupOK w g objs id a else ∃ c e,w.heap[g.blk id]? = some (.cells c e (0,0))∧g.tag (g.blk id) = .box id∧AOK w g objs a c.toList);rw [if_neg (by simp [h3.noTup])];exact ⟨c,e,h1,h2,h3⟩
theorem z14.out {w:World} {g:Ghost} {objs:z2c} {id:Nat} {a:AVal} (ht:a.isTup=false) (h:z14 w g objs id (.cell a)):∃ c e,w.heap[g.blk id]? = some (.cells c e (0,0))∧g.tag (g.blk id) = .box id∧AOK w g objs a c.toList:=by
 have h:(if a.isTup=true then TupOK w g objs id a else ∃ c e,w.heap[g.blk id]? = some (.cells c e (0,0))∧g.tag (g.blk id) = .box id∧AOK w g objs a c.toList):=h;rw [if_neg (by simp [ht])] at h;exact h
theorem z14.iter {w:World} {g:Ghost} {objs:z2c} {id:Nat} {a:AVal} (ht:a.isTup=true) (hc:a.isCon=false:=by rfl):z14 w g objs id (.cell a)↔IterOK w g objs id a:=by
 cases a with
 | tup c=>cases c <;> first | exact Iff.rfl | simp [AVal.isCon] at hc
 | _=>simp [AVal.isTup] at ht
theorem z14.con {w:World} {g:Ghost} {objs:z2c} {id:Nat} {c:AVal} (hc:(AVal.tup c).isCon=true:=by rfl):z14 w g objs id (.cell (.tup c))↔ConOK w g objs id c:=by
 cases c <;> first | exact Iff.rfl | simp [AVal.isCon] at hc
theorem zja {a:AVal} (h:a.isCon=true):∃ c,a = .tup c:=by
 cases a with
 | tup c=>exact ⟨_,rfl⟩
 | _=>simp [AVal.isCon] at h
theorem zqp {a:AVal} (h:(AVal.tup a).isCon=true):a.isTup=false:=by
 cases a <;> first | rfl | simp [AVal.isCon] at h
theorem z7t {R:Type} {a:AVal} {x:Option R} {r:R} (h:cond a.isTup none x=some r):a.isTup=false∧x=some r:=by
 cases ht:a.isTup with
 | true=>rw [ht] at h;simp at h
 | false=>rw [ht] at h;exact ⟨rfl,h⟩
structure HeapOK (w:World) (g:Ghost) (objs:z2c):Prop where
 objs:∀ id o,objs id=some o->z14 w g objs id o
 tags:∀ b,g.tag b≠.alien->b < w.heap.size
def zpl (w:World) (g:Ghost):Prop:=∀ b e,tab b=some e->e.t.isRo=true∧Rep w g none (.ptr (.arr e.n e.t)) e.l [.pointer (some ⟨b,0,none⟩)]
theorem zpl.kept {w w':World} {g g':Ghost} (hr:RoKept w g w' g') (h:zpl w g):zpl w' g':=fun b e he=>⟨(h b e he).1,(h b e he).2.kept hr⟩
structure StOK (n:Nat) (g:Ghost) (w:World) (a:Act) (σ:St):Prop where
 slots:∀ i av,σ.slots i=some av->∃ v,a.tmps[i]? = some v∧VOK w g σ.objs av v
 heap:HeapOK w g σ.objs
 size:a.tmps.size=n
 defers:a.defers=[]
 known:zpl w g
structure Fresh (g:Ghost) (σ:St) (m:Nat):Prop where
 objs:σ.objs m=none
 row:∀ b p,g.tag b≠.row m p
 box:∀ b,g.tag b≠.box m
 slots:∀ i av,σ.slots i=some av->m∉av.ids
 cells:∀ id av,σ.objs id=some (.cell av)->m∉av.ids
structure Ext (w:World) (g:Ghost) (w':World) (g':Ghost):Prop where
 os:w'.os=w.os
 tape:w'.tape=w.tape
 output:w'.output=w.output
 drawn:w.drawn≤w'.drawn
 size:w.heap.size≤w'.heap.size
 keep:∀ b,b < w.heap.size->(g.tag b = .alien∨g.tag b = .ro)->w'.heap[b]? = w.heap[b]?∧g'.tag b=g.tag b
theorem Ext.refl (w:World) (g:Ghost):Ext w g w g:=⟨rfl,rfl,rfl,Nat.le_refl _,Nat.le_refl _,fun _ _ _=>⟨rfl,rfl⟩⟩
theorem Ext.trans {w w' w'':World} {g g' g'':Ghost} (h:Ext w g w' g') (k:Ext w' g' w'' g''):Ext w g w'' g'':=by
 refine ⟨k.os.trans h.os,k.tape.trans h.tape,k.output.trans h.output,Nat.le_trans h.drawn k.drawn,Nat.le_trans h.size k.size,fun b hb ht=>?_⟩;obtain ⟨h1,h2⟩:=h.keep b hb ht;obtain ⟨k1,k2⟩:=k.keep b (Nat.lt_of_lt_of_le hb h.size) (by rw [h2];exact ht);exact ⟨k1.trans h1,k2.trans h2⟩
theorem Ext.ro {w w':World} {g g':Ghost} (h:Ext w g w' g') (ht:∀ b,g.tag b≠.alien->b < w.heap.size):RoKept w g w' g':=
 ⟨fun b hb=>let k:=h.keep b (ht b (by rw [hb];simp)) (.inr hb);⟨k.2.trans hb,k.1⟩⟩
def z15 (g g':Ghost) (id:Nat) (o o':Option Obj):Prop:=
 o'=none∨
 (∃ t l l' e e',o=some (.row t l e)∧o'=some (.row t l' e')∧(e < e'∨(e'=e∧l'.length=l.length∧∀ p,g'.sv id p=g.sv id p)))∨
 (∃ a a',o=some (.cell a)∧o'=some (.cell a')∧a'.sk=a.sk∧g'.blk id=g.blk id)∨
 (∃ kt vt m m',o=some (.map kt vt m)∧o'=some (.map kt vt m')∧g'.blk id=g.blk id)∨
 (∃ t l l' e e' i i' h h',o=some (.nest t l e i h)∧o'=some (.nest t l' e' i' h')∧e≤e'∧i≤i'∧(e=e'->g'.sv id []=g.sv id [])∧(i=i'->∀ p,g'.sv id p=g.sv id p))
theorem z2z {g g':Ghost} {id:Nat} (h:∀ p,g'.sv id p=g.sv id p):{t:Ty}->{pre:z1a}->{b off:Nat}->{p:z1a}->
  z0w g' id t pre b off p=z0w g id t pre b off p
 | _,_,_,_,[]=>by simp [z0w]
 | .pair a c,pre,b,off,.fst :: p=>by simp only [z0w];exact z2z h
 | .pair a c,pre,b,off,.snd :: p=>by simp only [z0w];exact z2z h
 | .arr n t,pre,b,off,.idx i :: p=>by simp only [z0w];exact z2z h
 | .sl true t,pre,b,off,.idx i :: p=>by
  simp only [z0w,h];split
  ·exact z2z h
  ·rfl
 | .sl false t,_,_,_,s :: _=>by cases s <;> simp [z0w]
 | .sl true t,_,_,_,.fst :: _=>by simp [z0w]
 | .sl true t,_,_,_,.snd :: _=>by simp [z0w]
 | .int _,_,_,_,s :: _=>by cases s <;> simp [z0w]
 | .bool,_,_,_,s :: _=>by cases s <;> simp [z0w]
 | .str,_,_,_,s :: _=>by cases s <;> simp [z0w]
 | .unit,_,_,_,s :: _=>by cases s <;> simp [z0w]
 | .ptr _,_,_,_,s :: _=>by cases s <;> simp [z0w]
 | .fn _ _,_,_,_,s :: _=>by cases s <;> simp [z0w]
 | .pair _ _,_,_,_,.idx _ :: _=>by simp [z0w]
 | .arr _ _,_,_,_,.fst :: _=>by simp [z0w]
 | .arr _ _,_,_,_,.snd :: _=>by simp [z0w]
theorem AOK.frame {w w':World} {g g':Ghost} {objs objs':z2c} (hr:RoKept w g w' g'):{a:AVal}->{cs:List Value}->
  (∀ id,id∈a.ids->z15 g g' id (objs id) (objs' id))->AOK w g objs a cs->AOK w' g' objs' a cs
 | .data t d,_,_,h=>⟨h.1,h.2.kept hr⟩
 | .nilS,_,_,h=>h
 | .ref id p ep,_,hi,⟨v,hv,hone,h⟩=>by
  refine ⟨v,hv,hone,fun t l e ho=>?_⟩;rcases hi id (by simp [AVal.ids]) with hk | ⟨t0,l0,l1,e0,e1,h0,h1,hk⟩ | ⟨a,a',h0,h1,_⟩ | ⟨kt',vt',m0,m1,h0,h1,hmb⟩ | ⟨t0,l0,l1,e0,e1,i0,i1,h0',h1',h0,h1,hk⟩
  ·rw [hk] at ho;simp at ho
  ·rw [h1] at ho;simp only [zI,Obj.row.injEq] at ho;obtain ⟨rfl,hl,rfl⟩:=ho;have:=h _ _ _ h0;rcases hk with hk | ⟨rfl,_,hsv⟩
   ·exact ⟨by omega,fun he=>by omega⟩
   ·exact ⟨this.1,fun he=>by rw [hsv];exact this.2 he⟩
  ·rw [h1] at ho;simp at ho
  ·rw [h1] at ho;simp at ho
  ·rw [h1] at ho;simp at ho
 | .view id p ep a b,_,hi,⟨v,hv,hone,h⟩=>by
  refine ⟨v,hv,hone,fun t l e ho=>?_⟩;rcases hi id (by simp [AVal.ids]) with hk | ⟨t0,l0,l1,e0,e1,h0,h1,hk⟩ | ⟨a,a',h0,h1,_⟩ | ⟨kt',vt',m0,m1,h0,h1,hmb⟩ | ⟨t0,l0,l1,e0,e1,i0,i1,h0',h1',h0,h1,hk⟩
  ·rw [hk] at ho;simp at ho
  ·rw [h1] at ho;simp only [zI,Obj.row.injEq] at ho;obtain ⟨rfl,hl,rfl⟩:=ho;have:=h _ _ _ h0;rcases hk with hk | ⟨rfl,hlen,hsv⟩
   ·exact ⟨by omega,fun he=>by omega⟩
   ·refine ⟨this.1,fun he=>?_⟩;obtain ⟨hp,ha,hab,hb,hvv⟩:=this.2 he;refine ⟨hp,ha,hab,?_,by rw [hsv];exact hvv⟩;have:l=l1:=(eq_of_heq hl).symm;rw [this,hlen];exact hb
  ·rw [h1] at ho;simp at ho
  ·rw [h1] at ho;simp at ho
  ·rw [h1] at ho;simp at ho
 | .bptr id p,_,hi,⟨v,hv,hone,h⟩=>by
  refine ⟨v,hv,hone,fun a ho=>?_⟩;rcases hi id (by simp [AVal.ids]) with hk | ⟨t0,l0,l1,e0,e1,h0,h1,hk⟩ | ⟨a0,a1,h0,h1,hs,hb⟩ | ⟨kt',vt',m0,m1,h0,h1,hmb⟩ | ⟨t0,l0,l1,e0,e1,i0,i1,h0',h1',h0,h1,hk⟩
  ·rw [hk] at ho;simp at ho
  ·rw [h1] at ho;simp at ho
  ·rw [h1] at ho;simp only [zI,Obj.cell.injEq] at ho;subst ho;rw [hs,hb];exact h _ h0
  ·rw [h1] at ho;simp at ho
  ·rw [h1] at ho;simp at ho
 | .eptr id p ep,_,hi,⟨v,hv,hone,h⟩=>by
  refine ⟨v,hv,hone,fun t l e ho=>?_⟩;rcases hi id (by simp [AVal.ids]) with hk | ⟨t0,l0,l1,e0,e1,h0,h1,hk⟩ | ⟨a,a',h0,h1,_⟩ | ⟨kt',vt',m0,m1,h0,h1,hmb⟩ | ⟨t0,l0,l1,e0,e1,i0,i1,h0',h1',h0,h1,hk⟩
  ·rw [hk] at ho;simp at ho
  ·rw [h1] at ho;simp only [zI,Obj.row.injEq] at ho;obtain ⟨rfl,hl,rfl⟩:=ho;have:=h _ _ _ h0;rcases hk with hk | ⟨rfl,hlen,hsv⟩
   ·exact ⟨by omega,fun he=>by omega⟩
   ·exact ⟨this.1,fun he=>by rw [z2z hsv];exact this.2 he⟩
  ·rw [h1] at ho;simp at ho
  ·rw [h1] at ho;simp at ho
  ·rw [h1] at ho;simp at ho
 | .mref id,_,hi,⟨v,hv,hone,h⟩=>by
  refine ⟨v,hv,hone,fun kt vt m ho=>?_⟩;rcases hi id (by simp [AVal.ids]) with hk | ⟨t0,l0,l1,e0,e1,h0,h1,hk⟩ | ⟨a,a',h0,h1,_⟩ | ⟨kt',vt',m0,m1,h0,h1,hmb⟩ | ⟨t0,l0,l1,e0,e1,i0,i1,h0',h1',h0,h1,hk⟩
  ·rw [hk] at ho;simp at ho
  ·rw [h1] at ho;simp at ho
  ·rw [h1] at ho;simp at ho
  ·rw [h1] at ho;simp only [zI,Obj.map.injEq] at ho;obtain ⟨rfl,rfl,_⟩:=ho;rw [hmb];exact h _ _ _ h0
  ·rw [h1] at ho;simp at ho
 | .nv pt id p ep,_,hi,⟨v,hv,hone,h⟩=>by
  refine ⟨v,hv,hone,fun t l e i h' ho=>?_⟩;rcases hi id (by simp [AVal.ids]) with hk | ⟨t0,l0,l1,e0,e1,h0,h1,hk⟩ | ⟨a,a',h0,h1,_⟩ | ⟨kt',vt',m0,m1,h0,h1,hmb⟩ | ⟨t0,l0,l1,e0,e1,i0,i1,h0',h1',h0,h1,he,hi,hse,hsi⟩
  ·rw [hk] at ho;simp at ho
  ·rw [h1] at ho;simp at ho
  ·rw [h1] at ho;simp at ho
  ·rw [h1] at ho;simp at ho
  ·rw [h1] at ho;simp only [zI,Obj.nest.injEq] at ho;obtain ⟨rfl,_,rfl,rfl,_⟩:=ho;obtain ⟨hle,hx⟩:=h _ _ _ _ _ h0;have hmono:nep pt p e0 i0≤nep pt p e1 i1:=by
    unfold nep;split
    ·exact he
    ·exact hi
   refine ⟨Nat.le_trans hle hmono,fun heq=>?_⟩;have heq0:nep pt p e0 i0=ep:=by omega
   obtain ⟨hx1,hx2⟩:=hx heq0;refine ⟨fun hp=>?_,fun hp=>?_⟩
   ·subst hp;rw [hx1 rfl]
    cases p with
    | nil=>
     simp only [nep] at heq heq0
     exact (hse (by omega)).symm
    | cons s q=>
     simp only [nep] at heq heq0;exact (hsi (by omega) _).symm
   ·subst hp;have hii:i0=i1:=by
     simp only [nep] at heq heq0;omega
    rw [z2z (hsi hii)]
    exact hx2 rfl
 | .clos f c,_,hi,⟨vs,hv,h⟩=>⟨vs,hv,AOK.frame hr (a:=c) (fun id h=>hi id h) h⟩
 | .ifc t c,_,hi,⟨x,cs',hv,h,hx⟩=>⟨x,cs',hv,AOK.frame hr (a:=c) (fun id h=>hi id h) h,hx⟩
 | .agg c,_,hi,h=>AOK.frame hr (a:=c) (fun id h=>hi id h) h
 | .tup _,_,_,h=>h.elim
 | .pr a b,_,hi,⟨c1,c2,hc,h1,h2⟩=>
  ⟨c1,c2,hc,AOK.frame hr (fun id h=>hi id (by simp [AVal.ids,h])) h1,AOK.frame hr (fun id h=>hi id (by simp [AVal.ids,h])) h2⟩
 | .un,_,_,h=>h
theorem z19 {w:World} {g:Ghost} {objs:z2c} {a:AVal} {v:Value} {cs:List Value} (h:AOK w g objs a cs) (hv:v=mkV a.isAgg cs)
  (h1:∀ x y,a≠.pr x y) (h2:a≠.un):VOK w g objs a v:=by
 cases a with
 | tup c=>exact h.elim
 | pr x y=>exact absurd rfl (h1 x y)
 | un=>exact absurd rfl h2
 | _=>exact ⟨cs,h,hv⟩
theorem z4y {w:World} {g:Ghost} {objs:z2c} {a:AVal} {v:Value} (h:VOK w g objs a v) (ht:∀ c,a≠.tup c) :
  ∃ cs,AOK w g objs a cs∧v=mkV a.isAgg cs:=by
 cases a with
 | tup c=>exact absurd rfl (ht c)
 | pr x y=>exact h.elim
 | un=>exact h.elim
 | _=>exact h
mutual
theorem VOK.frame {w w':World} {g g':Ghost} {objs objs':z2c} (hr:RoKept w g w' g'):{a:AVal}->{v:Value}->
  (∀ id,id∈a.ids->z15 g g' id (objs id) (objs' id))->VOK w g objs a v->VOK w' g' objs' a v
 | .tup c,_,hi,h=>by
  simp only [VOK] at h ⊢;obtain ⟨vs,hv,h⟩:=h
  exact ⟨vs,hv,z1o.frame hr (a:=c) (fun id h=>hi id (by simpa [AVal.ids] using h)) h⟩
 | .pr _ _,_,_,h=>by simp only [VOK] at h
 | .un,_,_,h=>by simp only [VOK] at h
 | .data t d,_,hi,h=>by simp only [VOK] at h ⊢;obtain ⟨cs,h,hv⟩:=h;exact ⟨cs,AOK.frame hr hi h,hv⟩
 | .nilS,_,hi,h=>by simp only [VOK] at h ⊢;obtain ⟨cs,h,hv⟩:=h;exact ⟨cs,AOK.frame hr hi h,hv⟩
 | .ref _ _ _,_,hi,h=>by simp only [VOK] at h ⊢;obtain ⟨cs,h,hv⟩:=h;exact ⟨cs,AOK.frame hr hi h,hv⟩
 | .view _ _ _ _ _,_,hi,h=>by simp only [VOK] at h ⊢;obtain ⟨cs,h,hv⟩:=h;exact ⟨cs,AOK.frame hr hi h,hv⟩
 | .bptr _ _,_,hi,h=>by simp only [VOK] at h ⊢;obtain ⟨cs,h,hv⟩:=h;exact ⟨cs,AOK.frame hr hi h,hv⟩
 | .eptr _ _ _,_,hi,h=>by simp only [VOK] at h ⊢;obtain ⟨cs,h,hv⟩:=h;exact ⟨cs,AOK.frame hr hi h,hv⟩
 | .mref _,_,hi,h=>by simp only [VOK] at h ⊢;obtain ⟨cs,h,hv⟩:=h;exact ⟨cs,AOK.frame hr hi h,hv⟩
 | .nv _ _ _ _,_,hi,h=>by simp only [VOK] at h ⊢;obtain ⟨cs,h,hv⟩:=h;exact ⟨cs,AOK.frame hr hi h,hv⟩
 | .clos _ _,_,hi,h=>by simp only [VOK] at h ⊢;obtain ⟨cs,h,hv⟩:=h;exact ⟨cs,AOK.frame hr hi h,hv⟩
 | .ifc _ _,_,hi,h=>by simp only [VOK] at h ⊢;obtain ⟨cs,h,hv⟩:=h;exact ⟨cs,AOK.frame hr hi h,hv⟩
 | .agg _,_,hi,h=>by simp only [VOK] at h ⊢;obtain ⟨cs,h,hv⟩:=h;exact ⟨cs,AOK.frame hr hi h,hv⟩
theorem z1o.frame {w w':World} {g g':Ghost} {objs objs':z2c} (hr:RoKept w g w' g'):{a:AVal}->{vs:List Value}->
  (∀ id,id∈a.ids->z15 g g' id (objs id) (objs' id))->z1o w g objs a vs->z1o w' g' objs' a vs
 | .pr a b,_,hi,h=>by
  simp only [z1o] at h ⊢;obtain ⟨v,r,hv,h1,h2⟩:=h
  exact ⟨v,r,hv,VOK.frame hr (fun id h=>hi id (by simp [AVal.ids,h])) h1,z1o.frame hr (fun id h=>hi id (by simp [AVal.ids,h])) h2⟩
 | .un,_,_,h=>by simp only [z1o] at h ⊢;exact h
 | .tup _,_,_,h=>by simp only [z1o] at h
 | .data _ _,_,_,h=>by simp only [z1o] at h
 | .nilS,_,_,h=>by simp only [z1o] at h
 | .ref _ _ _,_,_,h=>by simp only [z1o] at h
 | .view _ _ _ _ _,_,_,h=>by simp only [z1o] at h
 | .bptr _ _,_,_,h=>by simp only [z1o] at h
 | .eptr _ _ _,_,_,h=>by simp only [z1o] at h
 | .mref _,_,_,h=>by simp only [z1o] at h
 | .nv _ _ _ _,_,_,h=>by simp only [z1o] at h
 | .clos _ _,_,_,h=>by simp only [z1o] at h
 | .ifc _ _,_,_,h=>by simp only [z1o] at h
 | .agg _,_,_,h=>by simp only [z1o] at h
end
structure Same (w:World) (g:Ghost) (w':World) (g':Ghost) (id:Nat):Prop where
 row:Moved w g w' g' id [] id []
 blk:g'.blk id=g.blk id
 box:g.tag (g.blk id) = .box id->g'.tag (g.blk id) = .box id∧w'.heap[g.blk id]? = w.heap[g.blk id]?
theorem z14.frame {w w':World} {g g':Ghost} {objs objs':z2c} (hr:RoKept w g w' g') {id:Nat} {o:Obj} (hs:Same w g w' g' id)
  (hi:∀ a,o = .cell a->∀ id,id∈a.ids->z15 g g' id (objs id) (objs' id)) (h:z14 w g objs id o):z14 w' g' objs' id o:=by
 cases o with
 | row t l e=>
  refine ⟨h.1,?_⟩;have:=hs.row.sv [];simp only [List.append_nil] at this;rw [this]
  exact Rep.move hr (o:=some (id,[])) (o':=some (id,[])) hs.row h.2
 | cell a=>
  cases htu:a.isTup with
  | true=>
   cases hcon:a.isCon with
   | true=>
    obtain ⟨x,rfl⟩:=zja hcon;obtain ⟨c,e,hc,ht,hok⟩:=(z14.con hcon).1 h;obtain ⟨h1,h2⟩:=hr.blk _ ht
    exact (z14.con hcon).2 ⟨c,e,by rw [hs.blk,h2];exact hc,by rw [hs.blk];exact h1,AOK.frame hr (fun i hi'=>hi _ rfl i hi') hok⟩
   | false=>
   refine (z14.iter htu hcon).2 ?_;obtain ⟨mid,n,bm,seen,last,ha,hc,ht,hn,hb⟩:=(z14.iter htu hcon).1 h;obtain ⟨h1,h2⟩:=hs.box ht;refine ⟨mid,n,bm,seen,last,ha,by rw [hs.blk,h2];exact hc,by rw [hs.blk];exact h1,hn,fun kt vt m ho=>?_⟩;rcases hi a rfl mid (by rw [ha];simp [zae,AVal.ids]) with hk | ⟨_,_,_,_,_,_,hk,_⟩ | ⟨_,_,_,hk,_⟩ | ⟨kt',vt',m0,m1,h0,h1,hmb⟩ | ⟨_,_,_,_,_,_,_,_,_,_,hk,_⟩
   ·rw [hk] at ho;simp at ho
   ·rw [hk] at ho;simp at ho
   ·rw [hk] at ho;simp at ho
   ·rw [hmb];exact hb _ _ _ h0
   ·rw [hk] at ho;simp at ho
  | false=>
   obtain ⟨c,e,hc,ht,hok⟩:=h.out htu;obtain ⟨h1,h2⟩:=hs.box ht;refine z14.mk ⟨c,e,?_,?_,AOK.frame hr (hi a rfl) hok⟩
   ·rw [hs.blk,h2];exact hc
   ·rw [hs.blk];exact h1
 | map kt vt m=>
  obtain ⟨es,ck,hc,ht,h1,h2,hm,h3⟩:=h;obtain ⟨k1,k2⟩:=hs.box ht
  exact ⟨es,ck,by rw [hs.blk,k2];exact hc,by rw [hs.blk];exact k1,h1,h2,hm.kept hr,h3⟩
 | nest t l e i hole=>
  have hsv:∀ q,g'.sv id q=g.sv id q:=fun q=>by have:=hs.row.sv q;simpa using this
  have hblk:∀ q b,g.tag b = .row id q->g'.tag b = .row id q∧w'.heap[b]? = w.heap[b]? := fun q b hb=>by have:=hs.row.blk q b (by simpa using hb);simpa using this
  cases hole with
  | none=>
   have h':Rep w g (some (id,[])) (.sl true t) l [g.sv id []]:=h;show Rep w' g' (some (id,[])) (.sl true t) l [g'.sv id []];rw [hsv]
   exact Rep.move hr (o:=some (id,[])) (o':=some (id,[])) hs.row h'
  | some p=>
   obtain ⟨⟨bk,o0,cap0,hsv0⟩,v,b0,off,c,ee,pre,hty,hpl,htag,hpre,hcell,hoff,hw⟩:=h;obtain ⟨k1,k2⟩:=hblk _ _ htag;refine ⟨⟨bk,o0,cap0,by rw [hsv];exact hsv0⟩,v,b0,off,c,ee,pre,hty,by rw [z2z hsv];exact hpl,k1,hpre,by rw [k2];exact hcell,hoff,fun w2 g2 l1 x hn hc2 hrep R f r hset=>?_⟩;refine hw w2 g2 l1 x ⟨⟨fun b hb=>?_⟩,fun q hq=>(hn.sv q hq).trans (hsv q),fun q b hb hq=>?_⟩ hc2 hrep f r hset
   ·obtain ⟨j1,j2⟩:=hr.blk b hb;obtain ⟨m1,m2⟩:=hn.ro.blk b j1;exact ⟨m1,m2.trans j2⟩
   ·obtain ⟨j1,j2⟩:=hblk q b hb;obtain ⟨m1,m2⟩:=hn.blk q b j1 hq;exact ⟨m1,fun hne=>(m2 hne).trans j2⟩
theorem z15.refl (g:Ghost) (id:Nat) (o:Option Obj):z15 g g id o o:=by
 cases o with
 | none=>exact .inl rfl
 | some o=>cases o with
  | row t l e=>exact .inr (.inl ⟨t,l,l,e,e,rfl,rfl,.inr ⟨rfl,rfl,fun _=>rfl⟩⟩)
  | cell a=>exact .inr (.inr (.inl ⟨a,a,rfl,rfl,rfl,rfl⟩))
  | map k v m=>exact .inr (.inr (.inr (.inl ⟨k,v,m,m,rfl,rfl,rfl⟩)))
  | nest t l e i h=>exact .inr (.inr (.inr (.inr ⟨t,l,l,e,e,i,i,h,h,rfl,rfl,Nat.le_refl _,Nat.le_refl _,fun _=>rfl,fun _ _=>rfl⟩)))
theorem z15.same {w w':World} {g g':Ghost} {id:Nat} {o:Option Obj} (hs:Same w g w' g' id):z15 g g' id o o:=by
 cases o with
 | none=>exact .inl rfl
 | some o=>cases o with
  | row t l e=>exact .inr (.inl ⟨t,l,l,e,e,rfl,rfl,.inr ⟨rfl,rfl,fun p=>by have:=hs.row.sv p;simpa using this⟩⟩)
  | cell a=>exact .inr (.inr (.inl ⟨a,a,rfl,rfl,rfl,hs.blk⟩))
  | map k v m=>exact .inr (.inr (.inr (.inl ⟨k,v,m,m,rfl,rfl,hs.blk⟩)))
  | nest t l e i h=>exact .inr (.inr (.inr (.inr ⟨t,l,l,e,e,i,i,h,h,rfl,rfl,Nat.le_refl _,Nat.le_refl _,fun _=>by have:=hs.row.sv [];simpa using this,fun _ p=>by have:=hs.row.sv p;simpa using this⟩)))
theorem zd0 {a:Act} {d:Option Nat} {v:Value} {i:Nat}:(a.put d v).tmps[i]? = if d=some i∧i < a.tmps.size then some v else a.tmps[i]? := by
 cases d with
 | none=>simp [Act.put]
 | some j=>
  simp only [Act.put,zI];rw [Array.getElem?_setIfInBounds];by_cases h:j=i
  ·subst h;by_cases h2:j < a.tmps.size
   ·simp [h2]
   ·simp [h2]
  ·simp [h]
theorem zrs {a:Act} {d:Option Nat} {v:Value}:(a.put d v).tmps.size=a.tmps.size:=by cases d <;> simp [Act.put]
theorem zir {a:Act} {d:Option Nat} {v:Value}:(a.put d v).defers=a.defers:=by cases d <;> simp [Act.put]
theorem eval_tmp {a:Act} {t:Nat} {v:Value} (h:a.tmps[t]? = some v):a.eval (.tmp t)=v:=by
 simp [Act.eval,Array.getD_eq_getD_getElem?,h]
end Go.Kz
namespace Go.Kz
variable {R:Type}
def z44 (w w':World):Prop:=∀ b,b < w.heap.size->w'.heap[b]? = w.heap[b]?
theorem z44.refl (w:World):z44 w w:=fun _ _=>rfl
def AgP (o:Oper) (w w':World):Prop:=isP o=false->z44 w w'
theorem AgP.refl (o:Oper) (w:World):AgP o w w:=fun _=>z44.refl w
def z79 (n:Nat) (k:St->Option R) (r:R) (g:Ghost) (w:World) (σ:St) (base:Nat) (mo:Bool) (K:Act->World->Prop):Prop:=
 ∀ σ' g' a' w',k σ'=some r->StOK n g' w' a' σ'->Ext w g w' g'->(∀ m,(m < base∨base+8≤m)->Fresh g σ m->Fresh g' σ' m)->σ'.next=σ.next->(mo=false->z44 w w')->K a' w'
theorem StOK.put {n:Nat} {g:Ghost} {w:World} {a:Act} {σ:St} (h:StOK n g w a σ) {d:Nat} (hd:d < n) {av:AVal} {v:Value} (hv:VOK w g σ.objs av v) :
  StOK n g w (a.put (some d) v) (σ.set d av):=by
 refine ⟨fun i x hx=>?_,h.heap,by rw [zrs];exact h.size,by rw [zir];exact h.defers,h.known⟩;simp only [St.set,upd] at hx;rw [zd0];by_cases hi:i=d
 ·subst hi;have:Nat.beq i i=true:=Nat.beq_refl i;rw [this] at hx;simp only [cond_true,zI] at hx;subst hx;exact ⟨v,by rw [if_pos ⟨rfl,by rw [h.size];exact hd⟩],hv⟩
 ·have:Nat.beq i d=false:=by
   cases hb:Nat.beq i d with
   | true=>exact absurd (zE hb) hi
   | false=>rfl
  rw [this] at hx;simp only [cond_false] at hx;obtain ⟨u,hu,hok⟩:=h.slots i x hx;exact ⟨u,by rw [if_neg (by intro hh;simp at hh;exact hi hh.1.symm)];exact hu,hok⟩
theorem StOK.putU {n:Nat} {g:Ghost} {w:World} {a:Act} {σ:St} (h:StOK n g w a σ) (d:Option Nat) (v:Value):StOK n g w (a.put d v) (σ.unset d):=by
 cases d with
 | none=>exact h
 | some d=>
  refine ⟨fun i x hx=>?_,h.heap,by rw [zrs];exact h.size,by rw [zir];exact h.defers,h.known⟩;simp only [St.unset,upd] at hx;rw [zd0]
  cases hb:Nat.beq i d with
  | true=>rw [hb] at hx;simp at hx
  | false=>
   rw [hb] at hx;simp only [cond_false] at hx;obtain ⟨u,hu,hok⟩:=h.slots i x hx;refine ⟨u,?_,hok⟩;rw [if_neg (by intro hh;simp at hh;rw [hh.1] at hb;rw [Nat.beq_refl] at hb;simp at hb)];exact hu
theorem Fresh.set {g:Ghost} {σ:St} {m:Nat} (h:Fresh g σ m) (d:Nat) {av:AVal} (hv:m∉av.ids):Fresh g (σ.set d av) m:=by
 refine ⟨h.objs,h.row,h.box,fun i x hx=>?_,h.cells⟩;simp only [St.set,upd] at hx
 cases hb:Nat.beq i d with
 | true=>rw [hb] at hx;simp at hx;subst hx;exact hv
 | false=>rw [hb] at hx;exact h.slots i x hx
theorem Fresh.unset {g:Ghost} {σ:St} {m:Nat} (h:Fresh g σ m) (d:Option Nat):Fresh g (σ.unset d) m:=by
 cases d with
 | none=>exact h
 | some d=>
  refine ⟨h.objs,h.row,h.box,fun i x hx=>?_,h.cells⟩;simp only [St.unset,upd] at hx
  cases hb:Nat.beq i d with
  | true=>rw [hb] at hx;simp at hx
  | false=>rw [hb] at hx;exact h.slots i x hx
theorem z6h {c:Ctx} {σ:St} {d:Option Nat} {av:AVal} {k:St->Option R} {r:R} (h:σ.putK c d av k=some r) :
  (d=none∧k σ=some r)∨∃ i,d=some i∧i < c.ntmps∧k (σ.set i av)=some r:=by
 cases d with
 | none=>exact .inl ⟨rfl,h⟩
 | some i=>
  simp only [St.putK] at h
  cases hb:Nat.blt i c.ntmps with
  | false=>rw [hb] at h;simp at h
  | true=>
   rw [hb] at h;refine .inr ⟨i,rfl,?_,h⟩;have:=zL hb;omega
structure Yield (P:Program) (o:Oper) (a:Act) (w:World) (g:Ghost) (σ:St) (c:Ctx) (k:St->Option R) (r:R):Prop where
 out:∃ av v,(∀ w',AgP o w w'->(execOp a.eval o).run P w' = .ok (.value v) w')∧VOK w g σ.objs av v∧(∀ m,Fresh g σ m->m∉av.ids)∧σ.putK c o.dst av k=some r
theorem yld {P:Program} {o:Oper} {a:Act} {w:World} {c:Ctx} {σ:St} {g:Ghost} {k:St->Option R} {r:R} {av:AVal} {v:Value}
  (hrun:∀ w',AgP o w w'->(execOp a.eval o).run P w' = .ok (.value v) w') (hv:VOK w g σ.objs av v) (hids:∀ m,Fresh g σ m->m∉av.ids) (h:σ.putK c o.dst av k=some r):Yield P o a w g σ c k r:=
 ⟨av,v,hrun,hv,hids,h⟩
theorem wp_pure {P:Program} {o:Oper} {a:Act} {w:World} {K:Act->World->Prop} {Q:Exit->Act->World->Prop} {c:Ctx} {σ:St} {g:Ghost} {k:St->Option R} {r:R} {base:Nat} {mo:Bool}
  {av:AVal} {v:Value} (hst:StOK c.ntmps g w a σ) (hrun:(execOp a.eval o).run P w = .ok (.value v) w)
  (hv:VOK w g σ.objs av v) (hids:∀ m,Fresh g σ m->m∉av.ids) (h:σ.putK c o.dst av k=some r) (hK:z79 c.ntmps k r g w σ base mo K):o.wp P a w K Q:=by
 unfold Oper.wp;rw [hrun,Oper.upon_value];rcases z6h h with ⟨hd,hk⟩ | ⟨i,hd,hi,hk⟩
 ·rw [hd];exact hK σ g a w hk hst (Ext.refl _ _) (fun m _ hm=>hm) rfl (fun _=>z44.refl w)
 ·rw [hd];exact hK _ g _ w hk (hst.put hi hv) (Ext.refl _ _) (fun m _ hm=>hm.set i (hids m hm)) rfl (fun _=>z44.refl w)
theorem Yield.wp {P:Program} {o:Oper} {a:Act} {w:World} {K:Act->World->Prop} {Q:Exit->Act->World->Prop} {c:Ctx} {σ:St} {g:Ghost} {k:St->Option R} {r:R} {base:Nat} {mo:Bool}
  (hy:Yield P o a w g σ c k r) (hst:StOK c.ntmps g w a σ) (hK:z79 c.ntmps k r g w σ base mo K):o.wp P a w K Q:=by
 obtain ⟨av,v,h1,h2,h3,h4⟩:=hy.out;exact wp_pure hst (h1 w (AgP.refl o w)) h2 h3 h4 hK
theorem z3k {w:World} {g:Ghost} {objs:z2c} {k:IntKind} {n:Int} {v:Value} (h:VOK w g objs (.data (.int k) n) v):v = .int k n∧k.min≤n∧n≤k.max:=by
 simp only [VOK] at h;obtain ⟨cs,⟨_,hc,h1,h2⟩,hv⟩:=h;subst hc;exact ⟨hv,h1,h2⟩
theorem z4j {w:World} {g:Ghost} {objs:z2c} {k:IntKind} {n:Int} (h:k.min≤n∧n≤k.max):VOK w g objs (.data (.int k) n) (.int k n):=by
 simp only [VOK];exact ⟨[.int k n],⟨rfl,rfl,h⟩,rfl⟩
theorem z8s {w:World} {g:Ghost} {objs:z2c} {b:Bool} {v:Value} (h:VOK w g objs (.data .bool b) v):v = .bool b:=by
 simp only [VOK] at h;obtain ⟨cs,⟨_,hc⟩,hv⟩:=h;cases hc;exact hv
theorem z3v {w:World} {g:Ghost} {objs:z2c} (b:Bool):VOK w g objs (.data .bool b) (.bool b):=by
 simp only [VOK];exact ⟨[.bool b],⟨rfl,rfl⟩,rfl⟩
theorem zbc {w:World} {g:Ghost} {objs:z2c} {v:Value}:VOK w g objs .nilS v↔v = .slice none 0 0:=by
 simp only [VOK];exact ⟨fun ⟨cs,h,hv⟩=>by cases h;exact hv,fun h=>⟨_,rfl,h⟩⟩
theorem z48 (k:IntKind) (n:Int):k.min≤k.wrap n∧k.wrap n≤k.max:=by
 cases k <;> simp only [IntKind.wrap,IntKind.min,IntKind.max,IntKind.bits,IntKind.signed] <;> simp <;> (try split) <;> omega
theorem z24 {n:Nat} {g:Ghost} {w:World} {a:Act} {σ:St} (hst:StOK n g w a σ) {x:Operand} {av:AVal} (h:ev σ x=some av) :
  VOK w g σ.objs av (a.eval x)∧∀ m,Fresh g σ m->m∉av.ids:=by
 cases x with
 | tmp t=>
  obtain ⟨v,hv,hok⟩:=hst.slots t av h;rw [eval_tmp hv]
  exact ⟨hok,fun m hm=>hm.slots t av h⟩
 | const v=>
  cases v with
  | int k i=>
   simp only [ev] at h
   cases hb:(decide (k.min≤i) && decide (i≤k.max)) with
   | false=>rw [hb] at h;simp at h
   | true=>
    rw [hb] at h;simp only [cond_true,zI] at h;subst h;simp at hb
    exact ⟨z4j hb,fun m _=>by simp [AVal.ids]⟩
  | bool b=>
   simp only [ev,zI] at h;subst h
   exact ⟨z3v b,fun m _=>by simp [AVal.ids]⟩
  | string s=>
   simp only [ev] at h
   cases hb:Nat.ble s.size 100000 with
   | false=>rw [hb] at h;simp at h
   | true=>
    rw [hb] at h;simp only [cond_true,zI] at h;subst h;refine ⟨?_,fun m _=>by simp [AVal.ids]⟩;have:=zL hb;simp only [VOK]
    exact ⟨[.string s],⟨rfl,s,rfl,rfl,by unfold maxLen;omega⟩,rfl⟩
  | slice b l cp=>
   cases b with
   | some _=>simp [ev] at h
   | none=>
    cases l with
    | succ _=>simp [ev] at h
    | zero=>
     cases cp with
     | succ _=>simp [ev] at h
     | zero=>
      simp only [ev,zI] at h;subst h
      exact ⟨zbc.2 rfl,fun m _=>by simp [AVal.ids]⟩
  | _=>simp [ev] at h
 | global b=>
  simp only [ev] at h;split at h
  ·rename_i e he;simp only [zI] at h;subst h;obtain ⟨h1,h2⟩:=hst.known b e he;refine ⟨?_,fun m _=>by simp [AVal.ids]⟩;simp only [VOK];exact ⟨[.pointer (some ⟨b,0,none⟩)],⟨h1,h2⟩,rfl⟩
  ·simp at h
 | func f=>
  simp only [ev,zI] at h;subst h;refine ⟨?_,fun m _=>by simp [AVal.ids]⟩;simp only [VOK];exact ⟨[.func (.func f) #[] #[]],⟨[],rfl,rfl⟩,rfl⟩
theorem ze5 {n:Nat} {g:Ghost} {w:World} {a:Act} {σ:St} (hst:StOK n g w a σ):{l:List Operand}->{av:AVal}->evs σ l=some av->
  z1o w g σ.objs av (l.map a.eval)∧∀ m,Fresh g σ m->m∉av.ids
 | [],av,h=>by
  simp only [evs,zI] at h;subst h
  exact ⟨by simp [z1o],fun m _=>by simp [AVal.ids]⟩
 | x :: l,av,h=>by
  simp only [evs] at h;split at h
  ·rename_i a1 c1 h1 h2;simp only [zI] at h;subst h;have e1:=z24 hst h1;have e2:=ze5 hst h2;refine ⟨?_,fun m hm=>?_⟩
   ·simp only [z1o,List.map_cons];exact ⟨_,_,rfl,e1.1,e2.1⟩
   ·simp only [AVal.ids,List.mem_append,not_or];exact ⟨e1.2 m hm,e2.2 m hm⟩
  ·simp at h
end Go.Kz
namespace Go.Kz
variable {R:Type}
section
variable {P:Program} {o:Oper} {a:Act} {w:World} {K:Act->World->Prop} {Q:Exit->Act->World->Prop} {c:Ctx} {σ:St} {g:Ghost} {k:St->Option R} {r:R} {base:Nat}
theorem zw3 {x:Operand} (ho:o.op = .move x∨o.op = .assign x) (hst:StOK c.ntmps g w a σ) (h:z1s c σ base o k=some r):Yield P o a w g σ c k r:=by
 rcases ho with ho | ho <;> simp only [z1s,ho] at h <;> split at h
 ·rename_i av hav;obtain ⟨hv,hf⟩:=z24 hst hav;exact yld (v:=a.eval x) (fun _ _=>by simp [execOp,ho]) hv hf h
 ·simp at h
 ·rename_i av hav;obtain ⟨hv,hf⟩:=z24 hst hav;exact yld (v:=a.eval x) (fun _ _=>by simp [execOp,ho]) hv hf h
 ·simp at h
theorem op_pick {t x y:Operand} (ho:o.op = .pick t x y) (hst:StOK c.ntmps g w a σ) (h:z1s c σ base o k=some r):Yield P o a w g σ c k r:=by
 simp only [z1s,ho] at h;split at h
 ·rename_i b hb;have ht:=z8s (z24 hst hb).1
  cases b with
  | true=>
   simp only [cond_true] at h;split at h
   ·rename_i av hav;obtain ⟨hv,hf⟩:=z24 hst hav;exact yld (v:=a.eval x) (fun _ _=>by simp [execOp,ho,ht,asBool]) hv hf h
   ·simp at h
  | false=>
   simp only [cond_false] at h;split at h
   ·rename_i av hav;obtain ⟨hv,hf⟩:=z24 hst hav;exact yld (v:=a.eval y) (fun _ _=>by simp [execOp,ho,ht,asBool]) hv hf h
   ·simp at h
 ·simp at h
structure Plain (f:AVal->Option R) (r:R) (s:Sem Value) (P:Program):Prop where
 out:∃ av v,f av=some r∧(∀ w,s.run P w = .ok v w)∧av.ids=[]∧∀ w g objs,VOK w g objs av v
theorem Plain.int {f:AVal->Option R} {s:Sem Value} {k:IntKind} {n:Int} (h:f (.data (.int k) n)=some r) (hs:∀ w,s.run P w = .ok (.int k n) w) (hn:k.min≤n∧n≤k.max):Plain f r s P:=
 ⟨_,_,h,hs,rfl,fun _ _ _=>z4j hn⟩
theorem Plain.bool {f:AVal->Option R} {s:Sem Value} {b:Bool} (h:f (.data .bool b)=some r) (hs:∀ w,s.run P w = .ok (.bool b) w):Plain f r s P:=
 ⟨_,_,h,hs,rfl,fun _ _ _=>z3v b⟩
theorem zy6 {op:BinOp} {kd:IntKind} {x y:Int} {f:AVal->Option R} (hx:kd.min≤x∧x≤kd.max) (T:TypeId) (hsh:zgb op=false)
  (h:zk1 op kd x y f=some r):Plain f r (binOp op T (.int kd x) (.int kd y)) P:=by
 cases op <;> simp only [zk1] at h <;> simp only [zgb] at hsh
 case add=>exact .int h (fun _=>by simp [binOp,Op.intArith]) (z48 _ _)
 case sub=>exact .int h (fun _=>by simp [binOp,Op.intArith]) (z48 _ _)
 case mul=>exact .int h (fun _=>by simp [binOp,Op.intArith]) (z48 _ _)
 case quo=>
  cases hb:(y == 0) with
  | true=>rw [hb] at h;simp at h
  | false=>
   rw [hb] at h;have hy:¬ y=0:=by simpa using hb
   exact .int h (fun _=>by simp [binOp,Op.intDiv,hy]) (z48 _ _)
 case rem=>
  cases hb:(y == 0) with
  | true=>rw [hb] at h;simp at h
  | false=>
   rw [hb] at h;have hy:¬ y=0:=by simpa using hb
   refine .int h (fun _=>by simp [binOp,Op.intDiv,hy]) ?_;have h0:kd.min≤0∧0≤kd.max:=by cases kd <;> simp [IntKind.min,IntKind.max,IntKind.bits,IntKind.signed]
   have h3:(x.tmod y).natAbs≤x.natAbs:=by rw [Int.natAbs_tmod];exact Nat.mod_le _ _
   rcases Int.le_total 0 x with hp | hp
   ·have h1:=Int.tmod_nonneg y hp;omega
   ·have h1:x.tmod y≤0:=by
     have:=Int.tmod_nonneg y (a:=-x) (by omega);rw [Int.neg_tmod] at this;omega
    omega
 case and=>exact .int h (fun _=>by simp [binOp,Op.intBits]) (z48 _ _)
 case or=>exact .int h (fun _=>by simp [binOp,Op.intBits]) (z48 _ _)
 case xor=>exact .int h (fun _=>by simp [binOp,Op.intBits]) (z48 _ _)
 case andNot=>exact .int h (fun _=>by simp [binOp,Op.intBits]) (z48 _ _)
 case eql=>exact .bool h (fun _=>by simp [binOp,Op.intCmp])
 case neq=>exact .bool h (fun _=>by simp [binOp,Op.intCmp])
 case lss=>exact .bool h (fun _=>by simp [binOp,Op.intCmp])
 case leq=>exact .bool h (fun _=>by simp [binOp,Op.intCmp])
 case gtr=>exact .bool h (fun _=>by simp [binOp,Op.intCmp])
 case geq=>exact .bool h (fun _=>by simp [binOp,Op.intCmp])
 all_goals simp at hsh h
theorem zq1 {op:BinOp} {kd j:IntKind} {x y:Int} {f:AVal->Option R} (hx:kd.min≤x∧x≤kd.max) (T:TypeId)
  (h:z9x op kd x y f=some r):Plain f r (binOp op T (.int kd x) (.int j y)) P:=by
 cases op <;> simp only [z9x] at h
 case shl=>
  cases hb:decide (y < 0) with
  | true=>rw [hb] at h;simp at h
  | false=>
   rw [hb] at h;have hy:¬ y < 0:=by simpa using hb
   exact .int h (fun _=>by simp [binOp,Op.shift,hy]) (z48 _ _)
 case shr=>
  cases hb:decide (y < 0) with
  | true=>rw [hb] at h;simp at h
  | false=>
   rw [hb] at h;have hy:¬ y < 0:=by simpa using hb
   refine .int h (fun _=>by simp [binOp,Op.shift,hy]) ?_;have h0:kd.min≤0∧0≤kd.max:=by cases kd <;> simp [IntKind.min,IntKind.max,IntKind.bits,IntKind.signed]
   have h2:(1:Int)≤2 ^ (min y.toNat kd.bits):=by
    have:=Nat.one_le_two_pow (n:=min y.toNat kd.bits)
    exact_mod_cast this
   generalize hz:(2:Int) ^ (min y.toNat kd.bits)=z at h2;rw [Int.fdiv_eq_ediv_of_nonneg _ (by omega)];rcases Int.le_total 0 x with hp | hp
   ·have h3:=Int.ediv_nonneg hp (show 0≤z by omega);have h4:=Int.ediv_le_self z hp;omega
   ·have h3:x / z≤0:=Int.ediv_le_of_le_mul (by omega) (by omega);have h4:x≤x / z:=by
     have:=Int.le_ediv_of_mul_le (a:=x) (b:=x) (c:=z) (by omega) (by
      have:=Int.mul_le_mul_of_nonpos_left (a:=x) (b:=z) (c:=1) hp h2;rw [Int.mul_one] at this;exact this)
     exact this
    omega
 all_goals simp at h
end
end Go.Kz
namespace Go.Kz
variable {R:Type}
theorem zlx {a b:Nat}:(Nat.beq a b=true)=(a=b):=propext ⟨zE,fun h=>h ▸ Nat.beq_refl a⟩
def zeroCells:Ty->List Value
 | .int k=>[.int k 0]
 | .bool=>[.bool false]
 | .str=>[.string ByteArray.empty]
 | .unit=>[]
 | .pair a b=>zeroCells a++zeroCells b
 | .arr n t=>(List.replicate n (zeroCells t)).flatten
 | .sl _ _=>[.slice none 0 0]
 | .ptr _=>[.pointer none]
 | .fn f _=>cond (Nat.beq f 999983) [.map none] [.nilFunc]
structure InfoOK (P:Program) (T:TypeId) (t:Ty):Prop where
 info:∃ i z,P.info? T=some i∧i.size=t.size∧i.bytes≤32768∧i.zero=some z∧z.cells.toList=zeroCells t∧0 < i.size
mutual
def z2j (P:Program):Ty->TypeId->Prop
 | .int k,T=>P.underlying T=some (.int k)∧InfoOK P T (.int k)
 | .bool,T=>P.underlying T=some .bool∧InfoOK P T .bool
 | .str,T=>P.underlying T=some .string∧InfoOK P T .str
 | .unit,_=>False
 | .pair a b,T=>(∃ fs,P.underlying T=some (.struct fs)∧z6v P (.pair a b) fs.toList 0)∧InfoOK P T (.pair a b)
 | .arr n t,T=>(∃ E,P.underlying T=some (.array n E)∧z2j P t E)∧InfoOK P T (.arr n t)
 | .sl o t,T=>(∃ E,P.underlying T=some (.slice E)∧z2j P t E)∧InfoOK P T (.sl o t)
 | .ptr t,T=>(∃ E,P.underlying T=some (.pointer E))∧InfoOK P T (.ptr t)
 | .fn f c,T=>((∃ a b d,P.underlying T=some (.func a b d))∨∃ a b,P.underlying T=some (.map a b))∧InfoOK P T (.fn f c)
def z6v (P:Program):Ty->List Field->Nat->Prop
 | .pair a b,f :: fs,off=>f.offset=off∧z2j P a f.type∧z6v P b fs (off+a.size)
 | .unit,[],_=>True
 | _,_,_=>False
end
theorem z2j.info {P:Program} {t:Ty} {T:TypeId} (h:z2j P t T):InfoOK P T t:=by
 cases t <;> simp only [z2j] at h <;> first | exact h.2 | exact h.elim
def sameZ:Value->Value->Bool
 | .int j a,.int k b=>(match decEq j k with
   | isTrue _=>true
   | isFalse _=>false) && decide (a=b)
 | .bool a,.bool b=>a == b
 | .string a,.string b=>Nat.beq a.size 0 && Nat.beq b.size 0
 | .slice none a b,.slice none c d=>Nat.beq a c && Nat.beq b d
 | .pointer none,.pointer none=>true
 | .nilFunc,.nilFunc=>true
 | .map none,.map none=>true
 | _,_=>false
def zin:List Value->List Value->Bool
 | [],[]=>true
 | a :: l,b :: m=>sameZ a b && zin l m
 | _,_=>false
theorem zz9 {a b:Value} (h:sameZ a b=true):a=b:=by
 unfold sameZ at h;split at h
 ·rename_i j a k b;simp only [zA,decide_eq_true_eq] at h;obtain ⟨h1,rfl⟩:=h;split at h1
  ·rename_i h2 _;rw [h2]
  ·simp at h1
 ·simpa using h
 ·rename_i a b;simp only [zA,zlx] at h;have ha:a=ByteArray.empty:=by
   cases a with | mk a=>congr 1;exact Array.eq_empty_of_size_eq_zero h.1
  have hb:b=ByteArray.empty:=by
   cases b with | mk a=>congr 1;exact Array.eq_empty_of_size_eq_zero h.2
  rw [ha,hb]
 ·simp only [zA,zlx] at h;rw [h.1,h.2]
 ·rfl
 ·rfl
 ·rfl
 ·simp at h
theorem zmh:{a b:List Value}->zin a b=true->a=b
 | [],[],_=>rfl
 | a :: l,b :: m,h=>by
  simp only [zin,zA] at h
  rw [zz9 h.1,zmh h.2]
 | [],_ :: _,h=>by simp [zin] at h
 | _ :: _,[],h=>by simp [zin] at h
def z8w (P:Program) (T:TypeId) (t:Ty):Bool:=
 match P.info? T with
 | some i=>match i.zero with
  | some z=>Nat.beq i.size t.size && Nat.ble i.bytes 32768 && zin z.cells.toList (zeroCells t) && Nat.blt 0 i.size
  | none=>false
 | none=>false
theorem z74 {P:Program} {T:TypeId} {t:Ty} (h:z8w P T t=true):InfoOK P T t:=by
 unfold z8w at h;split at h
 ·rename_i i hi;split at h
  ·rename_i z hz;simp only [zA,zlx] at h;exact ⟨⟨i,z,hi,h.1.1.1,zL h.1.1.2,hz,zmh h.1.2,zL h.2⟩⟩
  ·simp at h
 ·simp at h
def zpo (P:Program):Ty->(TypeId->Bool)×(List Field->Nat->Bool)
 | .int k=>(fun T=>(match P.underlying T with
  | some (.int j)=>(match decEq j k with
   | isTrue _=>true
   | isFalse _=>false)
  | _=>false) && z8w P T (.int k),fun _ _=>false)
 | .bool=>(fun T=>(match P.underlying T with
  | some .bool=>true
  | _=>false) && z8w P T .bool,fun _ _=>false)
 | .str=>(fun T=>(match P.underlying T with
  | some .string=>true
  | _=>false) && z8w P T .str,fun _ _=>false)
 | .unit=>(fun _=>false,fun fs _=>match fs with
  | []=>true
  | _=>false)
 | .pair a b=>
  let f:List Field->Nat->Bool:=fun fs off=>match fs with
   | f :: fs=>Nat.beq f.offset off && (zpo P a).1 f.type && (zpo P b).2 fs (off+a.size)
   | []=>false
  (fun T=>(match P.underlying T with
   | some (.struct fs)=>f fs.toList 0
   | _=>false) && z8w P T (.pair a b),f)
 | .arr n t=>(fun T=>(match P.underlying T with
  | some (.array m E)=>Nat.beq m n && (zpo P t).1 E
  | _=>false) && z8w P T (.arr n t),fun _ _=>false)
 | .sl o t=>(fun T=>(match P.underlying T with
  | some (.slice E)=>(zpo P t).1 E
  | _=>false) && z8w P T (.sl o t),fun _ _=>false)
 | .ptr t=>(fun T=>(match P.underlying T with
  | some (.pointer _)=>true
  | _=>false) && z8w P T (.ptr t),fun _ _=>false)
 | .fn f c=>(fun T=>(match P.underlying T with
  | some (.func _ _ _)=>true
  | some (.map _ _)=>true
  | _=>false) && z8w P T (.fn f c),fun _ _=>false)
def tyB (P:Program) (t:Ty) (T:TypeId):Bool:=(zpo P t).1 T
def fsB (P:Program) (t:Ty) (fs:List Field) (off:Nat):Bool:=(zpo P t).2 fs off
theorem tyB_int {P:Program} {k:IntKind} {T:TypeId}:tyB P (.int k) T=((match P.underlying T with
  | some (.int j)=>(match decEq j k with
   | isTrue _=>true
   | isFalse _=>false)
  | _=>false) && z8w P T (.int k)):=rfl
theorem zz0 {P:Program} {T:TypeId}:tyB P .bool T=((match P.underlying T with
  | some .bool=>true
  | _=>false) && z8w P T .bool):=rfl
theorem tyB_str {P:Program} {T:TypeId}:tyB P .str T=((match P.underlying T with
  | some .string=>true
  | _=>false) && z8w P T .str):=rfl
theorem tyB_ptr {P:Program} {t:Ty} {T:TypeId}:tyB P (.ptr t) T=((match P.underlying T with
  | some (.pointer _)=>true
  | _=>false) && z8w P T (.ptr t)):=rfl
theorem tyB_fn {P:Program} {f:Nat} {c:Ty} {T:TypeId}:tyB P (.fn f c) T=((match P.underlying T with
  | some (.func _ _ _)=>true
  | some (.map _ _)=>true
  | _=>false) && z8w P T (.fn f c)):=rfl
theorem zyz {P:Program} {a b:Ty} {T:TypeId}:tyB P (.pair a b) T=((match P.underlying T with
  | some (.struct fs)=>fsB P (.pair a b) fs.toList 0
  | _=>false) && z8w P T (.pair a b)):=rfl
theorem tyB_arr {P:Program} {n:Nat} {t:Ty} {T:TypeId}:tyB P (.arr n t) T=((match P.underlying T with
  | some (.array m E)=>Nat.beq m n && tyB P t E
  | _=>false) && z8w P T (.arr n t)):=rfl
theorem tyB_sl {P:Program} {o:Bool} {t:Ty} {T:TypeId}:tyB P (.sl o t) T=((match P.underlying T with
  | some (.slice E)=>tyB P t E
  | _=>false) && z8w P T (.sl o t)):=rfl
theorem fsB_pair {P:Program} {a b:Ty} {f:Field} {fs:List Field} {off:Nat}:fsB P (.pair a b) (f :: fs) off=(Nat.beq f.offset off && tyB P a f.type && fsB P b fs (off+a.size)):=rfl
mutual
theorem zic {P:Program}:{t:Ty}->{T:TypeId}->tyB P t T=true->z2j P t T
 | .int k,T,h=>by
  simp only [tyB_int,zA] at h;simp only [z2j];refine ⟨?_,z74 h.2⟩;have h1:=h.1;split at h1
  ·rename_i j hj;split at h1
   ·rename_i hk _;rw [hj,hk]
   ·simp at h1
  ·simp at h1
 | .bool,T,h=>by
  simp only [zz0,zA] at h;simp only [z2j];refine ⟨?_,z74 h.2⟩;have h1:=h.1;split at h1
  ·rename_i hj;exact hj
  ·simp at h1
 | .str,T,h=>by
  simp only [tyB_str,zA] at h;simp only [z2j];refine ⟨?_,z74 h.2⟩;have h1:=h.1;split at h1
  ·rename_i hj;exact hj
  ·simp at h1
 | .unit,_,h=>by simp [tyB,zpo] at h
 | .pair a b,T,h=>by
  simp only [zyz,zA] at h;simp only [z2j];refine ⟨?_,z74 h.2⟩;have h1:=h.1;split at h1
  ·rename_i fs hj;exact ⟨fs,hj,fsB_ok h1⟩
  ·simp at h1
 | .arr n t,T,h=>by
  simp only [tyB_arr,zA] at h;simp only [z2j];refine ⟨?_,z74 h.2⟩;have h1:=h.1;split at h1
  ·rename_i m E hj;simp only [zA,zlx] at h1;exact ⟨E,by rw [hj,h1.1],zic h1.2⟩
  ·simp at h1
 | .sl o t,T,h=>by
  simp only [tyB_sl,zA] at h;simp only [z2j];refine ⟨?_,z74 h.2⟩;have h1:=h.1;split at h1
  ·rename_i E hj;exact ⟨E,hj,zic h1⟩
  ·simp at h1
 | .ptr t,T,h=>by
  simp only [tyB_ptr,zA] at h;simp only [z2j];refine ⟨?_,z74 h.2⟩;have h1:=h.1;split at h1
  ·rename_i E hj;exact ⟨E,hj⟩
  ·simp at h1
 | .fn f c,T,h=>by
  simp only [tyB_fn,zA] at h;simp only [z2j];refine ⟨?_,z74 h.2⟩;have h1:=h.1;split at h1
  ·rename_i a b d hj;exact .inl ⟨a,b,d,hj⟩
  ·rename_i a b hj;exact .inr ⟨a,b,hj⟩
  ·simp at h1
theorem fsB_ok {P:Program}:{t:Ty}->{fs:List Field}->{off:Nat}->fsB P t fs off=true->z6v P t fs off
 | .pair a b,f :: fs,off,h=>by
  simp only [fsB_pair,zA,zlx] at h;simp only [z6v]
  exact ⟨h.1.1,zic h.1.2,fsB_ok h.2⟩
 | .unit,[],_,_=>by simp only [z6v]
 | .unit,_ :: _,_,h=>by simp [fsB,zpo] at h
 | .pair _ _,[],_,h=>by simp [fsB,zpo] at h
 | .int _,_,_,h=>by simp [fsB,zpo] at h
 | .bool,_,_,h=>by simp [fsB,zpo] at h
 | .str,_,_,h=>by simp [fsB,zpo] at h
 | .arr _ _,_,_,h=>by simp [fsB,zpo] at h
 | .sl _ _,_,_,h=>by simp [fsB,zpo] at h
 | .ptr _,_,_,h=>by simp [fsB,zpo] at h
 | .fn _ _,_,_,h=>by simp [fsB,zpo] at h
end
def zbd (P:Program) (tt:Nat->Option Ty):Prop:=∀ T u,tt T=some u->z2j P u T
def ttB (P:Program):List (Nat×Ty)->Bool
 | []=>true
 | (T,u) :: l=>tyB P u T && ttB P l
theorem ttB_ok {P:Program}:{l:List (Nat×Ty)}->ttB P l=true->zbd P (z1v l)
 | [],_,_,_,h=>by simp [z1v] at h
 | (T,u) :: l,hb,T',u',h=>by
  simp only [ttB,zA] at hb;simp only [z1v] at h
  cases he:Nat.beq T T' with
  | true=>
   rw [he] at h;simp only [cond_true,zI] at h;subst h;rw [←zE he]
   exact zic hb.1
  | false=>
   rw [he] at h;exact ttB_ok hb.2 T' u' h
end Go.Kz
namespace Go.Kz
variable {R:Type}
def tyS:Ty->z1a->Option Sk
 | t,[]=>some t.sk
 | .pair a _,.fst :: p=>tyS a p
 | .pair _ b,.snd :: p=>tyS b p
 | .arr _ t,.idx _ :: p=>tyS t p
 | .sl true t,.idx _ :: p=>tyS t p
 | _,_=>none
def tyU:Ty->z1a->Option Ty
 | t,[]=>some t
 | .pair a _,.fst :: p=>tyU a p
 | .pair _ b,.snd :: p=>tyU b p
 | .arr _ t,.idx _ :: p=>tyU t p
 | .sl true t,.idx _ :: p=>tyU t p
 | _,_=>none
theorem zpu:{t:Ty}->{p:z1a}->{v:Ty}->tyU t p=some (.sl true v)->tyQ t p=some v
 | t,[],v,h=>by
  simp only [tyU,zI] at h
  subst h;rfl
 | .pair a _,.fst :: p,v,h=>by simp only [tyU,tyQ] at h ⊢;exact zpu h
 | .pair _ b,.snd :: p,v,h=>by simp only [tyU,tyQ] at h ⊢;exact zpu h
 | .arr _ t,.idx _ :: p,v,h=>by simp only [tyU,tyQ] at h ⊢;exact zpu h
 | .sl true t,.idx _ :: p,v,h=>by simp only [tyU,tyQ] at h ⊢;exact zpu h
 | .sl true _,.fst :: _,_,h | .sl true _,.snd :: _,_,h=>by simp [tyU] at h
 | .sl false _,s :: _,_,h=>by cases s <;> simp [tyU] at h
 | .int _,s :: _,_,h=>by cases s <;> simp [tyU] at h
 | .bool,s :: _,_,h=>by cases s <;> simp [tyU] at h
 | .str,s :: _,_,h=>by cases s <;> simp [tyU] at h
 | .unit,s :: _,_,h=>by cases s <;> simp [tyU] at h
 | .ptr _,s :: _,_,h=>by cases s <;> simp [tyU] at h
 | .fn _ _,s :: _,_,h=>by cases s <;> simp [tyU] at h
 | .pair _ _,.idx _ :: _,_,h=>by simp [tyU] at h
 | .arr _ _,.fst :: _,_,h | .arr _ _,.snd :: _,_,h=>by simp [tyU] at h
theorem z5b {g:Ghost} {id:Nat} {j:Int} {bk o n cp:Nat}:{t:Ty}->{pre:z1a}->{b off:Nat}->{p:z1a}->{v:Ty}->{x:Nat×Nat}->tyQ t p=some v->z0w g id t pre b off p=some x->
  g.sv id (pre++p) = .slice (some ⟨bk,o,none⟩) n cp->z0w g id t pre b off (p++[.idx j])=some (bk,o+j.toNat*v.size)
 | .sl true t,pre,b,off,[],v,x,hq,_,hsv=>by
  simp only [tyQ,zI] at hq;subst hq;simp only [List.append_nil] at hsv
  simp [z0w,hsv]
 | .pair a _,pre,b,off,.fst :: p,v,x,hq,hp,hsv=>by
  simp only [tyQ,z0w,List.cons_append] at hq hp ⊢
  exact z5b hq hp (by rw [List.append_assoc];exact hsv)
 | .pair _ c,pre,b,off,.snd :: p,v,x,hq,hp,hsv=>by
  simp only [tyQ,z0w,List.cons_append] at hq hp ⊢
  exact z5b hq hp (by rw [List.append_assoc];exact hsv)
 | .arr _ t,pre,b,off,.idx i :: p,v,x,hq,hp,hsv=>by
  simp only [tyQ,z0w,List.cons_append] at hq hp ⊢
  exact z5b hq hp (by rw [List.append_assoc];exact hsv)
 | .sl true t,pre,b,off,.idx i :: p,v,x,hq,hp,hsv=>by
  simp only [tyQ,z0w,List.cons_append] at hq hp ⊢;split at hp
  ·exact z5b hq hp (by rw [List.append_assoc];exact hsv)
  ·simp at hp
 | .sl true _,_,_,_,.fst :: _,_,_,h,_,_ | .sl true _,_,_,_,.snd :: _,_,_,h,_,_=>by simp [tyQ] at h
 | .sl false _,_,_,_,p,_,_,h,_,_=>by cases p with | nil=>simp [tyQ] at h | cons s q=>cases s <;> simp [tyQ] at h
 | .int _,_,_,_,p,_,_,h,_,_=>by cases p with | nil=>simp [tyQ] at h | cons s q=>cases s <;> simp [tyQ] at h
 | .bool,_,_,_,p,_,_,h,_,_=>by cases p with | nil=>simp [tyQ] at h | cons s q=>cases s <;> simp [tyQ] at h
 | .str,_,_,_,p,_,_,h,_,_=>by cases p with | nil=>simp [tyQ] at h | cons s q=>cases s <;> simp [tyQ] at h
 | .unit,_,_,_,p,_,_,h,_,_=>by cases p with | nil=>simp [tyQ] at h | cons s q=>cases s <;> simp [tyQ] at h
 | .ptr _,_,_,_,p,_,_,h,_,_=>by cases p with | nil=>simp [tyQ] at h | cons s q=>cases s <;> simp [tyQ] at h
 | .fn _ _,_,_,_,p,_,_,h,_,_=>by cases p with | nil=>simp [tyQ] at h | cons s q=>cases s <;> simp [tyQ] at h
 | .pair _ _,_,_,_,[],_,_,h,_,_=>by simp [tyQ] at h
 | .pair _ _,_,_,_,.idx _ :: _,_,_,h,_,_=>by simp [tyQ] at h
 | .arr _ _,_,_,_,[],_,_,h,_,_=>by simp [tyQ] at h
 | .arr _ _,_,_,_,.fst :: _,_,_,h,_,_ | .arr _ _,_,_,_,.snd :: _,_,_,h,_,_=>by simp [tyQ] at h
theorem zq8 {p q:z1a} (h:q.length < p.length):¬ p <+: q:=by
 rintro ⟨r,hr⟩;have:=congrArg List.length hr;rw [List.length_append] at this;omega
theorem z8z (l:List Value) (off n m:Nat) (h:off+(n+m)≤l.length):seg l off (n+m)=seg l off n++seg l (off+n) m:=by
 simp only [seg];rw [←List.drop_drop,←List.take_add]
theorem ztu {l:List Value} {off:Nat} {x:Value} (h:off < l.length):seg (z0f l off [x]) off 1=[x]:=z6a l off [x] (by simp only [List.length_singleton];omega)
theorem Near.side {w w':World} {g g':Ghost} {id b0:Nat} {p q:z1a} (hn:Near w g w' g' id p b0) (hq:∀ r,¬ p <+: q++r) (hB:∀ r,g.tag b0≠.row id (q++r)):Moved w g w' g' id q id q:=
 ⟨fun r=>hn.sv _ (hq r),fun r b hb=>let h:=hn.blk _ b hb (hq r);⟨h.1,h.2 (fun he=>hB r (he ▸ hb))⟩⟩
def zyn (w:World) (g:Ghost) (id:Nat) (t:Ty):Prop:=
 ∀ {R:Type} {pre:z1a} {d:t.den} {p:z1a} {v:Ty} {k:(u:Ty)->u.den->Option R} {r:R} {b off:Nat} {c:Array Value} {e:TypeId} {pb:z1a},
  tyQ t p=some v->g.tag b = .row id pb->pb.length < pre.length->w.heap[b]? = some (.cells c e (0,0))->off+t.size≤c.size->Rep w g (some (id,pre)) t d (seg c.toList off t.size)->z13 t d p k=some r->
  ∃ (l1:List v.den) (bh oh:Nat) (ch:Array Value) (eh:TypeId) (ph:z1a),k (.sl true v) l1=some r∧z0w g id t pre b off p=some (bh,oh)∧g.tag bh = .row id ph∧ph.length < (pre++p).length∧
   w.heap[bh]? = some (.cells ch eh (0,0))∧oh < ch.size∧Rep w g (some (id,pre++p)) (.sl true v) l1 (seg ch.toList oh 1)∧(bh=b∨(bh≠b∧pre <+: ph))∧
   ∀ (w':World) (g':Ghost) (l':List v.den) (x:Value),Near w g w' g' id (pre++p) bh->w'.heap[bh]? = some (.cells (z0f ch.toList oh [x]).toArray eh (0,0))->Rep w' g' (some (id,pre++p)) (.sl true v) l' [x]->
    ∀ {R':Type} (f:t.den->Option R') (r':R'),z3z t d p (.sl true v) l' f=some r'->
     ∃ d',f d'=some r'∧∃ c',w'.heap[b]? = some (.cells c' e (0,0))∧c'.size=c.size∧(∀ a n,a+n≤off∨off+t.size≤a->seg c'.toList a n=seg c.toList a n)∧Rep w' g' (some (id,pre)) t d' (seg c'.toList off t.size)
theorem zgl {w:World} {g:Ghost} {id:Nat} {t:Ty} (ih:zyn w g id t) {pre:z1a} {l:List t.den} {i:Int} {p:z1a} {v:Ty} {k:(u:Ty)->u.den->Option R} {r:R} {hd:Value}
  (hty:tyQ t p=some v) (hrep:Rep w g (some (id,pre)) (.sl true t) l [hd]) (h:z13 (.sl true t) l (.idx i :: p) k=some r) :
  ∃ (l1:List v.den) (bh oh:Nat) (ch:Array Value) (eh:TypeId) (ph:z1a),k (.sl true v) l1=some r∧(∀ b off,z0w g id (.sl true t) pre b off (.idx i :: p)=some (bh,oh))∧g.tag bh = .row id ph∧
   ph.length < (pre ++ .idx i :: p).length∧pre <+: ph∧w.heap[bh]? = some (.cells ch eh (0,0))∧oh < ch.size∧Rep w g (some (id,pre ++ .idx i :: p)) (.sl true v) l1 (seg ch.toList oh 1)∧
   ∀ (w':World) (g':Ghost) (l':List v.den) (x:Value),Near w g w' g' id (pre ++ .idx i :: p) bh->w'.heap[bh]? = some (.cells (z0f ch.toList oh [x]).toArray eh (0,0))->Rep w' g' (some (id,pre ++ .idx i :: p)) (.sl true v) l' [x]->
    ∀ {R':Type} (f:List t.den->Option R') (r':R'),z3z (.sl true t) l (.idx i :: p) (.sl true v) l' f=some r'->∃ l2,f l2=some r'∧l2.length=l.length∧Rep w' g' (some (id,pre)) (.sl true t) l2 [hd]:=by
 simp only [z13,Option.bind_eq_some_iff] at h;obtain ⟨x,hx,h⟩:=h;obtain ⟨h0,hi,rfl,hlt⟩:=z3o hx;obtain ⟨a,cap,hcs,hsv,hlc,hcm,hrow⟩:=hrep;have hii:((i.toNat:Nat):Int)=i:=Int.toNat_of_nonneg h0;rcases hrow with ⟨_,hl,_⟩ | ⟨b,o,c,e,rfl,htag,hcell,hsz,hel⟩
 ·rw [hl] at hi;simp at hi
 ·have hcap:(i.toNat+1)*t.size≤cap*t.size:=Nat.mul_le_mul_right _ (by omega);rw [Nat.add_mul] at hcap;have hel_i:=hel _ hi;rw [hii] at hel_i;obtain ⟨l1,bh,oh,ch,eh,ph,hk,hpl,htagh,hph,hcellh,hoh,hreph,halt,hw⟩:=ih hty htag (by simp) hcell (by omega) hel_i h;have hpp:pre++[Step.idx i]++p=pre ++ .idx i :: p:=by simp
  rw [hpp] at hph hreph;have hpre:pre <+: ph:=by
   rcases halt with rfl | ⟨_,⟨z,hz⟩⟩
   ·rw [htag] at htagh;simp only [Tag.row.injEq,true_and] at htagh;rw [htagh];exact List.prefix_refl _
   ·exact ⟨[.idx i]++z,by rw [←hz];simp⟩
  refine ⟨l1,bh,oh,ch,eh,ph,hk,fun b' off'=>?_,htagh,hph,hpre,hcellh,hoh,hreph,fun w' g' l' x hn hc' hr' R' f r' hset=>?_⟩
  ·simp only [z0w,hsv];exact hpl
  ·simp only [z3z] at hset;rw [hx] at hset;simp only [Option.bind_some] at hset;obtain ⟨d',hf,c',hc2,hsz2,hout,hrep2⟩:=hw w' g' l' x (by rw [hpp];exact hn) hc' (by rw [hpp];exact hr') _ _ hset;have hnp:¬ (pre ++ .idx i :: p) <+: pre:=zq8 (by simp);refine ⟨_,hf,z1b _ _ _,some ⟨b,o,none⟩,cap,by rw [z1b];exact hcs,by rw [z1b,hn.sv _ hnp];exact hsv,by rw [z1b];exact hlc,hcm,.inr ⟨b,o,c',e,rfl,(hn.blk _ b htag hnp).1,hc2,by rw [hsz2];exact hsz,fun j hj=>?_⟩⟩;have hj':j < l.length:=by rw [z1b] at hj;exact hj
   rw [zbo];by_cases hij:i.toNat=j
   ·rw [if_pos hij];subst hij;rw [hii];exact hrep2
   ·rw [if_neg hij];have hside:Moved w g w' g' id (pre++[Step.idx (j:Int)]) id (pre++[Step.idx (j:Int)]):=by
     refine hn.side (fun z hz=>?_) (fun z hz=>?_)
     ·rw [List.append_assoc,List.prefix_append_right_inj] at hz;obtain ⟨y,hy⟩:=hz;simp only [List.cons_append,List.nil_append,List.cons.injEq,Step.idx.injEq] at hy;exact hij (by rw [hy.1];simp)
     ·rw [htagh] at hz;simp only [Tag.row.injEq,true_and] at hz;rcases halt with rfl | ⟨_,⟨y,hy⟩⟩
      ·rw [htag] at htagh;simp only [Tag.row.injEq,true_and] at htagh;rw [←htagh] at hz;have:=congrArg List.length hz;simp at this
      ·rw [←hy,List.append_assoc,List.append_assoc] at hz;have:=List.append_cancel_left hz;simp only [List.cons_append,List.nil_append,List.cons.injEq,Step.idx.injEq] at this;exact hij (by rw [this.1];simp)
    have:=Rep.move hn.ro (o:=some (id,pre++[Step.idx (j:Int)])) (o':=some (id,pre++[Step.idx (j:Int)])) hside (hel j hj');rw [hout _ _ (by
     rcases Nat.lt_or_gt_of_ne hij with hlt' | hgt
     ·right;have h3:(i.toNat+1)*t.size≤j*t.size:=Nat.mul_le_mul_right _ hlt';rw [Nat.add_mul] at h3;omega
     ·left;have h3:(j+1)*t.size≤i.toNat*t.size:=Nat.mul_le_mul_right _ hgt;rw [Nat.add_mul] at h3;omega)]
    exact this
theorem zui (w:World) (g:Ghost) (id:Nat):(t:Ty)->zyn w g id t
 | .sl true t=>by
  rename_i R pre p v k r b off c e pb d;intro hty htag hpb hcell hsz hrep h;have hcl:c.toList.length=c.size:=Array.length_toList
  cases p with
  | nil=>
   simp only [tyQ,zI] at hty;subst hty;have h':k (.sl true t) d=some r:=by simpa [z13] using h
   have hsz':off+1≤c.size:=hsz;refine ⟨d,b,off,c,e,pb,h',by simp [z0w],htag,by simpa using hpb,hcell,by omega,by rw [List.append_nil];exact hrep,.inl rfl,fun w' g' l' x hn hc' hr' R' f r' hset=>?_⟩;have hset':z5q (.sl true t) (.sl true t) l' f=some r':=by simpa [z3z] using hset
   obtain ⟨hh,hf⟩:=z0u hset';refine ⟨_,hf,_,hc',by rw [List.size_toArray,z1u _ _ _ (by simp;omega),hcl],fun a n han=>?_,?_⟩
   ·rcases han with han | han
    ·exact z1p _ _ _ _ _ han (by omega)
    ·have han':off+1≤a:=han;exact z2s _ _ _ _ _ (by simpa using han') (by simp;omega)
   ·show Rep w' g' (some (id,pre)) (.sl true t) l' (seg (z0f c.toList off [x]) off 1);rw [ztu (by omega)]
    simpa using hr'
  | cons s q=>
   cases s with
   | fst=>simp [tyQ] at hty
   | snd=>simp [tyQ] at hty
   | idx i=>
    simp only [tyQ] at hty;have hsz':off+1≤c.size:=hsz;have hlen:(seg c.toList off 1).length=1:=z20 (by omega);obtain ⟨hd,hhd⟩:=List.length_eq_one_iff.1 hlen;have hrep':Rep w g (some (id,pre)) (.sl true t) d [hd]:=by rw [←hhd];exact hrep
    obtain ⟨l1,bh,oh,ch,eh,ph,hk,hpl,htagh,hph,hpre,hcellh,hoh,hreph,hw⟩:=zgl (zui w g id t) hty hrep' h;have hne:bh≠b:=by
     intro he;subst he;rw [htag] at htagh;simp only [Tag.row.injEq,true_and] at htagh;subst htagh;have:=hpre.length_le;omega
    refine ⟨l1,bh,oh,ch,eh,ph,hk,hpl b off,htagh,hph,hcellh,hoh,hreph,.inr ⟨hne,hpre⟩,fun w' g' l' x hn hc' hr' R' f r' hset=>?_⟩;obtain ⟨l2,hf,hll,hrep2⟩:=hw w' g' l' x hn hc' hr' f r' hset;refine ⟨l2,hf,c,?_,rfl,fun _ _ _=>rfl,?_⟩
    ·rw [(hn.blk pb b htag (zq8 (by simp;omega))).2 (fun he=>hne he.symm)];exact hcell
    ·show Rep w' g' (some (id,pre)) (.sl true t) l2 (seg c.toList off 1)
     rw [hhd];exact hrep2
 | .pair ta tb=>by
  rename_i R pre p v k r b off c e pb d;intro hty htag hpb hcell hsz hrep h;have hcl:c.toList.length=c.size:=Array.length_toList;obtain ⟨x,y⟩:=d;obtain ⟨c1,c2,hcc,h1,h2⟩:=hrep;have hs:off+(ta.size+tb.size)≤c.size:=hsz;have hsp:=z8z c.toList off ta.size tb.size (by omega);have hcc':seg c.toList off (ta.size+tb.size)=c1++c2:=hcc;rw [hsp] at hcc';obtain ⟨e1,e2⟩:=List.append_inj hcc' (by rw [z20 (by omega),h1.len]);rw [←e1] at h1;rw [←e2] at h2;have h1:Rep w g (some (id,pre++[Step.fst])) ta x (seg c.toList off ta.size):=h1;have h2:Rep w g (some (id,pre++[Step.snd])) tb y (seg c.toList (off+ta.size) tb.size):=h2
  cases p with
  | nil=>simp [tyQ] at hty
  | cons s q=>
   cases s with
   | idx i=>simp [tyQ] at hty
   | fst=>
    simp only [tyQ] at hty;simp only [z13] at h;obtain ⟨l1,bh,oh,ch,eh,ph,hk,hpl,htagh,hph,hcellh,hoh,hreph,halt,hw⟩:=zui w g id ta (pre:=pre++[.fst]) hty htag (by simp;omega) hcell (by omega) h1 h;have hpp:pre++[Step.fst]++q=pre ++ .fst :: q:=by simp
    rw [hpp] at hph hreph;refine ⟨l1,bh,oh,ch,eh,ph,hk,by simp only [z0w];exact hpl,htagh,hph,hcellh,hoh,hreph,halt.imp_right (fun z=>⟨z.1,(List.prefix_append pre [.fst]).trans z.2⟩),fun w' g' l' x' hn hc' hr' R' f r' hset=>?_⟩;simp only [z3z] at hset;obtain ⟨d',hf,c',hc2,hsz2,hout,hrep2⟩:=hw w' g' l' x' (by rw [hpp];exact hn) hc' (by rw [hpp];exact hr') _ _ hset;have hcl':c'.toList.length=c'.size:=Array.length_toList;refine ⟨_,hf,c',hc2,hsz2,fun a n han=>hout a n (by have:(Ty.pair ta tb).size=ta.size+tb.size:=rfl;omega),seg c'.toList off ta.size,seg c'.toList (off+ta.size) tb.size,?_,hrep2,?_⟩
    ·exact z8z _ _ _ _ (by omega)
    ·rw [hout _ _ (.inr (Nat.le_refl _))];refine Rep.move hn.ro (o:=some (id,pre++[Step.snd])) (o':=some (id,pre++[Step.snd])) (hn.side (fun z hz=>?_) (fun z hz=>?_)) h2
     ·rw [List.append_assoc,List.prefix_append_right_inj] at hz;obtain ⟨y',hy⟩:=hz;simp at hy
     ·rw [htagh] at hz;simp only [Tag.row.injEq,true_and] at hz;rcases halt with rfl | ⟨_,⟨y',hy⟩⟩
      ·rw [htag] at htagh;simp only [Tag.row.injEq,true_and] at htagh;rw [←htagh] at hz;have:=congrArg List.length hz;simp at this;omega
      ·rw [←hy,List.append_assoc,List.append_assoc] at hz;have:=List.append_cancel_left hz
       simp at this
   | snd=>
    simp only [tyQ] at hty;simp only [z13] at h;obtain ⟨l1,bh,oh,ch,eh,ph,hk,hpl,htagh,hph,hcellh,hoh,hreph,halt,hw⟩:=zui w g id tb (pre:=pre++[.snd]) hty htag (by simp;omega) hcell (by omega) h2 h;have hpp:pre++[Step.snd]++q=pre ++ .snd :: q:=by simp
    rw [hpp] at hph hreph;refine ⟨l1,bh,oh,ch,eh,ph,hk,by simp only [z0w];exact hpl,htagh,hph,hcellh,hoh,hreph,halt.imp_right (fun z=>⟨z.1,(List.prefix_append pre [.snd]).trans z.2⟩),fun w' g' l' x' hn hc' hr' R' f r' hset=>?_⟩;simp only [z3z] at hset;obtain ⟨d',hf,c',hc2,hsz2,hout,hrep2⟩:=hw w' g' l' x' (by rw [hpp];exact hn) hc' (by rw [hpp];exact hr') _ _ hset;have hcl':c'.toList.length=c'.size:=Array.length_toList;refine ⟨_,hf,c',hc2,hsz2,fun a n han=>hout a n (by have:(Ty.pair ta tb).size=ta.size+tb.size:=rfl;omega),seg c'.toList off ta.size,seg c'.toList (off+ta.size) tb.size,?_,?_,hrep2⟩
    ·exact z8z _ _ _ _ (by omega)
    ·rw [hout _ _ (.inl (Nat.le_refl _))];refine Rep.move hn.ro (o:=some (id,pre++[Step.fst])) (o':=some (id,pre++[Step.fst])) (hn.side (fun z hz=>?_) (fun z hz=>?_)) h1
     ·rw [List.append_assoc,List.prefix_append_right_inj] at hz;obtain ⟨y',hy⟩:=hz;simp at hy
     ·rw [htagh] at hz;simp only [Tag.row.injEq,true_and] at hz;rcases halt with rfl | ⟨_,⟨y',hy⟩⟩
      ·rw [htag] at htagh;simp only [Tag.row.injEq,true_and] at htagh;rw [←htagh] at hz;have:=congrArg List.length hz;simp at this;omega
      ·rw [←hy,List.append_assoc,List.append_assoc] at hz;have:=List.append_cancel_left hz
       simp at this
 | .arr n t=>by
  rename_i R pre p v k r b off c e pb d;intro hty htag hpb hcell hsz hrep h;have hcl:c.toList.length=c.size:=Array.length_toList;have hs:off+n*t.size≤c.size:=hsz
  cases p with
  | nil=>simp [tyQ] at hty
  | cons s q=>
   cases s with
   | fst=>simp [tyQ] at hty
   | snd=>simp [tyQ] at hty
   | idx i=>
    simp only [tyQ] at hty;simp only [z13,Option.bind_eq_some_iff] at h;obtain ⟨x,hx,h⟩:=h;obtain ⟨h0,hi,rfl,hlt⟩:=z3o hx;have hii:((i.toNat:Nat):Int)=i:=Int.toNat_of_nonneg h0;obtain ⟨hln,hlc,hel⟩:=hrep;have hin:i.toNat < n:=by rw [←hln];exact hi
    have hmul:(i.toNat+1)*t.size≤n*t.size:=Nat.mul_le_mul_right _ hin;rw [Nat.add_mul] at hmul;have hel':∀ (j:Nat) (hj:j < List.length d),Rep w g (some (id,pre++[Step.idx (j:Int)])) t (List.get d ⟨j,hj⟩) (seg c.toList (off+j*t.size) t.size):=by
     intro j hj;have hjn:j < n:=by rw [←hln];exact hj
     have h3:(j+1)*t.size≤n*t.size:=Nat.mul_le_mul_right _ hjn;rw [Nat.add_mul] at h3;have:=hel j hj;rw [show (Ty.arr n t).size=n*t.size from rfl,z7b _ _ _ _ _ (by omega)] at this;exact this
    have hel_i:=hel' _ hi;rw [hii] at hel_i;obtain ⟨l1,bh,oh,ch,eh,ph,hk,hpl,htagh,hph,hcellh,hoh,hreph,halt,hw⟩:=zui w g id t (pre:=pre++[.idx i]) hty htag (by simp;omega) hcell (by omega) hel_i h;have hpp:pre++[Step.idx i]++q=pre ++ .idx i :: q:=by simp
    rw [hpp] at hph hreph;refine ⟨l1,bh,oh,ch,eh,ph,hk,by simp only [z0w];exact hpl,htagh,hph,hcellh,hoh,hreph,halt.imp_right (fun z=>⟨z.1,(List.prefix_append pre [.idx i]).trans z.2⟩),fun w' g' l' x' hn hc' hr' R' f r' hset=>?_⟩;simp only [z3z] at hset;rw [hx] at hset;simp only [Option.bind_some] at hset;obtain ⟨d',hf,c',hc2,hsz2,hout,hrep2⟩:=hw w' g' l' x' (by rw [hpp];exact hn) hc' (by rw [hpp];exact hr') _ _ hset;have hcl':c'.toList.length=c'.size:=Array.length_toList;refine ⟨_,hf,c',hc2,hsz2,fun a m han=>hout a m (by have:(Ty.arr n t).size=n*t.size:=rfl;omega),by rw [z1b];exact hln,by rw [z20 (by rw [hcl',hsz2];exact hsz)];rfl,fun j hj=>?_⟩;have hj':j < List.length d:=by rw [z1b] at hj;exact hj
    have hjn:j < n:=by rw [←hln];exact hj'
    have h3:(j+1)*t.size≤n*t.size:=Nat.mul_le_mul_right _ hjn;rw [Nat.add_mul] at h3;rw [show (Ty.arr n t).size=n*t.size from rfl,z7b _ _ _ _ _ (by omega),zbo];by_cases hij:i.toNat=j
    ·rw [if_pos hij];subst hij;show Rep w' g' (some (id,pre++[Step.idx ((i.toNat:Nat):Int)])) t d' _;rw [hii];exact hrep2
    ·rw [if_neg hij,hout _ _ (by
      rcases Nat.lt_or_gt_of_ne hij with hlt' | hgt
      ·right;have h3:(i.toNat+1)*t.size≤j*t.size:=Nat.mul_le_mul_right _ hlt';rw [Nat.add_mul] at h3;omega
      ·left;have h3:(j+1)*t.size≤i.toNat*t.size:=Nat.mul_le_mul_right _ hgt;rw [Nat.add_mul] at h3;omega)]
     refine Rep.move hn.ro (o:=some (id,pre++[Step.idx (j:Int)])) (o':=some (id,pre++[Step.idx (j:Int)])) (hn.side (fun z hz=>?_) (fun z hz=>?_)) (hel' j hj')
     ·rw [List.append_assoc,List.prefix_append_right_inj] at hz;obtain ⟨y,hy⟩:=hz;simp only [List.cons_append,List.nil_append,List.cons.injEq,Step.idx.injEq] at hy;exact hij (by rw [hy.1];simp)
     ·rw [htagh] at hz;simp only [Tag.row.injEq,true_and] at hz;rcases halt with rfl | ⟨_,⟨y,hy⟩⟩
      ·rw [htag] at htagh;simp only [Tag.row.injEq,true_and] at htagh;rw [←htagh] at hz;have:=congrArg List.length hz;simp at this;omega
      ·rw [←hy,List.append_assoc,List.append_assoc] at hz;have:=List.append_cancel_left hz;simp only [List.cons_append,List.nil_append,List.cons.injEq,Step.idx.injEq] at this
       exact hij (by rw [this.1];simp)
 | .int _ | .bool | .str | .unit | .sl false _ | .ptr _ | .fn _ _=>by
  intro hty;simp [tyQ] at hty
theorem nget {w:World} {g:Ghost} {id:Nat}:{t:Ty}->{pre:z1a}->{d:t.den}->{p:z1a}->{k:(u:Ty)->u.den->Option R}->{r:R}->{b off:Nat}->{c:Array Value}->{e:TypeId}->{pb:z1a}->
  g.tag b = .row id pb->w.heap[b]? = some (.cells c e (0,0))->off+t.size≤c.size->Rep w g (some (id,pre)) t d (seg c.toList off t.size)->z13 t d p k=some r->
  ∃ (u:Ty) (x:u.den) (bh oh:Nat) (ch:Array Value) (eh:TypeId) (ph:z1a),k u x=some r∧z0w g id t pre b off p=some (bh,oh)∧tyS t p=some u.sk∧tyU t p=some u∧g.tag bh = .row id ph∧
   w.heap[bh]? = some (.cells ch eh (0,0))∧oh+u.size≤ch.size∧Rep w g (some (id,pre++p)) u x (seg ch.toList oh u.size)
 | t,pre,d,[],k,r,b,off,c,e,pb,htag,hcell,hsz,hrep,h=>by
  have h':k t d=some r:=by cases t <;> simpa [z13] using h
  exact ⟨t,d,b,off,c,e,pb,h',by simp [z0w],by simp [tyS],by simp [tyU],htag,hcell,hsz,by simpa using hrep⟩
 | .pair ta tb,pre,(x,y),.fst :: q,k,r,b,off,c,e,pb,htag,hcell,hsz,hrep,h=>by
  have hcl:c.toList.length=c.size:=Array.length_toList;simp only [z13] at h;obtain ⟨c1,c2,hcc,h1,h2⟩:=hrep;have hs:off+(ta.size+tb.size)≤c.size:=hsz;have hcc':seg c.toList off (ta.size+tb.size)=c1++c2:=hcc;rw [z8z c.toList off ta.size tb.size (by omega)] at hcc';obtain ⟨e1,e2⟩:=List.append_inj hcc' (by rw [z20 (by omega),h1.len]);rw [←e1] at h1;have h1:Rep w g (some (id,pre++[Step.fst])) ta x (seg c.toList off ta.size):=h1;have:=nget (pre:=pre++[.fst]) htag hcell (by omega) h1 h
  simpa [z0w,tyS,tyU] using this
 | .pair ta tb,pre,(x,y),.snd :: q,k,r,b,off,c,e,pb,htag,hcell,hsz,hrep,h=>by
  have hcl:c.toList.length=c.size:=Array.length_toList;simp only [z13] at h;obtain ⟨c1,c2,hcc,h1,h2⟩:=hrep;have hs:off+(ta.size+tb.size)≤c.size:=hsz;have hcc':seg c.toList off (ta.size+tb.size)=c1++c2:=hcc;rw [z8z c.toList off ta.size tb.size (by omega)] at hcc';obtain ⟨e1,e2⟩:=List.append_inj hcc' (by rw [z20 (by omega),h1.len]);rw [←e2] at h2;have h2:Rep w g (some (id,pre++[Step.snd])) tb y (seg c.toList (off+ta.size) tb.size):=h2;have:=nget (pre:=pre++[.snd]) htag hcell (by omega) h2 h
  simpa [z0w,tyS,tyU] using this
 | .arr n t,pre,d,.idx i :: q,k,r,b,off,c,e,pb,htag,hcell,hsz,hrep,h=>by
  have hcl:c.toList.length=c.size:=Array.length_toList;have hs:off+n*t.size≤c.size:=hsz;simp only [z13,Option.bind_eq_some_iff] at h;obtain ⟨x,hx,h⟩:=h;obtain ⟨h0,hi,rfl,hlt⟩:=z3o hx;have hii:((i.toNat:Nat):Int)=i:=Int.toNat_of_nonneg h0;obtain ⟨hln,hlc,hel⟩:=hrep;have hin:i.toNat < n:=by rw [←hln];exact hi
  have hmul:(i.toNat+1)*t.size≤n*t.size:=Nat.mul_le_mul_right _ hin;rw [Nat.add_mul] at hmul;have hel_i:Rep w g (some (id,pre++[Step.idx ((i.toNat:Nat):Int)])) t _ _:=hel _ hi;rw [hii,show (Ty.arr n t).size=n*t.size from rfl,z7b _ _ _ _ _ (by omega)] at hel_i;have:=nget (pre:=pre++[.idx i]) htag hcell (by omega) hel_i h
  simpa [z0w,tyS,tyU] using this
 | .sl true t,pre,d,.idx i :: q,k,r,b,off,c,e,pb,htag,hcell,hsz,hrep,h=>by
  simp only [z13,Option.bind_eq_some_iff] at h;obtain ⟨x,hx,h⟩:=h;obtain ⟨h0,hi,rfl,hlt⟩:=z3o hx;have hii:((i.toNat:Nat):Int)=i:=Int.toNat_of_nonneg h0;obtain ⟨a,cap,hcs,hsv,hlc,hcm,hrow⟩:=hrep;rcases hrow with ⟨_,hl,_⟩ | ⟨b2,o2,c2,e2,rfl,htag2,hcell2,hsz2,hel⟩
  ·rw [hl] at hi;simp at hi
  ·have hcap:(i.toNat+1)*t.size≤cap*t.size:=Nat.mul_le_mul_right _ (by omega);rw [Nat.add_mul] at hcap;have hel_i:=hel _ hi;rw [hii] at hel_i;have:=nget (pre:=pre++[.idx i]) htag2 hcell2 (by omega) hel_i h
   simpa [z0w,tyS,tyU,hsv] using this
 | .sl true _,_,_,.fst :: _,_,_,_,_,_,_,_,_,_,_,_,h=>by simp [z13] at h
 | .sl true _,_,_,.snd :: _,_,_,_,_,_,_,_,_,_,_,_,h=>by simp [z13] at h
 | .sl false _,_,_,s :: _,_,_,_,_,_,_,_,_,_,_,_,h=>by cases s <;> simp [z13] at h
 | .int _,_,_,s :: _,_,_,_,_,_,_,_,_,_,_,_,h=>by cases s <;> simp [z13] at h
 | .bool,_,_,s :: _,_,_,_,_,_,_,_,_,_,_,_,h=>by cases s <;> simp [z13] at h
 | .str,_,_,s :: _,_,_,_,_,_,_,_,_,_,_,_,h=>by cases s <;> simp [z13] at h
 | .unit,_,_,s :: _,_,_,_,_,_,_,_,_,_,_,_,h=>by cases s <;> simp [z13] at h
 | .ptr _,_,_,s :: _,_,_,_,_,_,_,_,_,_,_,_,h=>by cases s <;> simp [z13] at h
 | .fn _ _,_,_,s :: _,_,_,_,_,_,_,_,_,_,_,_,h=>by cases s <;> simp [z13] at h
 | .pair _ _,_,(_,_),.idx _ :: _,_,_,_,_,_,_,_,_,_,_,_,h=>by simp [z13] at h
 | .arr _ _,_,_,.fst :: _,_,_,_,_,_,_,_,_,_,_,_,h=>by simp [z13] at h
 | .arr _ _,_,_,.snd :: _,_,_,_,_,_,_,_,_,_,_,_,h=>by simp [z13] at h
theorem zc0 {w:World} {g:Ghost} {σ:St} (hh:HeapOK w g σ.objs) {pt:Bool} {id:Nat} {p:z1a} {ep:Nat} {k:(u:Ty)->u.den->Option R} {r:R} (h:z6l σ pt id p ep k=some r) :
  ∃ t l e i,σ.objs id=some (.nest t l e i none)∧nep pt p e i=ep∧Rep w g (some (id,[])) (.sl true t) l [g.sv id []]∧z13 (.sl true t) l p k=some r:=by
 unfold z6l at h;split at h
 ·rename_i t l e i ho
  cases hb:Nat.beq (nep pt p e i) ep with
  | false=>rw [hb] at h;simp at h
  | true=>
   rw [hb] at h;exact ⟨t,l,e,i,ho,zE hb,hh.objs id _ ho,h⟩
 ·simp at h
theorem z8e {w:World} {g:Ghost} {id:Nat} {t:Ty} {l:List t.den} {s:Step} {p:z1a} {k:(u:Ty)->u.den->Option R} {r:R} (hrep:Rep w g (some (id,[])) (.sl true t) l [g.sv id []])
  (h:z13 (.sl true t) l (s :: p) k=some r):∃ (u:Ty) (x:u.den) (bh oh:Nat) (ch:Array Value) (eh:TypeId) (ph:z1a),k u x=some r∧z0w g id (.sl true t) [] 0 0 (s :: p)=some (bh,oh)∧
   tyS (.sl true t) (s :: p)=some u.sk∧tyU (.sl true t) (s :: p)=some u∧g.tag bh = .row id ph∧w.heap[bh]? = some (.cells ch eh (0,0))∧oh+u.size≤ch.size∧Rep w g (some (id,s :: p)) u x (seg ch.toList oh u.size):=by
 cases s with
 | fst=>simp [z13] at h
 | snd=>simp [z13] at h
 | idx i=>
  simp only [z13,Option.bind_eq_some_iff] at h;obtain ⟨x,hx,h⟩:=h;obtain ⟨h0,hi,rfl,hlt⟩:=z3o hx;have hii:((i.toNat:Nat):Int)=i:=Int.toNat_of_nonneg h0;obtain ⟨a,cap,hcs,hsv,hlc,hcm,hrow⟩:=hrep;rcases hrow with ⟨_,hl,_⟩ | ⟨b2,o2,c2,e2,rfl,htag2,hcell2,hsz2,hel⟩
  ·rw [hl] at hi;simp at hi
  ·have hcap:(i.toNat+1)*t.size≤cap*t.size:=Nat.mul_le_mul_right _ (by omega);rw [Nat.add_mul] at hcap;have hel_i:=hel _ hi;rw [hii] at hel_i;have:=nget (pre:=[.idx i]) htag2 hcell2 (by omega) hel_i h;simpa [z0w,tyS,tyU,hsv] using this
theorem zl0 {w:World} {g:Ghost} {σ:St} (hh:HeapOK w g σ.objs) {id:Nat} {p:z1a} {ep:Nat} {k:(v:Ty)->List v.den->Option R} {r:R} (h:zd3 σ id p ep k=some r) :
  ∃ t l0 e i v l,σ.objs id=some (.nest t l0 e i none)∧nep false p e i=ep∧Rep w g (some (id,p)) (.sl true v) l [g.sv id p]∧k v l=some r∧tyQ (.sl true t) p=some v∧∃ x,z0w g id (.sl true t) [] 0 0 p=some x:=by
 unfold zd3 at h;obtain ⟨t,l0,e,i,ho,hep,hrep,h⟩:=zc0 hh h
 cases p with
 | nil=>
  have h':k t l0=some r:=by simpa [z13] using h
  exact ⟨t,l0,e,i,t,l0,ho,hep,hrep,h',rfl,(0,0),by simp [z0w]⟩
 | cons s q=>
  obtain ⟨u,x,bh,oh,ch,eh,ph,hk,hpl,_,htu,_,_,_,hr⟩:=z8e hrep h
  cases u with
  | sl o v=>
   cases o with
   | false=>simp at hk
   | true=>
    refine ⟨t,l0,e,i,v,x,ho,hep,?_,hk,zpu htu,_,hpl⟩;obtain ⟨a,cap,hcs,hsv,h1⟩:=hr
    exact ⟨a,cap,by rw [hsv],hsv,h1⟩
  | _=>simp at hk
end Go.Kz
namespace Go.Kz
variable {R:Type}
def roG (g:Ghost):Ghost:={ g with tag:=fun b=>match g.tag b with
 | .alien=>.alien
 | _=>.ro }
theorem zdw (w:World) (g:Ghost):RoKept w g w (roG g):=⟨fun b hb=>⟨by simp [roG,hb],rfl⟩⟩
theorem z9z (w:World) (g:Ghost) (id:Nat) (p:z1a):Frozen w g w (roG g) id p:=⟨fun q b hb=>⟨by simp [roG,hb],rfl⟩⟩
theorem zvk {g:Ghost} {b id:Nat} {p:z1a} (h:g.tag b = .row id p):(roG g).tag b = .ro:=by simp [roG,h]
theorem Ty.isRo_ro:(t:Ty)->t.ro.isRo=true
 | .int _=>rfl
 | .bool=>rfl
 | .str=>rfl
 | .unit=>rfl
 | .pair a b=>by simp [Ty.ro,Ty.isRo,Ty.isRo_ro a,Ty.isRo_ro b]
 | .arr _ t=>by simp [Ty.ro,Ty.isRo,Ty.isRo_ro t]
 | .sl _ t=>by simp [Ty.ro,Ty.isRo,Ty.isRo_ro t]
 | .ptr t=>by simp [Ty.ro,Ty.isRo,Ty.isRo_ro t]
 | .fn _ c=>by simp [Ty.ro,Ty.isRo,Ty.isRo_ro c]
theorem z9e:{t:Ty}->{d:t.den}->{p:z1a}->{k:(u:Ty)->u.den->Option R}->{r:R}->t.isRo=true->z13 t d p k=some r->
  ∃ u e,k u e=some r∧u.isRo=true
 | t,d,[],k,r,ht,h=>⟨t,d,by cases t <;> simpa [z13] using h,ht⟩
 | .pair a b,(x,y),.fst :: p,k,r,ht,h=>by
  simp only [z13] at h;simp only [Ty.isRo,zA] at ht
  exact z9e ht.1 h
 | .pair a b,(x,y),.snd :: p,k,r,ht,h=>by
  simp only [z13] at h;simp only [Ty.isRo,zA] at ht
  exact z9e ht.2 h
 | .arr n t,l,.idx i :: p,k,r,ht,h=>by
  simp only [z13,Option.bind_eq_some_iff] at h;obtain ⟨x,_,h⟩:=h
  exact z9e (by simpa [Ty.isRo] using ht) h
 | .sl true t,l,.idx i :: p,k,r,ht,h=>by simp [Ty.isRo] at ht
 | .sl false t,l,s :: p,k,r,ht,h=>by cases s <;> simp [z13] at h
 | .sl true t,l,.fst :: p,k,r,ht,h=>by simp [z13] at h
 | .sl true t,l,.snd :: p,k,r,ht,h=>by simp [z13] at h
 | .int _,_,s :: _,_,_,_,h=>by cases s <;> simp [z13] at h
 | .bool,_,s :: _,_,_,_,h=>by cases s <;> simp [z13] at h
 | .str,_,s :: _,_,_,_,h=>by cases s <;> simp [z13] at h
 | .unit,_,s :: _,_,_,_,h=>by cases s <;> simp [z13] at h
 | .ptr _,_,s :: _,_,_,_,h=>by cases s <;> simp [z13] at h
 | .fn _ _,_,s :: _,_,_,_,h=>by cases s <;> simp [z13] at h
 | .pair _ _,_,.idx _ :: _,_,_,_,h=>by simp [z13] at h
 | .arr _ _,_,.fst :: _,_,_,_,h=>by simp [z13] at h
 | .arr _ _,_,.snd :: _,_,_,_,h=>by simp [z13] at h
theorem z67 {g:Ghost} {id:Nat}:{t:Ty}->{pre:z1a}->{b off:Nat}->{q:z1a}->{o:Nat}->{s:Sk}->t.sk.off q=some (o,s)->z0w g id t pre b off q=some (b,off+o)
 | t,pre,b,off,[],o,s,h=>by
  simp only [Sk.off,zI,Prod.mk.injEq] at h;obtain ⟨rfl,_⟩:=h
  simp [z0w]
 | .pair a c,pre,b,off,.fst :: q,o,s,h=>by
  simp only [Ty.sk,Sk.off] at h;simp only [z0w]
  exact z67 h
 | .pair a c,pre,b,off,.snd :: q,o,s,h=>by
  simp only [Ty.sk,Sk.off,Option.map_eq_some_iff,Prod.mk.injEq] at h;obtain ⟨⟨o',s'⟩,h,rfl,rfl⟩:=h
  simp only [z0w,z67 h,Ty.sk_size,Nat.add_assoc]
 | .arr n t,pre,b,off,.idx i :: q,o,s,h=>by
  simp only [Ty.sk,Sk.off] at h;split at h
  ·simp only [Option.map_eq_some_iff,Prod.mk.injEq] at h;obtain ⟨⟨o',s'⟩,h,rfl,rfl⟩:=h;simp only [z0w,z67 h,Ty.sk_size,Nat.add_assoc]
  ·simp at h
 | .int _,_,_,_,s :: _,_,_,h=>by cases s <;> simp [Ty.sk,Sk.off] at h
 | .bool,_,_,_,s :: _,_,_,h=>by cases s <;> simp [Ty.sk,Sk.off] at h
 | .str,_,_,_,s :: _,_,_,h=>by cases s <;> simp [Ty.sk,Sk.off] at h
 | .unit,_,_,_,s :: _,_,_,h=>by cases s <;> simp [Ty.sk,Sk.off] at h
 | .ptr _,_,_,_,s :: _,_,_,h=>by cases s <;> simp [Ty.sk,Sk.off] at h
 | .fn _ _,_,_,_,s :: _,_,_,h=>by cases s <;> simp [Ty.sk,Sk.off] at h
 | .sl _ _,_,_,_,s :: _,_,_,h=>by cases s <;> simp [Ty.sk,Sk.off] at h
 | .pair _ _,_,_,_,.idx _ :: _,_,_,h=>by simp [Ty.sk,Sk.off] at h
 | .arr _ _,_,_,_,.fst :: _,_,_,h=>by simp [Ty.sk,Sk.off] at h
 | .arr _ _,_,_,_,.snd :: _,_,_,h=>by simp [Ty.sk,Sk.off] at h
theorem zkz:{t:Ty}->{q:z1a}->{o:Nat}->{s:Sk}->t.sk.off q=some (o,s)->tyS t q=some s
 | t,[],o,s,h=>by
  simp only [Sk.off,zI,Prod.mk.injEq] at h
  simp only [tyS,h.2]
 | .pair a c,.fst :: q,o,s,h=>by
  simp only [Ty.sk,Sk.off] at h
  simp only [tyS];exact zkz h
 | .pair a c,.snd :: q,o,s,h=>by
  simp only [Ty.sk,Sk.off,Option.map_eq_some_iff,Prod.mk.injEq] at h;obtain ⟨⟨o',s'⟩,h,rfl,rfl⟩:=h
  simp only [tyS];exact zkz h
 | .arr n t,.idx i :: q,o,s,h=>by
  simp only [Ty.sk,Sk.off] at h;split at h
  ·simp only [Option.map_eq_some_iff,Prod.mk.injEq] at h;obtain ⟨⟨o',s'⟩,h,rfl,rfl⟩:=h;simp only [tyS];exact zkz h
  ·simp at h
 | .int _,s :: _,_,_,h=>by cases s <;> simp [Ty.sk,Sk.off] at h
 | .bool,s :: _,_,_,h=>by cases s <;> simp [Ty.sk,Sk.off] at h
 | .str,s :: _,_,_,h=>by cases s <;> simp [Ty.sk,Sk.off] at h
 | .unit,s :: _,_,_,h=>by cases s <;> simp [Ty.sk,Sk.off] at h
 | .ptr _,s :: _,_,_,h=>by cases s <;> simp [Ty.sk,Sk.off] at h
 | .fn _ _,s :: _,_,_,h=>by cases s <;> simp [Ty.sk,Sk.off] at h
 | .sl _ _,s :: _,_,_,h=>by cases s <;> simp [Ty.sk,Sk.off] at h
 | .pair _ _,.idx _ :: _,_,_,h=>by simp [Ty.sk,Sk.off] at h
 | .arr _ _,.fst :: _,_,_,h=>by simp [Ty.sk,Sk.off] at h
 | .arr _ _,.snd :: _,_,_,h=>by simp [Ty.sk,Sk.off] at h
theorem z4t {w:World} {g:Ghost} {σ:St} (hh:HeapOK w g σ.objs) {id:Nat} {p:z1a} {ep:Nat} {k:(u:Ty)->List u.den->Option R} {r:R}
  (h:z6m σ id p ep k=some r):∃ t l,σ.objs id=some (.row t l ep)∧p=[]∧t.isRo=true∧k t l=some r:=by
 unfold z6m at h;split at h
 ·rename_i t l e ho;have hok:=hh.objs id _ ho
  cases hb:Nat.beq e ep with
  | false=>rw [hb] at h;simp at h
  | true=>
   rw [hb] at h;have he:e=ep:=zE hb;subst he;simp only [cond_true,zvi] at h
   cases p with
   | nil=>
    have h':k t l=some r:=by simpa [z13] using h
    exact ⟨t,l,ho,rfl,hok.1,h'⟩
   | cons s q=>
    cases s with
    | idx i=>
     simp only [z13,Option.bind_eq_some_iff] at h;obtain ⟨x,_,h⟩:=h;obtain ⟨u,e',hu,hro⟩:=z9e hok.1 h;split at hu
     ·simp [Ty.isRo] at hro
     ·simp at hu
    | fst=>simp [z13] at h
    | snd=>simp [z13] at h
 ·simp at h
theorem z7z {w:World} {g:Ghost} {σ:St} (hh:HeapOK w g σ.objs) {id:Nat} {p:z1a} {ep:Nat} {k:(u:Ty)->u.den->Option R} {r:R} (hp:p≠[])
  (h:z4u σ id p ep k=some r):∃ t l u e b off c ee,σ.objs id=some (.row t l ep)∧t.isRo=true∧k u e=some r∧u.isRo=true∧
   z0w g id (.sl true t) [] 0 0 p=some (b,off)∧tyS (.sl true t) p=some u.sk∧g.tag b = .row id []∧w.heap[b]? = some (.cells c ee (0,0))∧off+u.size≤c.size∧Rep w g none u e (seg c.toList off u.size):=by
 unfold z4u at h;split at h
 ·rename_i t l e ho;have hok:=hh.objs id _ ho
  cases hb:Nat.beq e ep with
  | false=>rw [hb] at h;simp at h
  | true=>
   rw [hb] at h;have he:e=ep:=zE hb;subst he;simp only [cond_true,zvi] at h
   cases p with
   | nil=>exact absurd rfl hp
   | cons s q=>
    cases s with
    | idx i=>
     simp only [z13,Option.bind_eq_some_iff] at h;obtain ⟨x,hx,h⟩:=h;obtain ⟨h0,hi,rfl,hlt⟩:=z3o hx;obtain ⟨a,cap,hcs,hsv,hlc,hcm,hrow⟩:=hok.2;rcases hrow with ⟨_,hl,_⟩ | ⟨b,off,c,ee,ha,htag,hcell,hsz,helts⟩
     ·rw [hl] at hi;simp at hi
     ·have hel:=Rep.anyOwn (o':=none) hok.1 (helts _ hi);obtain ⟨u,e',o,hk,hu,hoff,hr⟩:=za5 hok.1 hel h;have hle:=Sk.off_le hoff;rw [Ty.sk_size,Ty.sk_size] at hle;have hcap:(i.toNat+1)*t.size≤cap*t.size:=Nat.mul_le_mul_right _ (by omega);rw [Nat.add_mul] at hcap;refine ⟨t,l,u,e',b,off+i.toNat*t.size+o,c,ee,ho,hok.1,hk,hu,?_,by simp only [tyS];exact zkz hoff,htag,hcell,by omega,?_⟩
      ·simp only [z0w,hsv,ha,List.nil_append];exact z67 hoff
      ·rw [z7b _ _ _ _ _ hle] at hr
       exact hr
    | fst=>simp [z13] at h
    | snd=>simp [z13] at h
 ·simp at h
theorem zm5 {w:World} {g:Ghost} {σ:St} (hh:HeapOK w g σ.objs) {id:Nat} {p:z1a} {k:AVal->Option R} {r:R}
  (h:zcq σ id p k=some r):∃ a a' off c e,σ.objs id=some (.cell a)∧k a'=some r∧a.sk.off p=some (off,a'.sk)∧
   w.heap[g.blk id]? = some (.cells c e (0,0))∧g.tag (g.blk id) = .box id∧off+a'.sk.size≤c.size∧AOK w g σ.objs a c.toList∧AOK w g σ.objs a' (seg c.toList off a'.sk.size)∧∀ m,m∉a.ids->m∉a'.ids:=by
 unfold zcq at h;split at h
 ·rename_i a ho;obtain ⟨hnt,h⟩:=z7t h;obtain ⟨c,e,hc,ht,hok⟩:=(hh.objs id _ ho).out hnt;obtain ⟨a',off,hk,hoff,hr,hi⟩:=z8k hok h;refine ⟨a,a',off,c,e,ho,hk,hoff,hc,ht,?_,hok,hr,hi⟩;have:=Sk.off_le hoff;have h2:=hok.len;rw [Array.length_toList] at h2;omega
 ·simp at h
theorem cont_ok {w:World} {g:Ghost} {objs:z2c} {id:Nat} {a x:AVal} (hc:a.cont=some x) (h:z14 w g objs id (.cell a)) :
  ∃ c e,w.heap[g.blk id]? = some (.cells c e (0,0))∧(g.tag (g.blk id) = .box id∨g.tag (g.blk id) = .ro)∧AOK w g objs x c.toList∧x.sk=a.sk∧x.ids=a.ids:=by
 cases ht:a.isTup with
 | true=>
  cases a <;> simp [AVal.isTup] at ht;rename_i c;cases c <;> simp [AVal.cont] at hc
  ·subst hc;obtain ⟨c,e,h1,h2,h3⟩:=(z14.con rfl).1 h;exact ⟨c,e,h1,.inr h2,h3,rfl,rfl⟩
  ·subst hc;obtain ⟨c,e,h1,h2,h3⟩:=(z14.con rfl).1 h
   exact ⟨c,e,h1,.inr h2,h3,rfl,rfl⟩
 | false=>
  obtain ⟨c,e,h1,h2,h3⟩:=h.out ht;have hx:x=a:=by
   cases a <;> simp [AVal.isTup] at ht <;> simp [AVal.cont] at hc <;> exact hc.symm
  subst hx;exact ⟨c,e,h1,.inl h2,h3,rfl,rfl⟩
theorem z9l {w:World} {g:Ghost} {σ:St} (hh:HeapOK w g σ.objs) {id:Nat} {p:z1a} {k:AVal->Option R} {r:R}
  (h:z7k σ id p k=some r):∃ a a' off c e,σ.objs id=some (.cell a)∧k a'=some r∧a.sk.off p=some (off,a'.sk)∧
   w.heap[g.blk id]? = some (.cells c e (0,0))∧(g.tag (g.blk id) = .box id∨g.tag (g.blk id) = .ro)∧off+a'.sk.size≤c.size∧AOK w g σ.objs a' (seg c.toList off a'.sk.size)∧∀ m,m∉a.ids->m∉a'.ids:=by
 unfold z7k at h;split at h
 ·rename_i a ho;split at h
  ·rename_i x hx;obtain ⟨c,e,hc,ht,hok,hsk,hids⟩:=cont_ok hx (hh.objs id _ ho);obtain ⟨a',off,hk,hoff,hr,hi⟩:=z8k hok h;refine ⟨a,a',off,c,e,ho,hk,by rw [←hsk];exact hoff,hc,ht,?_,hr,fun m hm=>hi m (by rw [hids];exact hm)⟩;have:=Sk.off_le hoff;have h2:=hok.len;rw [Array.length_toList] at h2;omega
  ·simp at h
 ·simp at h
theorem z7q {α:Type} (l:List α) (a b:Int) (h0:0≤a) (hab:a≤b) (hb:b≤(l.length:Int)):(sub l a b).length=b.toNat-a.toNat:=by
 simp only [sub,List.length_take,List.length_drop];omega
theorem zff {α:Type} (l:List α) (a b:Int) (i:Nat) (h:i < (sub l a b).length) (h':a.toNat+i < l.length):(sub l a b).get ⟨i,h⟩=l.get ⟨a.toNat+i,h'⟩:=by
 simp [sub,List.getElem_take,List.getElem_drop]
theorem z5r {w:World} {g:Ghost} {σ:St} (hh:HeapOK w g σ.objs):(n:Nat)->{a:AVal}->{t:Ty}->{k:t.den->Option R}->{r:R}->{cs:List Value}->
  AOK w g σ.objs a cs->z0d σ n a t k=some r->∃ d,k d=some r∧t.isRo=true∧Rep w (roG g) none t d cs
 | 0,_,_,_,_,_,_,h=>by simp [z0d] at h
 | n+1,.data t' d,t,k,r,cs,hok,h=>by
  simp only [z0d] at h;obtain ⟨rfl,h⟩:=z0u h
  exact ⟨_,h,hok.1,hok.2.kept (zdw w g)⟩
 | n+1,.nilS,t,k,r,cs,hok,h=>by
  simp only [z0d] at h
  cases hb:t.isRo with
  | false=>rw [hb] at h;simp at h
  | true=>
   rw [hb] at h
   cases t with
   | sl o t=>
    cases o with
    | true=>simp [Ty.isRo] at hb
    | false=>
     refine ⟨([]:List t.den),h,rfl,?_⟩;have hok':cs=[.slice none 0 0]:=hok;subst hok'
     exact ⟨none,0,rfl,Nat.le_refl _,Nat.zero_le _,fun hn=>absurd rfl hn⟩
   | _=>simp [nilK] at h
 | n+1,.ref id p ep,t,k,r,cs,hok,h=>by
  simp only [z0d] at h;obtain ⟨v,l,ho,rfl,hro,h⟩:=z4t hh h;obtain ⟨rfl,h⟩:=z0u h;obtain ⟨x,rfl,_,hx⟩:=hok;have hx':=(hx _ _ _ ho).2 rfl;have hobj:=hh.objs id _ ho;refine ⟨_,h,Ty.isRo_ro _,?_⟩;have:=Rep.freeze (zdw w g) (o:=some (id,[])) (z9z w g id []) hobj.2;rw [hx']
  exact this
 | n+1,.view id p ep a b,t,k,r,cs,hok,h=>by
  simp only [z0d] at h;obtain ⟨v,l,ho,rfl,hro,h⟩:=z4t hh h;obtain ⟨rfl,h⟩:=z0u h;obtain ⟨x,rfl,_,hx⟩:=hok;obtain ⟨_,h0,hab,hbl,hv⟩:=(hx _ _ _ ho).2 rfl;have hobj:=hh.objs id _ ho;refine ⟨_,h,Ty.isRo_ro _,?_⟩;obtain ⟨ad,cap,hcs,hsv,hlc,hcm,hrow⟩:=hobj.2;have hlen:=z7q l a b h0 hab hbl;show Rep w (roG g) none (.sl false v.ro) (Ty.toRo (.sl false v) (sub l a b)) [x];rw [zfc,hv,hsv];have hln:(List.map (Ty.toRo v) (sub l a b)).length=(b-a).toNat:=by rw [List.length_map,hlen];omega
  refine ⟨_,cap-a.toNat,by simp only [z2g];rw [hln],by rw [hln];omega,by omega,fun hne=>?_⟩;have hpos:0 < (b-a).toNat:=by
   rw [←hln];exact List.length_pos_iff.2 hne
  rcases hrow with ⟨_,hl,_⟩ | ⟨bk,off,c,ee,ha,htag,hcell,hsz,helts⟩
  ·rw [hl] at hbl;simp at hbl;omega
  ·subst ha;refine ⟨bk,off+a.toNat*v.size,c,ee,(0,0),?_,zvk htag,hcell,?_,fun i hi=>?_⟩
   ·rw [if_neg (by omega)];simp only [Option.map_some,Addr.add];split
    ·rename_i hz;rw [hz];simp
    ·rfl
   ·rw [hln,Ty.size_ro];have:(b-a).toNat+a.toNat≤cap:=by omega
    have:=Nat.mul_le_mul_right v.size this;rw [Nat.add_mul] at this;omega
   ·have hi2:i < (sub l a b).length:=by simpa using hi
    have hi3:a.toNat+i < l.length:=by omega
    have he:=Rep.freeze (zdw w g) (o:=some (id,[]++[Step.idx ((a.toNat+i:Nat):Int)])) (z9z w g id _) (helts (a.toNat+i) hi3);rw [List.get_eq_getElem,List.getElem_map];have hg:=zff l a b i hi2 hi3;rw [List.get_eq_getElem] at hg;rw [hg,Ty.size_ro];have e:off+a.toNat*v.size+i*v.size=off+(a.toNat+i)*v.size:=by rw [Nat.add_mul];omega
    rw [e]
    exact he
 | n+1,.bptr id p,t,k,r,cs,hok,h=>by
  cases t with
  | ptr t=>
   simp only [z0d] at h;obtain ⟨a,a',off,c,e,ho,hk,hoff,hc,ht,hsz,hpart,_⟩:=z9l hh h;obtain ⟨d,hd,hro,hrep⟩:=z5r hh n hpart hk;obtain ⟨v,rfl,_,hv⟩:=hok;obtain ⟨off',s,hoff',rfl⟩:=hv _ ho;rw [hoff] at hoff';simp only [zI,Prod.mk.injEq] at hoff';obtain ⟨rfl,_⟩:=hoff';have hl:=hrep.len;rw [z20 (by rw [Array.length_toList];exact hsz)] at hl;refine ⟨d,hd,hro,?_⟩
   exact ⟨g.blk id,off,c,e,(0,0),rfl,by rcases ht with ht | ht <;> simp [roG,ht],hc,by omega,by rw [←hl];exact hrep⟩
  | _=>simp [z0d] at h
 | n+1,.eptr id p ep,t,k,r,cs,hok,h=>by
  cases t with
  | ptr t=>
   simp only [z0d] at h;obtain ⟨v,rfl,_,hv⟩:=hok;have hobj:∃ t l,σ.objs id=some (.row t l ep):=by
    unfold z4u at h;split at h
    ·rename_i t l e ho
     cases hb:Nat.beq e ep with
     | false=>rw [hb] at h;simp at h
     | true=>exact ⟨t,l,by rw [ho,zE hb]⟩
    ·simp at h
   obtain ⟨t0,l0,ho0⟩:=hobj;obtain ⟨hp,b0,off0,hpl,hv'⟩:=(hv _ _ _ ho0).2 rfl;obtain ⟨t1,l1,u,e,b,off,c,ee,ho,hro,hk,hu,hpl2,_,htag,hcell,hsz,hrep⟩:=z7z hh hp h;rw [ho0] at ho;simp only [zI,Obj.row.injEq] at ho;obtain ⟨rfl,_,_⟩:=ho;rw [hpl] at hpl2;simp only [zI,Prod.mk.injEq] at hpl2;obtain ⟨rfl,rfl⟩:=hpl2;obtain ⟨rfl,hk⟩:=z0u hk;refine ⟨_,hk,by simp only [Ty.isRo];exact Ty.isRo_ro u,?_⟩;have hf:=Rep.freeze (zdw w g) (o:=none) trivial hrep
   exact ⟨b0,off0,c,ee,(0,0),by rw [hv'],zvk htag,hcell,by rw [Ty.size_ro];exact hsz,by rw [Ty.size_ro];exact hf⟩
  | _=>simp [z0d] at h
 | n+1,.clos f c,t,k,r,cs,hok,h=>by
  cases t with
  | fn gid t=>
   simp only [z0d] at h
   cases hb:Nat.beq f gid with
   | false=>rw [hb] at h;simp at h
   | true=>
    rw [hb] at h;have he:f=gid:=zE hb;subst he;obtain ⟨vs,rfl,hc⟩:=hok;obtain ⟨d,hd,hro,hrep⟩:=z5r hh n hc h
    exact ⟨d,hd,hro,vs,rfl,hrep⟩
  | _=>simp [z0d] at h
 | n+1,.agg c,t,k,r,cs,hok,h=>by
  simp only [z0d] at h
  exact z5r hh n (a:=c) hok h
 | n+1,.pr a b,t,k,r,cs,hok,h=>by
  cases t with
  | pair t u=>
   simp only [z0d] at h;obtain ⟨c1,c2,rfl,h1,h2⟩:=hok;obtain ⟨x,hx,hrx,hrepx⟩:=z5r hh n h1 h;obtain ⟨y,hy,hry,hrepy⟩:=z5r hh n h2 hx
   exact ⟨(x,y),hy,by simp [Ty.isRo,hrx,hry],c1,c2,rfl,hrepx,hrepy⟩
  | _=>simp [z0d] at h
 | n+1,.un,t,k,r,cs,hok,h=>by
  cases t with
  | unit=>
   simp only [z0d] at h
   exact ⟨(),h,rfl,hok⟩
  | _=>simp [z0d] at h
 | n+1,.mref _,t,k,r,cs,hok,h=>by cases t <;> simp [z0d] at h
 | n+1,.nv true _ _ _,t,k,r,cs,hok,h=>by cases t <;> simp [z0d] at h
 | n+1,.nv false id p ep,t,k,r,cs,hok,h=>by
  simp only [z0d] at h;obtain ⟨t0,l0,e,i,v,l,ho,hep,hrep,h,_,_⟩:=zl0 hh h;obtain ⟨rfl,h⟩:=z0u h;obtain ⟨x,rfl,_,hx⟩:=hok;have hx':=((hx _ _ _ _ _ ho).2 hep).1 rfl;refine ⟨_,h,Ty.isRo_ro _,?_⟩;have:=Rep.freeze (zdw w g) (o:=some (id,p)) (z9z w g id p) hrep;rw [hx']
  exact this
 | n+1,.tup _,t,k,r,cs,hok,h=>hok.elim
end Go.Kz
namespace Go.Kz
variable {R:Type}
section
variable {P:Program} {o:Oper} {a:Act} {w:World} {K:Act->World->Prop} {Q:Exit->Act->World->Prop} {c:Ctx} {σ:St} {g:Ghost} {k:St->Option R} {r:R} {base:Nat}
theorem z6w {f:AVal->Option R} {s:Sem Value} (hf:f=fun v=>σ.putK c o.dst v k) (hs:Plain f r s P)
  (hrun:∀ w v,s.run P w = .ok v w->(execOp a.eval o).run P w = .ok (.value v) w):Yield P o a w g σ c k r:=by
 subst hf;obtain ⟨av,v,h1,h2,h3,h4⟩:=hs.out;exact yld (fun w' _=>hrun w' v (h2 w')) (h4 _ _ _) (fun m _=>by rw [h3];simp) h1
theorem zoo (d:Nat) {T:TypeId} (hT:P.underlying T=some .bool) (x y:Bool) (w:World):(Op.equalIn (d+1) T (.bool x) (.bool y)).run P w = .ok (x == y) w:=by
 have hu:=run_underlying hT w;rw [Op.equalIn];rw [Sem.run_bind,hu];rfl
theorem zun {T:TypeId} (hT:P.underlying T=some .bool) (x y:Bool) (w:World):(Op.equal T (.bool x) (.bool y)).run P w = .ok (x == y) w:=
 zoo 9999 hT x y w
theorem zzx (htt:zbd P c.tt) {op:BinOp} {t t':TypeId} {x y:Operand}
  (hS:∀ ax ay,ev σ x=some ax->ev σ y=some ay->∀ u,c.tt t=some u->
   cond (c.eqs t && z47 u && ax.val && ay.val) (z0d σ 20 ax u fun d=>z0d σ 20 ay u fun e=>zqw op (eqD u d e) fun v=>σ.putK c o.dst v k) none=some r->Yield P o a w g σ c k r)
  (ho:o.op = .binOp op t x y t') (hst:StOK c.ntmps g w a σ) (h:z1s c σ base o k=some r):Yield P o a w g σ c k r:=by
 simp only [z1s,ho] at h;split at h
 ·rename_i ax ay hx hy;have ex:=(z24 hst hx).1;have ey:=(z24 hst hy).1;unfold binK at h;split at h
  ·rename_i kx nx ky ny;obtain ⟨vx,bx⟩:=z3k ex;obtain ⟨vy,_⟩:=z3k ey
   cases hs:zgb op with
   | true=>
    rw [hs] at h
    exact z6w rfl (zq1 (P:=P) (j:=ky) bx t h) (fun w v hv=>by simp [execOp,ho,vx,vy,eqGuard,hv])
   | false=>
    rw [hs] at h;simp only [cond_false] at h;split at h
    ·rename_i hk _;subst hk;exact z6w rfl (zy6 (P:=P) bx t hs h) (fun w v hv=>by simp [execOp,ho,vx,vy,eqGuard,hv])
    ·simp at h
  ·rename_i bx by';have vx:=z8s ex;have vy:=z8s ey;split at h
   ·rename_i htb;have hT:=htt _ _ htb;simp only [z2j] at hT;have hu:=zun hT.1 bx by';refine z6w (f:=fun v=>σ.putK c o.dst v k) (s:=binOp op t (.bool bx) (.bool by')) rfl ?_ (fun w v hv=>by simp [execOp,ho,vx,vy,eqGuard,hv]);cases op <;> simp only [zhc] at h
    case eql=>exact Plain.bool h (fun w=>by simp only [binOp,Sem.run_bind,hu,Result.andThen_ok,Sem.run_pure])
    case neq=>exact Plain.bool h (fun w=>by simp only [binOp,Sem.run_bind,hu,Result.andThen_ok,Sem.run_pure])
    all_goals simp at h
   ·simp at h
  ·split at h
   ·rename_i u htu;exact hS ax ay hx hy u htu h
   ·simp at h
 ·simp at h
theorem op_unOp {op:UnOp} {t:TypeId} {x:Operand} (ho:o.op = .unOp op t x) (hst:StOK c.ntmps g w a σ) (h:z1s c σ base o k=some r):Yield P o a w g σ c k r:=by
 simp only [z1s,ho] at h;split at h
 ·rename_i ax hx;have ex:=(z24 hst hx).1;unfold unK at h;split at h
  ·have vx:=z8s ex;exact z6w rfl (Plain.bool (s:=Op.unary .not (a.eval x)) h (fun _=>by simp [vx,Op.unary])) (fun w v hv=>by simp [execOp,ho,hv])
  ·rename_i kx nx;obtain ⟨vx,bx⟩:=z3k ex;exact z6w rfl (Plain.int (s:=Op.unary .neg (a.eval x)) h (fun _=>by simp [vx,Op.unary,Op.intArith]) (z48 _ _)) (fun w v hv=>by simp [execOp,ho,hv])
  ·rename_i kx nx;obtain ⟨vx,bx⟩:=z3k ex;exact z6w rfl (Plain.int (s:=Op.unary .xor (a.eval x)) h (fun _=>by simp [vx,Op.unary,Op.intBits]) (z48 _ _)) (fun w v hv=>by simp [execOp,ho,hv])
  ·simp at h
 ·simp at h
theorem zu7 (htt:zbd P c.tt) {t t':TypeId} {x:Operand} (ho:o.op = .convert t t' x) (hst:StOK c.ntmps g w a σ) (h:z1s c σ base o k=some r):Yield P o a w g σ c k r:=by
 simp only [z1s,ho] at h;split at h
 ·rename_i k0 j k1 kd hx ht ht';have ex:=(z24 hst hx).1;obtain ⟨vx,bx⟩:=z3k ex;have h1:=htt _ _ ht;have h2:=htt _ _ ht';simp only [z2j] at h1 h2;have u1:=fun w=>run_underlying (P:=P) (w:=w) h1.1
  have u2:=fun w=>run_underlying (P:=P) (w:=w) h2.1
  exact z6w (f:=fun v=>σ.putK c o.dst v k) rfl (Plain.int (s:=convert t t' (a.eval x)) h (fun w=>by simp [vx,convert,u1,u2,Conv.intToInt]) (z48 _ _)) (fun w v hv=>by simp [execOp,ho,hv])
 ·simp at h
theorem zcr {objs:z2c}:{ac:AVal}->{vs:List Value}->{i:Nat}->{av:AVal}->z1o w g objs ac vs->z2k ac i=some av->
  ∃ v,vs[i]? = some v∧VOK w g objs av v∧∀ m,m∉ac.ids->m∉av.ids
 | .pr x y,vs,0,av,h,ht=>by
  simp only [z1o] at h;obtain ⟨v,rest,rfl,h1,h2⟩:=h;simp only [z2k,zI] at ht;subst ht
  exact ⟨v,rfl,h1,fun m hm=>by simp [AVal.ids] at hm;exact hm.1⟩
 | .pr x y,vs,i+1,av,h,ht=>by
  simp only [z1o] at h;obtain ⟨v,rest,rfl,h1,h2⟩:=h;simp only [z2k] at ht;obtain ⟨v',hv',h3,h4⟩:=zcr h2 ht
  exact ⟨v',by simpa using hv',h3,fun m hm=>h4 m (by simp [AVal.ids] at hm;exact hm.2)⟩
 | .un,_,_,_,_,ht=>by simp [z2k] at ht
 | .data _ _,_,_,_,_,ht=>by simp [z2k] at ht
 | .nilS,_,_,_,_,ht=>by simp [z2k] at ht
 | .ref _ _ _,_,_,_,_,ht=>by simp [z2k] at ht
 | .view _ _ _ _ _,_,_,_,_,ht=>by simp [z2k] at ht
 | .bptr _ _,_,_,_,_,ht=>by simp [z2k] at ht
 | .eptr _ _ _,_,_,_,_,ht=>by simp [z2k] at ht
 | .mref _,_,_,_,_,ht=>by simp [z2k] at ht
 | .nv _ _ _ _,_,_,_,_,ht=>by simp [z2k] at ht
 | .clos _ _,_,_,_,_,ht=>by simp [z2k] at ht
 | .agg _,_,_,_,_,ht=>by simp [z2k] at ht
 | .tup _,_,_,_,_,ht=>by simp [z2k] at ht
theorem zu6 {x:Operand} {i:Nat} (ho:o.op = .extract x i) (hst:StOK c.ntmps g w a σ) (h:z1s c σ base o k=some r):Yield P o a w g σ c k r:=by
 simp only [z1s,ho] at h;split at h
 ·rename_i ac hx;obtain ⟨ex,ef⟩:=z24 hst hx;simp only [VOK] at ex;obtain ⟨vs,hv,hvs⟩:=ex;split at h
  ·rename_i av hav;obtain ⟨v,h1,h2,h3⟩:=zcr hvs hav;refine yld (v:=v) ?_ h2 (fun m hm=>h3 m (by have:=ef m hm;simpa [AVal.ids] using this)) h;intro w' _;simp [execOp,ho,hv,Instr.extract,h1]
  ·simp at h
 ·simp at h
theorem z9p {objs:z2c}:{ac:AVal}->{vs:List Value}->z1z ac=true->z1o w g objs ac vs->AOK w g objs ac vs
 | .un,vs,_,h=>by simp only [z1o] at h;exact h
 | .pr (.bptr id p) y,vs,hp,h=>by
  simp only [z1o] at h;obtain ⟨v,rest,rfl,h1,h2⟩:=h;simp only [VOK] at h1;obtain ⟨cs,h1,hv⟩:=h1;have h1':=h1;obtain ⟨x,rfl,_⟩:=h1;have hv':v=x:=hv;subst hv'
  exact ⟨[v],rest,rfl,h1',z9p (by simpa [z1z] using hp) h2⟩
 | .pr (.data (.ptr t) d) y,vs,hp,h=>by
  simp only [z1o] at h;obtain ⟨v,rest,rfl,h1,h2⟩:=h;simp only [VOK] at h1;obtain ⟨cs,h1,hv⟩:=h1;have h1':=h1;obtain ⟨_,b,off,c,e,fz,rfl,_⟩:=h1;have hv':v = .pointer (some ⟨b,off,none⟩):=hv;subst hv'
  exact ⟨_,rest,rfl,h1',z9p (by simpa [z1z] using hp) h2⟩
 | .data _ _,_,hp,_=>by simp [z1z] at hp
 | .nilS,_,hp,_=>by simp [z1z] at hp
 | .ref _ _ _,_,hp,_=>by simp [z1z] at hp
 | .view _ _ _ _ _,_,hp,_=>by simp [z1z] at hp
 | .bptr _ _,_,hp,_=>by simp [z1z] at hp
 | .eptr _ _ _,_,hp,_=>by simp [z1z] at hp
 | .mref _,_,hp,_=>by simp [z1z] at hp
 | .nv _ _ _ _,_,hp,_=>by simp [z1z] at hp
 | .clos _ _,_,hp,_=>by simp [z1z] at hp
 | .agg _,_,hp,_=>by simp [z1z] at hp
 | .tup _,_,hp,_=>by simp [z1z] at hp
 | .pr (.data (.int _) _) _,_,hp,_=>by simp [z1z] at hp
 | .pr (.data .bool _) _,_,hp,_=>by simp [z1z] at hp
 | .pr (.data .str _) _,_,hp,_=>by simp [z1z] at hp
 | .pr (.data .unit _) _,_,hp,_=>by simp [z1z] at hp
 | .pr (.data (.pair _ _) _) _,_,hp,_=>by simp [z1z] at hp
 | .pr (.data (.arr _ _) _) _,_,hp,_=>by simp [z1z] at hp
 | .pr (.data (.sl _ _) _) _,_,hp,_=>by simp [z1z] at hp
 | .pr (.data (.fn _ _) _) _,_,hp,_=>by simp [z1z] at hp
 | .pr .nilS _,_,hp,_=>by simp [z1z] at hp
 | .pr (.ref _ _ _) _,_,hp,_=>by simp [z1z] at hp
 | .pr (.view _ _ _ _ _) _,_,hp,_=>by simp [z1z] at hp
 | .pr (.eptr _ _ _) _,_,hp,_=>by simp [z1z] at hp
 | .pr (.mref _) _,_,hp,_=>by simp [z1z] at hp
 | .pr (.nv _ _ _ _) _,_,hp,_=>by simp [z1z] at hp
 | .pr (.clos _ _) _,_,hp,_=>by simp [z1z] at hp
 | .pr (.agg _) _,_,hp,_=>by simp [z1z] at hp
 | .pr (.tup _) _,_,hp,_=>by simp [z1z] at hp
 | .pr (.pr _ _) _,_,hp,_=>by simp [z1z] at hp
 | .pr .un _,_,hp,_=>by simp [z1z] at hp
theorem zqd {f:FuncId} {first cap:Array Operand} (ho:o.op = .makeFunc (.func f) first cap) (hst:StOK c.ntmps g w a σ) (h:z1s c σ base o k=some r):Yield P o a w g σ c k r:=by
 simp only [z1s,ho] at h;split at h
 ·rename_i hfirst;split at h
  ·rename_i ac hac;obtain ⟨ex,ef⟩:=ze5 hst hac
   cases hp:z1z ac with
   | false=>rw [hp] at h;simp at h
   | true=>
    rw [hp] at h;have hcells:=z9p hp ex;have hf0:first = #[]:=by
     apply Array.toList_inj.1;simpa using hfirst
    refine yld (v:=.func (.func f) #[] (cap.toList.map a.eval).toArray) ?_ ?_ (fun m hm=>by simpa [AVal.ids] using ef m hm) h
    ·intro w' _;simp [execOp,ho,Instr.makeFunc,hf0,←List.map_toArray]
    ·simp only [VOK];exact ⟨_,⟨_,rfl,hcells⟩,rfl⟩
  ·simp at h
 ·simp at h
theorem zrb {objs:z2c} {av:AVal} {v:Value} (hp:isPtr av=true) (h:VOK w g objs av v) :
  (∃ t d b off c e fz,av = .data (.ptr t) d∧v = .pointer (some ⟨b,off,none⟩)∧t.isRo=true∧g.tag b = .ro∧w.heap[b]? = some (.cells c e fz)∧off+t.size≤c.size∧Rep w g none t d (seg c.toList off t.size))∨
  (∃ id p,av = .bptr id p∧∀ x,objs id=some (.cell x)->∃ off s,x.sk.off p=some (off,s)∧v = .pointer (some ⟨g.blk id,off,none⟩))∨
  (∃ id p ep,av = .eptr id p ep∧∀ t l e,objs id=some (.row t l e)->ep≤e∧(e=ep->p≠[]∧∃ b off,z0w g id (.sl true t) [] 0 0 p=some (b,off)∧v = .pointer (some ⟨b,off,none⟩))):=by
 cases av with
 | bptr id p=>
  simp only [VOK] at h;obtain ⟨cs,⟨x,rfl,_,hx⟩,hv⟩:=h;have hv':v=x:=hv;subst hv'
  exact .inr (.inl ⟨id,p,rfl,hx⟩)
 | eptr id p ep=>
  simp only [VOK] at h;obtain ⟨cs,⟨x,rfl,_,hx⟩,hv⟩:=h;have hv':v=x:=hv;subst hv'
  exact .inr (.inr ⟨id,p,ep,rfl,hx⟩)
 | data t d=>
  cases t with
  | ptr t=>
   simp only [VOK] at h;obtain ⟨cs,⟨hro,b,off,c,e,fz,rfl,h1,h2,h3,h4⟩,hv⟩:=h
   exact .inl ⟨t,d,b,off,c,e,fz,rfl,hv,by simpa [Ty.isRo] using hro,h1,h2,h3,h4⟩
  | _=>simp [isPtr] at hp
 | _=>simp [isPtr] at hp
theorem zqc {x:Operand} (ho:o.op = .nilCheck x) (hst:StOK c.ntmps g w a σ) (h:z1s c σ base o k=some r):Yield P o a w g σ c k r:=by
 simp only [z1s,ho] at h;split at h
 ·rename_i av hav;obtain ⟨ex,ef⟩:=z24 hst hav
  cases hp:holds σ av with
  | false=>rw [hp] at h;simp at h
  | true=>
   rw [hp] at h;simp only [cond_true] at h;have hv:∃ ad,a.eval x = .pointer (some ad):=by
    unfold holds at hp;split at hp
    ·rcases zrb rfl ex with ⟨t,d,b,off,cc,e,fz,h1,h2,_⟩ | ⟨_,_,h1,_⟩ | ⟨_,_,_,h1,_⟩
     ·exact ⟨_,h2⟩
     ·simp at h1
     ·simp at h1
    ·rcases zrb rfl ex with ⟨t,d,b,off,cc,e,fz,h1,h2,_⟩ | ⟨_,_,h1,h2⟩ | ⟨_,_,_,h1,_⟩
     ·simp at h1
     ·simp only [AVal.bptr.injEq] at h1;obtain ⟨rfl,rfl⟩:=h1;split at hp
      ·rename_i xx hxx;obtain ⟨off,s,_,hv⟩:=h2 _ hxx;exact ⟨_,hv⟩
      ·simp at hp
     ·simp at h1
    ·rcases zrb rfl ex with ⟨t,d,b,off,cc,e,fz,h1,h2,_⟩ | ⟨_,_,h1,h2⟩ | ⟨_,_,_,h1,h2⟩
     ·simp at h1
     ·simp at h1
     ·simp only [AVal.eptr.injEq] at h1;obtain ⟨rfl,rfl,rfl⟩:=h1;split at hp
      ·rename_i t l e hxx;obtain ⟨_,h3⟩:=h2 _ _ _ hxx;obtain ⟨_,b,off,_,hv⟩:=h3 (zE hp);exact ⟨_,hv⟩
      ·simp at hp
    ·simp only [VOK] at ex;obtain ⟨cs,⟨y,rfl,_,hx⟩,hv⟩:=ex;split at hp
     ·rename_i t l e i hxx;obtain ⟨_,h3⟩:=hx _ _ _ _ _ hxx;obtain ⟨_,b,off,_,hv2⟩:=(h3 (zE hp)).2 rfl;exact ⟨_,hv.trans hv2⟩
     ·simp at hp
    ·simp at hp
   obtain ⟨ad,hv⟩:=hv;exact yld (v:=a.eval x) (fun _ _=>by simp [execOp,ho,hv]) ex ef h
 ·simp at h
theorem zb7 {objs:z2c} {gf:Int->Int->Int} {b2:Value->Value->Sem Value} {kd:IntKind} (hb:∀ w x y,(b2 (.int kd x) (.int kd y)).run P w = .ok (.int kd (gf x y)) w)
  (hg:∀ x y,gf x y=x∨gf x y=y):{ac:AVal}->{vs:List Value}->{x:Int}->{f:Int->Option R}->z1o w g objs ac vs->kd.min≤x∧x≤kd.max->z0a gf kd x ac f=some r->
  ∃ z,f z=some r∧kd.min≤z∧z≤kd.max∧∀ w,(vs.foldlM b2 (.int kd x)).run P w = .ok (.int kd z) w
 | .un,vs,x,f,hv,hx,h=>by
  simp only [z1o] at hv;subst hv
  exact ⟨x,h,hx.1,hx.2,fun _=>by simp [List.foldlM]⟩
 | .pr (.data (.int j) y) ac,vs,x,f,hv,hx,h=>by
  simp only [z1o] at hv;obtain ⟨v,rest,rfl,h1,h2⟩:=hv;obtain ⟨rfl,hy⟩:=z3k h1;simp only [z0a] at h;split at h
  ·rename_i hk _;subst hk;have hz:kd.min≤gf x y∧gf x y≤kd.max:=by
    rcases hg x y with e | e <;> rw [e]
    ·exact hx
    ·exact hy
   obtain ⟨z,hf,z1,z2,hrun⟩:=zb7 hb hg h2 hz h;refine ⟨z,hf,z1,z2,fun w=>?_⟩;simp only [List.foldlM_cons,Sem.run_bind,hb,Result.andThen_ok];exact hrun w
  ·simp at h
 | .data _ _,_,_,_,_,_,h=>by simp [z0a] at h
 | .nilS,_,_,_,_,_,h=>by simp [z0a] at h
 | .ref _ _ _,_,_,_,_,_,h=>by simp [z0a] at h
 | .view _ _ _ _ _,_,_,_,_,_,h=>by simp [z0a] at h
 | .bptr _ _,_,_,_,_,_,h=>by simp [z0a] at h
 | .eptr _ _ _,_,_,_,_,_,h=>by simp [z0a] at h
 | .mref _,_,_,_,_,_,h=>by simp [z0a] at h
 | .nv _ _ _ _,_,_,_,_,_,h=>by simp [z0a] at h
 | .clos _ _,_,_,_,_,_,h=>by simp [z0a] at h
 | .agg _,_,_,_,_,_,h=>by simp [z0a] at h
 | .tup _,_,_,_,_,_,h=>by simp [z0a] at h
 | .pr (.data .bool _) _,_,_,_,_,_,h=>by simp [z0a] at h
 | .pr (.data .str _) _,_,_,_,_,_,h=>by simp [z0a] at h
 | .pr (.data .unit _) _,_,_,_,_,_,h=>by simp [z0a] at h
 | .pr (.data (.pair _ _) _) _,_,_,_,_,_,h=>by simp [z0a] at h
 | .pr (.data (.arr _ _) _) _,_,_,_,_,_,h=>by simp [z0a] at h
 | .pr (.data (.sl _ _) _) _,_,_,_,_,_,h=>by simp [z0a] at h
 | .pr (.data (.ptr _) _) _,_,_,_,_,_,h=>by simp [z0a] at h
 | .pr (.data (.fn _ _) _) _,_,_,_,_,_,h=>by simp [z0a] at h
 | .pr .nilS _,_,_,_,_,_,h=>by simp [z0a] at h
 | .pr (.ref _ _ _) _,_,_,_,_,_,h=>by simp [z0a] at h
 | .pr (.view _ _ _ _ _) _,_,_,_,_,_,h=>by simp [z0a] at h
 | .pr (.bptr _ _) _,_,_,_,_,_,h=>by simp [z0a] at h
 | .pr (.eptr _ _ _) _,_,_,_,_,_,h=>by simp [z0a] at h
 | .pr (.mref _) _,_,_,_,_,_,h=>by simp [z0a] at h
 | .pr (.nv _ _ _ _) _,_,_,_,_,_,h=>by simp [z0a] at h
 | .pr (.clos _ _) _,_,_,_,_,_,h=>by simp [z0a] at h
 | .pr (.agg _) _,_,_,_,_,_,h=>by simp [z0a] at h
 | .pr (.tup _) _,_,_,_,_,_,h=>by simp [z0a] at h
 | .pr (.pr _ _) _,_,_,_,_,_,h=>by simp [z0a] at h
 | .pr .un _,_,_,_,_,_,h=>by simp [z0a] at h
theorem op_max {args:Array Operand} {ts:Array TypeId} (ho:o.op = .call { callee:=.builtin .max,args:=args,argTypes:=ts }) (hst:StOK c.ntmps g w a σ) (h:z1s c σ base o k=some r):Yield P o a w g σ c k r:=by
 simp only [z1s,ho] at h;split at h
 ·rename_i kd x ac hx;obtain ⟨ex,_⟩:=ze5 hst hx;simp only [z1o] at ex;obtain ⟨v,rest,hvs,h1,h2⟩:=ex;obtain ⟨rfl,hb⟩:=z3k h1;obtain ⟨z,hz,z1,z2,hrun⟩:=zb7 (P:=P) (b2:=Builtin.max2) (fun w x y=>by simp [Builtin.max2,zsa]) (fun x y=>by unfold zsa;split <;> simp) h2 hb h;refine yld (v:=.int kd z) ?_ (z4j ⟨z1,z2⟩) (fun m _=>by simp [AVal.ids]) hz;intro w' _;have e:(args.map a.eval).toList = .int kd x :: rest:=by rw [Array.toList_map];exact hvs
  simp only [execOp,ho,resolve,Sem.run_bind,Sem.run_pure,Result.andThen_ok,invoke,builtin,Builtin.max_,e,hrun]
 ·simp at h
theorem op_min {args:Array Operand} {ts:Array TypeId} (ho:o.op = .call { callee:=.builtin .min,args:=args,argTypes:=ts }) (hst:StOK c.ntmps g w a σ) (h:z1s c σ base o k=some r):Yield P o a w g σ c k r:=by
 simp only [z1s,ho] at h;split at h
 ·rename_i kd x ac hx;obtain ⟨ex,_⟩:=ze5 hst hx;simp only [z1o] at ex;obtain ⟨v,rest,hvs,h1,h2⟩:=ex;obtain ⟨rfl,hb⟩:=z3k h1;obtain ⟨z,hz,z1,z2,hrun⟩:=zb7 (P:=P) (b2:=Builtin.min2) (fun w x y=>by simp [Builtin.min2,minI]) (fun x y=>by unfold minI;split <;> simp) h2 hb h;refine yld (v:=.int kd z) ?_ (z4j ⟨z1,z2⟩) (fun m _=>by simp [AVal.ids]) hz;intro w' _;have e:(args.map a.eval).toList = .int kd x :: rest:=by rw [Array.toList_map];exact hvs
  simp only [execOp,ho,resolve,Sem.run_bind,Sem.run_pure,Result.andThen_ok,invoke,builtin,Builtin.min_,e,hrun]
 ·simp at h
end
end Go.Kz
