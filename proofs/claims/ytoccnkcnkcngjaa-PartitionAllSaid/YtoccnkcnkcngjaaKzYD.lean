/-
  Structs of numbers, truth values and strings compared with == and !=.
-/
import Derived.Test.YtoccnkcnkcngjaaKzXA
import Derived.Laws.StructEq
import Derived.ChangeKeysEq
set_option linter.unusedVariables false
set_option linter.unusedSimpArgs false
namespace Go.Kz
variable {R : Type}

/-- The types named are structs that the model compares field by field. -/
def EqsOK (P : Program) (eqs : Nat → Bool) : Prop := ∀ T, eqs T = true → P.stoodInHeld T = false ∧ P.eqGuardType P.depth T = false ∧ ∀ fs, P.underlying T = some (.struct fs) → ∀ f ∈ fs.toList, f.name ≠ "_"
def eqsB (P : Program) : List Nat → Bool
  | [] => true
  | T :: l => (!P.stoodInHeld T && !P.eqGuardType P.depth T && (match P.underlying T with
    | some (.struct fs) => fs.toList.all fun f => !(f.name == "_")
    | some (.array _ _) => true
    | _ => false)) && eqsB P l
theorem eqsB_ok {P : Program} : {l : List Nat} → eqsB P l = true → EqsOK P (fun T => memN T l)
  | [], _, _, h => by simp [memN] at h
  | T :: l, hb, T', h => by
    simp only [eqsB, Bool.and_eq_true, Bool.not_eq_true'] at hb
    simp only [memN] at h
    cases he : Nat.beq T T' with
    | false => rw [he] at h; exact eqsB_ok hb.2 T' h
    | true =>
      obtain rfl := Nat.eq_of_beq_eq_true he
      refine ⟨hb.1.1.1, hb.1.1.2, ?_⟩
      have h1 := hb.1.2
      split at h1
      · rename_i fs hu
        intro fs' hu' f hf
        rw [hu] at hu'
        cases hu'
        have := List.all_eq_true.1 h1 f hf
        simpa using this
      · rename_i hu
        intro fs' hu'
        rw [hu] at hu'
        cases hu'
      · simp at h1

theorem eqIn_key {P : Program} {w w' : World} {g : Ghost} {t : Ty} {T : TypeId} {d e : t.den} {cs es : List Value} (D : Nat) (hk : keyTy t = true) (hT : TyOK P t T) (h : Rep w g none t d cs) (h' : Rep w g none t e es) :
    ∃ u v, cs = [u] ∧ es = [v] ∧ (Op.equalIn (D + 1) T u v).run P w' = .ok (keyEq t d e) w' := by
  cases t <;> simp [keyTy] at hk <;> simp only [TyOK] at hT
  · obtain ⟨rfl, _⟩ := h
    obtain ⟨rfl, _⟩ := h'
    refine ⟨_, _, rfl, rfl, ?_⟩
    rw [run_equalIn_int w' D T _ _ _ _ hT.1]
    congr 1
  · cases h; cases h'
    exact ⟨_, _, rfl, rfl, run_equalIn_bool w' D T _ _ hT.1⟩
  · obtain ⟨s, rfl, hs, _⟩ := h
    obtain ⟨s', rfl, hs', _⟩ := h'
    refine ⟨_, _, rfl, rfl, ?_⟩
    rw [run_equalIn_string w' D T _ _ hT.1, ByteArray.toList_eq, ByteArray.toList_eq]
    congr 1
    rw [Bool.eq_iff_iff]
    simp [keyEq, hs, hs']

theorem eqFields_ok {P : Program} {w w' : World} {g : Ghost} (D : Nat) {xs ys : Array Value} : {t : Ty} → {fs : List Field} → {off : Nat} → {d e : t.den} → {cs es : List Value} → eqTy t = true → FsOK P t fs off → (∀ f ∈ fs, f.name ≠ "_") →
    Rep w g none t d cs → Rep w g none t e es → xs.toList.drop off = cs → ys.toList.drop off = es → (Op.eqFields (D + 1) xs ys fs).run P w' = .ok (eqD t d e) w'
  | .unit, [], off, d, e, cs, es, _, _, _, _, _, _, _ => by simp [Op.eqFields, eqD]
  | .unit, _ :: _, off, d, e, cs, es, _, hf, _, _, _, _, _ => by simp [FsOK] at hf
  | .pair a b, [], off, d, e, cs, es, _, hf, _, _, _, _, _ => by simp [FsOK] at hf
  | .pair a b, f :: fs, off, (x, u), (y, v), cs, es, ht, hf, hn, h, h', hx, hy => by
    simp only [eqTy, Bool.and_eq_true] at ht
    simp only [FsOK] at hf
    obtain ⟨c1, c2, rfl, h1, h2⟩ := h
    obtain ⟨e1, e2, rfl, h3, h4⟩ := h'
    obtain ⟨p, q, rfl, rfl, hrun⟩ := eqIn_key (w' := w') D ht.1 hf.2.1 h1 h3
    have hsz : a.size = 1 := by have := h1.len; simpa using this.symm
    have hpl : P.plainKey f.type = true := by
      have := key_under ht.1 hf.2.1
      unfold Program.plainKey
      rw [this]
      have hk := ht.1
      cases a <;> simp [keyTy] at hk <;> rfl
    have getx : xs[off]? = some p := by
      have : (xs.toList.drop off)[0]? = some p := by rw [hx]; rfl
      rw [List.getElem?_drop] at this; simpa using this
    have gety : ys[off]? = some q := by
      have : (ys.toList.drop off)[0]? = some q := by rw [hy]; rfl
      rw [List.getElem?_drop] at this; simpa using this
    have hxt : xs.toList.drop (off + a.size) = c2 := by
      rw [hsz, ← List.drop_drop, hx]; rfl
    have hyt : ys.toList.drop (off + a.size) = e2 := by
      rw [hsz, ← List.drop_drop, hy]; rfl
    have ih := eqFields_ok (w' := w') D ht.2 hf.2.2 (fun f hf => hn f (by simp [hf])) h2 h4 hxt hyt
    have hn0 : f.name ≠ "_" := hn f (by simp)
    have p1 := run_part_plain w' hpl getx
    have p2 := run_part_plain w' hpl gety
    simp only [Op.eqFields, hf.1, hn0, ne_eq, not_false_eq_true, if_true, Sem.run_bind, p1, p2, hrun, Result.andThen_ok]
    simp only [eqD]
    cases keyEq a x y with
    | false => simp
    | true => simpa using ih
  | .int _, _, _, _, _, _, _, ht, _, _, _, _, _, _ => by simp [eqTy] at ht
  | .bool, _, _, _, _, _, _, ht, _, _, _, _, _, _ => by simp [eqTy] at ht
  | .str, _, _, _, _, _, _, ht, _, _, _, _, _, _ => by simp [eqTy] at ht
  | .arr _ _, _, _, _, _, _, _, _, hf, _, _, _, _, _ => by simp [FsOK] at hf
  | .sl _ _, _, _, _, _, _, _, ht, _, _, _, _, _, _ => by simp [eqTy] at ht
  | .ptr _, _, _, _, _, _, _, ht, _, _, _, _, _, _ => by simp [eqTy] at ht
  | .fn _ _, _, _, _, _, _, _, ht, _, _, _, _, _, _ => by simp [eqTy] at ht
theorem eqTy_noSl : {t : Ty} → eqTy t = true → t.noSl = true
  | .unit, _ => rfl
  | .pair a b, h => by
    simp only [eqTy, Bool.and_eq_true] at h
    simp only [Ty.noSl, keyTy_noSl h.1, eqTy_noSl h.2, Bool.and_self]
  | .int _, h => by simp [eqTy] at h
  | .bool, h => by simp [eqTy] at h
  | .str, h => by simp [eqTy] at h
  | .arr _ a, h => by
    simp only [eqTy] at h
    simp only [Ty.noSl, keyTy_noSl h]
  | .sl _ _, h => by simp [eqTy] at h
  | .ptr _, h => by simp [eqTy] at h
  | .fn _ _, h => by simp [eqTy] at h

section
variable {P : Program} {o : Oper} {a : Act} {w : World} {c : Ctx} {σ : St} {g : Ghost} {k : St → Option R} {r : R} {base : Nat}

/-- Arrays compared. -/
theorem eqItems_ok {w' : World} (D : Nat) {xs ys : Array Value} {t : Ty} {E : TypeId} (hk : keyTy t = true) (hE : TyOK P t E) : (l m : List t.den) → (j : Nat) → l.length = m.length →
    (∀ (i : Nat) (h : i < l.length), Rep w g none t (l.get ⟨i, h⟩) (seg xs.toList (j + i) 1)) → (∀ (i : Nat) (h : i < m.length), Rep w g none t (m.get ⟨i, h⟩) (seg ys.toList (j + i) 1)) →
    (Op.eqItems (D + 1) E 1 xs ys (List.range' j l.length)).run P w' = .ok (listEq (keyEq t) l m) w'
  | [], [], j, _, _, _ => by simp [Op.eqItems, listEq]
  | x :: l, y :: m, j, hl, hx, hy => by
    have ih := eqItems_ok (w' := w') D hk hE l m (j + 1) (by simpa using hl) (fun i h => by
      have := hx (i + 1) (by simpa using h)
      rw [show j + 1 + i = j + (i + 1) from by omega]; exact this) (fun i h => by
      have := hy (i + 1) (by simpa using h)
      rw [show j + 1 + i = j + (i + 1) from by omega]; exact this)
    have h1 := hx 0 (by simp)
    have h2 := hy 0 (by simp)
    simp only [Nat.add_zero] at h1 h2
    obtain ⟨p, q, e1, e2, hrun⟩ := eqIn_key (w' := w') D hk hE h1 h2
    have getx : xs[j]? = some p := by
      have := congrArg (fun l => l[0]?) e1
      simpa [seg] using this
    have gety : ys[j]? = some q := by
      have := congrArg (fun l => l[0]?) e2
      simpa [seg] using this
    have hpl : P.plainKey E = true := by
      have := key_under hk hE
      unfold Program.plainKey
      rw [this]
      cases t <;> simp [keyTy] at hk <;> rfl
    have p1 := run_part_plain w' hpl getx
    have p2 := run_part_plain w' hpl gety
    have hrun' : (Op.equalIn (D + 1) E p q).run P w' = .ok (keyEq t x y) w' := hrun
    simp only [List.length_cons, List.range'_succ, Op.eqItems, Nat.mul_one, Sem.run_bind, p1, p2, hrun', Result.andThen_ok, listEq]
    cases keyEq t x y with
    | false => simp
    | true => simpa using ih
  | [], _ :: _, _, hl, _, _ => by simp at hl
  | _ :: _, [], _, hl, _, _ => by simp at hl

theorem op_binOp' (htt : TtOK P c.tt) (heq : EqsOK P c.eqs) {op : BinOp} {t t' : TypeId} {x y : Operand} (ho : o.op = .binOp op t x y t') (hst : StOK c.ntmps g w a σ) (h : opK0 c σ base o k = some r) : Yield P o a w g σ c k r := by
  refine op_binOp htt (fun ax ay hx hy u htu h => ?_) ho hst h
  cases hb : (c.eqs t && eqTy u && ax.val && ay.val) with
  | false => rw [hb] at h; simp at h
  | true =>
    rw [hb] at h
    simp only [cond_true] at h
    simp only [Bool.and_eq_true] at hb
    obtain ⟨⟨⟨hq, hty⟩, hvx⟩, hvy⟩ := hb
    have hno := eqTy_noSl hty
    obtain ⟨d, cs, h, hr, hev⟩ := key_data hst hno hvx hx h
    obtain ⟨e, es, h, hr', hev'⟩ := key_data hst hno hvy hy h
    have hT := htt _ _ htu
    obtain ⟨hs, hgd, hnm⟩ := heq _ hq
    have hag : u.sk.isAgg = true := by
      cases u <;> simp [eqTy] at hty <;> first | rfl | (simp only [TyOK] at hT)
    have hrun : ∀ w', (Op.equal t (.agg cs.toArray) (.agg es.toArray)).run P w' = .ok (eqD u d e) w' := fun w' => by
      show (Op.equalIn (9999 + 1) t _ _).run P w' = _
      cases u with
      | pair ta tb =>
        simp only [TyOK] at hT
        obtain ⟨⟨fs, hu, hfs⟩, _⟩ := hT
        have hfo : P.fieldsOf t = fs := by simp [Program.fieldsOf, hu]
        rw [run_equalIn_struct w' 9999 t _ _ (by rw [hfo]; exact hu) hs, hfo]
        exact eqFields_ok 9998 hty hfs (hnm fs hu) hr hr' (by simp) (by simp)
      | arr n ta =>
        simp only [eqTy] at hty
        simp only [TyOK] at hT
        obtain ⟨⟨E, hu, hE⟩, _⟩ := hT
        obtain ⟨i, z, hi, hsz, _⟩ := hE.info.info
        have hs1 : ta.size = 1 := by cases ta <;> simp [keyTy] at hty <;> rfl
        have hce : P.cellsOf E = 1 := by simp [Program.cellsOf, hi, hsz, hs1]
        rw [run_equalIn_array w' 9999 _ _ hu hi, hce]
        obtain ⟨l1, l2, l3⟩ := hr
        obtain ⟨m1, m2, m3⟩ := hr'
        have := eqItems_ok (P := P) (w := w) (g := g) (w' := w') 9998 (xs := cs.toArray) (ys := es.toArray) hty hE d e 0 (l1.trans m1.symm) (fun i h => by
          have := l3 i h
          rw [hs1, Nat.mul_one] at this
          simpa [stp] using this) (fun i h => by
          have := m3 i h
          rw [hs1, Nat.mul_one] at this
          simpa [stp] using this)
        rw [List.range_eq_range', ← l1]
        exact this
      | unit => simp only [TyOK] at hT
      | int _ => simp [eqTy] at hty
      | bool => simp [eqTy] at hty
      | str => simp [eqTy] at hty
      | sl _ _ => simp [eqTy] at hty
      | ptr _ => simp [eqTy] at hty
      | fn _ _ => simp [eqTy] at hty
    have ex : a.eval x = .agg cs.toArray := by rw [hev]; simp [mkV, hag]
    have ey : a.eval y = .agg es.toArray := by rw [hev']; simp [mkV, hag]
    refine wp_plain (f := fun v => σ.putK c o.dst v k) (s := binOp op t (.agg cs.toArray) (.agg es.toArray)) rfl ?_
      (fun w v hv => by simp [execOp, ho, ex, ey, run_eqGuard_agg w op t x y _ _ hgd, hv])
    cases op <;> simp only [eqRes] at h
    case eql => exact Plain.bool h (fun w => by simp only [binOp, Sem.run_bind, hrun, Result.andThen_ok, Sem.run_pure])
    case neq => exact Plain.bool h (fun w => by simp only [binOp, Sem.run_bind, hrun, Result.andThen_ok, Sem.run_pure])
    all_goals simp at h
end

end Go.Kz

/-
  Parts of values: a field of a struct, an element of an array.
-/
namespace Go.Kz
variable {R : Type}

section
variable {P : Program} {o : Oper} {a : Act} {w : World} {c : Ctx} {σ : St} {g : Ghost} {k : St → Option R} {r : R} {base : Nat}

theorem run_partV {T : TypeId} {u : Ty} (hT : TyOK P u T) (cs : List Value) (off : Nat) (hs : off + u.size ≤ cs.length) (w : World) :
    (part T cs.toArray off).run P w = .ok (mkV u.sk.isAgg (seg cs off u.size)) w := by
  have hag := run_isAgg hT w
  unfold part
  rw [Sem.run_bind, hag]
  cases hu : u.sk.isAgg with
  | true =>
    have hsz := hT.info.sizeOf w
    simp only [Result.andThen_ok, if_true, Sem.run_bind, hsz, Sem.run_pure]
    congr 1
    simp only [mkV, if_true, Value.agg.injEq]
    apply Array.toList_inj.1
    simp [seg, List.extract]
  | false =>
    have h1 : u.size = 1 := by cases u <;> simp [Ty.sk, Sk.isAgg] at hu <;> simp [Ty.size]
    have hlt : off < cs.length := by omega
    have hg : cs.toArray[off]? = some cs[off] := by simp [hlt]
    simp only [Result.andThen_ok, Bool.false_eq_true, if_false, hg, Sem.run_pure]
    congr 1
    simp only [mkV, Bool.false_eq_true, if_false, seg, h1]
    rw [List.drop_eq_getElem_cons hlt]
    rfl

theorem op_indexV (htt : TtOK P c.tt) {t : TypeId} {x i : Operand} (ho : o.op = .index t x i) (hst : StOK c.ntmps g w a σ) (h : opK0 c σ base o k = some r) : Yield P o a w g σ c k r := by
  simp only [opK0, ho] at h
  split at h
  · rename_i n t' l ki j m u hx hi hu
    have hT := htt _ _ hu
    obtain ⟨ex, ef⟩ := ev_ok hst hx
    obtain ⟨vi, _⟩ := VOK_int (ev_ok hst hi).1
    cases hs : (Nat.beq n m && t'.sk.same u.sk) with
    | false => rw [hs] at h; simp at h
    | true =>
      rw [hs] at h
      simp only [Bool.and_eq_true] at hs
      have hnm : n = m := Nat.eq_of_beq_eq_true hs.1
      subst hnm
      have hsk := Sk.same_eq hs.2
      have hsz : u.size = t'.size := by rw [← Ty.sk_size, ← Ty.sk_size, hsk]
      simp only [cond_true, Option.bind_eq_some_iff] at h
      obtain ⟨d, hd, h⟩ := h
      obtain ⟨h0, hi', rfl, hlt⟩ := idx_some hd
      simp only [TyOK] at hT
      obtain ⟨⟨E, hund, hE⟩, _⟩ := hT
      simp only [VOK] at ex
      obtain ⟨cs, ⟨hro, hl, hcl, hel⟩, hv⟩ := ex
      have hjn : j.toNat < n := by rw [← hl]; exact hi'
      have hmul : (j.toNat + 1) * t'.size ≤ n * t'.size := Nat.mul_le_mul_right _ hjn
      rw [Nat.add_mul] at hmul
      have hv' : a.eval x = .agg cs.toArray := by rw [hv]; rfl
      have hjlt : (j : Int) < (n : Int) := by rw [← hl]; exact hlt
      refine yld (v := mkV u.sk.isAgg (seg cs (j.toNat * t'.size) u.size)) ?_ ?_ (fun m _ => by simp [AVal.ids]) h
      · intro w' _
        have hsE := hE.info.sizeOf w'
        have hp := run_partV hE cs (j.toNat * u.size) (by rw [hsz]; omega) w'
        rw [hsz] at hp hsE
        simp [execOp, ho, hv', vi, Instr.index, asIntOf, run_underlying hund, h0, hjlt, hsE, hp, hsz]
      · simp only [VOK]
        refine ⟨seg cs (j.toNat * t'.size) t'.size, ⟨by simpa [Ty.isRo] using hro, hel _ hi'⟩, by rw [hsz, ← hsk]; rfl⟩
  · simp at h

theorem op_fieldV (htt : TtOK P c.tt) {t : TypeId} {x : Operand} {i : Nat} (ho : o.op = .field t x i) (hst : StOK c.ntmps g w a σ) (h : opK0 c σ base o k = some r) : Yield P o a w g σ c k r := by
  simp only [opK0, ho] at h
  split at h
  · rename_i av u hx hu
    have hT := htt _ _ hu
    obtain ⟨ex, ef⟩ := ev_ok hst hx
    cases hs : (av.val && av.sk.same u.sk && (tyAt u (fieldPath i)).isSome) with
    | false => rw [hs] at h; simp at h
    | true =>
      rw [hs] at h
      simp only [cond_true] at h
      simp only [Bool.and_eq_true] at hs
      have hsk := Sk.same_eq hs.1.2
      obtain ⟨hag, _, _, _⟩ := val_isAgg hs.1.1
      obtain ⟨cs, hok, hmk, _⟩ := VOK_valueCells hs.1.1 ex
      obtain ⟨av', off, h, hoff, hpart, hids⟩ := getA_rep hok h
      obtain ⟨xa, ya, rfl⟩ := tyAt_pair hs.2
      simp only [TyOK] at hT
      obtain ⟨⟨fs, hund, hfs⟩, _⟩ := hT
      obtain ⟨f, s, h1, h2, h3, o', h4, h5⟩ := field_ok hfs hs.2
      rw [hsk, h4] at hoff
      simp only [Option.some.injEq, Prod.mk.injEq] at hoff
      obtain ⟨rfl, hss⟩ := hoff
      have hf : fs[i]? = some f := by rw [← Array.getElem?_toList]; exact h1
      have ho2 : f.offset = o' := by omega
      cases hb : av'.val with
      | false => rw [hb] at h; simp at h
      | true =>
        rw [hb] at h
        simp only [cond_true] at h
        obtain ⟨hag', hn1, hn2, hn3⟩ := val_isAgg hb
        have hle := Sk.off_le h4
        have hlen := hok.len
        rw [hsk] at hlen
        rw [Ty.sk_size] at hle hlen
        rw [Ty.sk_size] at hle
        have hszs : s.size = av'.sk.size := by rw [← hss, Ty.sk_size]
        have hv' : a.eval x = .agg cs.toArray := by rw [hmk, hag, hsk]; rfl
        refine yld (v := mkV s.sk.isAgg (seg cs o' s.size)) ?_ ?_ (fun m hm => hids m (ef m hm)) h
        · intro w' _
          have hp := run_partV h3 cs o' (by omega) w'
          simp [execOp, ho, hv', Instr.field, run_underlying hund, hf, asAgg, ho2, hp]
        · refine VOK_of_cells hpart ?_ hn1 hn2
          rw [hag', ← hss, hszs, hss]
  · simp at h
end

end Go.Kz

/-
  clear on a part of an own row.
-/
namespace Go.Kz
variable {R : Type}

theorem zeroCells_list (z : Array Value) (n : Nat) (hz : 0 < z.size) : (Builtin.zeroCells z n).toList = (List.replicate n z.toList).flatten := by
  rw [← madeCells_list z n hz]
  congr 1

theorem clearL_length {α : Type} (z : α) (l : List α) (a b : Int) : (clearL z l a b).length = l.length := by simp [clearL]
theorem clearL_get {α : Type} (z : α) (l : List α) (a b : Int) (i : Nat) (h : i < (clearL z l a b).length) (h' : i < l.length) :
    (clearL z l a b).get ⟨i, h⟩ = if a ≤ (i : Int) ∧ (i : Int) < b then z else l.get ⟨i, h'⟩ := by
  simp [clearL, List.getD_eq_getElem?_getD, h']
theorem clearL_none {α : Type} (z : α) (l : List α) (a b : Int) (hab : b ≤ a) : clearL z l a b = l := by
  apply List.ext_getElem (clearL_length z l a b)
  intro i h1 h2
  have := clearL_get z l a b i h1 h2
  simp only [List.get_eq_getElem] at this
  rw [this, if_neg (by omega)]

theorem setObj_self {σ : St} {id : Nat} {o : Obj} (h : σ.objs id = some o) : σ.setObj id o = σ := by
  cases σ
  simp only [St.setObj, St.mk.injEq, true_and]
  simp only at h
  refine ⟨?_, trivial⟩
  funext i
  by_cases hi : i = id
  · subst hi; rw [upd_same, h]
  · rw [upd_other _ _ hi]

section
variable {P : Program} {o : Oper} {a : Act} {w : World} {K : Act → World → Prop} {Q : Exit → Act → World → Prop} {c : Ctx} {σ : St} {g : Ghost} {k : St → Option R} {r : R} {base : Nat}

theorem run_clear_op {x : Operand} {args : Array Operand} {ts : Array TypeId} {t : TypeId} {v : Value} {w' : World} (ho : o.op = .call { callee := .builtin .clear, args := args, argTypes := ts }) (ha : args.toList = [x]) (ht : ts.toList = [t])
    (h : ∀ ty, (Builtin.clear_ #[t] ty #[a.eval x]).run P w = .ok v w') : (execOp a.eval o).run P w = .ok (.value v) w' := by
  have e1 : args = #[x] := by apply Array.toList_inj.1; simpa using ha
  have e2 : ts = #[t] := by apply Array.toList_inj.1; simpa using ht
  subst e1; subst e2
  simp [execOp, ho, resolve, invoke, builtin, h]

theorem same_some {t u : Ty} (h : (Ty.same t u).isSome = true) : t = u := by
  cases hs : Ty.same t u with
  | none => rw [hs] at h; simp at h
  | some e => exact e.down

/-- A part of a row that becomes zero. -/
theorem row_clear {id : Nat} {t : Ty} {l : List t.den} {z : t.den} {e b off cap : Nat} {cc : Array Value} {ee : TypeId} {av bv : Int} (hro : t.isRo = true) (hz : t.zero = some z)
    (h0 : 0 ≤ av) (hab : av ≤ bv) (hbl : bv ≤ (l.length : Int)) (hlc : l.length ≤ cap) (hcm : cap ≤ maxLen) (hsv : g.sv id [] = .slice (some ⟨b, off, none⟩) l.length cap)
    (htag : g.tag b = .row id []) (hcell : w.heap[b]? = some (.cells cc ee (0, 0))) (hsz : off + cap * t.size ≤ cc.size)
    (hel : ∀ (i : Nat) (h : i < l.length), Rep w g (some (id, [.idx i])) t (l.get ⟨i, h⟩) (seg cc.toList (off + i * t.size) t.size)) (objs : Objs) :
    ObjOK (w.setRow b (splice cc.toList (off + av.toNat * t.size) (List.replicate (bv - av).toNat (zeroCells t)).flatten).toArray) g objs id (.row t (clearL z l av bv) e) := by
  have hccl : cc.toList.length = cc.size := Array.length_toList
  have hzl : (List.replicate (bv - av).toNat (zeroCells t)).flatten.length = (bv - av).toNat * t.size := by rw [length_flatten_replicate, zeroCells_len]
  have hmul : (av.toNat + (bv - av).toNat) * t.size ≤ cap * t.size := Nat.mul_le_mul_right _ (by omega)
  rw [Nat.add_mul] at hmul
  have hRo : RoKept w g (w.setRow b (splice cc.toList (off + av.toNat * t.size) (List.replicate (bv - av).toNat (zeroCells t)).flatten).toArray) g := (setRow_rewrote (id := id) _ (.inl ⟨[], htag⟩)).ro
  refine ⟨hro, some ⟨b, off, none⟩, cap, by rw [clearL_length, hsv], by rw [clearL_length, hsv], by rw [clearL_length]; exact hlc, hcm, .inr ⟨b, off, _, ee, rfl, htag, setRow_heap w b cc _ ee _ hcell, ?_, fun j hj => ?_⟩⟩
  · rw [List.size_toArray, splice_length _ _ _ (by rw [hzl, hccl]; omega), hccl]; exact hsz
  · have hj' : j < l.length := by rw [clearL_length] at hj; exact hj
    have hjcap : (j + 1) * t.size ≤ cap * t.size := Nat.mul_le_mul_right _ (by omega)
    rw [Nat.add_mul] at hjcap
    refine Rep.anyOwn hro (o := none) ?_
    rw [clearL_get z l av bv j hj hj']
    by_cases hin : av ≤ (j : Int) ∧ (j : Int) < bv
    · rw [if_pos hin]
      obtain ⟨m, hm⟩ : ∃ m, j = av.toNat + m := ⟨j - av.toNat, by omega⟩
      have hmm : m < (bv - av).toNat := by omega
      have h3 : (m + 1) * t.size ≤ (bv - av).toNat * t.size := Nat.mul_le_mul_right _ hmm
      rw [Nat.add_mul] at h3
      have e1 : off + j * t.size = (off + av.toNat * t.size) + m * t.size := by rw [hm, Nat.add_mul]; omega
      rw [e1, seg_splice_inside _ _ _ _ _ (by rw [hzl]; omega) (by rw [hzl, hccl]; omega)]
      have := seg_flatten_replicate (bv - av).toNat (zeroCells t) m hmm
      rw [zeroCells_len] at this
      rw [List.toList_toArray] at *
      rw [this]
      exact zero_rep hro hz
    · rw [if_neg hin]
      have hold := (Rep.anyOwn (o' := none) hro (hel j hj')).kept hRo
      rcases Int.lt_or_le (j : Int) av with hlt | hge
      · have h3 : (j + 1) * t.size ≤ av.toNat * t.size := Nat.mul_le_mul_right _ (by omega)
        rw [Nat.add_mul] at h3
        rw [seg_splice_before _ _ _ _ _ (by omega) (by rw [hccl]; omega)]
        exact hold
      · have h3 : (av.toNat + (bv - av).toNat) * t.size ≤ j * t.size := Nat.mul_le_mul_right _ (by omega)
        rw [Nat.add_mul] at h3
        rw [seg_splice_after _ _ _ _ _ (by rw [hzl]; omega) (by rw [hzl, hccl]; omega)]
        exact hold

theorem op_clear (htt : TtOK P c.tt) {args : Array Operand} {ts : Array TypeId} (ho : o.op = .call { callee := .builtin .clear, args := args, argTypes := ts }) (hst : StOK c.ntmps g w a σ) (h : opK0 c σ base o k = some r)
    (hK : Post c.ntmps k r g w σ base true K) : o.wp P a w K Q := by
  simp only [opK0, ho] at h
  split at h
  · rename_i x t hargs hts
    split at h
    · rename_i id ep av bv ow u hx hu
      split at h
      · rename_i t' l e hobj
        cases hb : (Nat.beq e ep && (Ty.same t' u).isSome) with
        | false => rw [hb] at h; simp at h
        | true =>
          rw [hb] at h
          simp only [cond_true] at h
          simp only [Bool.and_eq_true] at hb
          have hee := Nat.eq_of_beq_eq_true hb.1
          subst hee
          have htu := same_some hb.2
          subst htu
          split at h
          · rename_i z hz
            have hT := htt _ _ hu
            simp only [TyOK] at hT
            obtain ⟨⟨E, hund, hE⟩, _⟩ := hT
            obtain ⟨ex, ef⟩ := ev_ok hst hx
            simp only [VOK] at ex
            obtain ⟨cs, ⟨v, rfl, hone, hv⟩, hv'⟩ := ex
            obtain ⟨_, h0, hab, hbl, e1⟩ := (hv _ _ _ hobj).2 rfl
            obtain ⟨hro, ad, cap, _, hsv, hlc, hcm, hrow⟩ := hst.heap.objs _ _ hobj
            have hv2 : a.eval x = subSlice (.slice ad l.length cap) t'.size av bv := by rw [← hsv, ← e1]; exact hv'
            by_cases hn : (bv - av).toNat = 0
            · have hcl : clearL z l av bv = l := clearL_none _ _ _ _ (by omega)
              rw [hcl, setObj_self hobj] at h
              refine wp_done (v := .tuple #[]) (g' := g) (w' := w) (σ' := σ) (run_clear_op ho hargs hts fun ty => ?_) hst (Ext.refl w g) (fun m _ hf => ⟨hf, by simp [AVal.ids]⟩) rfl ?_ h (fun h => Bool.noConfusion h) hK
              · rw [hv2]
                simp only [subSlice, hn]
                by_cases hc : cap - av.toNat = 0
                · cases ad <;> simp [Builtin.clear_, run_underlying hund, hc]
                · cases ad <;> simp [Builtin.clear_, run_underlying hund, hc]
              · simp [VOK, VsOK]
            · rcases hrow with ⟨rfl, hl, rfl⟩ | ⟨b, off, cc, ee, rfl, htag, hcell, hsz, hel⟩
              · rw [hl] at hbl; simp at hbl; omega
              · obtain ⟨i, zv, hi1, hi2, hi3, hi4, hi5, hi6⟩ := hE.info.info
                have hzs : zv.cells.size = t'.size := by rw [← Array.length_toList, hi5, zeroCells_len]
                have hzc : (Builtin.zeroCells zv.cells (bv - av).toNat).toList = (List.replicate (bv - av).toNat (zeroCells t')).flatten := by
                  rw [zeroCells_list _ _ (by rw [hzs, ← hi2]; exact hi6), hi5]
                have hccl : cc.toList.length = cc.size := Array.length_toList
                have hzl : (List.replicate (bv - av).toNat (zeroCells t')).flatten.length = (bv - av).toNat * t'.size := by rw [length_flatten_replicate, zeroCells_len]
                have hmul : (av.toNat + (bv - av).toNat) * t'.size ≤ cap * t'.size := Nat.mul_le_mul_right _ (by omega)
                rw [Nat.add_mul] at hmul
                have hst' := run_storeCells_at P b (off + av.toNat * t'.size) ee (List.replicate (bv - av).toNat (zeroCells t')).flatten 0 cc w hcell (by rw [hzl]; omega) (fun x hx => by
                  obtain ⟨y, hy, hxy⟩ := List.mem_flatten.1 hx
                  rw [(List.mem_replicate.1 hy).2] at hxy
                  exact Rep.one (w := w) (g := g) (zero_rep hro hz) x hxy)
                simp only [Nat.add_zero] at hst'
                have hRw := setRow_rewrote (w := w) (g := g) (id := id) (b0 := b) (splice cc.toList (off + av.toNat * t'.size) (List.replicate (bv - av).toNat (zeroCells t')).flatten).toArray (.inl ⟨[], htag⟩)
                have hobj' := row_clear (e := e) hro hz h0 hab hbl hlc hcm hsv htag hcell hsz (fun i hi => hel i hi) (σ.setObj id (.row t' (clearL z l av bv) e)).objs
                have hst2 := hRw.st hst (o' := .row t' (clearL z l av bv) e) (.inr (.inl ⟨t', l, clearL z l av bv, e, e, hobj, rfl, .inr ⟨rfl, clearL_length _ _ _ _, fun _ => rfl⟩⟩)) hobj'
                refine wp_done (v := .tuple #[]) (run_clear_op ho hargs hts fun ty => ?_) hst2 hRw.ext (fun m _ hf => ⟨hRw.fresh (by rw [hobj]; simp) (fun y hy => by simp at hy) hf, by simp [AVal.ids]⟩) rfl ?_ h (fun h => Bool.noConfusion h) hK
                · rw [hv2]
                  obtain ⟨n, hn'⟩ : ∃ n, (bv - av).toNat = n + 1 := ⟨(bv - av).toNat - 1, by omega⟩
                  simp only [subSlice]
                  rw [if_neg (by omega)]
                  rw [hzc.symm] at hst'
                  simp only [hn'] at hst' ⊢
                  simp [Builtin.clear_, run_underlying hund, zeroValue, typeInfo, hi1, hi4, Addr.add_lit, hst', splice]
                  rw [hn'] at hzc
                  rw [hzc, ← Array.length_toList, hzc, length_flatten_replicate]
                · simp [VOK, VsOK]
          · simp at h
      · simp at h
    · simp at h
  · simp at h
end
end Go.Kz

/-
  Values in interfaces: making one, taking it out, calling a method.
-/
namespace Go.Kz
variable {R : Type}

/-- The types that are not interfaces. -/
def CtOK (P : Program) (ct : Nat → Bool) : Prop := ∀ t, ct t = true → ∃ d, P.underlying t = some d ∧ ∀ ms, d ≠ .interface ms
def ctB (P : Program) : List Nat → Bool
  | [] => true
  | t :: l => (match P.underlying t with
    | some (.interface _) => false
    | some _ => true
    | none => false) && ctB P l
theorem ctB_ok {P : Program} : {l : List Nat} → ctB P l = true → CtOK P (fun t => memN t l)
  | [], _, _, h => by simp [memN] at h
  | t :: l, hb, t', h => by
    simp only [ctB, Bool.and_eq_true] at hb
    simp only [memN] at h
    cases he : Nat.beq t t' with
    | false => rw [he] at h; exact ctB_ok hb.2 t' h
    | true =>
      obtain rfl := Nat.eq_of_beq_eq_true he
      have h1 := hb.1
      split at h1
      · simp at h1
      · rename_i d hd hu
        exact ⟨d, hu, fun ms he => hd ms he⟩
      · simp at h1

/-- A method of a type: the function, and whether the receiver is what a pointer leads to (of that type). -/
def MsAt (P : Program) (t : Nat) (nm : String) (f : Nat) : Option Nat → Prop
  | none => ∀ v w, (method (P.types.size + Made.depth) t v nm).run P w = .ok (f, v) w
  | some E => ∀ (ad : Addr) x w, (loadVar E ad).run P w = .ok x w → (method (P.types.size + Made.depth) t (.pointer (some ad)) nm).run P w = .ok (f, x) w
def MsOK (P : Program) (ms : Nat → String → Option (Nat × Option Nat)) : Prop := ∀ t nm f d, ms t nm = some (f, d) → MsAt P t nm f d
def getMs : List (Nat × String × Nat × Option Nat) → Nat → String → Option (Nat × Option Nat)
  | [], _, _ => none
  | (t, nm, f, d) :: l, t', nm' => cond (Nat.beq t t' && nm == nm') (some (f, d)) (getMs l t' nm')
def ptrTo (P : Program) (t : Nat) : Option Nat := match P.underlying t with
  | some (.pointer E) => some E
  | _ => none
def recvB (P : Program) (t : Nat) (p : Bool) : Option Nat → Bool
  | none => p && (ptrTo P t).isSome
  | some E => !p && (match ptrTo P t with
    | some E' => Nat.beq E E'
    | none => false)
def ms1 (P : Program) (t : Nat) (nm : String) (f : Nat) (d : Option Nat) : Bool := match P.info? t with
  | some i => match i.methods.find? (·.name == nm) with
    | some m => m.path.isEmpty && (match m.func with
      | some (f', p) => Nat.beq f f' && recvB P t p d
      | none => false)
    | none => false
  | none => false
def msB (P : Program) : List (Nat × String × Nat × Option Nat) → Bool
  | [] => true
  | (t, nm, f, d) :: l => ms1 P t nm f d && msB P l
theorem ptrTo_some {P : Program} {t E : Nat} (h : ptrTo P t = some E) : P.underlying t = some (.pointer E) := by
  unfold ptrTo at h
  split at h
  · rename_i E' hu
    simp only [Option.some.injEq] at h
    rw [hu, h]
  · simp at h
theorem run_wrap {P : Program} {w : World} (ts : Array TypeId) (t : TypeId) (ad : Addr) (s m : ByteArray) : (Builtin.ssaWrapNilChk_ ts t #[.pointer (some ad), .string s, .string m]).run P w = .ok (.pointer (some ad)) w := rfl
theorem ms1_ok {P : Program} {t : Nat} {nm : String} {f : Nat} {d : Option Nat} (h : ms1 P t nm f d = true) : MsAt P t nm f d := by
  obtain ⟨n, hn⟩ : ∃ n, P.types.size + Made.depth = n + 1 := ⟨P.types.size + (Made.depth - 1), by simp [Made.depth]⟩
  unfold ms1 at h
  split at h
  · rename_i i hi
    split at h
    · rename_i m hm
      simp only [Bool.and_eq_true] at h
      obtain ⟨hp, h⟩ := h
      have hpath : m.path = #[] := by simpa using hp
      split at h
      · rename_i f' p hf
        simp only [Bool.and_eq_true] at h
        obtain ⟨h1, h2⟩ := h
        obtain rfl := Nat.eq_of_beq_eq_true h1
        cases d with
        | none =>
          simp only [recvB, Bool.and_eq_true] at h2
          obtain ⟨rfl, h2⟩ := h2
          obtain ⟨E, hE⟩ := Option.isSome_iff_exists.1 h2
          have hu := ptrTo_some hE
          intro v w
          rw [hn]
          simp [method, typeInfo, hi, hm, hpath, follow, hf, receiverAt, run_underlying hu, Place.get]
        | some E =>
          simp only [recvB, Bool.and_eq_true, Bool.not_eq_true'] at h2
          obtain ⟨rfl, h2⟩ := h2
          split at h2
          · rename_i E' hE
            obtain rfl := Nat.eq_of_beq_eq_true h2
            have hu := ptrTo_some hE
            intro ad x w hx
            rw [hn]
            simp [method, typeInfo, hi, hm, hpath, follow, hf, receiverAt, run_underlying hu, Place.get, run_wrap, strVal, asAddr, hx]
          · simp at h2
      · simp at h
    · simp at h
  · simp at h
theorem msB_ok {P : Program} : {l : List (Nat × String × Nat × Option Nat)} → msB P l = true → MsOK P (getMs l)
  | [], _, _, _, _, _, h => by simp [getMs] at h
  | (t, nm, f, d) :: l, hb, t', nm', f', d', h => by
    simp only [msB, Bool.and_eq_true] at hb
    simp only [getMs] at h
    cases he : (Nat.beq t t' && nm == nm') with
    | false => rw [he] at h; exact msB_ok hb.2 t' nm' f' d' h
    | true =>
      rw [he] at h
      simp only [cond_true, Option.some.injEq, Prod.mk.injEq] at h
      simp only [Bool.and_eq_true, beq_iff_eq] at he
      obtain rfl := Nat.eq_of_beq_eq_true he.1
      obtain rfl := he.2
      obtain ⟨rfl, rfl⟩ := h
      exact ms1_ok hb.1

section
variable {P : Program} {o : Oper} {a : Act} {w : World} {c : Ctx} {σ : St} {g : Ghost} {k : St → Option R} {r : R} {base : Nat}

theorem vok_ifc {objs : Objs} {t : Nat} {av : AVal} {x : Value} (hv : av.val = true) (h : VOK w g objs av x) : VOK w g objs (.ifc t av) (.iface t x) := by
  obtain ⟨cs, h1, h2, _⟩ := VOK_valueCells hv h
  simp only [VOK]
  exact ⟨[.iface t x], ⟨x, cs, rfl, h1, h2⟩, rfl⟩
theorem vok_ifc_inv {objs : Objs} {t : Nat} {av : AVal} {x : Value} (hv : av.val = true) (h : VOK w g objs (.ifc t av) x) : ∃ y, x = .iface t y ∧ VOK w g objs av y := by
  simp only [VOK] at h
  obtain ⟨cs, ⟨y, cs', rfl, h1, h2⟩, h3⟩ := h
  refine ⟨y, h3, ?_⟩
  obtain ⟨_, hn1, hn2, _⟩ := val_isAgg hv
  exact VOK_of_cells h1 h2 hn1 hn2

theorem op_makeInterface (hct : CtOK P c.ct) {t : TypeId} {x : Operand} (ho : o.op = .makeInterface t x) (hst : StOK c.ntmps g w a σ) (h : opK0 c σ base o k = some r) : Yield P o a w g σ c k r := by
  simp only [opK0, ho] at h
  split at h
  · rename_i av hx
    cases hb : (av.val && c.ct t) with
    | false => rw [hb] at h; simp at h
    | true =>
      rw [hb] at h
      simp only [cond_true] at h
      simp only [Bool.and_eq_true] at hb
      obtain ⟨e1, e2⟩ := ev_ok hst hx
      obtain ⟨d, hu, hd⟩ := hct t hb.2
      refine yld (v := .iface t (a.eval x)) (fun w' _ => ?_) (vok_ifc hb.1 e1) (fun m hm => by have := e2 m hm; simpa [AVal.ids] using this) h
      have : (Instr.makeInterface t (a.eval x)).run P w' = .ok (.iface t (a.eval x)) w' := by
        unfold Instr.makeInterface
        rw [Sem.run_bind, run_underlying hu, Result.andThen_ok]
        cases d <;> first | rfl | exact absurd rfl (hd _)
      simp [execOp, ho, this]
  · simp at h

theorem op_typeAssert (hct : CtOK P c.ct) {t xt : TypeId} {x : Operand} {ok : Bool} (ho : o.op = .typeAssert x xt t ok) (hst : StOK c.ntmps g w a σ) (h : opK0 c σ base o k = some r) : Yield P o a w g σ c k r := by
  simp only [opK0, ho] at h
  split at h
  · rename_i u av hx
    cases hb : (Nat.beq u t && c.ct t && av.val) with
    | false => rw [hb] at h; simp at h
    | true =>
      rw [hb] at h
      simp only [cond_true] at h
      simp only [Bool.and_eq_true] at hb
      have htu := Nat.eq_of_beq_eq_true hb.1.1
      subst htu
      obtain ⟨e1, e2⟩ := ev_ok hst hx
      obtain ⟨y, hy, hvy⟩ := vok_ifc_inv hb.2 e1
      obtain ⟨d, hu, hd⟩ := hct _ hb.1.2
      have hrun : ∀ w' : World, (Instr.typeAssert (a.eval x) xt u ok).run P w' = .ok (if ok then .tuple #[y, .bool true] else y) w' := fun w' => by
        unfold Instr.typeAssert
        rw [Sem.run_bind, run_underlying hu, Result.andThen_ok, hy]
        cases d <;> first | (exact absurd rfl (hd _)) | (cases ok <;> simp)
      cases ok with
      | true =>
        simp only [cond_true] at h
        refine yld (v := .tuple #[y, .bool true]) (fun w' _ => by simp [execOp, ho, hrun]) ?_ (fun m hm => by have := e2 m hm; simpa [AVal.ids] using this) h
        simp only [VOK]
        refine ⟨[y, .bool true], rfl, ?_⟩
        simp only [VsOK]
        exact ⟨_, _, rfl, hvy, _, _, rfl, VOK_bool_mk true, rfl⟩
      | false =>
        simp only [cond_false] at h
        exact yld (v := y) (fun w' _ => by simp [execOp, ho, hrun]) hvy (fun m hm => by have := e2 m hm; simpa [AVal.ids] using this) h
  · simp at h

theorem appendC_un {objs : Objs} : {av : AVal} → {vs : List Value} → VsOK w g objs av vs → appendC av .un = av
  | .pr a b, vs, h => by
    simp only [VsOK] at h
    obtain ⟨v, rest, rfl, _, h⟩ := h
    simp only [appendC]
    rw [appendC_un h]
  | .un, _, _ => rfl
  | .data _ _, _, h => by simp [VsOK] at h
  | .nilS, _, h => by simp [VsOK] at h
  | .ref _ _ _, _, h => by simp [VsOK] at h
  | .view _ _ _ _ _, _, h => by simp [VsOK] at h
  | .bptr _ _, _, h => by simp [VsOK] at h
  | .eptr _ _ _, _, h => by simp [VsOK] at h
  | .mref _, _, h => by simp [VsOK] at h
  | .nv _ _ _ _, _, h => by simp [VsOK] at h
  | .clos _ _, _, h => by simp [VsOK] at h
  | .ifc _ _, _, h => by simp [VsOK] at h
  | .agg _, _, h => by simp [VsOK] at h
  | .tup _, _, h => by simp [VsOK] at h
theorem callK_fn {σ : St} {n fid : Nat} {all : AVal} {f : AVal → St → Option R} {r : R} (h : callK c σ n (.clos fid .un) all f = some r) (hu : appendC all .un = all) : (match pickC all (c.env fid) with
      | some (.pure p res F) => callPure σ n all p res F f
      | _ => none) = some r := by
  unfold callK at h
  simp only [calleeOf, leafC, cond_true, hu] at h
  exact h
/-- A method's call is a function's. -/
theorem invK_ok (htt : TtOK P c.tt) (hms : MsOK P c.ms) {x : Operand} {nm : String} {args : Array Operand} {ts : Array TypeId} (ho : o.op = .call { callee := .invoke x nm, args := args, argTypes := ts }) (hst : StOK c.ntmps g w a σ)
    {xv av : AVal} (hx : ev σ x = some xv) (ha : evs σ args.toList = some av) {F : AVal → AVal → Option R} {r : R} (h : invK c σ nm xv av F = some r) :
    ∃ fid all vals, (execOp a.eval o).run P w = (callFunc fid vals.toArray).run P w ∧ VsOK w g σ.objs all vals ∧ appendC all .un = all ∧ F (.clos fid .un) all = some r := by
  unfold invK at h
  split at h
  · rename_i t v
    obtain ⟨e1, ef⟩ := ev_ok hst hx
    obtain ⟨e2, _⟩ := evs_ok hst ha
    cases hval : v.val with
    | false => rw [hval] at h; simp at h
    | true =>
    rw [hval] at h
    simp only [cond_true] at h
    obtain ⟨y, k3, hvy⟩ := vok_ifc_inv hval e1
    have hargs : args.map a.eval = (args.toList.map a.eval).toArray := by apply Array.toList_inj.1; rw [Array.toList_map]
    have app : appendC (.pr v av) .un = .pr v av := by simp only [appendC]; rw [appendC_un e2]
    have appl : ∀ lv : AVal, appendC (.pr lv av) .un = .pr lv av := fun lv => by simp only [appendC]; rw [appendC_un e2]
    -- the call
    have call : ∀ (m : Nat) (u : Value), (method (P.types.size + Made.depth) t y nm).run P w = .ok (m, u) w → (execOp a.eval o).run P w = (callFunc m (u :: args.toList.map a.eval).toArray).run P w := by
      intro m u hm
      have e5 : (#[Value.iface t y] ++ args.map a.eval).extract 1 (#[Value.iface t y] ++ args.map a.eval).size = args.map a.eval := by
        apply Array.toList_inj.1
        rw [Array.toList_extract]
        simp
        exact List.take_of_length_le (by simp)
      have e4 : (invoke (.fn (.method nm) #[]) (#[Value.iface t y] ++ args.map a.eval)).run P w = (callFunc m (#[u] ++ args.map a.eval)).run P w := by
        have h0 : (#[Value.iface t y] ++ args.map a.eval)[0]? = some (.iface t y) := by rw [Array.getElem?_append_left (show 0 < 1 from Nat.one_pos)]; rfl
        unfold invoke
        rw [h0]
        simp only [e5, callMethod, Sem.run_bind, run_program, Result.andThen_ok, hm]
      have e6 : #[u] ++ args.map a.eval = (u :: args.toList.map a.eval).toArray := by rw [hargs]; simp
      rw [← e6, ← e4]
      simp [execOp, ho, resolve, k3]
    unfold recvK at h
    split at h
    · rename_i m hm
      exact ⟨m, _, _, call m y (hms _ _ _ _ hm y w), by simp only [VsOK]; exact ⟨_, _, rfl, hvy, e2⟩, app, h⟩
    · rename_i m E hm
      split at h
      · rename_i u hu
        obtain ⟨lv, b, off, cc, e, fz, hv, hcell, hle, hok, hfr, hput⟩ := loadK_ok (n := c.ntmps) (xv := y) hst hvy (fun m hm => by have := ef m hm; simpa [AVal.ids] using this) h
        cases hb : (lv.val && u.sk.same lv.sk) with
        | false => rw [hb] at hput; simp at hput
        | true =>
          rw [hb] at hput
          simp only [cond_true] at hput
          simp only [Bool.and_eq_true] at hb
          have hsk := Sk.same_eq hb.2
          obtain ⟨hag, hn1, hn2, hn3⟩ := val_isAgg hb.1
          have hsz : u.size = lv.sk.size := by rw [← hsk, Ty.sk_size]
          have hrun := run_loadVar (P := P) (w := w) (htt _ _ hu) hcell (by rw [hsz]; exact hle)
          have hmm := hms _ _ _ _ hm ⟨b, off, none⟩ _ w hrun
          rw [← hv] at hmm
          refine ⟨m, _, _, call m _ hmm, ?_, appl _, hput⟩
          simp only [VsOK]
          refine ⟨_, _, rfl, VOK_of_cells hok ?_ hn1 hn2, e2⟩
          rw [hag, ← hsk, hsz, hsk]
      · simp at h
    · simp at h
  · simp at h
end
end Go.Kz

/-
  All operations together.
-/
namespace Go.Kz
variable {R : Type}

structure CtxOK (P : Program) (c : Ctx) : Prop where
  tt : TtOK P c.tt
  mt : MtOK P c.mt
  eqs : EqsOK P c.eqs
  ct : CtOK P c.ct
  ms : MsOK P c.ms
  env : EnvOK P c.env

section
variable {P : Program} {o : Oper} {a : Act} {w : World} {K : Act → World → Prop} {Q : Exit → Act → World → Prop} {c : Ctx} {σ : St} {g : Ghost} {k : St → Option R} {r : R} {base : Nat} {mo : Bool}

theorem op_yield (hc : CtxOK P c) (hy : isY o = true) (hst : StOK c.ntmps g w a σ) (h : opK c σ base o k = some r) : Yield P o a w g σ c k r := by
  simp only [isY, Bool.and_eq_true, Bool.not_eq_true'] at hy
  obtain ⟨hj, hy⟩ := hy
  simp only [opK, hj, cond_false] at h
  cases ho : o.op with
  | move x => exact op_move (.inl ho) hst h
  | assign x => exact op_move (.inr ho) hst h
  | pick t x y => exact op_pick ho hst h
  | binOp op t x y t' => exact op_binOp' hc.tt hc.eqs ho hst h
  | unOp op t x => exact op_unOp ho hst h
  | convert t t' x => exact op_convert hc.tt ho hst h
  | indexAddr t x i => exact op_index hc.tt ho hst h
  | fieldAddr t x i => exact op_field hc.tt ho hst h
  | nilCheck x => exact op_nilCheck ho hst h
  | load t x => exact op_load hc.tt ho hst h
  | extract x i => exact op_extract ho hst h
  | lookup t x i ok => exact op_lookup hc.mt ho hst h
  | slice t x lo hi mx => cases mx with
    | none => exact op_slice hc.tt ho hst h
    | some mx => simp [isY0, ho] at hy
  | build t ps => exact op_build hc.tt ho hst h
  | index t x i => exact op_indexV hc.tt ho hst h
  | field t x i => exact op_fieldV hc.tt ho hst h
  | makeInterface t x => exact op_makeInterface hc.ct ho hst h
  | typeAssert x xt t ok => exact op_typeAssert hc.ct ho hst h
  | makeFunc f first cap =>
    cases f with
    | func f => exact op_makeFunc ho hst h
    | _ => simp [opK0, ho] at h
  | call cl =>
    obtain ⟨callee, args, ts⟩ := cl
    cases callee with
    | builtin b =>
      cases b with
      | len => exact op_len ho hc.tt hc.mt hst h
      | max => exact op_max ho hst h
      | min => exact op_min ho hst h
      | _ => simp [isY0, ho] at hy
    | _ => simp [isY0, ho] at hy
  | _ => simp [isY0, ho] at hy

theorem op_junk (hj : isJunk o = true) (hst : StOK c.ntmps g w a σ) (h : k (σ.unset o.dst) = some r) (hK : Post c.ntmps k r g w σ base (isM o) K) : o.wp P a w K Q := by
  have ho : ∃ v, o.op = .assign (.const v) := by
    unfold isJunk at hj
    split at hj
    · exact ⟨_, by assumption⟩
    · exact ⟨_, by assumption⟩
    · exact ⟨_, by assumption⟩
    · simp at hj
  obtain ⟨v, ho⟩ := ho
  unfold Oper.wp
  have hrun : (execOp a.eval o).run P w = .ok (.value (a.eval (.const v))) w := by simp [execOp, ho]
  rw [hrun, Oper.upon_value]
  refine hK _ g _ w h (hst.putU o.dst _) (Ext.refl _ _) (fun m _ hm => hm.unset o.dst) ?_ (fun _ => Agree.refl w)
  cases o.dst <;> rfl

theorem op_ok (hc : CtxOK P c) (hst : StOK c.ntmps g w a σ) (hfr : ∀ m, base ≤ m → m < base + 8 → Fresh g σ m) (h : opK c σ base o k = some r) (hK : Post c.ntmps k r g w σ base (isM o) K) : o.wp P a w K Q := by
  have hf : Fresh g σ base := hfr base (Nat.le_refl _) (by omega)
  cases hj : isJunk o with
  | true =>
    simp only [opK, hj, cond_true] at h
    exact op_junk hj hst h hK
  | false =>
  cases hy : isY o with
  | true => exact (op_yield hc hy hst h).wp hst hK
  | false =>
    simp only [opK, hj, cond_false] at h
    simp only [isY, hj, Bool.not_false, Bool.true_and] at hy
    cases ho : o.op with
    | alloc t => exact op_alloc hc.tt ho hst hf h hK
    | box t x => exact op_box ho hst hf h hK
    | makeSlice t x y => exact op_makeSlice hc.tt ho hst hf h hK
    | buildSlice t n ps => exact op_buildSlice hc.tt ho hst hf h hK
    | slice t x lo hi mx => cases mx with
      | none => simp [isY0, ho] at hy
      | some mx => exact op_slice3 hc.tt ho hst h hK
    | store t x y => exact op_store hc.tt ho hst h (by simpa [isM, ho] using hK)
    | mapUpdate t x i y => exact op_mapUpdate hc.mt ho hst h (by simpa [isM, ho] using hK)
    | makeMap t rs => cases rs with
      | none => exact op_makeMap ho hst hf h hK
      | some _ => simp [opK0, ho] at h
    | call cl =>
      obtain ⟨callee, args, ts⟩ := cl
      cases callee with
      | builtin b =>
        cases b with
        | append => exact op_append hc.tt ho hst hf h (by simpa [isM, ho] using hK)
        | clear => exact op_clear hc.tt ho hst h (by simpa [isM, ho] using hK)
        | _ => first | (simp [isY0, ho] at hy; done) | (simp [opK0, ho] at h; done)
      | value x =>
        simp only [opK0, ho] at h
        split at h
        · rename_i gv av hx ha
          exact op_call hc.env ho rfl hst hfr hx ha h hK
        · simp at h
      | invoke x m =>
        simp only [opK0, ho] at h
        split at h
        · rename_i xv av hx ha
          obtain ⟨fid, all, vals, hrun, hall, hu, h⟩ := invK_ok hc.tt hc.ms ho hst hx ha h
          exact op_callG hc.env hrun hall hst hfr (callK_fn h hu) hK
        · simp at h
    | _ => first | (simp [isY0, ho] at hy; done) | (simp [opK0, ho] at h; done)
end

end Go.Kz

/-
  Cuts: what is forgotten, and how objects are numbered anew.
-/
namespace Go.Kz
variable {R : Type}

theorem memN_iff {x : Nat} : {l : List Nat} → (memN x l = true ↔ x ∈ l)
  | [] => by simp [memN]
  | y :: l => by
    simp only [memN, List.mem_cons]
    cases h : Nat.beq y x with
    | true => simp [Nat.eq_of_beq_eq_true h]
    | false =>
      have hne : x ≠ y := by intro he; subst he; rw [Nat.beq_refl] at h; simp at h
      simp [hne, memN_iff (l := l)]
theorem memN_false {x : Nat} {l : List Nat} : memN x l = false ↔ x ∉ l := by
  rw [← memN_iff]; simp

/-- All numbers from the next one on are free. -/
def FreshUp (g : Ghost) (σ : St) : Prop := ∀ m, σ.next ≤ m → Fresh g σ m

theorem indexN_some {x : Nat} : {l : List Nat} → {k j : Nat} → indexN x l k = some j → ∃ d, j = k + d ∧ nthL l d = some x
  | [], _, _, h => by simp [indexN] at h
  | y :: l, k, j, h => by
    simp only [indexN] at h
    cases hb : Nat.beq y x with
    | true =>
      rw [hb] at h
      simp only [cond_true, Option.some.injEq] at h
      exact ⟨0, by omega, by simp [nthL, Nat.eq_of_beq_eq_true hb]⟩
    | false =>
      rw [hb] at h
      obtain ⟨d, hd, hn⟩ := indexN_some (l := l) h
      exact ⟨d + 1, by omega, hn⟩
theorem indexN_zero {x j : Nat} {l : List Nat} (h : indexN x l 0 = some j) : nthL l j = some x := by
  obtain ⟨d, hd, hn⟩ := indexN_some h
  rw [hd, Nat.zero_add]; exact hn
theorem indexN_nth {x : Nat} : {l : List Nat} → {k d : Nat} → l.Nodup → nthL l d = some x → indexN x l k = some (k + d)
  | [], _, d, _, h => by cases d <;> simp [nthL] at h
  | y :: l, k, 0, _, h => by
    simp only [nthL, Option.some.injEq] at h
    subst h
    simp [indexN, Nat.beq_refl]
  | y :: l, k, d + 1, hn, h => by
    simp only [List.nodup_cons] at hn
    have hm : x ∈ l := nthL_mem h
    have hne : Nat.beq y x = false := by
      cases hb : Nat.beq y x with
      | true => rw [Nat.eq_of_beq_eq_true hb] at hn; exact absurd hm hn.1
      | false => rfl
    simp only [indexN, hne, cond_false]
    rw [indexN_nth (l := l) hn.2 h]
    congr 1; omega
theorem nthL_some {α : Type} : {l : List α} → {i : Nat} → i < l.length → ∃ x, nthL l i = some x
  | [], _, h => by simp at h
  | x :: _, 0, _ => ⟨x, rfl⟩
  | _ :: l, i + 1, h => nthL_some (l := l) (by simpa using h)

theorem reachN_nodup {objs : Nat → Option Obj} : (n : Nat) → (todo seen : List Nat) → seen.Nodup → (reachN objs n todo seen).Nodup
  | 0, _, _, h => h
  | _ + 1, [], _, h => h
  | n + 1, x :: todo, seen, h => by
    simp only [reachN]
    cases hm : memN x seen with
    | true => exact reachN_nodup n _ _ h
    | false =>
      have hx : (seen ++ [x]).Nodup := by
        rw [List.nodup_append]
        refine ⟨h, by simp, fun a ha b hb => ?_⟩
        simp only [List.mem_singleton] at hb
        subst hb
        intro he; subst he
        exact memN_false.1 hm ha
      simp only [cond_false]
      split <;> exact reachN_nodup n _ _ hx

/-- The ghost of a state whose objects are numbered anew. -/
def renG (g : Ghost) (ids : List Nat) : Ghost where
  tag := fun b => match g.tag b with
    | .row i p => (match indexN i ids 0 with
      | some j => .row j p
      | none => .alien)
    | .box i => (match indexN i ids 0 with
      | some j => .box j
      | none => .alien)
    | t => t
  sv := fun j p => match nthL ids j with
    | some i => g.sv i p
    | none => undef
  blk := fun j => match nthL ids j with
    | some i => g.blk i
    | none => 0

section
variable {w : World} {g : Ghost} {ids : List Nat}

theorem renG_ro : RoKept w g w (renG g ids) := ⟨fun b hb => ⟨by simp [renG, hb], rfl⟩⟩
theorem renG_ext : Ext w g w (renG g ids) := by
  refine ⟨rfl, rfl, rfl, Nat.le_refl _, Nat.le_refl _, fun b _ ht => ⟨rfl, ?_⟩⟩
  rcases ht with ht | ht <;> simp [renG, ht]
theorem renG_sv {i j : Nat} (h : nthL ids j = some i) (p : Path) : (renG g ids).sv j p = g.sv i p := by simp [renG, h]
theorem renG_blk {i j : Nat} (h : nthL ids j = some i) : (renG g ids).blk j = g.blk i := by simp [renG, h]
theorem renG_moved (hn : ids.Nodup) {i j : Nat} (h : nthL ids j = some i) : Moved w g w (renG g ids) i [] j [] := by
  have hx := indexN_nth (k := 0) hn h
  rw [Nat.zero_add] at hx
  exact ⟨fun q => renG_sv h _, fun q b hb => ⟨by simp [renG, hb, hx], rfl⟩⟩
theorem renG_box (hn : ids.Nodup) {i j : Nat} (h : nthL ids j = some i) {b : Nat} (hb : g.tag b = .box i) : (renG g ids).tag b = .box j := by
  have hx := indexN_nth (k := 0) hn h
  rw [Nat.zero_add] at hx
  simp [renG, hb, hx]
theorem renG_lt {b m : Nat} (h : (∃ p, (renG g ids).tag b = .row m p) ∨ (renG g ids).tag b = .box m) : m < ids.length := by
  have key : ∀ i j, indexN i ids 0 = some j → j < ids.length := fun i j h => nthL_lt (indexN_zero h)
  simp only [renG] at h
  cases ht : g.tag b with
  | alien => rw [ht] at h; simp at h
  | ro => rw [ht] at h; simp at h
  | row i p =>
    rw [ht] at h
    cases hx : indexN i ids 0 with
    | none => simp [hx] at h
    | some j => simp [hx] at h; rw [← h]; exact key i j hx
  | box i =>
    rw [ht] at h
    cases hx : indexN i ids 0 with
    | none => simp [hx] at h
    | some j => simp [hx] at h; rw [← h]; exact key i j hx
theorem renG_alien {b : Nat} (h : (renG g ids).tag b ≠ .alien) : g.tag b ≠ .alien := by
  intro h'; simp [renG, h'] at h

/-- The objects of the two states. -/
structure RenObjs (objs : Objs) (ids : List Nat) (os : List Obj) : Prop where
  len : os.length = ids.length
  get : ∀ j i, nthL ids j = some i → ∃ o o', objs i = some o ∧ o.ren objs (fun i => indexN i ids 0) = some o' ∧ nthL os j = some o'

theorem renObjs_some {ρ : Nat → Option Nat} {objs : Objs} : {l : List Nat} → {os : List Obj} → renObjs ρ objs l = some os →
    os.length = l.length ∧ ∀ j i, nthL l j = some i → ∃ o o', objs i = some o ∧ o.ren objs ρ = some o' ∧ nthL os j = some o'
  | [], os, h => by
    simp only [renObjs, Option.some.injEq] at h
    subst h
    exact ⟨rfl, fun j i h => by simp [nthL] at h⟩
  | x :: l, os, h => by
    simp only [renObjs] at h
    split at h
    · rename_i o os' ho hos
      simp only [Option.some.injEq] at h
      subst h
      obtain ⟨h1, h2⟩ := renObjs_some hos
      refine ⟨by simp [h1], fun j i hj => ?_⟩
      cases j with
      | zero =>
        simp only [nthL, Option.some.injEq] at hj
        subst hj
        simp only [Option.bind_eq_some_iff] at ho
        obtain ⟨o0, h3, h4⟩ := ho
        exact ⟨o0, o, h3, h4, rfl⟩
      | succ j => exact h2 j i hj
    · simp at h

theorem ren_ok {objs : Objs} {os : List Obj} (hn : ids.Nodup) (ho : RenObjs objs ids os) : {a a' : AVal} → {cs : List Value} → a.ren objs (fun i => indexN i ids 0) = some a' → AOK w g objs a cs →
    AOK w (renG g ids) (nthL os) a' cs ∧ a'.sk = a.sk ∧ a'.isAgg = a.isAgg ∧ (∀ m ∈ a'.ids, m < ids.length) ∧ (∀ c, a ≠ .tup c) ∧ (∀ x y, a' = .pr x y → ∃ x' y', a = .pr x' y') ∧ (a' = .un → a = .un)
  | .data t d, a', cs, h, hok => by
    simp only [AVal.ren, Option.some.injEq] at h
    subst h
    exact ⟨⟨hok.1, hok.2.kept renG_ro⟩, rfl, rfl, by simp [AVal.ids], by simp, by simp, by simp⟩
  | .nilS, a', cs, h, hok => by
    simp only [AVal.ren, Option.some.injEq] at h
    subst h
    exact ⟨hok, rfl, rfl, by simp [AVal.ids], by simp, by simp, by simp⟩
  | .ref i p ep, a', cs, h, hok => by
    simp only [AVal.ren] at h
    split at h
    · rename_i t l e hobj
      cases hb : Nat.beq e ep with
      | false => rw [hb] at h; simp at h
      | true =>
        rw [hb] at h
        have he := Nat.eq_of_beq_eq_true hb
        subst he
        simp only [cond_true, Option.map_eq_some_iff] at h
        obtain ⟨j, hj, rfl⟩ := h
        have hjn := indexN_zero hj
        obtain ⟨v, hv, hone, hx⟩ := hok
        refine ⟨⟨v, hv, hone, fun t' l' e' he' => ?_⟩, rfl, rfl, by simpa [AVal.ids] using nthL_lt hjn, by simp, by simp, by simp⟩
        obtain ⟨o, o', h1, h2, h3⟩ := ho.get j i hjn
        rw [hobj] at h1
        simp only [Option.some.injEq] at h1
        subst h1
        simp only [Obj.ren, Option.some.injEq] at h2
        subst h2
        rw [h3] at he'
        simp only [Option.some.injEq, Obj.row.injEq] at he'
        obtain ⟨_, _, rfl⟩ := he'
        exact ⟨Nat.le_refl _, fun _ => by rw [renG_sv hjn]; exact (hx _ _ _ hobj).2 rfl⟩
    · simp at h
  | .view i p ep x y, a', cs, h, hok => by
    simp only [AVal.ren] at h
    split at h
    · rename_i t l e hobj
      cases hb : Nat.beq e ep with
      | false => rw [hb] at h; simp at h
      | true =>
        rw [hb] at h
        have he := Nat.eq_of_beq_eq_true hb
        subst he
        simp only [cond_true, Option.map_eq_some_iff] at h
        obtain ⟨j, hj, rfl⟩ := h
        have hjn := indexN_zero hj
        obtain ⟨v, hv, hone, hx⟩ := hok
        refine ⟨⟨v, hv, hone, fun t' l' e' he' => ?_⟩, rfl, rfl, by simpa [AVal.ids] using nthL_lt hjn, by simp, by simp, by simp⟩
        obtain ⟨o, o', h1, h2, h3⟩ := ho.get j i hjn
        rw [hobj] at h1
        simp only [Option.some.injEq] at h1
        subst h1
        simp only [Obj.ren, Option.some.injEq] at h2
        subst h2
        rw [h3] at he'
        simp only [Option.some.injEq, Obj.row.injEq] at he'
        obtain ⟨rfl, hl, rfl⟩ := he'
        have hl := eq_of_heq hl
        subst hl
        exact ⟨Nat.le_refl _, fun _ => by rw [renG_sv hjn]; exact (hx _ _ _ hobj).2 rfl⟩
    · simp at h
  | .bptr i p, a', cs, h, hok => by
    simp only [AVal.ren, Option.map_eq_some_iff] at h
    obtain ⟨j, hj, rfl⟩ := h
    have hjn := indexN_zero hj
    obtain ⟨v, hv, hone, hx⟩ := hok
    refine ⟨⟨v, hv, hone, fun y hy => ?_⟩, rfl, rfl, by simpa [AVal.ids] using nthL_lt hjn, by simp, by simp, by simp⟩
    obtain ⟨o, o', h1, h2, h3⟩ := ho.get j i hjn
    rw [h3] at hy
    simp only [Option.some.injEq] at hy
    subst hy
    cases o with
    | row t l e => simp [Obj.ren] at h2
    | map k v m => simp [Obj.ren] at h2
    | nest t l e i h => cases h <;> simp [Obj.ren] at h2
    | cell z =>
      simp only [Obj.ren, Option.map_eq_some_iff, Obj.cell.injEq] at h2
      obtain ⟨z', hz, rfl⟩ := h2
      obtain ⟨off, s, hoff, hvv⟩ := hx _ h1
      exact ⟨off, s, by rw [ren_sk hz]; exact hoff, by rw [renG_blk hjn]; exact hvv⟩
  | .mref i, a', cs, h, hok => by
    simp only [AVal.ren, Option.map_eq_some_iff] at h
    obtain ⟨j, hj, rfl⟩ := h
    have hjn := indexN_zero hj
    obtain ⟨v, hv, hone, hx⟩ := hok
    refine ⟨⟨v, hv, hone, fun kt vt m hm => ?_⟩, rfl, rfl, by simpa [AVal.ids] using nthL_lt hjn, by simp, by simp, by simp⟩
    obtain ⟨o, o', h1, h2, h3⟩ := ho.get j i hjn
    rw [h3] at hm
    simp only [Option.some.injEq] at hm
    subst hm
    cases o with
    | row t l e => simp [Obj.ren] at h2
    | cell z => simp [Obj.ren] at h2
    | nest t l e i h => cases h <;> simp [Obj.ren] at h2
    | map k' v' m' =>
      rw [renG_blk hjn]; exact hx _ _ _ h1
  | .nv pt i p ep, a', cs, h, hok => by
    simp only [AVal.ren] at h
    split at h
    · rename_i t l e i' hobj
      cases hb : Nat.beq (nep false p e i') ep with
      | false => rw [hb] at h; simp at h
      | true =>
        rw [hb] at h
        have he := Nat.eq_of_beq_eq_true hb
        simp only [cond_true, Option.map_eq_some_iff] at h
        obtain ⟨j, hj, rfl⟩ := h
        have hjn := indexN_zero hj
        obtain ⟨v, hv, hone, hx⟩ := hok
        refine ⟨⟨v, hv, hone, fun t' l' e' i'' h'' he' => ?_⟩, rfl, rfl, by simpa [AVal.ids] using nthL_lt hjn, by simp, by simp, by simp⟩
        obtain ⟨o, o', h1, h2, h3⟩ := ho.get j i hjn
        rw [hobj] at h1
        simp only [Option.some.injEq] at h1
        subst h1
        simp only [Obj.ren, Option.some.injEq] at h2
        subst h2
        rw [h3] at he'
        simp only [Option.some.injEq, Obj.nest.injEq] at he'
        obtain ⟨_, _, rfl, rfl, _⟩ := he'
        refine ⟨Nat.zero_le _, fun _ => ⟨fun _ => by rw [renG_sv hjn]; exact ((hx _ _ _ _ _ hobj).2 he).1 rfl, fun h => (by simp at h)⟩⟩
    · simp at h
  | .clos f c, a', cs, h, hok => by
    simp only [AVal.ren, Option.map_eq_some_iff] at h
    obtain ⟨c', hc, rfl⟩ := h
    obtain ⟨vs, hv, hx⟩ := hok
    obtain ⟨h1, h2, _, h3, _⟩ := ren_ok hn ho hc hx
    exact ⟨⟨vs, hv, h1⟩, rfl, rfl, h3, by simp, by simp, by simp⟩
  | .ifc t c, a', cs, h, hok => by
    simp only [AVal.ren, Option.map_eq_some_iff] at h
    obtain ⟨c', hc, rfl⟩ := h
    obtain ⟨x, cs', hv, hx, hxv⟩ := hok
    obtain ⟨h1, h2, hag, h3, _⟩ := ren_ok hn ho hc hx
    exact ⟨⟨x, cs', hv, h1, by rw [hag]; exact hxv⟩, rfl, rfl, h3, by simp, by simp, by simp⟩
  | .agg c, a', cs, h, hok => by
    simp only [AVal.ren, Option.map_eq_some_iff] at h
    obtain ⟨c', hc, rfl⟩ := h
    obtain ⟨h1, h2, _, h3, _⟩ := ren_ok hn ho hc (show AOK w g objs c cs from hok)
    exact ⟨h1, h2, rfl, h3, by simp, by simp, by simp⟩
  | .pr a b, a', cs, h, hok => by
    simp only [AVal.ren] at h
    split at h
    · rename_i x y hx hy
      simp only [Option.some.injEq] at h
      subst h
      obtain ⟨c1, c2, hcs, ok1, ok2⟩ := hok
      obtain ⟨h1, h2, _, h3, _⟩ := ren_ok hn ho hx ok1
      obtain ⟨k1, k2, _, k3, _⟩ := ren_ok hn ho hy ok2
      refine ⟨⟨c1, c2, hcs, h1, k1⟩, by simp [AVal.sk, h2, k2], rfl, fun m hm => ?_, by simp, fun _ _ _ => ⟨a, b, rfl⟩, by simp⟩
      simp only [AVal.ids, List.mem_append] at hm
      rcases hm with hm | hm
      · exact h3 m hm
      · exact k3 m hm
    · simp at h
  | .un, a', cs, h, hok => by
    simp only [AVal.ren, Option.some.injEq] at h
    subst h
    exact ⟨hok, rfl, rfl, by simp [AVal.ids], by simp, by simp, by simp⟩
  | .eptr _ _ _, a', cs, h, _ => by simp [AVal.ren] at h
  | .tup _, a', cs, h, _ => by simp [AVal.ren] at h
where ren_sk {objs : Objs} {ρ : Nat → Option Nat} : {a a' : AVal} → a.ren objs ρ = some a' → a'.sk = a.sk
  | .data t d, a', h => by simp only [AVal.ren, Option.some.injEq] at h; subst h; rfl
  | .nilS, a', h => by simp only [AVal.ren, Option.some.injEq] at h; subst h; rfl
  | .ref i p ep, a', h => by
    simp only [AVal.ren] at h
    split at h
    · rename_i t l e hobj
      cases hb : Nat.beq e ep with
      | false => rw [hb] at h; simp at h
      | true => rw [hb] at h; simp only [cond_true, Option.map_eq_some_iff] at h; obtain ⟨j, hj, rfl⟩ := h; rfl
    · simp at h
  | .view i p ep x y, a', h => by
    simp only [AVal.ren] at h
    split at h
    · rename_i t l e hobj
      cases hb : Nat.beq e ep with
      | false => rw [hb] at h; simp at h
      | true => rw [hb] at h; simp only [cond_true, Option.map_eq_some_iff] at h; obtain ⟨j, hj, rfl⟩ := h; rfl
    · simp at h
  | .bptr i p, a', h => by simp only [AVal.ren, Option.map_eq_some_iff] at h; obtain ⟨j, hj, rfl⟩ := h; rfl
  | .mref i, a', h => by simp only [AVal.ren, Option.map_eq_some_iff] at h; obtain ⟨j, hj, rfl⟩ := h; rfl
  | .nv pt i p ep, a', h => by
    simp only [AVal.ren] at h
    split at h
    · rename_i t l e i' hobj
      cases hb : Nat.beq (nep false p e i') ep with
      | false => rw [hb] at h; simp at h
      | true => rw [hb] at h; simp only [cond_true, Option.map_eq_some_iff] at h; obtain ⟨j, hj, rfl⟩ := h; rfl
    · simp at h
  | .clos f c, a', h => by simp only [AVal.ren, Option.map_eq_some_iff] at h; obtain ⟨j, hj, rfl⟩ := h; rfl
  | .ifc f c, a', h => by simp only [AVal.ren, Option.map_eq_some_iff] at h; obtain ⟨j, hj, rfl⟩ := h; rfl
  | .agg c, a', h => by
    simp only [AVal.ren, Option.map_eq_some_iff] at h
    obtain ⟨c', hc, rfl⟩ := h
    simp only [AVal.sk, ren_sk hc]
  | .pr a b, a', h => by
    simp only [AVal.ren] at h
    split at h
    · rename_i x y hx hy
      simp only [Option.some.injEq] at h
      subst h
      simp only [AVal.sk, ren_sk hx, ren_sk hy]
    · simp at h
  | .un, a', h => by simp only [AVal.ren, Option.some.injEq] at h; subst h; rfl
  | .eptr _ _ _, a', h => by simp [AVal.ren] at h
  | .tup _, a', h => by simp [AVal.ren] at h

theorem ren_vok {objs : Objs} {os : List Obj} (hn : ids.Nodup) (ho : RenObjs objs ids os) {a a' : AVal} {v : Value} (h : a.ren objs (fun i => indexN i ids 0) = some a') (hv : VOK w g objs a v) :
    VOK w (renG g ids) (nthL os) a' v ∧ ∀ m ∈ a'.ids, m < ids.length := by
  have ht : ∀ c, a ≠ .tup c := by intro c hc; subst hc; simp [AVal.ren] at h
  obtain ⟨cs, hok, hmk⟩ := VOK_cells hv ht
  obtain ⟨h1, h2, h3, h4, h5, h6, h7⟩ := ren_ok hn ho h hok
  refine ⟨VOK_of_cells h1 (by rw [h3]; exact hmk) (fun x y he => ?_) (fun he => ?_), h4⟩
  · obtain ⟨x', y', rfl⟩ := h6 x y he
    simp only [VOK] at hv
  · have := h7 he
    subst this
    simp only [VOK] at hv

theorem ren_obj {objs : Objs} {os : List Obj} (hn : ids.Nodup) (ho : RenObjs objs ids os) {i j : Nat} (hj : nthL ids j = some i) {o o' : Obj} (h : o.ren objs (fun i => indexN i ids 0) = some o') (hok : ObjOK w g objs i o) :
    ObjOK w (renG g ids) (nthL os) j o' ∧ ∀ y, o' = .cell y → ∀ m ∈ y.ids, m < ids.length := by
  cases o with
  | row t l e =>
    simp only [Obj.ren, Option.some.injEq] at h
    subst h
    refine ⟨⟨hok.1, ?_⟩, by simp⟩
    rw [renG_sv hj]
    exact Rep.move renG_ro (o := some (i, [])) (o' := some (j, [])) (renG_moved hn hj) hok.2
  | cell y =>
    simp only [Obj.ren, Option.map_eq_some_iff] at h
    obtain ⟨y', hy, rfl⟩ := h
    obtain ⟨c, e, h1, h2, h3⟩ := hok
    obtain ⟨k1, _, _, k2, _⟩ := ren_ok hn ho hy h3
    refine ⟨⟨c, e, by rw [renG_blk hj]; exact h1, by rw [renG_blk hj]; exact renG_box hn hj h2, k1⟩, fun z hz => ?_⟩
    simp only [Obj.cell.injEq] at hz
    subst hz; exact k2
  | map kt vt m =>
    simp only [Obj.ren, Option.some.injEq] at h
    subst h
    obtain ⟨es, ck, h1, h2, h3, h4, h5⟩ := hok
    exact ⟨⟨es, ck, by rw [renG_blk hj]; exact h1, by rw [renG_blk hj]; exact renG_box hn hj h2, h3, h4, h5.kept renG_ro⟩, by simp⟩
  | nest t l e i' hole =>
    cases hole with
    | some p => simp [Obj.ren] at h
    | none =>
      simp only [Obj.ren, Option.some.injEq] at h
      subst h
      refine ⟨?_, by simp⟩
      show Rep w (renG g ids) (some (j, [])) (.sl true t) l [(renG g ids).sv j []]
      rw [renG_sv hj]
      exact Rep.move renG_ro (o := some (i, [])) (o' := some (j, [])) (renG_moved hn hj) (show Rep w g (some (i, [])) (.sl true t) l [g.sv i []] from hok)
end

theorem renSlots_some {objs : Objs} {ρ : Nat → Option Nat} : {l l' : List (Nat × AVal)} → renSlots objs ρ l = some l' → ∀ i a', getL l' i = some a' → ∃ a, getL l i = some a ∧ a.ren objs ρ = some a'
  | [], l', h, i, a', hi => by
    simp only [renSlots, Option.some.injEq] at h
    subst h
    simp [getL] at hi
  | (j, a) :: l, l', h, i, a', hi => by
    simp only [renSlots] at h
    split at h
    · rename_i a1 l1 h1 h2
      simp only [Option.some.injEq] at h
      subst h
      simp only [getL] at hi ⊢
      cases hb : Nat.beq j i with
      | true =>
        rw [hb] at hi
        simp only [cond_true, Option.some.injEq] at hi
        subst hi
        exact ⟨a, by simp, h1⟩
      | false =>
        rw [hb] at hi
        simp only [cond_false] at hi ⊢
        exact renSlots_some h2 i a' hi
    · simp at h
theorem liveSlots_some {σ : St} : {live : List Nat} → {l : List (Nat × AVal)} → liveSlots σ live = some l → ∀ i a, getL l i = some a → σ.slots i = some a
  | [], l, h, i, a, hi => by
    simp only [liveSlots, Option.some.injEq] at h
    subst h
    simp [getL] at hi
  | j :: live, l, h, i, a, hi => by
    simp only [liveSlots] at h
    split at h
    · rename_i a1 l1 h1 h2
      simp only [Option.some.injEq] at h
      subst h
      simp only [getL] at hi
      cases hb : Nat.beq j i with
      | true =>
        rw [hb] at hi
        simp only [cond_true, Option.some.injEq] at hi
        subst hi
        rw [← Nat.eq_of_beq_eq_true hb]; exact h1
      | false =>
        rw [hb] at hi
        exact liveSlots_some h2 i a hi
    · simp at h

section
variable {n : Nat} {w : World} {a : Act} {g : Ghost} {σ : St} {r : R}

theorem renum_ok {k : List (Nat × AVal) → List Obj → Option R} {l : List (Nat × AVal)} (hl : ∀ i a, getL l i = some a → σ.slots i = some a) (hst : StOK n g w a σ) (h : renumL l σ k = some r) :
    ∃ sl os g', k sl os = some r ∧ StOK n g' w a (St.of sl os) ∧ Ext w g w g' ∧ FreshUp g' (St.of sl os) := by
  unfold renumL at h
  simp only at h
  split at h
  · rename_i l' os hs hos
    have hnd : (reachN σ.objs 100 (l.flatMap fun x => x.2.ids) []).Nodup := reachN_nodup _ _ _ (by simp)
    generalize hids : reachN σ.objs 100 (l.flatMap fun x => x.2.ids) [] = ids at *
    obtain ⟨hlen, hget⟩ := renObjs_some hos
    have hro : RenObjs σ.objs ids os := ⟨hlen, hget⟩
    have hslot : ∀ i av, getL l' i = some av → ∃ v, a.tmps[i]? = some v ∧ VOK w (renG g ids) (nthL os) av v ∧ ∀ m ∈ av.ids, m < ids.length := by
      intro i av hi
      obtain ⟨a0, h1, h2⟩ := renSlots_some hs i av hi
      obtain ⟨v, hv, hok⟩ := hst.slots i a0 (hl i a0 h1)
      obtain ⟨k1, k2⟩ := ren_vok hnd hro h2 hok
      exact ⟨v, hv, k1, k2⟩
    have hobj : ∀ j o', nthL os j = some o' → ObjOK w (renG g ids) (nthL os) j o' ∧ ∀ y, o' = .cell y → ∀ m ∈ y.ids, m < ids.length := by
      intro j o' hj
      obtain ⟨i, hi⟩ := nthL_some (l := ids) (i := j) (by rw [← hlen]; exact nthL_lt hj)
      obtain ⟨o, o2, h1, h2, h3⟩ := hget j i hi
      rw [hj] at h3
      simp only [Option.some.injEq] at h3
      subst h3
      exact ren_obj hnd hro hi h2 (hst.heap.objs i o h1)
    refine ⟨l', os, renG g ids, h, ⟨fun i av hi => ?_, ⟨fun j o' hj => (hobj j o' hj).1, fun b hb => hst.heap.tags b (renG_alien hb)⟩, hst.size, hst.defers⟩, renG_ext, fun m hm => ?_⟩
    · obtain ⟨v, h1, h2, _⟩ := hslot i av hi
      exact ⟨v, h1, h2⟩
    · have hm' : ids.length ≤ m := by rw [← hlen]; exact hm
      refine ⟨?_, fun b p hb => ?_, fun b hb => ?_, fun i av hi hmem => ?_, fun j y hj hmem => ?_⟩
      · cases hc : nthL os m with
        | none => exact hc
        | some o => have := nthL_lt hc; omega
      · have := renG_lt (.inl ⟨p, hb⟩); omega
      · have := renG_lt (.inr hb); omega
      · obtain ⟨v, _, _, h3⟩ := hslot i av hi
        have := h3 m hmem; omega
      · have := (hobj j _ hj).2 y rfl m hmem; omega
  · simp at h
end

theorem stepB_eq {a b : Step} (h : stepB a b = true) : a = b := by
  cases a <;> cases b <;> simp [stepB] at h <;> rfl
theorem pathB_eq : {p q : Path} → pathB p q = true → p = q
  | [], [], _ => rfl
  | a :: p, b :: q, h => by
    simp only [pathB, Bool.and_eq_true] at h
    rw [stepB_eq h.1, pathB_eq h.2]
  | [], _ :: _, h => by simp [pathB] at h
  | _ :: _, [], h => by simp [pathB] at h
theorem cond_some {b : Bool} {x : Option R} {r : R} (h : cond b x none = some r) : b = true ∧ x = some r := by
  cases b <;> simp_all

theorem SPat.take_some : (p : SPat) → {a : AVal} → {k : p.den → Option R} → {r : R} → p.take a k = some r → ∃ d, a = p.mk d ∧ k d = some r
  | .val t, a, k, r, h => by
    cases a with
    | data u d =>
      simp only [SPat.take] at h
      replace h := castK_some h
      obtain ⟨rfl, h⟩ := h
      exact ⟨d, rfl, h⟩
    | _ => simp [SPat.take] at h
  | .nilS, a, k, r, h => by
    cases a with
    | nilS => exact ⟨(), rfl, h⟩
    | _ => simp [SPat.take] at h
  | .ref id, a, k, r, h => by
    cases a with
    | ref id' p ep =>
      cases p with
      | nil =>
        simp only [SPat.take] at h
        replace h := cond_some h
        obtain ⟨hb, h⟩ := h
        simp only [Bool.and_eq_true, nbeq] at hb
        obtain ⟨rfl, rfl⟩ := hb
        exact ⟨(), rfl, h⟩
      | cons s q => simp [SPat.take] at h
    | _ => simp [SPat.take] at h
  | .view id, a, k, r, h => by
    cases a with
    | view id' p ep x y =>
      cases p with
      | nil =>
        simp only [SPat.take] at h
        replace h := cond_some h
        obtain ⟨hb, h⟩ := h
        simp only [Bool.and_eq_true, nbeq] at hb
        obtain ⟨rfl, rfl⟩ := hb
        exact ⟨(x, y), rfl, h⟩
      | cons s q => simp [SPat.take] at h
    | _ => simp [SPat.take] at h
  | .bptr id p, a, k, r, h => by
    cases a with
    | bptr id' p' =>
      simp only [SPat.take] at h
      replace h := cond_some h
      obtain ⟨hb, h⟩ := h
      simp only [Bool.and_eq_true, nbeq] at hb
      obtain ⟨rfl, hb⟩ := hb
      obtain rfl := pathB_eq hb
      exact ⟨(), rfl, h⟩
    | _ => simp [SPat.take] at h
  | .mref id, a, k, r, h => by
    cases a with
    | mref id' =>
      simp only [SPat.take] at h
      replace h := cond_some h
      obtain ⟨hb, h⟩ := h
      simp only [nbeq] at hb
      subst hb
      exact ⟨(), rfl, h⟩
    | _ => simp [SPat.take] at h
  | .nv id, a, k, r, h => by
    cases a with
    | nv pt id' p ep =>
      cases pt with
      | true => simp [SPat.take] at h
      | false =>
        cases p with
        | nil =>
          simp only [SPat.take] at h
          replace h := cond_some h
          obtain ⟨hb, h⟩ := h
          simp only [Bool.and_eq_true, nbeq] at hb
          obtain ⟨rfl, rfl⟩ := hb
          exact ⟨(), rfl, h⟩
        | cons s q => simp [SPat.take] at h
    | _ => simp [SPat.take] at h
  | .nvi id, a, k, r, h => by
    cases a with
    | nv pt id' p ep =>
      cases pt with
      | true => simp [SPat.take] at h
      | false =>
        cases p with
        | nil => simp [SPat.take] at h
        | cons s q =>
          cases q with
          | cons s' q' => cases s <;> simp [SPat.take] at h
          | nil =>
            cases s with
            | fst => simp [SPat.take] at h
            | snd => simp [SPat.take] at h
            | idx i =>
              simp only [SPat.take] at h
              replace h := cond_some h
              obtain ⟨hb, h⟩ := h
              simp only [Bool.and_eq_true, nbeq] at hb
              obtain ⟨rfl, rfl⟩ := hb
              exact ⟨i, rfl, h⟩
    | _ => simp [SPat.take] at h
  | .clos f c, a, k, r, h => by
    cases a with
    | clos g d =>
      simp only [SPat.take] at h
      replace h := cond_some h
      obtain ⟨hb, h⟩ := h
      simp only [nbeq] at hb
      subst hb
      replace h := SPat.take_some c h
      obtain ⟨d', rfl, h⟩ := h
      exact ⟨d', rfl, h⟩
    | _ => simp [SPat.take] at h
  | .ifc f c, a, k, r, h => by
    cases a with
    | ifc g d =>
      simp only [SPat.take] at h
      replace h := cond_some h
      obtain ⟨hb, h⟩ := h
      simp only [nbeq] at hb
      subst hb
      replace h := SPat.take_some c h
      obtain ⟨d', rfl, h⟩ := h
      exact ⟨d', rfl, h⟩
    | _ => simp [SPat.take] at h
  | .agg c, a, k, r, h => by
    cases a with
    | agg d =>
      simp only [SPat.take] at h
      replace h := SPat.take_some c h
      obtain ⟨d', rfl, h⟩ := h
      exact ⟨d', rfl, h⟩
    | _ => simp [SPat.take] at h
  | .pr p q, a, k, r, h => by
    cases a with
    | pr x y =>
      simp only [SPat.take] at h
      replace h := SPat.take_some p h
      obtain ⟨d, rfl, h⟩ := h
      replace h := SPat.take_some q h
      obtain ⟨e, rfl, h⟩ := h
      exact ⟨(d, e), rfl, h⟩
    | _ => simp [SPat.take] at h
  | .un, a, k, r, h => by
    cases a with
    | un => exact ⟨(), rfl, h⟩
    | _ => simp [SPat.take] at h

theorem SObj.take_some (o : SObj) {x : Obj} {k : o.den → Option R} {r : R} (h : o.take x k = some r) : ∃ d, x = o.mk d ∧ k d = some r := by
  cases o with
  | row t =>
    cases x with
    | row u l ep =>
      simp only [SObj.take] at h
      replace h := cond_some h
      obtain ⟨hb, h⟩ := h
      simp only [nbeq] at hb
      subst hb
      replace h := castK_some h
      obtain ⟨he, h⟩ := h
      simp only [Ty.sl.injEq, true_and] at he
      subst he
      exact ⟨l, rfl, h⟩
    | _ => simp [SObj.take] at h
  | cell p =>
    cases x with
    | cell a =>
      simp only [SObj.take] at h
      replace h := SPat.take_some p h
      obtain ⟨d, rfl, h⟩ := h
      exact ⟨d, rfl, h⟩
    | _ => simp [SObj.take] at h
  | map kt vt =>
    cases x with
    | map kt' vt' m =>
      simp only [SObj.take, castM] at h
      split at h
      · rename_i h1 h2 _ _
        obtain rfl := h1.down
        obtain rfl := h2.down
        exact ⟨m, rfl, h⟩
      · simp at h
    | _ => simp [SObj.take] at h
  | nest t =>
    cases x with
    | nest u l e i hole =>
      cases hole with
      | some p => simp [SObj.take] at h
      | none =>
        simp only [SObj.take] at h
        replace h := cond_some h
        obtain ⟨hb, h⟩ := h
        simp only [Bool.and_eq_true, nbeq] at hb
        obtain ⟨rfl, rfl⟩ := hb
        replace h := castK_some h
        obtain ⟨he, h⟩ := h
        simp only [Ty.sl.injEq, true_and] at he
        subst he
        exact ⟨l, rfl, h⟩
    | _ => simp [SObj.take] at h

theorem slTake_some : (l : List (Nat × SPat)) → {m : List (Nat × AVal)} → {k : slDen l → Option R} → {r : R} → slTake l m k = some r → ∃ d, m = slMk l d ∧ k d = some r
  | [], [], k, r, h => ⟨(), rfl, h⟩
  | [], _ :: _, k, r, h => by simp [slTake] at h
  | _ :: _, [], k, r, h => by simp [slTake] at h
  | (i, p) :: l, (j, a) :: m, k, r, h => by
    simp only [slTake] at h
    replace h := cond_some h
    obtain ⟨hb, h⟩ := h
    simp only [nbeq] at hb
    subst hb
    replace h := SPat.take_some p h
    obtain ⟨d, rfl, h⟩ := h
    replace h := slTake_some l h
    obtain ⟨e, rfl, h⟩ := h
    exact ⟨(d, e), rfl, h⟩
theorem osTake_some : (l : List SObj) → {m : List Obj} → {k : osDen l → Option R} → {r : R} → osTake l m k = some r → ∃ d, m = osMk l d ∧ k d = some r
  | [], [], k, r, h => ⟨(), rfl, h⟩
  | [], _ :: _, k, r, h => by simp [osTake] at h
  | _ :: _, [], k, r, h => by simp [osTake] at h
  | o :: l, x :: m, k, r, h => by
    simp only [osTake] at h
    replace h := SObj.take_some o h
    obtain ⟨d, rfl, h⟩ := h
    replace h := osTake_some l h
    obtain ⟨e, rfl, h⟩ := h
    exact ⟨(d, e), rfl, h⟩


end Go.Kz

/-
  Calls of functions that turn what they are given: arguments, what is left behind.
-/
namespace Go.Kz
variable {R : Type}

/-- The objects handed over, numbered anew; all others are another's, or (x) lent. -/
def lendG (x : Bool) (g : Ghost) (ids : List Nat) : Ghost := { renG g ids with
  tag := fun b => match g.tag b with
    | .row i p => (match indexN i ids 0 with
      | some j => .row j p
      | none => if x then .ro else .alien)
    | .box i => (match indexN i ids 0 with
      | some j => .box j
      | none => if x then .ro else .alien)
    | t => t }

section
variable {w : World} {g : Ghost} {ids : List Nat} {x : Bool}

theorem lendG_of {b : Nat} (h : (renG g ids).tag b ≠ .alien) : (lendG x g ids).tag b = (renG g ids).tag b := by
  simp only [renG, lendG] at h ⊢
  cases ht : g.tag b with
  | alien => rfl
  | ro => rfl
  | row i p =>
    rw [ht] at h
    cases hx : indexN i ids 0 with
    | none => simp [hx] at h
    | some j => simp [hx]
  | box i =>
    rw [ht] at h
    cases hx : indexN i ids 0 with
    | none => simp [hx] at h
    | some j => simp [hx]
theorem lendG_ro : RoKept w (renG g ids) w (lendG x g ids) := ⟨fun b hb => ⟨by rw [lendG_of (by rw [hb]; simp)]; exact hb, rfl⟩⟩
theorem lendG_same (id : Nat) : Same w (renG g ids) w (lendG x g ids) id := by
  refine ⟨⟨fun _ => rfl, fun q b hb => ⟨by rw [lendG_of (by rw [hb]; simp)]; exact hb, rfl⟩⟩, rfl, fun hb => ⟨by rw [lendG_of (by rw [hb]; simp)]; exact hb, rfl⟩⟩
theorem lendG_kept (id : Nat) (o : Option Obj) : IdKept (renG g ids) (lendG x g ids) id o o := IdKept.same (w := default) (w' := default) (lendG_same id)
theorem lendG_old {b : Nat} (h : g.tag b = .alien ∨ g.tag b = .ro) : (lendG x g ids).tag b = g.tag b := by
  rcases h with h | h <;> simp [lendG, h]
theorem lendG_alien {b : Nat} (h : (lendG x g ids).tag b ≠ .alien) : g.tag b ≠ .alien := by
  intro h'; simp [lendG, h'] at h
theorem lendG_lt {b m : Nat} (h : (∃ p, (lendG x g ids).tag b = .row m p) ∨ (lendG x g ids).tag b = .box m) : m < ids.length := by
  refine renG_lt (g := g) (b := b) ?_
  by_cases hr : (renG g ids).tag b = .alien
  · exfalso
    simp only [renG, lendG] at h hr
    cases ht : g.tag b with
    | alien => rw [ht] at h; simp at h
    | ro => rw [ht] at hr; simp at hr
    | row i p =>
      rw [ht] at h hr
      cases hx : indexN i ids 0 with
      | none => cases x <;> simp [hx] at h
      | some j => simp [hx] at hr
    | box i =>
      rw [ht] at h hr
      cases hx : indexN i ids 0 with
      | none => cases x <;> simp [hx] at h
      | some j => simp [hx] at hr
  · rw [lendG_of hr] at h; exact h
/-- Whose object is not handed over. -/
theorem lendG_out {b i : Nat} (h : (∃ p, g.tag b = .row i p) ∨ g.tag b = .box i) (hi : i ∉ ids) : (lendG x g ids).tag b = if x then .ro else .alien := by
  have hx : indexN i ids 0 = none := by
    cases h' : indexN i ids 0 with
    | none => rfl
    | some j => exact absurd (nthL_mem (indexN_zero h')) hi
  rcases h with ⟨p, h⟩ | h <;> simp [lendG, h, hx]

/-- What is lent, as the callee sees it. -/
theorem only_rep {t : Ty} {d : t.den} {cs : List Value} (h : Rep w (roG { g with tag := fun b => match g.tag b with
    | .row i p => if i ∈ ids then .alien else .row i p
    | .box i => if i ∈ ids then .alien else .box i
    | t => t }) none t d cs) : Rep w (lendG true g ids) none t d cs := by
  refine h.kept ⟨fun b hb => ⟨?_, rfl⟩⟩
  simp only [roG] at hb
  cases ht : g.tag b with
  | alien => simp [ht] at hb
  | ro => simp [lendG, ht]
  | row i p =>
    by_cases hi : i ∈ ids
    · simp [ht, hi] at hb
    · rw [lendG_out (.inl ⟨p, ht⟩) hi]; rfl
  | box i =>
    by_cases hi : i ∈ ids
    · simp [ht, hi] at hb
    · rw [lendG_out (.inr ht) hi]; rfl
end

section
variable {w : World} {g : Ghost} {σ : St}

/-- What remains when some objects are gone. -/
def goneG (g : Ghost) (ids : List Nat) : Ghost := { g with tag := fun b => match g.tag b with
  | .row i p => if i ∈ ids then .alien else .row i p
  | .box i => if i ∈ ids then .alien else .box i
  | t => t }
theorem goneG_ro {ids : List Nat} : RoKept w g w (goneG g ids) := ⟨fun b hb => ⟨by simp [goneG, hb], rfl⟩⟩
theorem goneG_same {ids : List Nat} {id : Nat} (hi : id ∉ ids) : Same w g w (goneG g ids) id :=
  ⟨⟨fun _ => rfl, fun q b hb => ⟨by simp at hb; simp [goneG, hb, hi], rfl⟩⟩, rfl, fun hb => ⟨by simp [goneG, hb, hi], rfl⟩⟩
theorem only_objs {ids : List Nat} (id : Nat) : (σ.only fun i => !memN i ids).objs id = if id ∈ ids then none else σ.objs id := by
  simp only [St.only]
  cases h : memN id ids with
  | true => rw [if_pos (memN_iff.1 h)]; rfl
  | false => rw [if_neg (memN_false.1 h)]; rfl
theorem only_kept {ids : List Nat} (id : Nat) : IdKept g (goneG g ids) id (σ.objs id) ((σ.only fun i => !memN i ids).objs id) := by
  rw [only_objs]
  by_cases h : id ∈ ids
  · rw [if_pos h]; exact .inl rfl
  · rw [if_neg h]; exact IdKept.same (w := default) (w' := default) (goneG_same h)
theorem only_heap {ids : List Nat} (hh : HeapOK w g σ.objs) : HeapOK w (goneG g ids) (σ.only fun i => !memN i ids).objs := by
  refine ⟨fun id o ho => ?_, fun b hb => hh.tags b fun h => hb (by simp [goneG, h])⟩
  rw [only_objs] at ho
  by_cases h : id ∈ ids
  · rw [if_pos h] at ho; simp at ho
  · rw [if_neg h] at ho
    exact ObjOK.frame goneG_ro (goneG_same h) (fun _ _ id' _ => only_kept id') (hh.objs id o ho)

variable {ids : List Nat} {os : List Obj} {x : Bool}

theorem mutArgs_ok (hn : ids.Nodup) (ho : RenObjs σ.objs ids os) (hh : HeapOK w g σ.objs) : (l : List (Nat × SPat)) → {all : AVal} → {vs : List Value} → {i0 : Nat} → {k : slDen l → Option R} → {r : R} →
    keysOK l i0 = true → valsC all = true → (x = true ∨ lentNo l all = true) → VsOK w g σ.objs all vs →
    mutArgs (σ.only fun i => !memN i ids) σ.objs (fun i => indexN i ids 0) l all k = some r →
    ∃ d, k d = some r ∧ (∀ i av, getL (slMk l d) i = some av → i0 ≤ i ∧ ∃ v, vs[i - i0]? = some v ∧ VOK w (lendG x g ids) (nthL os) av v ∧ ∀ m ∈ av.ids, m < ids.length) ∧
      (∀ n a p, tupleAt all n = some a → nthL l n = some p → p.2.isVal = false → ∃ a', a.ren σ.objs (fun i => indexN i ids 0) = some a') ∧ vs.length = l.length
  | [], all, vs, i0, k, r, _, hv, _, hvs, h => by
    cases all with
    | un =>
      simp only [VsOK] at hvs
      subst hvs
      exact ⟨(), h, fun i av hi => by simp [slMk, getL] at hi, fun n a p hn => by cases n <;> simp [tupleAt] at hn, rfl⟩
    | _ => simp [mutArgs] at h
  | (i1, p) :: l, all, vs, i0, k, r, hk, hv, hx, hvs, h => by
    cases all with
    | pr a c =>
      simp only [keysOK, Bool.and_eq_true, nbeq] at hk
      obtain ⟨rfl, hk⟩ := hk
      simp only [valsC, Bool.and_eq_true] at hv
      simp only [VsOK] at hvs
      obtain ⟨v, rest, rfl, hv1, hv2⟩ := hvs
      -- the rest
      have fin : ∀ (d : p.den), (mutArgs (σ.only fun i => !memN i ids) σ.objs (fun i => indexN i ids 0) l c fun e => k (d, e)) = some r → VOK w (lendG x g ids) (nthL os) (p.mk d) v → (∀ m ∈ (p.mk d).ids, m < ids.length) →
          (p.isVal = false → ∃ a', a.ren σ.objs (fun i => indexN i ids 0) = some a') → (x = true ∨ lentNo l c = true) →
          ∃ d, k d = some r ∧ (∀ i av, getL (slMk ((i1, p) :: l) d) i = some av → i1 ≤ i ∧ ∃ u, (v :: rest)[i - i1]? = some u ∧ VOK w (lendG x g ids) (nthL os) av u ∧ ∀ m ∈ av.ids, m < ids.length) ∧
            (∀ n b q, tupleAt (.pr a c) n = some b → nthL ((i1, p) :: l) n = some q → q.2.isVal = false → ∃ a', b.ren σ.objs (fun i => indexN i ids 0) = some a') ∧ (v :: rest).length = ((i1, p) :: l).length := by
        intro d h hvd hids hren hx
        obtain ⟨e, hke, h1, h2, h3⟩ := mutArgs_ok hn ho hh l hk hv.2 hx hv2 h
        refine ⟨(d, e), hke, fun i av hi => ?_, fun n b q hb hq hq2 => ?_, by simp [h3]⟩
        · simp only [slMk, getL] at hi
          cases hb : Nat.beq i1 i with
          | true =>
            rw [hb] at hi
            simp only [cond_true, Option.some.injEq] at hi
            subst hi
            have := Nat.eq_of_beq_eq_true hb
            subst this
            exact ⟨Nat.le_refl _, v, by simp, hvd, hids⟩
          | false =>
            rw [hb] at hi
            obtain ⟨q1, u, q2, q3, q4⟩ := h1 i av hi
            refine ⟨by omega, u, ?_, q3, q4⟩
            have e : i - i1 = (i - (i1 + 1)) + 1 := by omega
            rw [e]; simpa using q2
        · cases n with
          | zero =>
            simp only [tupleAt, Option.some.injEq] at hb
            simp only [nthL, Option.some.injEq] at hq
            subst hb; subst hq
            exact hren hq2
          | succ n => exact h2 n b q hb hq hq2
      cases p with
      | val t =>
        simp only [mutArgs] at h
        obtain ⟨hag, hn1, hn2, hn3⟩ := val_isAgg hv.1
        obtain ⟨cs, hok, hmk⟩ := VOK_cells hv1 hn3
        have hok' : AOK w (goneG g ids) (σ.only fun i => !memN i ids).objs a cs := AOK.frame goneG_ro (fun id _ => only_kept id) hok
        have hh' := only_heap (ids := ids) hh
        have hd : ∃ d, (mutArgs (σ.only fun i => !memN i ids) σ.objs (fun i => indexN i ids 0) l c fun e => k (d, e)) = some r ∧ t.isRo = true ∧ Rep w (lendG x g ids) none t d cs := by
          rcases hx with rfl | hx
          · obtain ⟨d, h1, h2, h3⟩ := asData_ok hh' 20 hok' h
            exact ⟨d, h1, h2, only_rep h3⟩
          · simp only [lentNo, Bool.and_eq_true, SPat.isVal, Bool.not_true, Bool.false_or] at hx
            obtain ⟨d, h1, h2, h3⟩ := asData_no 20 hx.1 hok' h
            refine ⟨d, h1, h2, h3.kept ⟨fun b hb => ⟨?_, rfl⟩⟩⟩
            have : g.tag b = .ro := by
              simp only [goneG] at hb
              cases ht : g.tag b <;> rw [ht] at hb <;> simp at hb <;> first | rfl | (split at hb <;> simp at hb)
            rw [lendG_old (.inr this), this]
        obtain ⟨d, h1, h2, h3⟩ := hd
        refine fin d h1 ?_ (by simp [SPat.mk, AVal.ids]) (by simp [SPat.isVal]) (hx.imp _root_.id fun hx => by simp only [lentNo, Bool.and_eq_true] at hx; exact hx.2)
        simp only [SPat.mk, VOK]
        exact ⟨cs, ⟨h2, h3⟩, by rw [hmk, asData_isAgg hh' hv.1 h]; rfl⟩
      | _ =>
        simp only [mutArgs] at h
        split at h
        · rename_i a' ha'
          obtain ⟨d, he, h⟩ := SPat.take_some _ h
          obtain ⟨h1, h2⟩ := ren_vok hn ho ha' hv1
          refine fin d h ?_ (by rw [← he]; exact h2) (fun _ => ⟨a', ha'⟩) (hx.imp _root_.id fun hx => by simp only [lentNo, Bool.and_eq_true] at hx; exact hx.2)
          rw [← he]
          exact VOK.frame lendG_ro (fun id _ => lendG_kept id _) h1
        · simp at h
    | _ => simp [mutArgs] at h
end

end Go.Kz

/-
  Behind a call of a function that turns what it is given: the objects as the caller sees them.
-/
namespace Go.Kz
variable {R : Type}

def convT (M : List Nat) : Tag → Tag
  | .row j p => (match nthL M j with
    | some id => .row id p
    | none => .alien)
  | .box j => (match nthL M j with
    | some id => .box id
    | none => .alien)
  | t => t
def backG (g gc : Ghost) (ids M : List Nat) (size : Nat) (keep : Nat → Bool) : Ghost where
  tag := fun b => if b < size then (match g.tag b with
      | .row i p => if i ∈ ids then convT M (gc.tag b) else .row i p
      | .box i => if i ∈ ids then convT M (gc.tag b) else .box i
      | t => t) else convT M (gc.tag b)
  sv := fun i p => match indexN i M 0 with
    | some j => if keep i then g.sv i p else gc.sv j p
    | none => g.sv i p
  blk := fun i => match indexN i M 0 with
    | some j => gc.blk j
    | none => g.blk i

section
variable {w w' : World} {g gc : Ghost} {ids M : List Nat} {x : Bool} {keep : Nat → Bool}

theorem back_tag (hext : Ext w (lendG x g ids) w' gc) (b : Nat) :
    (b < w.heap.size ∧ (backG g gc ids M w.heap.size keep).tag b = g.tag b ∧ gc.tag b = (lendG x g ids).tag b ∧ w'.heap[b]? = w.heap[b]? ∧ ((lendG x g ids).tag b = .alien ∨ (lendG x g ids).tag b = .ro) ∧
      ∀ i ∈ ids, (∀ p, g.tag b ≠ .row i p) ∧ g.tag b ≠ .box i) ∨
    ((backG g gc ids M w.heap.size keep).tag b = convT M (gc.tag b) ∧ (b < w.heap.size → ∃ i ∈ ids, (∃ p, g.tag b = .row i p) ∨ g.tag b = .box i)) := by
  by_cases hlt : b < w.heap.size
  · have key : ∀ t, g.tag b = t → ((lendG x g ids).tag b = .alien ∨ (lendG x g ids).tag b = .ro) → (backG g gc ids M w.heap.size keep).tag b = t → (∀ i ∈ ids, (∀ p, g.tag b ≠ .row i p) ∧ g.tag b ≠ .box i) →
        (b < w.heap.size ∧ (backG g gc ids M w.heap.size keep).tag b = g.tag b ∧ gc.tag b = (lendG x g ids).tag b ∧ w'.heap[b]? = w.heap[b]? ∧ ((lendG x g ids).tag b = .alien ∨ (lendG x g ids).tag b = .ro) ∧
      ∀ i ∈ ids, (∀ p, g.tag b ≠ .row i p) ∧ g.tag b ≠ .box i) := by
      intro t ht hl hb hi
      obtain ⟨h1, h2⟩ := hext.keep b hlt hl
      exact ⟨hlt, hb.trans ht.symm, h2, h1, hl, hi⟩
    have hcase : g.tag b = .alien ∨ g.tag b = .ro ∨ (∃ i p, g.tag b = .row i p) ∨ ∃ i, g.tag b = .box i := by cases g.tag b <;> simp
    rcases hcase with ht | ht | ⟨i, p, ht⟩ | ⟨i, ht⟩
    · left; exact key _ ht (by rw [lendG_old (.inl ht), ht]; simp) (by simp [backG, ht, hlt]) (by simp [ht])
    · left; exact key _ ht (by rw [lendG_old (.inr ht), ht]; simp) (by simp [backG, ht, hlt]) (by simp [ht])
    · by_cases hi : i ∈ ids
      · right
        exact ⟨by simp [backG, ht, hlt, hi], fun _ => ⟨i, hi, .inl ⟨p, ht⟩⟩⟩
      · left
        refine key _ ht ?_ (by simp [backG, ht, hlt, hi]) (fun i' hi' => ⟨fun p' he => ?_, by simp [ht]⟩)
        · rw [lendG_out (.inl ⟨p, ht⟩) hi]; cases x <;> simp
        · rw [ht] at he; simp only [Tag.row.injEq] at he; rw [he.1] at hi; exact hi hi'
    · by_cases hi : i ∈ ids
      · right
        exact ⟨by simp [backG, ht, hlt, hi], fun _ => ⟨i, hi, .inr ht⟩⟩
      · left
        refine key _ ht ?_ (by simp [backG, ht, hlt, hi]) (fun i' hi' => ⟨fun p' he => by simp [ht] at he, fun he => ?_⟩)
        · rw [lendG_out (.inr ht) hi]; cases x <;> simp
        · rw [ht] at he; simp only [Tag.box.injEq] at he; rw [he] at hi; exact hi hi'
  · right
    exact ⟨by simp [backG, hlt], fun h => absurd h hlt⟩

theorem back_row (hext : Ext w (lendG x g ids) w' gc) {b j id : Nat} {p : Path} (h : gc.tag b = .row j p) (hm : nthL M j = some id) : (backG g gc ids M w.heap.size keep).tag b = .row id p := by
  rcases back_tag (M := M) (keep := keep) hext b with ⟨_, _, h2, _, h3, _⟩ | ⟨h1, _⟩
  · rw [h] at h2; rw [← h2] at h3; simp at h3
  · rw [h1, h]; simp [convT, hm]
theorem back_box (hext : Ext w (lendG x g ids) w' gc) {b j id : Nat} (h : gc.tag b = .box j) (hm : nthL M j = some id) : (backG g gc ids M w.heap.size keep).tag b = .box id := by
  rcases back_tag (M := M) (keep := keep) hext b with ⟨_, _, h2, _, h3, _⟩ | ⟨h1, _⟩
  · rw [h] at h2; rw [← h2] at h3; simp at h3
  · rw [h1, h]; simp [convT, hm]
theorem back_ext (hext : Ext w (lendG x g ids) w' gc) : Ext w g w' (backG g gc ids M w.heap.size keep) := by
  refine ⟨hext.os, hext.tape, hext.output, hext.drawn, hext.size, fun b hb ht => ?_⟩
  obtain ⟨h1, h2⟩ := hext.keep b hb (by rw [lendG_old ht]; exact ht)
  refine ⟨h1, ?_⟩
  rcases ht with ht | ht <;> simp [backG, hb, ht]
theorem back_ro (hext : Ext w (lendG x g ids) w' gc) (ht : ∀ b, g.tag b ≠ .alien → b < w.heap.size) : RoKept w g w' (backG g gc ids M w.heap.size keep) := (back_ext hext).ro ht
theorem back_carry (hext : Ext w (lendG false g ids) w' gc) : RoKept w' gc w' (backG g gc ids M w.heap.size keep) := by
  refine ⟨fun b hb => ⟨?_, rfl⟩⟩
  rcases back_tag (M := M) (keep := keep) hext b with ⟨_, h1, h2, _, h3, hi⟩ | ⟨h1, _⟩
  · rw [h1]
    rw [hb] at h2
    cases ht : g.tag b with
    | ro => rfl
    | alien => rw [lendG_old (.inl ht), ht] at h2; simp at h2
    | row i p =>
      by_cases hm : i ∈ ids
      · exact absurd ht ((hi i hm).1 p)
      · rw [lendG_out (.inl ⟨p, ht⟩) hm] at h2; simp at h2
    | box i =>
      by_cases hm : i ∈ ids
      · exact absurd ht (hi i hm).2
      · rw [lendG_out (.inr ht) hm] at h2; simp at h2
  · rw [h1, hb]; rfl
theorem back_tags (hext : Ext w (lendG x g ids) w' gc) (hc : ∀ b, gc.tag b ≠ .alien → b < w'.heap.size) (b : Nat) (hb : (backG g gc ids M w.heap.size keep).tag b ≠ .alien) : b < w'.heap.size := by
  rcases back_tag (M := M) (keep := keep) hext b with ⟨h0, _⟩ | ⟨h1, _⟩
  · exact Nat.lt_of_lt_of_le h0 hext.size
  · refine hc b fun h => hb ?_
    rw [h1, h]; rfl
theorem indexN_none {i : Nat} : {l : List Nat} → {k : Nat} → i ∉ l → indexN i l k = none
  | [], _, _ => rfl
  | y :: l, k, h => by
    simp only [List.mem_cons, not_or] at h
    have : Nat.beq y i = false := by
      cases hb : Nat.beq y i with
      | true => exact absurd (Nat.eq_of_beq_eq_true hb).symm h.1
      | false => rfl
    simp only [indexN, this, cond_false]
    exact indexN_none h.2
/-- What is not handed over stands. -/
theorem back_same (hext : Ext w (lendG x g ids) w' gc) (ht : ∀ b, g.tag b ≠ .alien → b < w.heap.size) {id : Nat} (hi : id ∉ ids) (hM : id ∉ M) : Same w g w' (backG g gc ids M w.heap.size keep) id := by
  have hx := indexN_none (k := 0) hM
  have hb : ∀ b, ((∃ p, g.tag b = .row id p) ∨ g.tag b = .box id) → (backG g gc ids M w.heap.size keep).tag b = g.tag b ∧ w'.heap[b]? = w.heap[b]? := by
    intro b h
    rcases back_tag (M := M) (keep := keep) hext b with ⟨_, h1, _, h2, _⟩ | ⟨_, h1⟩
    · exact ⟨h1, h2⟩
    · have hlt := ht b (by rcases h with ⟨p, h⟩ | h <;> rw [h] <;> simp)
      obtain ⟨i, him, hi2⟩ := h1 hlt
      exfalso
      rcases h with ⟨p, h⟩ | h <;> rcases hi2 with ⟨q, h2⟩ | h2 <;> rw [h] at h2 <;> simp at h2
      · rw [h2.1] at hi; exact hi him
      · rw [h2] at hi; exact hi him
  refine ⟨⟨fun q => by simp [backG, hx], fun q b h => ?_⟩, by simp [backG, hx], fun h => ?_⟩
  · simp only [List.nil_append] at h ⊢
    obtain ⟨h1, h2⟩ := hb b (.inl ⟨q, h⟩)
    exact ⟨h1.trans h, h2⟩
  · obtain ⟨h1, h2⟩ := hb _ (.inr h)
    exact ⟨h1.trans h, h2⟩
end

/-- An object at the callee's end, and as the caller sees it. -/
def KindB (e : Nat × Nat) (y y' : Obj) : Prop :=
  (∃ t l, y = .row t l 0 ∧ y' = .row t l e.1) ∨ (∃ a a', y = .cell a ∧ y' = .cell a' ∧ a'.sk = a.sk) ∨ (∃ k v m, y = .map k v m ∧ y' = .map k v m) ∨ (∃ t l, y = .nest t l 0 0 none ∧ y' = .nest t l e.1 e.2 none)

structure Bk (gc G : Ghost) (oc o' : Objs) (M : List Nat) (E : Nat → Nat × Nat) : Prop where
  obj : ∀ j id, nthL M j = some id → ∀ y', o' id = some y' → ∃ y, oc j = some y ∧ KindB (E j) y y'
  svr : ∀ j id, nthL M j = some id → ∀ t l, oc j = some (.row t l 0) → G.sv id [] = gc.sv j []
  svn : ∀ j id, nthL M j = some id → ∀ t l, oc j = some (.nest t l 0 0 none) → ∀ p, G.sv id p = gc.sv j p
  blk : ∀ j id, nthL M j = some id → G.blk id = gc.blk j
  row : ∀ b j p id, gc.tag b = .row j p → nthL M j = some id → G.tag b = .row id p
  box : ∀ b j id, gc.tag b = .box j → nthL M j = some id → G.tag b = .box id

section
variable {w : World} {gc G : Ghost} {oc o' : Objs} {M : List Nat} {E : Nat → Nat × Nat}

theorem inst_sk : (p : SPat) → {d : p.den} → {a : AVal} → p.inst M E d = some a → a.sk = (p.mk d).sk
  | .val t, d, a, h => by simp only [SPat.inst, Option.some.injEq] at h; subst h; rfl
  | .nilS, d, a, h => by simp only [SPat.inst, Option.some.injEq] at h; subst h; rfl
  | .ref j, d, a, h => by simp only [SPat.inst, Option.map_eq_some_iff] at h; obtain ⟨id, _, rfl⟩ := h; rfl
  | .view j, d, a, h => by simp only [SPat.inst, Option.map_eq_some_iff] at h; obtain ⟨id, _, rfl⟩ := h; rfl
  | .bptr j p, d, a, h => by simp only [SPat.inst, Option.map_eq_some_iff] at h; obtain ⟨id, _, rfl⟩ := h; rfl
  | .mref j, d, a, h => by simp only [SPat.inst, Option.map_eq_some_iff] at h; obtain ⟨id, _, rfl⟩ := h; rfl
  | .nv j, d, a, h => by simp only [SPat.inst, Option.map_eq_some_iff] at h; obtain ⟨id, _, rfl⟩ := h; rfl
  | .nvi j, d, a, h => by simp only [SPat.inst, Option.map_eq_some_iff] at h; obtain ⟨id, _, rfl⟩ := h; rfl
  | .clos f c, d, a, h => by simp only [SPat.inst, Option.map_eq_some_iff] at h; obtain ⟨a', _, rfl⟩ := h; rfl
  | .ifc f c, d, a, h => by simp only [SPat.inst, Option.map_eq_some_iff] at h; obtain ⟨a', _, rfl⟩ := h; rfl
  | .agg c, d, a, h => by
    simp only [SPat.inst, Option.map_eq_some_iff] at h
    obtain ⟨a', h, rfl⟩ := h
    simpa only [SPat.mk, AVal.sk] using inst_sk c h
  | .pr p q, d, a, h => by
    simp only [SPat.inst] at h
    split at h
    · rename_i y z h1 h2
      simp only [Option.some.injEq] at h
      subst h
      simp only [SPat.mk, AVal.sk, inst_sk p h1, inst_sk q h2]
    · simp at h
  | .un, d, a, h => by simp only [SPat.inst, Option.some.injEq] at h; subst h; rfl

theorem inst_form : (p : SPat) → {d : p.den} → {a : AVal} → p.inst M E d = some a → a.isAgg = (p.mk d).isAgg ∧ (∀ c, (p.mk d) ≠ .tup c) ∧ (∀ y z, a = .pr y z → ∃ y' z', p.mk d = .pr y' z') ∧ (a = .un → p.mk d = .un) ∧ ∀ m ∈ a.ids, m ∈ M
  | .val t, d, a, h => by simp only [SPat.inst, Option.some.injEq] at h; subst h; simp [SPat.mk, AVal.isAgg, AVal.ids]
  | .nilS, d, a, h => by simp only [SPat.inst, Option.some.injEq] at h; subst h; simp [SPat.mk, AVal.ids]
  | .ref j, d, a, h => by simp only [SPat.inst, Option.map_eq_some_iff] at h; obtain ⟨id, hm, rfl⟩ := h; simp [SPat.mk, AVal.isAgg, AVal.ids, nthL_mem hm]
  | .view j, d, a, h => by simp only [SPat.inst, Option.map_eq_some_iff] at h; obtain ⟨id, hm, rfl⟩ := h; simp [SPat.mk, AVal.isAgg, AVal.ids, nthL_mem hm]
  | .bptr j p, d, a, h => by simp only [SPat.inst, Option.map_eq_some_iff] at h; obtain ⟨id, hm, rfl⟩ := h; simp [SPat.mk, AVal.isAgg, AVal.ids, nthL_mem hm]
  | .mref j, d, a, h => by simp only [SPat.inst, Option.map_eq_some_iff] at h; obtain ⟨id, hm, rfl⟩ := h; simp [SPat.mk, AVal.isAgg, AVal.ids, nthL_mem hm]
  | .nv j, d, a, h => by simp only [SPat.inst, Option.map_eq_some_iff] at h; obtain ⟨id, hm, rfl⟩ := h; simp [SPat.mk, AVal.isAgg, AVal.ids, nthL_mem hm]
  | .nvi j, d, a, h => by simp only [SPat.inst, Option.map_eq_some_iff] at h; obtain ⟨id, hm, rfl⟩ := h; simp [SPat.mk, AVal.isAgg, AVal.ids, nthL_mem hm]
  | .clos f c, d, a, h => by
    simp only [SPat.inst, Option.map_eq_some_iff] at h; obtain ⟨a', h, rfl⟩ := h
    have := (inst_form c h).2.2.2.2
    simpa [SPat.mk, AVal.isAgg, AVal.ids] using this
  | .ifc f c, d, a, h => by
    simp only [SPat.inst, Option.map_eq_some_iff] at h; obtain ⟨a', h, rfl⟩ := h
    have := (inst_form c h).2.2.2.2
    simpa [SPat.mk, AVal.isAgg, AVal.ids] using this
  | .agg c, d, a, h => by
    simp only [SPat.inst, Option.map_eq_some_iff] at h; obtain ⟨a', h, rfl⟩ := h
    have := (inst_form c h).2.2.2.2
    simpa [SPat.mk, AVal.isAgg, AVal.ids] using this
  | .pr p q, d, a, h => by
    simp only [SPat.inst] at h
    split at h
    · rename_i y z h1 h2
      simp only [Option.some.injEq] at h
      subst h
      have k1 := (inst_form p h1).2.2.2.2
      have k2 := (inst_form q h2).2.2.2.2
      refine ⟨rfl, by simp [SPat.mk], fun _ _ _ => ⟨_, _, rfl⟩, by simp, fun m hm => ?_⟩
      simp only [AVal.ids, List.mem_append] at hm
      rcases hm with hm | hm
      · exact k1 m hm
      · exact k2 m hm
    · simp at h
  | .un, d, a, h => by simp only [SPat.inst, Option.some.injEq] at h; subst h; simp [SPat.mk, AVal.ids]

theorem inst_aok (hb : Bk gc G oc o' M E) : (p : SPat) → {d : p.den} → {a : AVal} → {cs : List Value} → (RoKept w gc w G ∨ p.flat = true) → p.inst M E d = some a → AOK w gc oc (p.mk d) cs → AOK w G o' a cs
  | .val t, d, a, cs, hf, h, hok => by
    simp only [SPat.inst, Option.some.injEq] at h; subst h
    refine ⟨hok.1, ?_⟩
    rcases hf with hf | hf
    · exact hok.2.kept hf
    · exact Rep.noSl hf hok.2
  | .nilS, d, a, cs, hf, h, hok => by simp only [SPat.inst, Option.some.injEq] at h; subst h; exact hok
  | .ref j, d, a, cs, hf, h, hok => by
    simp only [SPat.inst, Option.map_eq_some_iff] at h
    obtain ⟨id, hm, rfl⟩ := h
    obtain ⟨v, hv, hone, hx⟩ := hok
    refine ⟨v, hv, hone, fun t l e ho => ?_⟩
    obtain ⟨y, hy, hk⟩ := hb.obj j id hm _ ho
    rcases hk with ⟨t', l', rfl, h2⟩ | ⟨a1, a2, _, h2, _⟩ | ⟨k, v', m, _, h2⟩ | ⟨t', l', _, h2⟩
    · simp only [Obj.row.injEq] at h2
      obtain ⟨rfl, _, rfl⟩ := h2
      exact ⟨Nat.le_refl _, fun _ => by rw [hb.svr j id hm _ _ hy]; exact (hx _ _ _ hy).2 rfl⟩
    · simp at h2
    · simp at h2
    · simp at h2
  | .view j, d, a, cs, hf, h, hok => by
    simp only [SPat.inst, Option.map_eq_some_iff] at h
    obtain ⟨id, hm, rfl⟩ := h
    obtain ⟨v, hv, hone, hx⟩ := hok
    refine ⟨v, hv, hone, fun t l e ho => ?_⟩
    obtain ⟨y, hy, hk⟩ := hb.obj j id hm _ ho
    rcases hk with ⟨t', l', rfl, h2⟩ | ⟨a1, a2, _, h2, _⟩ | ⟨k, v', m, _, h2⟩ | ⟨t', l', _, h2⟩
    · simp only [Obj.row.injEq] at h2
      obtain ⟨rfl, hl, rfl⟩ := h2
      have hl := eq_of_heq hl
      subst hl
      refine ⟨Nat.le_refl _, fun _ => ?_⟩
      rw [hb.svr j id hm _ _ hy]; exact (hx _ _ _ hy).2 rfl
    · simp at h2
    · simp at h2
    · simp at h2
  | .bptr j p, d, a, cs, hf, h, hok => by
    simp only [SPat.inst, Option.map_eq_some_iff] at h
    obtain ⟨id, hm, rfl⟩ := h
    obtain ⟨v, hv, hone, hx⟩ := hok
    refine ⟨v, hv, hone, fun a ho => ?_⟩
    obtain ⟨y, hy, hk⟩ := hb.obj j id hm _ ho
    rcases hk with ⟨t', l', _, h2⟩ | ⟨a1, a2, rfl, h2, hs⟩ | ⟨k, v', m, _, h2⟩ | ⟨t', l', _, h2⟩
    · simp at h2
    · simp only [Obj.cell.injEq] at h2
      subst h2
      obtain ⟨off, s, h3, h4⟩ := hx _ hy
      exact ⟨off, s, by rw [hs]; exact h3, by rw [hb.blk j id hm]; exact h4⟩
    · simp at h2
    · simp at h2
  | .mref j, d, a, cs, hf, h, hok => by
    simp only [SPat.inst, Option.map_eq_some_iff] at h
    obtain ⟨id, hm, rfl⟩ := h
    obtain ⟨v, hv, hone, hx⟩ := hok
    refine ⟨v, hv, hone, fun kt vt mm ho => ?_⟩
    obtain ⟨y, hy, hk⟩ := hb.obj j id hm _ ho
    rcases hk with ⟨t', l', _, h2⟩ | ⟨a1, a2, _, h2, _⟩ | ⟨k, v', m, rfl, h2⟩ | ⟨t', l', _, h2⟩
    · simp at h2
    · simp at h2
    · rw [hb.blk j id hm]; exact hx _ _ _ hy
    · simp at h2
  | .nv j, d, a, cs, hf, h, hok => by
    simp only [SPat.inst, Option.map_eq_some_iff] at h
    obtain ⟨id, hm, rfl⟩ := h
    obtain ⟨v, hv, hone, hx⟩ := hok
    refine ⟨v, hv, hone, fun t l e i hh ho => ?_⟩
    obtain ⟨y, hy, hk⟩ := hb.obj j id hm _ ho
    rcases hk with ⟨t', l', _, h2⟩ | ⟨a1, a2, _, h2, _⟩ | ⟨k, v', m, _, h2⟩ | ⟨t', l', rfl, h2⟩
    · simp at h2
    · simp at h2
    · simp at h2
    · simp only [Obj.nest.injEq] at h2
      obtain ⟨_, _, rfl, rfl, _⟩ := h2
      refine ⟨Nat.le_refl _, fun _ => ⟨fun _ => ?_, fun h => (by simp at h)⟩⟩
      rw [hb.svn j id hm _ _ hy]; exact ((hx _ _ _ _ _ hy).2 rfl).1 rfl
  | .nvi j, d, a, cs, hf, h, hok => by
    simp only [SPat.inst, Option.map_eq_some_iff] at h
    obtain ⟨id, hm, rfl⟩ := h
    obtain ⟨v, hv, hone, hx⟩ := hok
    refine ⟨v, hv, hone, fun t l e i hh ho => ?_⟩
    obtain ⟨y, hy, hk⟩ := hb.obj j id hm _ ho
    rcases hk with ⟨t', l', _, h2⟩ | ⟨a1, a2, _, h2, _⟩ | ⟨k, v', m, _, h2⟩ | ⟨t', l', rfl, h2⟩
    · simp at h2
    · simp at h2
    · simp at h2
    · simp only [Obj.nest.injEq] at h2
      obtain ⟨_, _, rfl, rfl, _⟩ := h2
      refine ⟨Nat.le_refl _, fun _ => ⟨fun _ => ?_, fun h => (by simp at h)⟩⟩
      rw [hb.svn j id hm _ _ hy]; exact ((hx _ _ _ _ _ hy).2 rfl).1 rfl
  | .clos f c, d, a, cs, hf, h, hok => by
    simp only [SPat.inst, Option.map_eq_some_iff] at h
    obtain ⟨a', h, rfl⟩ := h
    obtain ⟨vs, hv, hx⟩ := hok
    exact ⟨vs, hv, inst_aok hb c hf h hx⟩
  | .ifc t c, d, a, cs, hf, h, hok => by
    simp only [SPat.inst, Option.map_eq_some_iff] at h
    obtain ⟨a', h, rfl⟩ := h
    obtain ⟨x, cs', hv, hx, hxv⟩ := hok
    exact ⟨x, cs', hv, inst_aok hb c hf h hx, by rw [(inst_form c h).1]; exact hxv⟩
  | .agg c, d, a, cs, hf, h, hok => by
    simp only [SPat.inst, Option.map_eq_some_iff] at h
    obtain ⟨a', h, rfl⟩ := h
    show AOK w G o' a' cs
    exact inst_aok hb c hf h (show AOK w gc oc (c.mk d) cs from hok)
  | .pr p q, d, a, cs, hf, h, hok => by
    simp only [SPat.inst] at h
    split at h
    · rename_i y z h1 h2
      simp only [Option.some.injEq] at h
      subst h
      obtain ⟨c1, c2, hcs, k1, k2⟩ := hok
      have hf1 : RoKept w gc w G ∨ p.flat = true := hf.imp _root_.id fun h => by simp only [SPat.flat, Bool.and_eq_true] at h; exact h.1
      have hf2 : RoKept w gc w G ∨ q.flat = true := hf.imp _root_.id fun h => by simp only [SPat.flat, Bool.and_eq_true] at h; exact h.2
      exact ⟨c1, c2, hcs, inst_aok hb p hf1 h1 k1, inst_aok hb q hf2 h2 k2⟩
    · simp at h
  | .un, d, a, cs, hf, h, hok => by simp only [SPat.inst, Option.some.injEq] at h; subst h; exact hok

theorem inst_vok (hb : Bk gc G oc o' M E) {p : SPat} {d : p.den} {a : AVal} {v : Value} (hf : RoKept w gc w G ∨ p.flat = true) (h : p.inst M E d = some a) (hok : VOK w gc oc (p.mk d) v) : VOK w G o' a v := by
  obtain ⟨h1, h2, h3, h4, _⟩ := inst_form p h
  obtain ⟨cs, hcs, hmk⟩ := VOK_cells hok h2
  refine VOK_of_cells (inst_aok hb p hf h hcs) (by rw [h1]; exact hmk) (fun y z he => ?_) (fun he => ?_)
  · obtain ⟨y', z', he⟩ := h3 y z he
    rw [he] at hok; simp only [VOK] at hok
  · rw [h4 he] at hok; simp only [VOK] at hok

theorem inst_obj (hb : Bk gc G oc o' M E) {o : SObj} {d : o.den} {y : Obj} {j id : Nat} (hm : nthL M j = some id) (hf : RoKept w gc w G ∨ o.flat = true) (hj : oc j = some (o.mk d)) (h : o.inst M E j d = some y) (hok : ObjOK w gc oc j (o.mk d)) : ObjOK w G o' id y := by
  cases o with
  | row t =>
    simp only [SObj.inst, Option.some.injEq] at h
    subst h
    obtain ⟨ht, hr⟩ := hok
    refine ⟨ht, ?_⟩
    rw [hb.svr j id hm _ _ hj]
    obtain ⟨a, cap, hv, h0, h1, h2, h3⟩ := hr
    refine ⟨a, cap, hv, (hb.svr j id hm _ _ hj).trans h0, h1, h2, ?_⟩
    rcases h3 with h3 | ⟨b, off, c, e, ha, htg, hbl, hs, he⟩
    · exact .inl h3
    · refine .inr ⟨b, off, c, e, ha, hb.row b j [] id htg hm, hbl, hs, fun i hi => ?_⟩
      rcases hf with hf | hf
      · exact Rep.anyOwn ht ((Rep.anyOwn (o' := none) ht (he i hi)).kept hf)
      · exact Rep.noSl hf (he i hi)
  | cell p =>
    simp only [SObj.inst, Option.map_eq_some_iff] at h
    obtain ⟨a, h, rfl⟩ := h
    obtain ⟨c, e, h1, h2, h3⟩ := hok
    exact ⟨c, e, by rw [hb.blk j id hm]; exact h1, by rw [hb.blk j id hm]; exact hb.box _ j id h2 hm, inst_aok hb p hf h h3⟩
  | map kt vt =>
    simp only [SObj.inst, Option.some.injEq] at h
    subst h
    obtain ⟨es, ck, h1, h2, h3, h4, h5⟩ := hok
    have hf : RoKept w gc w G := hf.resolve_right (by simp [SObj.flat])
    exact ⟨es, ck, by rw [hb.blk j id hm]; exact h1, by rw [hb.blk j id hm]; exact hb.box _ j id h2 hm, h3, h4, h5.kept hf⟩
  | nest t =>
    simp only [SObj.inst, Option.some.injEq] at h
    subst h
    have hf : RoKept w gc w G := hf.resolve_right (by simp [SObj.flat])
    show Rep w G (some (id, [])) (.sl true t) d [G.sv id []]
    have hsv := hb.svn j id hm _ _ hj
    rw [hsv]
    exact Rep.move hf (o := some (j, [])) (o' := some (id, [])) ⟨fun q => hsv _, fun q b hq => ⟨hb.row b j q id (by simpa using hq) hm, rfl⟩⟩ (show Rep w gc (some (j, [])) (.sl true t) d [gc.sv j []] from hok)
end

end Go.Kz

/-
  Behind a call of a function that turns what it is given: the caller's state.
-/
namespace Go.Kz
variable {R : Type}

/-- One object, before the call and behind it. -/
def Ident (g gc : Ghost) (oc so : Objs) (j id : Nat) : Prop :=
  (∀ t l, oc j = some (.row t l 0) → ∀ t' l' e, so id = some (.row t' l' e) → gc.sv j [] = g.sv id []) ∧
  (∀ a, oc j = some (.cell a) → ∀ a', so id = some (.cell a') → gc.blk j = g.blk id) ∧
  (∀ k v m, oc j = some (.map k v m) → ∀ k' v' m', so id = some (.map k' v' m') → gc.blk j = g.blk id) ∧
  (∀ t l, oc j = some (.nest t l 0 0 none) → ∀ t' l' e i h, so id = some (.nest t' l' e i h) → gc.sv j [] = g.sv id [])

theorem bind1_some {b b' : Bnd} {i id : Nat} (h : bind1 b i id some = some b') : ∀ j id', getL b' j = some id' → getL b j = some id' ∨ (j = i ∧ id' = id) := by
  unfold bind1 at h
  intro j id' hj
  split at h
  · rename_i j0 h0
    cases hb : Nat.beq j0 id with
    | false => rw [hb] at h; simp at h
    | true =>
      rw [hb] at h
      simp only [cond_true, Option.some.injEq] at h
      subst h
      exact .inl hj
  · cases hb : hasVal b id with
    | true => rw [hb] at h; simp at h
    | false =>
      rw [hb] at h
      simp only [cond_false, Option.some.injEq] at h
      subst h
      simp only [getL] at hj
      cases he : Nat.beq i j with
      | true =>
        rw [he] at hj
        simp only [cond_true, Option.some.injEq] at hj
        exact .inr ⟨(Nat.eq_of_beq_eq_true he).symm, hj.symm⟩
      | false => rw [he] at hj; exact .inl hj

section
variable {w w' : World} {g gc : Ghost} {oc so : Objs} {ρ : Nat → Option Nat}

theorem vok_one {a : AVal} {u : Value} (h : VOK w g so a u) (ht : ∀ c, a ≠ .tup c) (hg : a.isAgg = false) : ∃ cs, AOK w g so a cs ∧ u = cs.headD undef := by
  obtain ⟨cs, h1, h2⟩ := VOK_cells h ht
  exact ⟨cs, h1, by rw [h2, hg]; rfl⟩

theorem anch1_ok {a a' : AVal} {p : SPat} {d : p.den} {b b' : Bnd} {u : Value} (h : anch1 so a p b = some b') (hv : VOK w g so a u) (hr : a.ren so ρ = some a') (hx : VOK w' gc oc (p.mk d) u)
    (hI : ∀ j id, getL b j = some id → Ident g gc oc so j id) : ∀ j id, getL b' j = some id → Ident g gc oc so j id := by
  intro j id hj
  unfold anch1 at h
  split at h
  · rename_i id0 ep j0
    rcases bind1_some h j id hj with h1 | ⟨rfl, rfl⟩
    · exact hI j id h1
    · simp only [AVal.ren] at hr
      split at hr
      · rename_i t0 l0 e0 _ hobj
        cases hb : Nat.beq e0 ep with
        | false => rw [hb] at hr; simp at hr
        | true =>
          have he := Nat.eq_of_beq_eq_true hb
          subst he
          obtain ⟨cs, ⟨v, rfl, _, h1⟩, rfl⟩ := vok_one hv (by simp) rfl
          obtain ⟨cs', ⟨v', rfl, _, h2⟩, hu⟩ := vok_one hx (by simp [SPat.mk]) rfl
          simp only [List.headD_cons] at hu
          subst hu
          refine ⟨fun t l ho t' l' e hs => ?_, fun a ho a' hs => by rw [hobj] at hs; simp at hs, fun _ _ _ _ _ _ _ hs => by rw [hobj] at hs; simp at hs, fun _ _ _ _ _ _ _ _ hs => by rw [hobj] at hs; simp at hs⟩
          rw [← (h2 _ _ _ ho).2 rfl, ← (h1 _ _ _ hobj).2 rfl]
      · simp at hr
  · rename_i id0 j0
    split at h
    · rename_i a0 hobj
      rcases bind1_some h j id hj with h1 | ⟨rfl, rfl⟩
      · exact hI j id h1
      · obtain ⟨cs, ⟨v, rfl, _, h1⟩, rfl⟩ := vok_one hv (by simp) rfl
        obtain ⟨cs', ⟨v', rfl, _, h2⟩, hu⟩ := vok_one hx (by simp [SPat.mk]) rfl
        simp only [List.headD_cons] at hu
        subst hu
        have hcell : ∀ a, oc j = some (.cell a) → ∀ a', so id = some (.cell a') → gc.blk j = g.blk id := by
          intro a ho a' hs
          obtain ⟨o1, s1, q1, q2⟩ := h1 _ hs
          obtain ⟨o2, s2, q3, q4⟩ := h2 _ ho
          rw [q2] at q4
          simp only [Value.pointer.injEq, Option.some.injEq, Addr.mk.injEq] at q4
          exact q4.1.symm
        exact ⟨fun t l ho t' l' e hs => by rw [hobj] at hs; simp at hs, hcell, fun _ _ _ ho _ _ _ hs => by rw [hobj] at hs; simp at hs, fun _ _ ho _ _ _ _ _ hs => by rw [hobj] at hs; simp at hs⟩
    · simp at h
  · rename_i id0 j0
    split at h
    · rename_i k0 v0 m0 hobj
      rcases bind1_some h j id hj with h1 | ⟨rfl, rfl⟩
      · exact hI j id h1
      · obtain ⟨cs, ⟨v, rfl, _, h1⟩, rfl⟩ := vok_one hv (by simp) rfl
        obtain ⟨cs', ⟨v', rfl, _, h2⟩, hu⟩ := vok_one hx (by simp [SPat.mk]) rfl
        simp only [List.headD_cons] at hu
        subst hu
        refine ⟨fun t l ho t' l' e hs => by rw [hobj] at hs; simp at hs, fun _ _ _ hs => by rw [hobj] at hs; simp at hs, fun _ _ _ ho _ _ _ hs => ?_, fun _ _ ho _ _ _ _ _ hs => by rw [hobj] at hs; simp at hs⟩
        have q1 := h1 _ _ _ hs
        have q2 := h2 _ _ _ ho
        rw [q1] at q2
        simp only [Value.map.injEq, Option.some.injEq] at q2
        exact q2.symm
    · simp at h
  · rename_i id0 ep j0
    rcases bind1_some h j id hj with h1 | ⟨rfl, rfl⟩
    · exact hI j id h1
    · simp only [AVal.ren] at hr
      split at hr
      · rename_i t0 l0 e0 i0 _ hobj
        cases hb : Nat.beq (nep false [] e0 i0) ep with
        | false => rw [hb] at hr; simp at hr
        | true =>
          have he := Nat.eq_of_beq_eq_true hb
          obtain ⟨cs, ⟨v, rfl, _, h1⟩, rfl⟩ := vok_one hv (by simp) rfl
          obtain ⟨cs', ⟨v', rfl, _, h2⟩, hu⟩ := vok_one hx (by simp [SPat.mk]) rfl
          simp only [List.headD_cons] at hu
          subst hu
          refine ⟨fun t l ho t' l' e hs => by rw [hobj] at hs; simp at hs, fun a ho a' hs => by rw [hobj] at hs; simp at hs, fun _ _ _ _ _ _ _ hs => by rw [hobj] at hs; simp at hs, fun _ _ ho _ _ _ _ _ hs => ?_⟩
          rw [← ((h2 _ _ _ _ _ ho).2 rfl).1 rfl, ← ((h1 _ _ _ _ _ hobj).2 he).1 rfl]
      · simp at hr
  · simp at h

theorem anchI_ok {a a' : AVal} {p : SPat} {d : p.den} {b b' : Bnd} {u : Value} (h : anchI so a p b = some b') (hv : VOK w g so a u) (hr : a.ren so ρ = some a') (hx : VOK w' gc oc (p.mk d) u)
    (hI : ∀ j id, getL b j = some id → Ident g gc oc so j id) : ∀ j id, getL b' j = some id → Ident g gc oc so j id := by
  unfold anchI at h
  split at h
  · rename_i t1 a1 t2 p1
    simp only [AVal.ren, Option.map_eq_some_iff] at hr
    obtain ⟨a1', hr, _⟩ := hr
    obtain ⟨cs, ⟨x, cs', rfl, h1, h2⟩, h3⟩ := vok_one hv (by simp) rfl
    obtain ⟨cs2, ⟨x2, cs2', rfl, k1, k2⟩, k3⟩ := vok_one hx (by simp [SPat.mk]) rfl
    simp only [List.headD_cons] at h3 k3
    rw [h3] at k3
    simp only [Value.iface.injEq] at k3
    obtain ⟨_, rfl⟩ := k3
    -- what is anchored is a value by itself
    have hform : (∃ id ep, a1 = .ref id [] ep) ∨ (∃ id, a1 = .bptr id []) ∨ (∃ id, a1 = .mref id) ∨ (∃ id ep, a1 = .nv false id [] ep) := by
      unfold anch1 at h
      split at h
      · exact .inl ⟨_, _, rfl⟩
      · exact .inr (.inl ⟨_, rfl⟩)
      · exact .inr (.inr (.inl ⟨_, rfl⟩))
      · exact .inr (.inr (.inr ⟨_, _, rfl⟩))
      · simp at h
    have hp : (∀ y z, p1.mk d ≠ .pr y z) ∧ p1.mk d ≠ .un := by
      unfold anch1 at h
      split at h
      · simp [SPat.mk]
      · simp [SPat.mk]
      · simp [SPat.mk]
      · simp [SPat.mk]
      · simp at h
    have ha : (∀ y z, a1 ≠ .pr y z) ∧ a1 ≠ .un := by
      rcases hform with ⟨_, _, rfl⟩ | ⟨_, rfl⟩ | ⟨_, rfl⟩ | ⟨_, _, rfl⟩ <;> simp
    exact anch1_ok h (VOK_of_cells h1 h2 ha.1 ha.2) hr (VOK_of_cells k1 k2 hp.1 hp.2) hI
  · exact anch1_ok h hv hr hx hI

theorem anchK_ok {σ : St} {all : AVal} {vs : List Value} (hso : so = σ.objs) : (anch : List Nat) → (out : List (Nat × SPat)) → (d : slDen out) → {b b' : Bnd} → anchK so all anch out b = some b' →
    (∀ i ∈ anch, ∀ a, tupleAt all i = some a → (∃ a', a.ren so ρ = some a') ∧ ∀ u, vs[i]? = some u → VOK w g so a u) →
    (∀ k i av, nthL anch k = some i → nthL ((slMk out d).map Prod.snd) k = some av → ∃ u, vs[i]? = some u ∧ VOK w' gc oc av u) →
    (∀ j id, getL b j = some id → Ident g gc oc so j id) → ∀ j id, getL b' j = some id → Ident g gc oc so j id
  | [], _, _, b, b', h, _, _, hI => by
    simp only [anchK, Option.some.injEq] at h
    subst h; exact hI
  | i :: l, [], _, b, b', h, _, _, _ => by simp [anchK] at h
  | i :: l, (i2, p) :: out, d, b, b', h, hent, hex, hI => by
    simp only [anchK] at h
    split at h
    · rename_i a ha
      split at h
      · rename_i b1 hb1
        obtain ⟨⟨a', hr⟩, hv⟩ := hent i (by simp) a ha
        obtain ⟨u, hu, hx⟩ := hex 0 i (p.mk d.1) rfl rfl
        exact anchK_ok hso l out d.2 h (fun i' hi' => hent i' (by simp [hi'])) (fun k i' av h1 h2 => hex (k + 1) i' av h1 h2) (anchI_ok hb1 (hv u hu) hr hx hI)
      · simp at h
    · simp at h
end

end Go.Kz
