/-
  Structs of numbers, truth values and strings compared with == and !=.
-/
import Derived.Test.YtakifbcgkbfclaaKzXA
import Derived.Laws.StructEq
set_option linter.unusedVariables false
set_option linter.unusedSimpArgs false
namespace Go.Kz
variable {R : Type}

/-- The types named are structs that the model compares field by field. -/
def EqsOK (P : Program) (eqs : Nat → Bool) : Prop := ∀ T, eqs T = true → P.stoodInHeld T = false ∧ P.eqGuardType P.depth T = false ∧ ∃ fs, P.underlying T = some (.struct fs) ∧ ∀ f ∈ fs.toList, f.name ≠ "_"
def eqsB (P : Program) : List Nat → Bool
  | [] => true
  | T :: l => (!P.stoodInHeld T && !P.eqGuardType P.depth T && (match P.underlying T with
    | some (.struct fs) => fs.toList.all fun f => !(f.name == "_")
    | _ => false)) && eqsB P l
theorem eqsB_ok {P : Program} : {l : List Nat} → eqsB P l = true → EqsOK P (fun T => memN T l)
  | [], _, _, h => by simp [memN] at h
  | T :: l, hb, T', h => by
    simp only [eqsB, Bool.and_eq_true, Bool.not_eq_true'] at hb
    simp only [memN] at h
    cases he : Nat.beq T T' with
    | false => rw [he] at h; exact eqsB_ok hb.2 T' h
    | true =>
      obtain rfl := Nat.eq_of_beq_eq_true he
      refine ⟨hb.1.1.1, hb.1.1.2, ?_⟩
      have h1 := hb.1.2
      split at h1
      · rename_i fs hu
        refine ⟨fs, hu, fun f hf => ?_⟩
        have := List.all_eq_true.1 h1 f hf
        simpa using this
      · simp at h1

theorem eqIn_key {P : Program} {w w' : World} {g : Ghost} {t : Ty} {T : TypeId} {d e : t.den} {cs es : List Value} (D : Nat) (hk : keyTy t = true) (hT : TyOK P t T) (h : Rep w g none t d cs) (h' : Rep w g none t e es) :
    ∃ u v, cs = [u] ∧ es = [v] ∧ (Op.equalIn (D + 1) T u v).run P w' = .ok (keyEq t d e) w' := by
  cases t <;> simp [keyTy] at hk <;> simp only [TyOK] at hT
  · obtain ⟨rfl, _⟩ := h
    obtain ⟨rfl, _⟩ := h'
    refine ⟨_, _, rfl, rfl, ?_⟩
    rw [run_equalIn_int w' D T _ _ _ _ hT.1]
    congr 1
  · cases h; cases h'
    exact ⟨_, _, rfl, rfl, run_equalIn_bool w' D T _ _ hT.1⟩
  · obtain ⟨s, rfl, hs, _⟩ := h
    obtain ⟨s', rfl, hs', _⟩ := h'
    refine ⟨_, _, rfl, rfl, ?_⟩
    rw [run_equalIn_string w' D T _ _ hT.1, ByteArray.toList_eq, ByteArray.toList_eq]
    congr 1
    rw [Bool.eq_iff_iff]
    simp [keyEq, hs, hs']

theorem eqFields_ok {P : Program} {w w' : World} {g : Ghost} (D : Nat) {xs ys : Array Value} : {t : Ty} → {fs : List Field} → {off : Nat} → {d e : t.den} → {cs es : List Value} → eqTy t = true → FsOK P t fs off → (∀ f ∈ fs, f.name ≠ "_") →
    Rep w g none t d cs → Rep w g none t e es → xs.toList.drop off = cs → ys.toList.drop off = es → (Op.eqFields (D + 1) xs ys fs).run P w' = .ok (eqD t d e) w'
  | .unit, [], off, d, e, cs, es, _, _, _, _, _, _, _ => by simp [Op.eqFields, eqD]
  | .unit, _ :: _, off, d, e, cs, es, _, hf, _, _, _, _, _ => by simp [FsOK] at hf
  | .pair a b, [], off, d, e, cs, es, _, hf, _, _, _, _, _ => by simp [FsOK] at hf
  | .pair a b, f :: fs, off, (x, u), (y, v), cs, es, ht, hf, hn, h, h', hx, hy => by
    simp only [eqTy, Bool.and_eq_true] at ht
    simp only [FsOK] at hf
    obtain ⟨c1, c2, rfl, h1, h2⟩ := h
    obtain ⟨e1, e2, rfl, h3, h4⟩ := h'
    obtain ⟨p, q, rfl, rfl, hrun⟩ := eqIn_key (w' := w') D ht.1 hf.2.1 h1 h3
    have hsz : a.size = 1 := by have := h1.len; simpa using this.symm
    have hpl : P.plainKey f.type = true := by
      have := key_under ht.1 hf.2.1
      unfold Program.plainKey
      rw [this]
      have hk := ht.1
      cases a <;> simp [keyTy] at hk <;> rfl
    have getx : xs[off]? = some p := by
      have : (xs.toList.drop off)[0]? = some p := by rw [hx]; rfl
      rw [List.getElem?_drop] at this; simpa using this
    have gety : ys[off]? = some q := by
      have : (ys.toList.drop off)[0]? = some q := by rw [hy]; rfl
      rw [List.getElem?_drop] at this; simpa using this
    have hxt : xs.toList.drop (off + a.size) = c2 := by
      rw [hsz, ← List.drop_drop, hx]; rfl
    have hyt : ys.toList.drop (off + a.size) = e2 := by
      rw [hsz, ← List.drop_drop, hy]; rfl
    have ih := eqFields_ok (w' := w') D ht.2 hf.2.2 (fun f hf => hn f (by simp [hf])) h2 h4 hxt hyt
    have hn0 : f.name ≠ "_" := hn f (by simp)
    have p1 := run_part_plain w' hpl getx
    have p2 := run_part_plain w' hpl gety
    simp only [Op.eqFields, hf.1, hn0, ne_eq, not_false_eq_true, if_true, Sem.run_bind, p1, p2, hrun, Result.andThen_ok]
    simp only [eqD]
    cases keyEq a x y with
    | false => simp
    | true => simpa using ih
  | .int _, _, _, _, _, _, _, ht, _, _, _, _, _, _ => by simp [eqTy] at ht
  | .bool, _, _, _, _, _, _, ht, _, _, _, _, _, _ => by simp [eqTy] at ht
  | .str, _, _, _, _, _, _, ht, _, _, _, _, _, _ => by simp [eqTy] at ht
  | .arr _ _, _, _, _, _, _, _, ht, _, _, _, _, _, _ => by simp [eqTy] at ht
  | .sl _ _, _, _, _, _, _, _, ht, _, _, _, _, _, _ => by simp [eqTy] at ht
  | .ptr _, _, _, _, _, _, _, ht, _, _, _, _, _, _ => by simp [eqTy] at ht
  | .fn _ _, _, _, _, _, _, _, ht, _, _, _, _, _, _ => by simp [eqTy] at ht
theorem eqTy_noSl : {t : Ty} → eqTy t = true → t.noSl = true
  | .unit, _ => rfl
  | .pair a b, h => by
    simp only [eqTy, Bool.and_eq_true] at h
    simp only [Ty.noSl, keyTy_noSl h.1, eqTy_noSl h.2, Bool.and_self]
  | .int _, h => by simp [eqTy] at h
  | .bool, h => by simp [eqTy] at h
  | .str, h => by simp [eqTy] at h
  | .arr _ _, h => by simp [eqTy] at h
  | .sl _ _, h => by simp [eqTy] at h
  | .ptr _, h => by simp [eqTy] at h
  | .fn _ _, h => by simp [eqTy] at h

section
variable {P : Program} {o : Oper} {a : Act} {w : World} {c : Ctx} {σ : St} {g : Ghost} {k : St → Option R} {r : R} {base : Nat}

theorem op_binOp' (htt : TtOK P c.tt) (heq : EqsOK P c.eqs) {op : BinOp} {t t' : TypeId} {x y : Operand} (ho : o.op = .binOp op t x y t') (hst : StOK c.ntmps g w a σ) (h : opK0 c σ base o k = some r) : Yield P o a w g σ c k r := by
  refine op_binOp htt (fun ax ay hx hy ta tb htab h => ?_) ho hst h
  cases hb : (c.eqs t && eqTy (.pair ta tb) && ax.val && ay.val) with
  | false => rw [hb] at h; simp at h
  | true =>
    rw [hb] at h
    simp only [cond_true] at h
    simp only [Bool.and_eq_true] at hb
    obtain ⟨⟨⟨hq, hty⟩, hvx⟩, hvy⟩ := hb
    have hno := eqTy_noSl hty
    obtain ⟨d, cs, h, hr, hev⟩ := key_data hst hno hvx hx h
    obtain ⟨e, es, h, hr', hev'⟩ := key_data hst hno hvy hy h
    have hT := htt _ _ htab
    simp only [TyOK] at hT
    obtain ⟨⟨fs, hu, hfs⟩, _⟩ := hT
    obtain ⟨hs, hgd, fs', hu', hnm⟩ := heq _ hq
    rw [hu] at hu'
    cases hu'
    have hfo : P.fieldsOf t = fs := by simp [Program.fieldsOf, hu]
    have hrun : ∀ w', (Op.equal t (.agg cs.toArray) (.agg es.toArray)).run P w' = .ok (eqD (.pair ta tb) d e) w' := fun w' => by
      show (Op.equalIn (9999 + 1) t _ _).run P w' = _
      rw [run_equalIn_struct w' 9999 t _ _ (by rw [hfo]; exact hu) hs, hfo]
      exact eqFields_ok 9998 hty hfs hnm hr hr' (by simp) (by simp)
    have ex : a.eval x = .agg cs.toArray := by rw [hev]; simp [mkV, Ty.sk, Sk.isAgg]
    have ey : a.eval y = .agg es.toArray := by rw [hev']; simp [mkV, Ty.sk, Sk.isAgg]
    refine wp_plain (f := fun v => σ.putK c o.dst v k) (s := binOp op t (.agg cs.toArray) (.agg es.toArray)) rfl ?_
      (fun w v hv => by simp [execOp, ho, ex, ey, run_eqGuard_agg w op t x y _ _ hgd, hv])
    cases op <;> simp only [eqRes] at h
    case eql => exact Plain.bool h (fun w => by simp only [binOp, Sem.run_bind, hrun, Result.andThen_ok, Sem.run_pure])
    case neq => exact Plain.bool h (fun w => by simp only [binOp, Sem.run_bind, hrun, Result.andThen_ok, Sem.run_pure])
    all_goals simp at h
end

end Go.Kz

/-
  Parts of values: a field of a struct, an element of an array.
-/
namespace Go.Kz
variable {R : Type}

section
variable {P : Program} {o : Oper} {a : Act} {w : World} {c : Ctx} {σ : St} {g : Ghost} {k : St → Option R} {r : R} {base : Nat}

theorem run_partV {T : TypeId} {u : Ty} (hT : TyOK P u T) (cs : List Value) (off : Nat) (hs : off + u.size ≤ cs.length) (w : World) :
    (part T cs.toArray off).run P w = .ok (mkV u.sk.isAgg (seg cs off u.size)) w := by
  have hag := run_isAgg hT w
  unfold part
  rw [Sem.run_bind, hag]
  cases hu : u.sk.isAgg with
  | true =>
    have hsz := hT.info.sizeOf w
    simp only [Result.andThen_ok, if_true, Sem.run_bind, hsz, Sem.run_pure]
    congr 1
    simp only [mkV, if_true, Value.agg.injEq]
    apply Array.toList_inj.1
    simp [seg, List.extract]
  | false =>
    have h1 : u.size = 1 := by cases u <;> simp [Ty.sk, Sk.isAgg] at hu <;> simp [Ty.size]
    have hlt : off < cs.length := by omega
    have hg : cs.toArray[off]? = some cs[off] := by simp [hlt]
    simp only [Result.andThen_ok, Bool.false_eq_true, if_false, hg, Sem.run_pure]
    congr 1
    simp only [mkV, Bool.false_eq_true, if_false, seg, h1]
    rw [List.drop_eq_getElem_cons hlt]
    rfl

theorem op_indexV (htt : TtOK P c.tt) {t : TypeId} {x i : Operand} (ho : o.op = .index t x i) (hst : StOK c.ntmps g w a σ) (h : opK0 c σ base o k = some r) : Yield P o a w g σ c k r := by
  simp only [opK0, ho] at h
  split at h
  · rename_i n t' l ki j m u hx hi hu
    have hT := htt _ _ hu
    obtain ⟨ex, ef⟩ := ev_ok hst hx
    obtain ⟨vi, _⟩ := VOK_int (ev_ok hst hi).1
    cases hs : (Nat.beq n m && t'.sk.same u.sk) with
    | false => rw [hs] at h; simp at h
    | true =>
      rw [hs] at h
      simp only [Bool.and_eq_true] at hs
      have hnm : n = m := Nat.eq_of_beq_eq_true hs.1
      subst hnm
      have hsk := Sk.same_eq hs.2
      have hsz : u.size = t'.size := by rw [← Ty.sk_size, ← Ty.sk_size, hsk]
      simp only [cond_true, Option.bind_eq_some_iff] at h
      obtain ⟨d, hd, h⟩ := h
      obtain ⟨h0, hi', rfl, hlt⟩ := idx_some hd
      simp only [TyOK] at hT
      obtain ⟨⟨E, hund, hE⟩, _⟩ := hT
      simp only [VOK] at ex
      obtain ⟨cs, ⟨hro, hl, hcl, hel⟩, hv⟩ := ex
      have hjn : j.toNat < n := by rw [← hl]; exact hi'
      have hmul : (j.toNat + 1) * t'.size ≤ n * t'.size := Nat.mul_le_mul_right _ hjn
      rw [Nat.add_mul] at hmul
      have hv' : a.eval x = .agg cs.toArray := by rw [hv]; rfl
      have hjlt : (j : Int) < (n : Int) := by rw [← hl]; exact hlt
      refine yld (v := mkV u.sk.isAgg (seg cs (j.toNat * t'.size) u.size)) ?_ ?_ (fun m _ => by simp [AVal.ids]) h
      · intro w' _
        have hsE := hE.info.sizeOf w'
        have hp := run_partV hE cs (j.toNat * u.size) (by rw [hsz]; omega) w'
        rw [hsz] at hp hsE
        simp [execOp, ho, hv', vi, Instr.index, asIntOf, run_underlying hund, h0, hjlt, hsE, hp, hsz]
      · simp only [VOK]
        refine ⟨seg cs (j.toNat * t'.size) t'.size, ⟨by simpa [Ty.isRo] using hro, hel _ hi'⟩, by rw [hsz, ← hsk]; rfl⟩
  · simp at h

theorem op_fieldV (htt : TtOK P c.tt) {t : TypeId} {x : Operand} {i : Nat} (ho : o.op = .field t x i) (hst : StOK c.ntmps g w a σ) (h : opK0 c σ base o k = some r) : Yield P o a w g σ c k r := by
  simp only [opK0, ho] at h
  split at h
  · rename_i av u hx hu
    have hT := htt _ _ hu
    obtain ⟨ex, ef⟩ := ev_ok hst hx
    cases hs : (av.val && av.sk.same u.sk && (tyAt u (fieldPath i)).isSome) with
    | false => rw [hs] at h; simp at h
    | true =>
      rw [hs] at h
      simp only [cond_true] at h
      simp only [Bool.and_eq_true] at hs
      have hsk := Sk.same_eq hs.1.2
      obtain ⟨hag, _, _, _⟩ := val_isAgg hs.1.1
      obtain ⟨cs, hok, hmk, _⟩ := VOK_valueCells hs.1.1 ex
      obtain ⟨av', off, h, hoff, hpart, hids⟩ := getA_rep hok h
      obtain ⟨xa, ya, rfl⟩ := tyAt_pair hs.2
      simp only [TyOK] at hT
      obtain ⟨⟨fs, hund, hfs⟩, _⟩ := hT
      obtain ⟨f, s, h1, h2, h3, o', h4, h5⟩ := field_ok hfs hs.2
      rw [hsk, h4] at hoff
      simp only [Option.some.injEq, Prod.mk.injEq] at hoff
      obtain ⟨rfl, hss⟩ := hoff
      have hf : fs[i]? = some f := by rw [← Array.getElem?_toList]; exact h1
      have ho2 : f.offset = o' := by omega
      cases hb : av'.val with
      | false => rw [hb] at h; simp at h
      | true =>
        rw [hb] at h
        simp only [cond_true] at h
        obtain ⟨hag', hn1, hn2, hn3⟩ := val_isAgg hb
        have hle := Sk.off_le h4
        have hlen := hok.len
        rw [hsk] at hlen
        rw [Ty.sk_size] at hle hlen
        rw [Ty.sk_size] at hle
        have hszs : s.size = av'.sk.size := by rw [← hss, Ty.sk_size]
        have hv' : a.eval x = .agg cs.toArray := by rw [hmk, hag, hsk]; rfl
        refine yld (v := mkV s.sk.isAgg (seg cs o' s.size)) ?_ ?_ (fun m hm => hids m (ef m hm)) h
        · intro w' _
          have hp := run_partV h3 cs o' (by omega) w'
          simp [execOp, ho, hv', Instr.field, run_underlying hund, hf, asAgg, ho2, hp]
        · refine VOK_of_cells hpart ?_ hn1 hn2
          rw [hag', ← hss, hszs, hss]
  · simp at h
end

end Go.Kz
