/-
  Operations that compute or read, one by one (second part).
-/
import Derived.Test.YtakifbcgkbfclaaKzK
set_option linter.unusedVariables false
set_option linter.unusedSimpArgs false
namespace Go.Kz
variable {R : Type}

section
variable {P : Program} {o : Oper} {a : Act} {w : World} {K : Act → World → Prop} {Q : Exit → Act → World → Prop} {c : Ctx} {σ : St} {g : Ghost} {k : St → Option R} {r : R} {base : Nat}

theorem wp_plain {f : AVal → Option R} {s : Sem Value} (hf : f = fun v => σ.putK c o.dst v k) (hs : Plain f r s P)
    (hrun : ∀ w v, s.run P w = .ok v w → (execOp a.eval o).run P w = .ok (.value v) w) : Yield P o a w g σ c k r := by
  subst hf
  obtain ⟨av, v, h1, h2, h3, h4⟩ := hs.out
  exact yld (fun w' _ => hrun w' v (h2 w')) (h4 _ _ _) (fun m _ => by rw [h3]; simp) h1

theorem equalIn_bool (d : Nat) {T : TypeId} (hT : P.underlying T = some .bool) (x y : Bool) (w : World) : (Op.equalIn (d + 1) T (.bool x) (.bool y)).run P w = .ok (x == y) w := by
  have hu := run_underlying hT w
  rw [Op.equalIn]
  rw [Sem.run_bind, hu]
  rfl
theorem equal_bool {T : TypeId} (hT : P.underlying T = some .bool) (x y : Bool) (w : World) : (Op.equal T (.bool x) (.bool y)).run P w = .ok (x == y) w :=
  equalIn_bool 9999 hT x y w

theorem op_binOp (htt : TtOK P c.tt) {op : BinOp} {t t' : TypeId} {x y : Operand}
    (hS : ∀ ax ay, ev σ x = some ax → ev σ y = some ay → ∀ ta tb, c.tt t = some (.pair ta tb) →
      cond (c.eqs t && eqTy (.pair ta tb) && ax.val && ay.val) (asData σ 20 ax (.pair ta tb) fun d => asData σ 20 ay (.pair ta tb) fun e => eqRes op (eqD (.pair ta tb) d e) fun v => σ.putK c o.dst v k) none = some r → Yield P o a w g σ c k r)
    (ho : o.op = .binOp op t x y t') (hst : StOK c.ntmps g w a σ) (h : opK0 c σ base o k = some r) : Yield P o a w g σ c k r := by
  simp only [opK0, ho] at h
  split at h
  · rename_i ax ay hx hy
    have ex := (ev_ok hst hx).1
    have ey := (ev_ok hst hy).1
    unfold binK at h
    split at h
    · rename_i kx nx ky ny
      obtain ⟨vx, bx⟩ := VOK_int ex
      obtain ⟨vy, _⟩ := VOK_int ey
      cases hs : isShift op with
      | true =>
        rw [hs] at h
        exact wp_plain rfl (shiftInt_ok (P := P) (j := ky) bx t h) (fun w v hv => by simp [execOp, ho, vx, vy, eqGuard, hv])
      | false =>
        rw [hs] at h
        simp only [cond_false] at h
        split at h
        · rename_i hk _
          subst hk
          exact wp_plain rfl (binInt_ok (P := P) bx t hs h) (fun w v hv => by simp [execOp, ho, vx, vy, eqGuard, hv])
        · simp at h
    · rename_i bx by'
      have vx := VOK_bool ex
      have vy := VOK_bool ey
      split at h
      · rename_i htb
        have hT := htt _ _ htb
        simp only [TyOK] at hT
        have hu := equal_bool hT.1 bx by'
        refine wp_plain (f := fun v => σ.putK c o.dst v k) (s := binOp op t (.bool bx) (.bool by')) rfl ?_ (fun w v hv => by simp [execOp, ho, vx, vy, eqGuard, hv])
        cases op <;> simp only [binBool] at h
        case eql => exact Plain.bool h (fun w => by simp only [binOp, Sem.run_bind, hu, Result.andThen_ok, Sem.run_pure])
        case neq => exact Plain.bool h (fun w => by simp only [binOp, Sem.run_bind, hu, Result.andThen_ok, Sem.run_pure])
        all_goals simp at h
      · simp at h
    · split at h
      · rename_i ta tb htab
        exact hS ax ay hx hy ta tb htab h
      · simp at h
  · simp at h

theorem op_unOp {op : UnOp} {t : TypeId} {x : Operand} (ho : o.op = .unOp op t x) (hst : StOK c.ntmps g w a σ) (h : opK0 c σ base o k = some r) : Yield P o a w g σ c k r := by
  simp only [opK0, ho] at h
  split at h
  · rename_i ax hx
    have ex := (ev_ok hst hx).1
    unfold unK at h
    split at h
    · have vx := VOK_bool ex
      exact wp_plain rfl (Plain.bool (s := Op.unary .not (a.eval x)) h (fun _ => by simp [vx, Op.unary])) (fun w v hv => by simp [execOp, ho, hv])
    · rename_i kx nx
      obtain ⟨vx, bx⟩ := VOK_int ex
      exact wp_plain rfl (Plain.int (s := Op.unary .neg (a.eval x)) h (fun _ => by simp [vx, Op.unary, Op.intArith]) (wrap_has _ _)) (fun w v hv => by simp [execOp, ho, hv])
    · rename_i kx nx
      obtain ⟨vx, bx⟩ := VOK_int ex
      exact wp_plain rfl (Plain.int (s := Op.unary .xor (a.eval x)) h (fun _ => by simp [vx, Op.unary, Op.intBits]) (wrap_has _ _)) (fun w v hv => by simp [execOp, ho, hv])
    · simp at h
  · simp at h

theorem tupleAt_ok {objs : Objs} : {ac : AVal} → {vs : List Value} → {i : Nat} → {av : AVal} → VsOK w g objs ac vs → tupleAt ac i = some av →
    ∃ v, vs[i]? = some v ∧ VOK w g objs av v ∧ ∀ m, m ∉ ac.ids → m ∉ av.ids
  | .pr x y, vs, 0, av, h, ht => by
    simp only [VsOK] at h
    obtain ⟨v, rest, rfl, h1, h2⟩ := h
    simp only [tupleAt, Option.some.injEq] at ht
    subst ht
    exact ⟨v, rfl, h1, fun m hm => by simp [AVal.ids] at hm; exact hm.1⟩
  | .pr x y, vs, i + 1, av, h, ht => by
    simp only [VsOK] at h
    obtain ⟨v, rest, rfl, h1, h2⟩ := h
    simp only [tupleAt] at ht
    obtain ⟨v', hv', h3, h4⟩ := tupleAt_ok h2 ht
    exact ⟨v', by simpa using hv', h3, fun m hm => h4 m (by simp [AVal.ids] at hm; exact hm.2)⟩
  | .un, _, _, _, _, ht => by simp [tupleAt] at ht
  | .data _ _, _, _, _, _, ht => by simp [tupleAt] at ht
  | .nilS, _, _, _, _, ht => by simp [tupleAt] at ht
  | .ref _ _ _, _, _, _, _, ht => by simp [tupleAt] at ht
  | .view _ _ _ _ _, _, _, _, _, ht => by simp [tupleAt] at ht
  | .bptr _ _, _, _, _, _, ht => by simp [tupleAt] at ht
  | .eptr _ _ _, _, _, _, _, ht => by simp [tupleAt] at ht
  | .mref _, _, _, _, _, ht => by simp [tupleAt] at ht
  | .nv _ _ _ _, _, _, _, _, ht => by simp [tupleAt] at ht
  | .clos _ _, _, _, _, _, ht => by simp [tupleAt] at ht
  | .agg _, _, _, _, _, ht => by simp [tupleAt] at ht
  | .tup _, _, _, _, _, ht => by simp [tupleAt] at ht

theorem op_extract {x : Operand} {i : Nat} (ho : o.op = .extract x i) (hst : StOK c.ntmps g w a σ) (h : opK0 c σ base o k = some r) : Yield P o a w g σ c k r := by
  simp only [opK0, ho] at h
  split at h
  · rename_i ac hx
    obtain ⟨ex, ef⟩ := ev_ok hst hx
    simp only [VOK] at ex
    obtain ⟨vs, hv, hvs⟩ := ex
    split at h
    · rename_i av hav
      obtain ⟨v, h1, h2, h3⟩ := tupleAt_ok hvs hav
      refine yld (v := v) ?_ h2 (fun m hm => h3 m (by have := ef m hm; simpa [AVal.ids] using this)) h
      intro w' _
      simp [execOp, ho, hv, Instr.extract, h1]
    · simp at h
  · simp at h

theorem allPtr_cells {objs : Objs} : {ac : AVal} → {vs : List Value} → allPtr ac = true → VsOK w g objs ac vs → AOK w g objs ac vs
  | .un, vs, _, h => by simp only [VsOK] at h; exact h
  | .pr (.bptr id p) y, vs, hp, h => by
    simp only [VsOK] at h
    obtain ⟨v, rest, rfl, h1, h2⟩ := h
    simp only [VOK] at h1
    obtain ⟨cs, h1, hv⟩ := h1
    have h1' := h1
    obtain ⟨x, rfl, _⟩ := h1
    have hv' : v = x := hv
    subst hv'
    exact ⟨[v], rest, rfl, h1', allPtr_cells (by simpa [allPtr] using hp) h2⟩
  | .pr (.data (.ptr t) d) y, vs, hp, h => by
    simp only [VsOK] at h
    obtain ⟨v, rest, rfl, h1, h2⟩ := h
    simp only [VOK] at h1
    obtain ⟨cs, h1, hv⟩ := h1
    have h1' := h1
    obtain ⟨_, b, off, c, e, fz, rfl, _⟩ := h1
    have hv' : v = .pointer (some ⟨b, off, none⟩) := hv
    subst hv'
    exact ⟨_, rest, rfl, h1', allPtr_cells (by simpa [allPtr] using hp) h2⟩
  | .data _ _, _, hp, _ => by simp [allPtr] at hp
  | .nilS, _, hp, _ => by simp [allPtr] at hp
  | .ref _ _ _, _, hp, _ => by simp [allPtr] at hp
  | .view _ _ _ _ _, _, hp, _ => by simp [allPtr] at hp
  | .bptr _ _, _, hp, _ => by simp [allPtr] at hp
  | .eptr _ _ _, _, hp, _ => by simp [allPtr] at hp
  | .mref _, _, hp, _ => by simp [allPtr] at hp
  | .nv _ _ _ _, _, hp, _ => by simp [allPtr] at hp
  | .clos _ _, _, hp, _ => by simp [allPtr] at hp
  | .agg _, _, hp, _ => by simp [allPtr] at hp
  | .tup _, _, hp, _ => by simp [allPtr] at hp
  | .pr (.data (.int _) _) _, _, hp, _ => by simp [allPtr] at hp
  | .pr (.data .bool _) _, _, hp, _ => by simp [allPtr] at hp
  | .pr (.data .str _) _, _, hp, _ => by simp [allPtr] at hp
  | .pr (.data .unit _) _, _, hp, _ => by simp [allPtr] at hp
  | .pr (.data (.pair _ _) _) _, _, hp, _ => by simp [allPtr] at hp
  | .pr (.data (.arr _ _) _) _, _, hp, _ => by simp [allPtr] at hp
  | .pr (.data (.sl _ _) _) _, _, hp, _ => by simp [allPtr] at hp
  | .pr (.data (.fn _ _) _) _, _, hp, _ => by simp [allPtr] at hp
  | .pr .nilS _, _, hp, _ => by simp [allPtr] at hp
  | .pr (.ref _ _ _) _, _, hp, _ => by simp [allPtr] at hp
  | .pr (.view _ _ _ _ _) _, _, hp, _ => by simp [allPtr] at hp
  | .pr (.eptr _ _ _) _, _, hp, _ => by simp [allPtr] at hp
  | .pr (.mref _) _, _, hp, _ => by simp [allPtr] at hp
  | .pr (.nv _ _ _ _) _, _, hp, _ => by simp [allPtr] at hp
  | .pr (.clos _ _) _, _, hp, _ => by simp [allPtr] at hp
  | .pr (.agg _) _, _, hp, _ => by simp [allPtr] at hp
  | .pr (.tup _) _, _, hp, _ => by simp [allPtr] at hp
  | .pr (.pr _ _) _, _, hp, _ => by simp [allPtr] at hp
  | .pr .un _, _, hp, _ => by simp [allPtr] at hp

theorem op_makeFunc {f : FuncId} {first cap : Array Operand} (ho : o.op = .makeFunc (.func f) first cap) (hst : StOK c.ntmps g w a σ) (h : opK0 c σ base o k = some r) : Yield P o a w g σ c k r := by
  simp only [opK0, ho] at h
  split at h
  · rename_i hfirst
    split at h
    · rename_i ac hac
      obtain ⟨ex, ef⟩ := evs_ok hst hac
      cases hp : allPtr ac with
      | false => rw [hp] at h; simp at h
      | true =>
        rw [hp] at h
        have hcells := allPtr_cells hp ex
        have hf0 : first = #[] := by
          apply Array.toList_inj.1; simpa using hfirst
        refine yld (v := .func (.func f) #[] (cap.toList.map a.eval).toArray) ?_ ?_ (fun m hm => by simpa [AVal.ids] using ef m hm) h
        · intro w' _; simp [execOp, ho, Instr.makeFunc, hf0, ← List.map_toArray]
        · simp only [VOK]
          exact ⟨_, ⟨_, rfl, hcells⟩, rfl⟩
    · simp at h
  · simp at h

theorem VOK_ptr {objs : Objs} {av : AVal} {v : Value} (hp : isPtr av = true) (h : VOK w g objs av v) :
    (∃ t d b off c e fz, av = .data (.ptr t) d ∧ v = .pointer (some ⟨b, off, none⟩) ∧ t.isRo = true ∧ g.tag b = .ro ∧ w.heap[b]? = some (.cells c e fz) ∧ off + t.size ≤ c.size ∧ Rep w g none t d (seg c.toList off t.size)) ∨
    (∃ id p, av = .bptr id p ∧ ∀ x, objs id = some (.cell x) → ∃ off s, x.sk.off p = some (off, s) ∧ v = .pointer (some ⟨g.blk id, off, none⟩)) ∨
    (∃ id p ep, av = .eptr id p ep ∧ ∀ t l e, objs id = some (.row t l e) → ep ≤ e ∧ (e = ep → p ≠ [] ∧ ∃ b off, place g id (.sl true t) [] 0 0 p = some (b, off) ∧ v = .pointer (some ⟨b, off, none⟩))) := by
  cases av with
  | bptr id p =>
    simp only [VOK] at h
    obtain ⟨cs, ⟨x, rfl, _, hx⟩, hv⟩ := h
    have hv' : v = x := hv
    subst hv'
    exact .inr (.inl ⟨id, p, rfl, hx⟩)
  | eptr id p ep =>
    simp only [VOK] at h
    obtain ⟨cs, ⟨x, rfl, _, hx⟩, hv⟩ := h
    have hv' : v = x := hv
    subst hv'
    exact .inr (.inr ⟨id, p, ep, rfl, hx⟩)
  | data t d =>
    cases t with
    | ptr t =>
      simp only [VOK] at h
      obtain ⟨cs, ⟨hro, b, off, c, e, fz, rfl, h1, h2, h3, h4⟩, hv⟩ := h
      exact .inl ⟨t, d, b, off, c, e, fz, rfl, hv, by simpa [Ty.isRo] using hro, h1, h2, h3, h4⟩
    | _ => simp [isPtr] at hp
  | _ => simp [isPtr] at hp

/-- Every pointer that is known to hold leads somewhere. -/
theorem op_nilCheck {x : Operand} (ho : o.op = .nilCheck x) (hst : StOK c.ntmps g w a σ) (h : opK0 c σ base o k = some r) : Yield P o a w g σ c k r := by
  simp only [opK0, ho] at h
  split at h
  · rename_i av hav
    obtain ⟨ex, ef⟩ := ev_ok hst hav
    cases hp : holds σ av with
    | false => rw [hp] at h; simp at h
    | true =>
      rw [hp] at h
      simp only [cond_true] at h
      have hv : ∃ ad, a.eval x = .pointer (some ad) := by
        unfold holds at hp
        split at hp
        · rcases VOK_ptr rfl ex with ⟨t, d, b, off, cc, e, fz, h1, h2, _⟩ | ⟨_, _, h1, _⟩ | ⟨_, _, _, h1, _⟩
          · exact ⟨_, h2⟩
          · simp at h1
          · simp at h1
        · rcases VOK_ptr rfl ex with ⟨t, d, b, off, cc, e, fz, h1, h2, _⟩ | ⟨_, _, h1, h2⟩ | ⟨_, _, _, h1, _⟩
          · simp at h1
          · simp only [AVal.bptr.injEq] at h1
            obtain ⟨rfl, rfl⟩ := h1
            split at hp
            · rename_i xx hxx
              obtain ⟨off, s, _, hv⟩ := h2 _ hxx
              exact ⟨_, hv⟩
            · simp at hp
          · simp at h1
        · rcases VOK_ptr rfl ex with ⟨t, d, b, off, cc, e, fz, h1, h2, _⟩ | ⟨_, _, h1, h2⟩ | ⟨_, _, _, h1, h2⟩
          · simp at h1
          · simp at h1
          · simp only [AVal.eptr.injEq] at h1
            obtain ⟨rfl, rfl, rfl⟩ := h1
            split at hp
            · rename_i t l e hxx
              obtain ⟨_, h3⟩ := h2 _ _ _ hxx
              obtain ⟨_, b, off, _, hv⟩ := h3 (Nat.eq_of_beq_eq_true hp)
              exact ⟨_, hv⟩
            · simp at hp
        · simp only [VOK] at ex
          obtain ⟨cs, ⟨y, rfl, _, hx⟩, hv⟩ := ex
          split at hp
          · rename_i t l e i hxx
            obtain ⟨_, h3⟩ := hx _ _ _ _ _ hxx
            obtain ⟨_, b, off, _, hv2⟩ := (h3 (Nat.eq_of_beq_eq_true hp)).2 rfl
            exact ⟨_, hv.trans hv2⟩
          · simp at hp
        · simp at hp
      obtain ⟨ad, hv⟩ := hv
      exact yld (v := a.eval x) (fun _ _ => by simp [execOp, ho, hv]) ex ef h
  · simp at h

theorem foldInts_ok {objs : Objs} {gf : Int → Int → Int} {b2 : Value → Value → Sem Value} {kd : IntKind} (hb : ∀ w x y, (b2 (.int kd x) (.int kd y)).run P w = .ok (.int kd (gf x y)) w)
    (hg : ∀ x y, gf x y = x ∨ gf x y = y) : {ac : AVal} → {vs : List Value} → {x : Int} → {f : Int → Option R} → VsOK w g objs ac vs → kd.min ≤ x ∧ x ≤ kd.max → foldInts gf kd x ac f = some r →
    ∃ z, f z = some r ∧ kd.min ≤ z ∧ z ≤ kd.max ∧ ∀ w, (vs.foldlM b2 (.int kd x)).run P w = .ok (.int kd z) w
  | .un, vs, x, f, hv, hx, h => by
    simp only [VsOK] at hv
    subst hv
    exact ⟨x, h, hx.1, hx.2, fun _ => by simp [List.foldlM]⟩
  | .pr (.data (.int j) y) ac, vs, x, f, hv, hx, h => by
    simp only [VsOK] at hv
    obtain ⟨v, rest, rfl, h1, h2⟩ := hv
    obtain ⟨rfl, hy⟩ := VOK_int h1
    simp only [foldInts] at h
    split at h
    · rename_i hk _
      subst hk
      have hz : kd.min ≤ gf x y ∧ gf x y ≤ kd.max := by
        rcases hg x y with e | e <;> rw [e]
        · exact hx
        · exact hy
      obtain ⟨z, hf, z1, z2, hrun⟩ := foldInts_ok hb hg h2 hz h
      refine ⟨z, hf, z1, z2, fun w => ?_⟩
      simp only [List.foldlM_cons, Sem.run_bind, hb, Result.andThen_ok]
      exact hrun w
    · simp at h
  | .data _ _, _, _, _, _, _, h => by simp [foldInts] at h
  | .nilS, _, _, _, _, _, h => by simp [foldInts] at h
  | .ref _ _ _, _, _, _, _, _, h => by simp [foldInts] at h
  | .view _ _ _ _ _, _, _, _, _, _, h => by simp [foldInts] at h
  | .bptr _ _, _, _, _, _, _, h => by simp [foldInts] at h
  | .eptr _ _ _, _, _, _, _, _, h => by simp [foldInts] at h
  | .mref _, _, _, _, _, _, h => by simp [foldInts] at h
  | .nv _ _ _ _, _, _, _, _, _, h => by simp [foldInts] at h
  | .clos _ _, _, _, _, _, _, h => by simp [foldInts] at h
  | .agg _, _, _, _, _, _, h => by simp [foldInts] at h
  | .tup _, _, _, _, _, _, h => by simp [foldInts] at h
  | .pr (.data .bool _) _, _, _, _, _, _, h => by simp [foldInts] at h
  | .pr (.data .str _) _, _, _, _, _, _, h => by simp [foldInts] at h
  | .pr (.data .unit _) _, _, _, _, _, _, h => by simp [foldInts] at h
  | .pr (.data (.pair _ _) _) _, _, _, _, _, _, h => by simp [foldInts] at h
  | .pr (.data (.arr _ _) _) _, _, _, _, _, _, h => by simp [foldInts] at h
  | .pr (.data (.sl _ _) _) _, _, _, _, _, _, h => by simp [foldInts] at h
  | .pr (.data (.ptr _) _) _, _, _, _, _, _, h => by simp [foldInts] at h
  | .pr (.data (.fn _ _) _) _, _, _, _, _, _, h => by simp [foldInts] at h
  | .pr .nilS _, _, _, _, _, _, h => by simp [foldInts] at h
  | .pr (.ref _ _ _) _, _, _, _, _, _, h => by simp [foldInts] at h
  | .pr (.view _ _ _ _ _) _, _, _, _, _, _, h => by simp [foldInts] at h
  | .pr (.bptr _ _) _, _, _, _, _, _, h => by simp [foldInts] at h
  | .pr (.eptr _ _ _) _, _, _, _, _, _, h => by simp [foldInts] at h
  | .pr (.mref _) _, _, _, _, _, _, h => by simp [foldInts] at h
  | .pr (.nv _ _ _ _) _, _, _, _, _, _, h => by simp [foldInts] at h
  | .pr (.clos _ _) _, _, _, _, _, _, h => by simp [foldInts] at h
  | .pr (.agg _) _, _, _, _, _, _, h => by simp [foldInts] at h
  | .pr (.tup _) _, _, _, _, _, _, h => by simp [foldInts] at h
  | .pr (.pr _ _) _, _, _, _, _, _, h => by simp [foldInts] at h
  | .pr .un _, _, _, _, _, _, h => by simp [foldInts] at h

theorem op_max {args : Array Operand} {ts : Array TypeId} (ho : o.op = .call { callee := .builtin .max, args := args, argTypes := ts }) (hst : StOK c.ntmps g w a σ) (h : opK0 c σ base o k = some r) : Yield P o a w g σ c k r := by
  simp only [opK0, ho] at h
  split at h
  · rename_i kd x ac hx
    obtain ⟨ex, _⟩ := evs_ok hst hx
    simp only [VsOK] at ex
    obtain ⟨v, rest, hvs, h1, h2⟩ := ex
    obtain ⟨rfl, hb⟩ := VOK_int h1
    obtain ⟨z, hz, z1, z2, hrun⟩ := foldInts_ok (P := P) (b2 := Builtin.max2) (fun w x y => by simp [Builtin.max2, maxI]) (fun x y => by unfold maxI; split <;> simp) h2 hb h
    refine yld (v := .int kd z) ?_ (VOK_int_mk ⟨z1, z2⟩) (fun m _ => by simp [AVal.ids]) hz
    intro w' _
    have e : (args.map a.eval).toList = .int kd x :: rest := by rw [Array.toList_map]; exact hvs
    simp only [execOp, ho, resolve, Sem.run_bind, Sem.run_pure, Result.andThen_ok, invoke, builtin, Builtin.max_, e, hrun]
  · simp at h

theorem op_min {args : Array Operand} {ts : Array TypeId} (ho : o.op = .call { callee := .builtin .min, args := args, argTypes := ts }) (hst : StOK c.ntmps g w a σ) (h : opK0 c σ base o k = some r) : Yield P o a w g σ c k r := by
  simp only [opK0, ho] at h
  split at h
  · rename_i kd x ac hx
    obtain ⟨ex, _⟩ := evs_ok hst hx
    simp only [VsOK] at ex
    obtain ⟨v, rest, hvs, h1, h2⟩ := ex
    obtain ⟨rfl, hb⟩ := VOK_int h1
    obtain ⟨z, hz, z1, z2, hrun⟩ := foldInts_ok (P := P) (b2 := Builtin.min2) (fun w x y => by simp [Builtin.min2, minI]) (fun x y => by unfold minI; split <;> simp) h2 hb h
    refine yld (v := .int kd z) ?_ (VOK_int_mk ⟨z1, z2⟩) (fun m _ => by simp [AVal.ids]) hz
    intro w' _
    have e : (args.map a.eval).toList = .int kd x :: rest := by rw [Array.toList_map]; exact hvs
    simp only [execOp, ho, resolve, Sem.run_bind, Sem.run_pure, Result.andThen_ok, invoke, builtin, Builtin.min_, e, hrun]
  · simp at h

end
end Go.Kz
