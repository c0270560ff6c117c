/-
  Fields, loads.
-/
import Derived.Test.YtakifbcgkbfclaaKzM
set_option linter.unusedVariables false
set_option linter.unusedSimpArgs false
namespace Go.Kz
variable {R : Type}

section
variable {P : Program} {o : Oper} {a : Act} {w : World} {K : Act → World → Prop} {Q : Exit → Act → World → Prop} {c : Ctx} {σ : St} {g : Ghost} {k : St → Option R} {r : R} {base : Nat}

theorem op_field (htt : TtOK P c.tt) {t : TypeId} {x : Operand} {i : Nat} (ho : o.op = .fieldAddr t x i) (hst : StOK c.ntmps g w a σ) (h : opK0 c σ base o k = some r) : Yield P o a w g σ c k r := by
  simp only [opK0, ho] at h
  split at h
  · rename_i av u hx hu
    have hT := htt _ _ hu
    obtain ⟨ex, ef⟩ := ev_ok hst hx
    unfold fieldK at h
    split at h
    · rename_i t' d
      cases hs : t'.sk.same u.sk with
      | false => rw [hs] at h; simp at h
      | true =>
        rw [hs] at h
        simp only [cond_true] at h
        have hsk := Sk.same_eq hs
        simp only [VOK] at ex
        obtain ⟨cs, ⟨hro, b, off, cc, e, fz, rfl, htag, hcell, hsz, hrep⟩, hv⟩ := ex
        have hv' : a.eval x = .pointer (some ⟨b, off, none⟩) := hv
        have hro' : t'.isRo = true := by simpa [Ty.isRo] using hro
        have hty := tyAt_sk hsk (getK_tyAt hro' h)
        obtain ⟨u2, e2, o2, hk, hu2, ho2, hr2⟩ := getK_rep hro' hrep h
        obtain ⟨o3, s3, ho3, hrun⟩ := run_fieldAt hT hty b off
        rw [← hsk, ho2] at ho3
        simp only [Option.some.injEq, Prod.mk.injEq] at ho3
        obtain ⟨rfl, _⟩ := ho3
        have hle := Sk.off_le ho2
        rw [Ty.sk_size, Ty.sk_size] at hle
        refine yld (v := .pointer (some ⟨b, off + o2, none⟩)) ?_ ?_ (fun m _ => by simp [AVal.ids]) hk
        · intro w' _; simp [execOp, ho, hv', hrun]
        · simp only [VOK]
          refine ⟨_, ⟨by simpa [Ty.isRo] using hu2, b, off + o2, cc, e, fz, rfl, htag, hcell, by omega, ?_⟩, rfl⟩
          rw [seg_seg _ _ _ _ _ hle] at hr2
          exact hr2
    · rename_i id p
      obtain ⟨xc, x', off, cc, e, hobj, h2, hoff, hcell, htag, hle, hall, hpart, hidsx⟩ := bfetch_ok hst.heap h
      cases hs : (x'.sk.same u.sk && (tyAt u (fieldPath i)).isSome) with
      | false => rw [hs] at h2; simp at h2
      | true =>
        rw [hs] at h2
        simp only [cond_true] at h2
        simp only [Bool.and_eq_true] at hs
        have hsk := Sk.same_eq hs.1
        simp only [VOK] at ex
        obtain ⟨cs, ⟨v, rfl, hone, hv⟩, hv'⟩ := ex
        obtain ⟨off', s, hoff', hvv⟩ := hv _ hobj
        rw [hoff] at hoff'
        simp only [Option.some.injEq, Prod.mk.injEq] at hoff'
        obtain ⟨rfl, _⟩ := hoff'
        have hv2 : a.eval x = .pointer (some ⟨g.blk id, off, none⟩) := by rw [hv']; exact hvv
        obtain ⟨o3, s3, ho3, hrun⟩ := run_fieldAt hT hs.2 (g.blk id) off
        refine yld (v := .pointer (some ⟨g.blk id, off + o3, none⟩)) ?_ ?_ (fun m hm => by have := ef m hm; simpa [AVal.ids] using this) h2
        · intro w' _; simp [execOp, ho, hv2, hrun]
        · simp only [VOK]
          refine ⟨_, ⟨_, rfl, rfl, fun x1 hobj' => ?_⟩, rfl⟩
          rw [hobj] at hobj'
          simp only [Option.some.injEq, Obj.cell.injEq] at hobj'
          subst hobj'
          rw [Sk.off_append _ hoff, hsk, ho3]
          exact ⟨_, _, rfl, rfl⟩
    · rename_i id p ep
      split at h
      · simp at h
      · rename_i s q
        obtain ⟨t0, l0, ho0⟩ := efetch_obj h
        simp only [VOK] at ex
        obtain ⟨cs, ⟨v, rfl, hone, hv⟩, hv'⟩ := ex
        obtain ⟨hp, b0, off0, hpl, hvv⟩ := (hv _ _ _ ho0).2 rfl
        obtain ⟨t1, l1, u1, e1, b, off, cc, ee, ho1, hro, hk, hu1, hpl2, hty, htag, hcell, hsz, hrep⟩ := efetch_ok hst.heap hp h
        rw [ho0] at ho1
        simp only [Option.some.injEq, Obj.row.injEq] at ho1
        obtain ⟨rfl, _, _⟩ := ho1
        rw [hpl] at hpl2
        simp only [Option.some.injEq, Prod.mk.injEq] at hpl2
        obtain ⟨rfl, rfl⟩ := hpl2
        cases hs : (u1.sk.same u.sk && (tyAt u (fieldPath i)).isSome) with
        | false => rw [hs] at hk; simp at hk
        | true =>
          rw [hs] at hk
          simp only [cond_true] at hk
          simp only [Bool.and_eq_true] at hs
          have hsk := Sk.same_eq hs.1
          have hv2 : a.eval x = .pointer (some ⟨b0, off0, none⟩) := by rw [hv']; exact hvv
          obtain ⟨o3, s3, ho3, hrun⟩ := run_fieldAt hT hs.2 b0 off0
          refine yld (v := .pointer (some ⟨b0, off0 + o3, none⟩)) ?_ ?_ (fun m hm => by have := ef m hm; simpa [AVal.ids] using this) hk
          · intro w' _; simp [execOp, ho, hv2, hrun]
          · simp only [VOK]
            refine ⟨_, ⟨_, rfl, rfl, fun t2 l2 e2 hobj' => ?_⟩, rfl⟩
            rw [ho0] at hobj'
            simp only [Option.some.injEq, Obj.row.injEq] at hobj'
            obtain ⟨rfl, _, rfl⟩ := hobj'
            refine ⟨Nat.le_refl _, fun _ => ⟨by simp, b0, off0 + o3, ?_, rfl⟩⟩
            exact place_append hpl hty (by rw [hsk]; exact ho3)
    · -- an element of a row of rows
      rename_i id p ep
      obtain ⟨t1, l1, e1, i1, hobj, hep, hrep, hk⟩ := nfetch_ok hst.heap h
      simp only [VOK] at ex
      obtain ⟨cs, ⟨v, rfl, hone, hv⟩, hv'⟩ := ex
      obtain ⟨hp, b0, off0, hpl, hvv⟩ := ((hv _ _ _ _ _ hobj).2 hep).2 rfl
      cases p with
      | nil => exact absurd rfl hp
      | cons s q =>
        obtain ⟨u1, x1, bh, oh, ch, eh, ph, hk, hpl2, hty, _, htag, hcell, hsz, hr⟩ := nest_get hrep hk
        cases hs : (u1.sk.same u.sk && (tyAt u (fieldPath i)).isSome) with
        | false => rw [hs] at hk; simp at hk
        | true =>
          rw [hs] at hk
          simp only [cond_true] at hk
          simp only [Bool.and_eq_true] at hs
          have hsk := Sk.same_eq hs.1
          have hv2 : a.eval x = .pointer (some ⟨b0, off0, none⟩) := by rw [hv']; exact hvv
          obtain ⟨o3, s3, ho3, hrun⟩ := run_fieldAt hT hs.2 b0 off0
          refine yld (v := .pointer (some ⟨b0, off0 + o3, none⟩)) ?_ ?_ (fun m hm => by have := ef m hm; simpa [AVal.ids] using this) hk
          · intro w' _; simp [execOp, ho, hv2, hrun]
          · simp only [VOK]
            refine ⟨_, ⟨_, rfl, rfl, fun t2 l2 e2 i2 h2 hobj' => ?_⟩, rfl⟩
            rw [hobj] at hobj'
            simp only [Option.some.injEq, Obj.nest.injEq] at hobj'
            obtain ⟨rfl, _, rfl, rfl, _⟩ := hobj'
            have hi1 : i1 = ep := hep
            refine ⟨Nat.le_of_eq hi1.symm, fun _ => ⟨fun h => (by simp at h), fun _ => ⟨by simp, b0, off0 + o3, ?_, rfl⟩⟩⟩
            exact place_append hpl hty (by rw [hsk]; exact ho3)
    · simp at h
  · simp at h

theorem run_isAgg {T : TypeId} {u : Ty} (hT : TyOK P u T) (w : World) : (isAgg T).run P w = .ok u.sk.isAgg w := by
  unfold isAgg
  rw [Sem.run_bind]
  cases u with
  | int _ => simp only [TyOK] at hT; rw [run_underlying hT.1]; rfl
  | bool => simp only [TyOK] at hT; rw [run_underlying hT.1]; rfl
  | str => simp only [TyOK] at hT; rw [run_underlying hT.1]; rfl
  | unit => simp only [TyOK] at hT
  | pair x y => simp only [TyOK] at hT; obtain ⟨⟨fs, h, _⟩, _⟩ := hT; rw [run_underlying h]; rfl
  | arr n t => simp only [TyOK] at hT; obtain ⟨⟨E, h, _⟩, _⟩ := hT; rw [run_underlying h]; rfl
  | sl _ t => simp only [TyOK] at hT; obtain ⟨⟨E, h, _⟩, _⟩ := hT; rw [run_underlying h]; rfl
  | ptr _ => simp only [TyOK] at hT
  | fn _ _ => simp only [TyOK] at hT

theorem TyOK.size1 {T : TypeId} {u : Ty} (hT : TyOK P u T) (h : u.sk.isAgg = false) : u.size = 1 := by
  cases u <;> simp [Ty.sk, Sk.isAgg] at h <;> simp [Ty.size]

theorem run_loadVar {T : TypeId} {u : Ty} (hT : TyOK P u T) {b off : Nat} {cc : Array Value} {e : TypeId} {fz : Nat × Nat} (hc : w.heap[b]? = some (.cells cc e fz)) (hs : off + u.size ≤ cc.size) :
    (loadVar T ⟨b, off, none⟩).run P w = .ok (mkV u.sk.isAgg (seg cc.toList off u.size)) w := by
  have hag := run_isAgg hT w
  have hlen : (seg cc.toList off u.size).length = u.size := seg_length (by rw [Array.length_toList]; exact hs)
  unfold loadVar
  rw [Sem.run_bind, hag]
  cases hu : u.sk.isAgg with
  | true =>
    have hl := run_loadCells_list (P := P) w ⟨b, off, none⟩ (seg cc.toList off u.size) (fun j v hv => by
      rw [Addr.add_lit, cell_of_row w b (off + j) cc e fz hc]
      simp only [seg, List.getElem?_take, List.getElem?_drop] at hv
      split at hv
      · simpa using hv
      · simp at hv)
    rw [hlen] at hl
    have hsz := hT.info.sizeOf w
    simp [hl, hsz, mkV]
  | false =>
    have h1 := hT.size1 hu
    rw [h1] at hs
    have hcell : w.cell? ⟨b, off, none⟩ = some cc[off] := by
      rw [cell_of_row w b off cc e fz hc]; simp [show off < cc.size by omega]
    have hseg : seg cc.toList off u.size = [cc[off]] := by
      rw [h1]
      simp only [seg]
      rw [List.drop_eq_getElem_cons (by rw [Array.length_toList]; omega)]
      simp
    simp [load, Sem.run, hcell, hseg, mkV]

theorem val_isAgg {av : AVal} (h : av.val = true) : av.isAgg = av.sk.isAgg ∧ (∀ x y, av ≠ .pr x y) ∧ av ≠ .un ∧ ∀ x, av ≠ .tup x := by
  cases av with
  | agg x => cases x <;> simp [AVal.val] at h <;> simp [AVal.isAgg, AVal.sk, Sk.isAgg]
  | data t d => simp [AVal.isAgg, AVal.sk]
  | pr => simp [AVal.val] at h
  | un => simp [AVal.val] at h
  | tup => simp [AVal.val] at h
  | _ => simp [AVal.isAgg, AVal.sk, Sk.isAgg]

theorem op_load (htt : TtOK P c.tt) {t : TypeId} {x : Operand} (ho : o.op = .load t x) (hst : StOK c.ntmps g w a σ) (h : opK0 c σ base o k = some r) : Yield P o a w g σ c k r := by
  simp only [opK0, ho] at h
  split at h
  · rename_i av u hx hu
    have hT := htt _ _ hu
    obtain ⟨ex, ef⟩ := ev_ok hst hx
    -- what is loaded
    have key : ∃ lv b off cc e fz, a.eval x = .pointer (some ⟨b, off, none⟩) ∧ w.heap[b]? = some (.cells cc e fz) ∧ off + lv.sk.size ≤ cc.size ∧
        AOK w g σ.objs lv (seg cc.toList off lv.sk.size) ∧ (∀ m, Fresh g σ m → m ∉ lv.ids) ∧ cond (lv.val && u.sk.same lv.sk) (σ.putK c o.dst lv k) none = some r := by
      unfold loadK at h
      split at h
      · rename_i t' d
        simp only [VOK] at ex
        obtain ⟨cs, ⟨hro, b, off, cc, e, fz, rfl, htag, hcell, hsz, hrep⟩, hv⟩ := ex
        exact ⟨.data t' d, b, off, cc, e, fz, hv, hcell, by simpa [AVal.sk, Ty.sk_size] using hsz, ⟨by simpa [Ty.isRo] using hro, by simpa [AVal.sk, Ty.sk_size] using hrep⟩, fun m _ => by simp [AVal.ids], h⟩
      · rename_i id p ep
        split at h
        · simp at h
        · rename_i s q
          obtain ⟨t0, l0, ho0⟩ := efetch_obj h
          simp only [VOK] at ex
          obtain ⟨cs, ⟨v, rfl, hone, hv⟩, hv'⟩ := ex
          obtain ⟨hp, b0, off0, hpl, hvv⟩ := (hv _ _ _ ho0).2 rfl
          obtain ⟨t1, l1, u1, e1, b, off, cc, ee, ho1, hro, hk, hu1, hpl2, hty, htag, hcell, hsz, hrep⟩ := efetch_ok hst.heap hp h
          rw [ho0] at ho1
          simp only [Option.some.injEq, Obj.row.injEq] at ho1
          obtain ⟨rfl, _, _⟩ := ho1
          rw [hpl] at hpl2
          simp only [Option.some.injEq, Prod.mk.injEq] at hpl2
          obtain ⟨rfl, rfl⟩ := hpl2
          exact ⟨.data u1 e1, b0, off0, cc, ee, (0, 0), by rw [hv']; exact hvv, hcell, by simpa [AVal.sk, Ty.sk_size] using hsz, ⟨hu1, by simpa [AVal.sk, Ty.sk_size] using hrep⟩, fun m _ => by simp [AVal.ids], hk⟩
      · rename_i id p
        obtain ⟨xc, y, off, cc, e, hobj, h2, hoff, hcell, htag, hle, hall, hpart, hi⟩ := bfetch_ok hst.heap h
        simp only [VOK] at ex
        obtain ⟨cs, ⟨v, rfl, hone, hv⟩, hv'⟩ := ex
        obtain ⟨off', s, hoff', hvv⟩ := hv _ hobj
        rw [hoff] at hoff'
        simp only [Option.some.injEq, Prod.mk.injEq] at hoff'
        obtain ⟨rfl, _⟩ := hoff'
        exact ⟨y, g.blk id, off, cc, e, (0, 0), by rw [hv']; exact hvv, hcell, hle, hpart, fun m hm => hi m (hm.cells _ _ hobj), h2⟩
      · rename_i id p ep
        obtain ⟨t1, l1, e1, i1, hobj, hep, hrep, hk⟩ := nfetch_ok hst.heap h
        simp only [VOK] at ex
        obtain ⟨cs, ⟨v, rfl, hone, hv⟩, hv'⟩ := ex
        obtain ⟨hp, b0, off0, hpl, hvv⟩ := ((hv _ _ _ _ _ hobj).2 hep).2 rfl
        cases p with
        | nil => exact absurd rfl hp
        | cons s q =>
          obtain ⟨u1, x1, bh, oh, ch, eh, ph, hk, hpl2, hty, _, htag, hcell, hsz, hr⟩ := nest_get hrep hk
          rw [hpl] at hpl2
          simp only [Option.some.injEq, Prod.mk.injEq] at hpl2
          obtain ⟨rfl, rfl⟩ := hpl2
          cases hro : u1.isRo with
          | true =>
            rw [hro] at hk
            exact ⟨.data u1 x1, b0, off0, ch, eh, (0, 0), by rw [hv']; exact hvv, hcell, by simpa [AVal.sk, Ty.sk_size] using hsz, ⟨hro, by simpa [AVal.sk, Ty.sk_size] using Rep.anyOwn (o' := none) hro hr⟩, fun m _ => by simp [AVal.ids], hk⟩
          | false =>
            rw [hro] at hk
            simp only [cond_false] at hk
            split at hk
            · rename_i v1
              obtain ⟨ad, cp, hcs, hsv, _⟩ := hr
              refine ⟨.nv false id (s :: q) ep, b0, off0, ch, eh, (0, 0), by rw [hv']; exact hvv, hcell, hsz, ⟨_, hcs, rfl, fun t2 l2 e2 i2 h2 hobj' => ?_⟩, fun m hm => by have := ef m hm; simpa [AVal.ids] using this, hk⟩
              rw [hobj] at hobj'
              simp only [Option.some.injEq, Obj.nest.injEq] at hobj'
              obtain ⟨rfl, _, rfl, rfl, _⟩ := hobj'
              have hi1 : i1 = ep := hep
              exact ⟨Nat.le_of_eq hi1.symm, fun _ => ⟨fun _ => hsv.symm, fun h => (by simp at h)⟩⟩
            · simp at hk
      · simp at h
    obtain ⟨lv, b, off, cc, e, fz, hv, hcell, hle, hok, hfr, hput⟩ := key
    cases hb : (lv.val && u.sk.same lv.sk) with
    | false => rw [hb] at hput; simp at hput
    | true =>
      rw [hb] at hput
      simp only [cond_true] at hput
      simp only [Bool.and_eq_true] at hb
      have hsk := Sk.same_eq hb.2
      obtain ⟨hag, hn1, hn2, hn3⟩ := val_isAgg hb.1
      have hsz : u.size = lv.sk.size := by rw [← hsk, Ty.sk_size]
      refine yld (v := mkV u.sk.isAgg (seg cc.toList off u.size)) ?_ ?_ hfr hput
      · intro w' hw'
        replace hw' := hw' (by simp [isP, ho])
        have hrun := run_loadVar (P := P) (w := w') hT ((hw' b (Array.getElem?_eq_some_iff.1 hcell).1).trans hcell) (by rw [hsz]; exact hle)
        simp [execOp, ho, hv, Instr.loadAt, Instr.sureAddr, hrun]
      · refine VOK_of_cells hok ?_ hn1 hn2
        rw [hag, ← hsk, hsz, hsk]
  · simp at h

end
end Go.Kz
