/-
  All operations together.
-/
import Derived.Test.YtakifbcgkbfclaaKzXC
set_option linter.unusedVariables false
set_option linter.unusedSimpArgs false
namespace Go.Kz
variable {R : Type}

structure CtxOK (P : Program) (c : Ctx) : Prop where
  tt : TtOK P c.tt
  mt : MtOK P c.mt
  eqs : EqsOK P c.eqs
  env : EnvOK P c.env

section
variable {P : Program} {o : Oper} {a : Act} {w : World} {K : Act → World → Prop} {Q : Exit → Act → World → Prop} {c : Ctx} {σ : St} {g : Ghost} {k : St → Option R} {r : R} {base : Nat} {mo : Bool}

theorem op_yield (hc : CtxOK P c) (hy : isY o = true) (hst : StOK c.ntmps g w a σ) (h : opK c σ base o k = some r) : Yield P o a w g σ c k r := by
  simp only [isY, Bool.and_eq_true, Bool.not_eq_true'] at hy
  obtain ⟨hj, hy⟩ := hy
  simp only [opK, hj, cond_false] at h
  cases ho : o.op with
  | move x => exact op_move (.inl ho) hst h
  | assign x => exact op_move (.inr ho) hst h
  | pick t x y => exact op_pick ho hst h
  | binOp op t x y t' => exact op_binOp' hc.tt hc.eqs ho hst h
  | unOp op t x => exact op_unOp ho hst h
  | indexAddr t x i => exact op_index hc.tt ho hst h
  | fieldAddr t x i => exact op_field hc.tt ho hst h
  | nilCheck x => exact op_nilCheck ho hst h
  | load t x => exact op_load hc.tt ho hst h
  | extract x i => exact op_extract ho hst h
  | lookup t x i ok => exact op_lookup hc.mt ho hst h
  | slice t x lo hi mx => cases mx with
    | none => exact op_slice hc.tt ho hst h
    | some mx => simp [isY0, ho] at hy
  | build t ps => exact op_build hc.tt ho hst h
  | index t x i => exact op_indexV hc.tt ho hst h
  | field t x i => exact op_fieldV hc.tt ho hst h
  | makeFunc f first cap =>
    cases f with
    | func f => exact op_makeFunc ho hst h
    | _ => simp [opK0, ho] at h
  | call cl =>
    obtain ⟨callee, args, ts⟩ := cl
    cases callee with
    | builtin b =>
      cases b with
      | len => exact op_len ho hc.tt hc.mt hst h
      | max => exact op_max ho hst h
      | min => exact op_min ho hst h
      | _ => simp [isY0, ho] at hy
    | _ => simp [isY0, ho] at hy
  | _ => simp [isY0, ho] at hy

theorem op_junk (hj : isJunk o = true) (hst : StOK c.ntmps g w a σ) (h : k (σ.unset o.dst) = some r) (hK : Post c.ntmps k r g w σ base (isM o) K) : o.wp P a w K Q := by
  have ho : o.op = .assign (.const .nilFunc) := by
    unfold isJunk at hj
    split at hj
    · assumption
    · simp at hj
  unfold Oper.wp
  have hrun : (execOp a.eval o).run P w = .ok (.value (a.eval (.const .nilFunc))) w := by simp [execOp, ho]
  rw [hrun, Oper.upon_value]
  refine hK _ g _ w h (hst.putU o.dst _) (Ext.refl _ _) (fun m _ hm => hm.unset o.dst) ?_ (fun _ => Agree.refl w)
  cases o.dst <;> rfl

theorem op_ok (hc : CtxOK P c) (hst : StOK c.ntmps g w a σ) (hfr : ∀ m, base ≤ m → m < base + 8 → Fresh g σ m) (h : opK c σ base o k = some r) (hK : Post c.ntmps k r g w σ base (isM o) K) : o.wp P a w K Q := by
  have hf : Fresh g σ base := hfr base (Nat.le_refl _) (by omega)
  cases hj : isJunk o with
  | true =>
    simp only [opK, hj, cond_true] at h
    exact op_junk hj hst h hK
  | false =>
  cases hy : isY o with
  | true => exact (op_yield hc hy hst h).wp hst hK
  | false =>
    simp only [opK, hj, cond_false] at h
    simp only [isY, hj, Bool.not_false, Bool.true_and] at hy
    cases ho : o.op with
    | alloc t => exact op_alloc hc.tt ho hst hf h hK
    | box t x => exact op_box ho hst hf h hK
    | makeSlice t x y => exact op_makeSlice hc.tt ho hst hf h hK
    | buildSlice t n ps => exact op_buildSlice hc.tt ho hst hf h hK
    | slice t x lo hi mx => cases mx with
      | none => simp [isY0, ho] at hy
      | some mx => exact op_slice3 hc.tt ho hst h hK
    | store t x y => exact op_store hc.tt ho hst h (by simpa [isM, ho] using hK)
    | mapUpdate t x i y => exact op_mapUpdate hc.mt ho hst h (by simpa [isM, ho] using hK)
    | makeMap t rs => cases rs with
      | none => exact op_makeMap ho hst hf h hK
      | some _ => simp [opK0, ho] at h
    | call cl =>
      obtain ⟨callee, args, ts⟩ := cl
      cases callee with
      | builtin b =>
        cases b with
        | append => exact op_append hc.tt ho hst hf h (by simpa [isM, ho] using hK)
        | _ => first | (simp [isY0, ho] at hy; done) | (simp [opK0, ho] at h; done)
      | value x =>
        simp only [opK0, ho] at h
        split at h
        · rename_i gv av hx ha
          exact op_call hc.env ho rfl hst hfr hx ha h hK
        · simp at h
      | invoke x m => simp [opK0, ho] at h
    | _ => first | (simp [isY0, ho] at hy; done) | (simp [opK0, ho] at h; done)
end

end Go.Kz
