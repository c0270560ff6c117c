/-
  Parts of values: a field of a struct, an element of an array.
-/
import Derived.Test.YtcnmiohlpaommaaKzXB
set_option linter.unusedVariables false
set_option linter.unusedSimpArgs false
namespace Go.Kz
variable {R : Type}

section
variable {P : Program} {o : Oper} {a : Act} {w : World} {c : Ctx} {σ : St} {g : Ghost} {k : St → Option R} {r : R} {base : Nat}

theorem run_partV {T : TypeId} {u : Ty} (hT : TyOK P u T) (cs : List Value) (off : Nat) (hs : off + u.size ≤ cs.length) (w : World) :
    (part T cs.toArray off).run P w = .ok (mkV u.sk.isAgg (seg cs off u.size)) w := by
  have hag := run_isAgg hT w
  unfold part
  rw [Sem.run_bind, hag]
  cases hu : u.sk.isAgg with
  | true =>
    have hsz := hT.info.sizeOf w
    simp only [Result.andThen_ok, if_true, Sem.run_bind, hsz, Sem.run_pure]
    congr 1
    simp only [mkV, if_true, Value.agg.injEq]
    apply Array.toList_inj.1
    simp [seg, List.extract]
  | false =>
    have h1 : u.size = 1 := by cases u <;> simp [Ty.sk, Sk.isAgg] at hu <;> simp [Ty.size]
    have hlt : off < cs.length := by omega
    have hg : cs.toArray[off]? = some cs[off] := by simp [hlt]
    simp only [Result.andThen_ok, Bool.false_eq_true, if_false, hg, Sem.run_pure]
    congr 1
    simp only [mkV, Bool.false_eq_true, if_false, seg, h1]
    rw [List.drop_eq_getElem_cons hlt]
    rfl

theorem op_indexV (htt : TtOK P c.tt) {t : TypeId} {x i : Operand} (ho : o.op = .index t x i) (hst : StOK c.ntmps g w a σ) (h : opK0 c σ base o k = some r) : Yield P o a w g σ c k r := by
  simp only [opK0, ho] at h
  split at h
  · rename_i n t' l ki j m u hx hi hu
    have hT := htt _ _ hu
    obtain ⟨ex, ef⟩ := ev_ok hst hx
    obtain ⟨vi, _⟩ := VOK_int (ev_ok hst hi).1
    cases hs : (Nat.beq n m && t'.sk.same u.sk) with
    | false => rw [hs] at h; simp at h
    | true =>
      rw [hs] at h
      simp only [Bool.and_eq_true] at hs
      have hnm : n = m := Nat.eq_of_beq_eq_true hs.1
      subst hnm
      have hsk := Sk.same_eq hs.2
      have hsz : u.size = t'.size := by rw [← Ty.sk_size, ← Ty.sk_size, hsk]
      simp only [cond_true, Option.bind_eq_some_iff] at h
      obtain ⟨d, hd, h⟩ := h
      obtain ⟨h0, hi', rfl, hlt⟩ := idx_some hd
      simp only [TyOK] at hT
      obtain ⟨⟨E, hund, hE⟩, _⟩ := hT
      simp only [VOK] at ex
      obtain ⟨cs, ⟨hro, hl, hcl, hel⟩, hv⟩ := ex
      have hjn : j.toNat < n := by rw [← hl]; exact hi'
      have hmul : (j.toNat + 1) * t'.size ≤ n * t'.size := Nat.mul_le_mul_right _ hjn
      rw [Nat.add_mul] at hmul
      have hv' : a.eval x = .agg cs.toArray := by rw [hv]; rfl
      have hjlt : (j : Int) < (n : Int) := by rw [← hl]; exact hlt
      refine yld (v := mkV u.sk.isAgg (seg cs (j.toNat * t'.size) u.size)) ?_ ?_ (fun m _ => by simp [AVal.ids]) h
      · intro w' _
        have hsE := hE.info.sizeOf w'
        have hp := run_partV hE cs (j.toNat * u.size) (by rw [hsz]; omega) w'
        rw [hsz] at hp hsE
        simp [execOp, ho, hv', vi, Instr.index, asIntOf, run_underlying hund, h0, hjlt, hsE, hp, hsz]
      · simp only [VOK]
        refine ⟨seg cs (j.toNat * t'.size) t'.size, ⟨by simpa [Ty.isRo] using hro, hel _ hi'⟩, by rw [hsz, ← hsk]; rfl⟩
  · simp at h

theorem op_fieldV (htt : TtOK P c.tt) {t : TypeId} {x : Operand} {i : Nat} (ho : o.op = .field t x i) (hst : StOK c.ntmps g w a σ) (h : opK0 c σ base o k = some r) : Yield P o a w g σ c k r := by
  simp only [opK0, ho] at h
  split at h
  · rename_i av u hx hu
    have hT := htt _ _ hu
    obtain ⟨ex, ef⟩ := ev_ok hst hx
    cases hs : (av.val && av.sk.same u.sk && (tyAt u (fieldPath i)).isSome) with
    | false => rw [hs] at h; simp at h
    | true =>
      rw [hs] at h
      simp only [cond_true] at h
      simp only [Bool.and_eq_true] at hs
      have hsk := Sk.same_eq hs.1.2
      obtain ⟨hag, _, _, _⟩ := val_isAgg hs.1.1
      obtain ⟨cs, hok, hmk, _⟩ := VOK_valueCells hs.1.1 ex
      obtain ⟨av', off, h, hoff, hpart, hids⟩ := getA_rep hok h
      obtain ⟨xa, ya, rfl⟩ := tyAt_pair hs.2
      simp only [TyOK] at hT
      obtain ⟨⟨fs, hund, hfs⟩, _⟩ := hT
      obtain ⟨f, s, h1, h2, h3, o', h4, h5⟩ := field_ok hfs hs.2
      rw [hsk, h4] at hoff
      simp only [Option.some.injEq, Prod.mk.injEq] at hoff
      obtain ⟨rfl, hss⟩ := hoff
      have hf : fs[i]? = some f := by rw [← Array.getElem?_toList]; exact h1
      have ho2 : f.offset = o' := by omega
      cases hb : av'.val with
      | false => rw [hb] at h; simp at h
      | true =>
        rw [hb] at h
        simp only [cond_true] at h
        obtain ⟨hag', hn1, hn2, hn3⟩ := val_isAgg hb
        have hle := Sk.off_le h4
        have hlen := hok.len
        rw [hsk] at hlen
        rw [Ty.sk_size] at hle hlen
        rw [Ty.sk_size] at hle
        have hszs : s.size = av'.sk.size := by rw [← hss, Ty.sk_size]
        have hv' : a.eval x = .agg cs.toArray := by rw [hmk, hag, hsk]; rfl
        refine yld (v := mkV s.sk.isAgg (seg cs o' s.size)) ?_ ?_ (fun m hm => hids m (ef m hm)) h
        · intro w' _
          have hp := run_partV h3 cs o' (by omega) w'
          simp [execOp, ho, hv', Instr.field, run_underlying hund, hf, asAgg, ho2, hp]
        · refine VOK_of_cells hpart ?_ hn1 hn2
          rw [hag', ← hss, hszs, hss]
  · simp at h
end

end Go.Kz
