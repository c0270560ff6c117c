/-
  Stores, the operation.
-/
import Derived.Test.YtakifbcgkbfclaaKzRA
set_option linter.unusedVariables false
set_option linter.unusedSimpArgs false
namespace Go.Kz
variable {R : Type}

section
variable {P : Program} {o : Oper} {a : Act} {w : World} {K : Act → World → Prop} {Q : Exit → Act → World → Prop} {c : Ctx} {σ : St} {g : Ghost} {k : St → Option R} {r : R} {base : Nat} {mo : Bool}

theorem fillK_leaf {id : Nat} {t : Ty} {l : List t.den} {e i : Nat} {p : Path} {av : AVal} {f : St → Option R} (h : fillK σ id t l e i p av f = some r) : av.sk = .leaf := by
  unfold fillK at h
  split at h
  · rename_i v _
    cases hro : v.isRo with
    | false => rw [hro] at h; simp at h
    | true =>
      rw [hro] at h
      simp only [cond_true] at h
      unfold giveRow at h
      split at h
      · rfl
      · rfl
      · simp at h
  · simp at h

/-- A store into a row of rows. -/
theorem op_store_nest {t : TypeId} {x y : Operand} {u : Ty} {bv : AVal} {cs : List Value} {id : Nat} {p : Path} {ep : Nat} (ho : o.op = .store t x y) (hdst : o.dst = none) (hT : TyOK P u t) (hst : StOK c.ntmps g w a σ)
    (ex : VOK w g σ.objs (.nv true id p ep) (a.eval x)) (hok : AOK w g σ.objs bv cs) (hcells : (a.eval y).cells.toList = cs) (hcl : cs.length = u.size) (hsk : u.sk = bv.sk)
    (h : nstoreK σ id p ep bv k = some r) (hK : Post c.ntmps k r g w σ base true K) : o.wp P a w K Q := by
  simp only [VOK] at ex
  obtain ⟨cs0, ⟨v0, rfl, hone, hv⟩, hv'⟩ := ex
  have hfill : ∀ {t1 : Ty} {l1 : List t1.den} {e i : Nat} {h0 : Option Path}, σ.objs id = some (.nest t1 l1 e i h0) → i = ep →
      (∀ v, tyR t1 p = some v → (∃ l2 : List v.den, ∀ (R' : Type) (k' : (u : Ty) → u.den → Option R'), getK (.sl true t1) l1 p k' = k' (.sl true v) l2) → HoleOK w g id t1 l1 p) →
      fillK σ id t1 l1 e i p bv k = some r → o.wp P a w K Q := by
    intro t1 l1 e i h0 hobj hi hhole h
    obtain ⟨hp, b0, off0, hpl, hvv⟩ := ((hv _ _ _ _ _ hobj).2 hi).2 rfl
    have hl := fillK_leaf h
    have hl1 : cs.length = 1 := by rw [hok.len, hl]; rfl
    obtain ⟨z, rfl⟩ := List.length_eq_one_iff.1 hl1
    obtain ⟨cc, ee, pre, σ', g', hk, hcell, htag, hoff, hst', hext, hfr, hn⟩ := nfill_ok hst hobj hhole hpl hok h
    have hrun := run_storeVar (P := P) (w := w) (off := off0) hT hcell hcells hcl (by rw [← hcl]; simp; omega) hok.one
    have hv2 : a.eval x = .pointer (some ⟨b0, off0, none⟩) := by rw [hv']; exact hvv
    refine wp_skip hdst ?_ hst' hext (fun m _ hfm => hfr m hfm) hn hk (fun h => Bool.noConfusion h) hK
    simp [execOp, ho, hv2, Instr.storeAt, Instr.sureAddr, hrun]
  unfold nstoreK at h
  split at h
  · rename_i t1 l1 e i hobj
    cases hb : Nat.beq i ep with
    | false => rw [hb] at h; simp at h
    | true =>
      rw [hb] at h
      have hi := Nat.eq_of_beq_eq_true hb
      simp only [cond_true] at h
      have hwhole : Rep w g (some (id, [])) (.sl true t1) l1 [g.sv id []] := hst.heap.objs id _ hobj
      cases hs : (tyR t1 p).isSome with
      | true =>
        rw [hs] at h
        simp only [cond_true] at h
        exact hfill hobj hi (fun v hty ⟨l2, hl2⟩ => (hole_of_whole hwhole hty hl2).1) h
      | false =>
        rw [hs] at h
        simp only [cond_false] at h
        split at h
        · rename_i s p1 j q hlast
          have hpp := lastIdx_eq hlast
          obtain ⟨U, X, hk1, hget⟩ := getK_at _ _ _ h
          split at hk1
          · rename_i v l2
            cases hro : v.isRo with
            | false => rw [hro] at hk1; simp at hk1
            | true =>
              rw [hro] at hk1
              simp only [cond_true] at hk1
              obtain ⟨u1, x1, hk2, hu1⟩ := getK_row_ro hro hk1
              obtain ⟨d, σ1, g1, hk3, h1, h2, h3, hrep1⟩ := give_ok 20 hst.heap hok hu1 hk2
              have hst1 := h3.st h1 hst
              split at hk3
              · rename_i t2 l3 e2 i2 ho2
                have hsame : σ1.objs id = σ.objs id := by
                  rcases h3.objs id with e | e
                  · exact e
                  · rw [e] at ho2; simp at ho2
                have ho1 : σ1.objs id = some (.nest t1 l1 e i none) := hsame.trans hobj
                obtain ⟨hp, b0, off0, hpl, hvv⟩ := ((hv _ _ _ _ _ hobj).2 hi).2 rfl
                have hpl1 : place g1 id (.sl true t1) [] 0 0 (s :: p1 ++ .idx j :: q) = some (b0, off0) := by
                  rw [← hpp]
                  exact (place_congr (g := g) (g' := g1) (fun p => by rw [h3.sv])).trans hpl
                obtain ⟨l', cc, ee, hf, hcell, htag, hsz, hobj'⟩ := nest_store hst1.heap ho1 hro hget hrep1 hpl1 hk3
                have hur : u1.size = u.size := by rw [← hrep1.len, hcl]
                have hrun := run_storeVar (P := P) (w := w) hT hcell hcells hcl (by rw [← hur]; exact hsz) hok.one
                have hRw := setRow_rewrote (w := w) (g := g1) (id := id) (b0 := b0) (splice cc.toList off0 cs).toArray (.inl ⟨_, htag⟩)
                have hst2 := hRw.st hst1 (o' := .nest t1 l' e i none) (.inr (.inr (.inr (.inr ⟨t1, l1, l', e, e, i, i, none, none, ho1, rfl, Nat.le_refl _, Nat.le_refl _, fun _ => rfl, fun _ _ => rfl⟩)))) hobj'
                have hv2 : a.eval x = .pointer (some ⟨b0, off0, none⟩) := by rw [hv']; exact hvv
                refine wp_skip hdst ?_ hst2 (h3.ext.trans hRw.ext) (fun m _ hfm => ?_) h2 hf (fun h => Bool.noConfusion h) hK
                · simp [execOp, ho, hv2, Instr.storeAt, Instr.sureAddr, hrun]
                · exact hRw.fresh (by rw [ho1]; simp) (fun y hy => by simp at hy) (h3.fresh h1 hfm)
              · simp at hk3
          · simp at hk1
        · simp at h
  · rename_i t1 l1 e i h0 hobj
    cases hb : Nat.beq i ep with
    | false => rw [hb] at h; simp at h
    | true =>
      rw [hb] at h
      have hi := Nat.eq_of_beq_eq_true hb
      simp only [cond_true] at h
      obtain ⟨hpe, hfk⟩ := chk_some h
      obtain rfl := pathEq_eq hpe
      exact hfill hobj hi (fun v hty _ => hst.heap.objs id _ hobj) hfk
  · simp at h

theorem op_store (htt : TtOK P c.tt) {t : TypeId} {x y : Operand} (ho : o.op = .store t x y) (hst : StOK c.ntmps g w a σ) (h : opK0 c σ base o k = some r) (hK : Post c.ntmps k r g w σ base true K) : o.wp P a w K Q := by
  simp only [opK0, ho] at h
  split at h
  · rename_i av bv u hx hy hu hdst
    cases hb : (bv.val && u.sk.same bv.sk) with
    | false => rw [hb] at h; simp at h
    | true =>
      rw [hb] at h
      simp only [cond_true] at h
      simp only [Bool.and_eq_true] at hb
      have hsk := Sk.same_eq hb.2
      have hT := htt _ _ hu
      obtain ⟨ex, efx⟩ := ev_ok hst hx
      obtain ⟨ey, efy⟩ := ev_ok hst hy
      obtain ⟨cs, hok, hmk, hcells⟩ := VOK_valueCells hb.1 ey
      have hcl : cs.length = u.size := by rw [hok.len, ← hsk, Ty.sk_size]
      unfold storeK at h
      split at h
      · rename_i id p ep
        split at h
        · simp at h
        · rename_i s q
          obtain ⟨t0, l0, ho0⟩ := efetch_obj h
          simp only [VOK] at ex
          obtain ⟨cs0, ⟨v, rfl, hone, hv⟩, hv'⟩ := ex
          obtain ⟨hp, b0, off0, hpl, hvv⟩ := (hv _ _ _ ho0).2 rfl
          obtain ⟨t1, l1, u1, e1, b, off, cc, ee, ho1, hro, hk, hu1, hpl2, hty, htag, hcell, hsz, hrep⟩ := efetch_ok hst.heap hp h
          obtain ⟨d, σ1, g1, hk1, h1, h2, h3, hrep1⟩ := give_ok 20 hst.heap hok hu1 hk
          have hst1 := h3.st h1 hst
          split at hk1
          · rename_i t2 l2 e2 ho2
            cases hbe : Nat.beq e2 ep with
            | false => rw [hbe] at hk1; simp at hk1
            | true =>
              rw [hbe] at hk1
              have hee := Nat.eq_of_beq_eq_true hbe
              subst hee
              simp only [cond_true] at hk1
              have hsame : σ1.objs id = σ.objs id := by
                rcases h3.objs id with e | e
                · exact e
                · rw [e] at ho2; simp at ho2
              have hpl1 : place g1 id (.sl true t0) [] 0 0 (s :: q) = some (b0, off0) := by
                exact (place_congr (g := g) (g' := g1) (fun p => by rw [h3.sv])).trans hpl
              have ht20 : t2 = t0 := by
                rw [hsame, ho0] at ho2
                simp only [Option.some.injEq, Obj.row.injEq] at ho2
                exact ho2.1.symm
              subst ht20
              cases s with
              | fst => simp [setK] at hk1
              | snd => simp [setK] at hk1
              | idx i =>
                obtain ⟨l', cc', ee', hf, hll, hcell', htag', hsz', hobj'⟩ := row_store hst1.heap ho2 hu1 hrep1 hpl1 hk1
                have hur : u1.size = u.size := by rw [← hrep1.len, hcl]
                have hrun := run_storeVar (P := P) (w := w) hT hcell' hcells hcl (by rw [← hur]; exact hsz') hok.one
                have hRw := setRow_rewrote (w := w) (g := g1) (id := id) (b0 := b0) (splice cc'.toList off0 cs).toArray (.inl ⟨[], htag'⟩)
                have hst2 := hRw.st hst1 (o' := .row t2 l' e2) (.inr (.inl ⟨t2, l2, l', e2, e2, ho2, rfl, .inr ⟨rfl, hll, fun _ => rfl⟩⟩)) hobj'
                have hv2 : a.eval x = .pointer (some ⟨b0, off0, none⟩) := by rw [hv']; exact hvv
                refine wp_skip hdst ?_ hst2 (h3.ext.trans hRw.ext) (fun m _ hfm => ?_) h2 hf (fun h => Bool.noConfusion h) hK
                · simp [execOp, ho, hv2, Instr.storeAt, Instr.sureAddr, hrun]
                · exact hRw.fresh (by rw [ho2]; simp) (fun y hy => by simp at hy) (h3.fresh h1 hfm)
          · simp at hk1
      · rename_i id p
        split at h
        · rename_i whole hobj
          obtain ⟨cc, e, hcell, htag, hall⟩ := hst.heap.objs id _ hobj
          obtain ⟨old, off, hk, hoff, hpart, _⟩ := getA_rep hall h
          cases hbo : old.sk.same bv.sk with
          | false => rw [hbo] at hk; simp at hk
          | true =>
            rw [hbo] at hk
            simp only [cond_true] at hk
            have hos := Sk.same_eq hbo
            rw [hos] at hoff
            obtain ⟨whole', hk2, hws, hwok, hids⟩ := setA_rep hok hall hoff hk
            simp only [VOK] at ex
            obtain ⟨cs0, ⟨v, rfl, hone, hv⟩, hv'⟩ := ex
            obtain ⟨off', s, hoff', hvv⟩ := hv _ hobj
            rw [hoff] at hoff'
            simp only [Option.some.injEq, Prod.mk.injEq] at hoff'
            obtain ⟨rfl, _⟩ := hoff'
            have hle := Sk.off_le hoff
            have hall' := hall.len
            rw [Array.length_toList] at hall'
            have hbs : bv.sk.size = u.size := by rw [← hsk, Ty.sk_size]
            have hrun := run_storeVar (P := P) (w := w) (u := u) (off := off) hT hcell hcells hcl (by omega) hok.one
            have hRw := setRow_rewrote (w := w) (g := g) (id := id) (b0 := g.blk id) (splice cc.toList off cs).toArray (.inr htag)
            have hkept : ∀ i, IdKept g g i (σ.objs i) ((σ.setObj id (.cell whole')).objs i) := by
              intro i
              by_cases hi : i = id
              · subst hi; simp only [St.setObj, upd_same]; exact .inr (.inr (.inl ⟨whole, whole', hobj, rfl, hws, rfl⟩))
              · simp only [St.setObj]; rw [upd_other _ _ hi]; exact IdKept.same (hRw.same hi)
            have hst2 := hRw.st hst (o' := .cell whole') (.inr (.inr (.inl ⟨whole, whole', hobj, rfl, hws, rfl⟩))) (by
              refine ⟨(splice cc.toList off cs).toArray, e, setRow_heap w _ cc _ e _ hcell, htag, ?_⟩
              exact AOK.frame hRw.ro (fun i _ => hkept i) hwok)
            have hv2 : a.eval x = .pointer (some ⟨g.blk id, off, none⟩) := by rw [hv']; exact hvv
            refine wp_skip (σ := σ) hdst ?_ hst2 hRw.ext (fun m _ hfm => ?_) rfl hk2 (fun h => Bool.noConfusion h) hK
            · simp [execOp, ho, hv2, Instr.storeAt, Instr.sureAddr, hrun]
            · refine hRw.fresh (by rw [hobj]; simp) (fun y hy => ?_) hfm
              simp only [Obj.cell.injEq] at hy
              subst hy
              exact hids m (hfm.cells _ _ hobj) (efy m hfm)
        · simp at h
      · rename_i id p ep
        exact op_store_nest ho hdst hT hst ex hok hcells hcl hsk h hK
      · simp at h
  · simp at h

end
end Go.Kz
