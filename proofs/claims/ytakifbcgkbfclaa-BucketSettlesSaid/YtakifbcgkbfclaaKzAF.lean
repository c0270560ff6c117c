/-
  Cuts: values in another form; the whole of a cut.
-/
import Derived.Test.YtakifbcgkbfclaaKzAE
set_option linter.unusedVariables false
set_option linter.unusedSimpArgs false
namespace Go.Kz
variable {R : Type}

section
variable {n : Nat} {w : World} {a : Act} {g : Ghost} {σ : St} {k : St → Option R} {r : R}

theorem Shrunk.freshUp {g' : Ghost} {σ' : St} (h : Shrunk g σ.objs g' σ'.objs) (hs : σ'.slots = σ.slots) (hn : σ'.next = σ.next) (hf : FreshUp g σ) : FreshUp g' σ' :=
  fun m hm => h.fresh hs (hf m (by rw [← hn]; exact hm))

theorem FreshUp.ids {i : Nat} {av : AVal} (hf : FreshUp g σ) (h : σ.slots i = some av) : ∀ m, σ.next ≤ m → m ∉ av.ids := fun m hm => (hf m hm).slots i av h

/-- A value in another form: the same cells. -/
structure Turned (w : World) (g : Ghost) (σ : St) (x : AVal) (cs : List Value) (g' : Ghost) (σ' : St) (x' : AVal) : Prop where
  ok : AOK w g' σ'.objs x' cs
  sk : x'.sk = x.sk
  agg : x'.isAgg = x.isAgg
  val : x'.val = true
  ids : ∀ m, σ'.next ≤ m → m ∉ x'.ids
  slots : σ'.slots = σ.slots
  next : σ.next ≤ σ'.next
  cells : ∀ id z, σ'.objs id = some (.cell z) → σ.objs id = some (.cell z) ∧ g'.blk id = g.blk id

/-- A part of a row, cut to be the row. -/
theorem cutRow_ok {x : AVal} {f : AVal → St → Option R} {cs : List Value} (hst : StOK n g w a σ) (hf : FreshUp g σ) (hval : x.val = true) (hx : AOK w g σ.objs x cs) (hids : ∀ m, σ.next ≤ m → m ∉ x.ids) (h : cutRow σ x f = some r) :
    ∃ x' σ' g', f x' σ' = some r ∧ StOK n g' w a σ' ∧ Ext w g w g' ∧ FreshUp g' σ' ∧ Turned w g σ x cs g' σ' x' := by
  unfold cutRow at h
  split at h
  · rename_i id ep p q
    split at h
    · rename_i t l e hobj
      cases hb : Nat.beq e ep with
      | false => rw [hb] at h; simp at h
      | true =>
        rw [hb] at h
        have he := Nat.eq_of_beq_eq_true hb
        subst he
        simp only [cond_true] at h
        obtain ⟨u, rfl, hone, hv⟩ := hx
        obtain ⟨_, h0, hab, hbl, e1⟩ := (hv _ _ _ hobj).2 rfl
        let c : Ctx := ⟨0, fun _ => none, fun _ => none, n, fun _ => [], fun _ => none, fun _ _ => none, ⟨[], []⟩, fun _ => none, fun _ => none, fun _ => false⟩
        obtain ⟨hst1, hext1, hfr1⟩ := resize_ok (c := c) (e' := e + 1) hst hobj h0 hab hbl (Nat.lt_succ_self _)
        refine ⟨_, _, _, h, hst1, hext1, fun m hm => hfr1 m (hf m hm), ⟨u, rfl, hone, fun t' l' e' ho' => ?_⟩, rfl, rfl, rfl, fun m hm => hids m hm, rfl, Nat.le_refl _, fun i z hz => ?_⟩
        · simp only [St.setObj, upd_same, Option.some.injEq, Obj.row.injEq] at ho'
          obtain ⟨_, _, rfl⟩ := ho'
          exact ⟨Nat.le_refl _, fun _ => by simp only [svG, if_true]; exact e1⟩
        · by_cases hi : i = id
          · subst hi; simp [St.setObj, upd_same] at hz
          · simp only [St.setObj] at hz
            rw [upd_other _ _ hi] at hz
            exact ⟨hz, rfl⟩
    · simp at h
  · exact ⟨_, σ, g, h, hst, Ext.refl w g, hf, hx, rfl, rfl, hval, hids, rfl, Nat.le_refl _, fun _ _ hz => ⟨hz, rfl⟩⟩

theorem FreshUp.nil_row {t : Ty} (hst : StOK n g w a σ) (hf : FreshUp g σ) (ht : t.isRo = true) :
    StOK n (svG g σ.next (.slice none 0 0)) w a { σ.setObj σ.next (.row t [] 0) with next := σ.next + 1 } ∧ Ext w g w (svG g σ.next (.slice none 0 0)) ∧
      FreshUp (svG g σ.next (.slice none 0 0)) { σ.setObj σ.next (.row t [] 0) with next := σ.next + 1 } := by
  have hst' : StOK n (svG g σ.next (.slice none 0 0)) w a (σ.setObj σ.next (.row t [] 0)) := by
    refine hst.turn ⟨fun b hb => ⟨hb, rfl⟩⟩ (fun i hi => svG_same hi) (.inr (hf _ (Nat.le_refl _))) ?_ hst.heap.tags
    exact ⟨ht, none, 0, by simp [svG], by simp [svG], Nat.le_refl _, Nat.zero_le _, .inl ⟨rfl, rfl, rfl⟩⟩
  refine ⟨⟨hst'.slots, hst'.heap, hst'.size, hst'.defers⟩, ⟨rfl, rfl, rfl, Nat.le_refl _, fun b _ _ => ⟨rfl, rfl⟩⟩, fun m hm => ?_⟩
  have hm' : σ.next + 1 ≤ m := hm
  have := Fresh.turn (g := g) (g' := svG g σ.next (.slice none 0 0)) (o := .row t [] 0) (id := σ.next) (fun b => .inl rfl) (by omega) (by simp) (hf m (by omega))
  exact ⟨this.objs, this.row, this.box, this.slots, this.cells⟩

theorem convA_ok {x : AVal} {cv : Conv} {f : AVal → St → Option R} {cs : List Value} (hst : StOK n g w a σ) (hf : FreshUp g σ) (hval : x.val = true) (hx : AOK w g σ.objs x cs) (hids : ∀ m, σ.next ≤ m → m ∉ x.ids) (h : convA σ x cv f = some r) :
    ∃ x' σ' g', f x' σ' = some r ∧ StOK n g' w a σ' ∧ Ext w g w g' ∧ FreshUp g' σ' ∧ Turned w g σ x cs g' σ' x' := by
  cases cv with
  | row t =>
    simp only [convA] at h
    split at h
    · cases ht : t.isRo with
      | false => rw [ht] at h; simp at h
      | true =>
        rw [ht] at h
        simp only [cond_true] at h
        obtain ⟨h1, h2, h3⟩ := FreshUp.nil_row hst hf ht
        have hx' : cs = [.slice none 0 0] := hx
        subst hx'
        refine ⟨_, _, _, h, h1, h2, h3, ⟨_, rfl, rfl, fun t' l' e' ho' => ?_⟩, rfl, rfl, rfl, fun m hm => ?_, rfl, Nat.le_succ _, fun i z hz => ?_⟩
        · simp only [St.setObj, upd_same, Option.some.injEq, Obj.row.injEq] at ho'
          obtain ⟨_, _, rfl⟩ := ho'
          exact ⟨Nat.le_refl _, fun _ => by simp [svG]⟩
        · simp only [AVal.ids, List.mem_singleton]
          have hm' : σ.next + 1 ≤ m := hm
          omega
        · by_cases hi : i = σ.next
          · subst hi; simp [St.setObj, upd_same] at hz
          · simp only [St.setObj] at hz
            rw [upd_other _ _ hi] at hz
            exact ⟨hz, rfl⟩
    · exact cutRow_ok hst hf hval hx hids h
  | dat t =>
    simp only [convA] at h
    cases hb : (t.isRo && x.val && x.sk.same t.sk) with
    | false => rw [hb] at h; simp at h
    | true =>
      rw [hb] at h
      simp only [cond_true] at h
      simp only [Bool.and_eq_true] at hb
      have hsk := Sk.same_eq hb.2
      obtain ⟨d, σ', g', hk, hs, hn, hsh, hrep⟩ := give_ok 20 hst.heap hx hb.1.1 h
      refine ⟨_, σ', g', hk, hsh.st hs hst, hsh.ext, hsh.freshUp hs hn hf, ⟨hb.1.1, hrep⟩, hsk.symm, ?_, rfl, fun m _ => by simp [AVal.ids], hs, by rw [hn]; exact Nat.le_refl _, fun i z hz => ?_⟩
      · rw [(val_isAgg hval).1, hsk]; rfl
      · rcases hsh.objs i with e | e
        · rw [← e]; exact ⟨hz, by rw [hsh.blk]⟩
        · rw [e] at hz; simp at hz

theorem splice_self (l : List Value) (off n : Nat) (h : off + n ≤ l.length) : splice l off (seg l off n) = l := by
  have hs : (seg l off n).length = n := seg_length h
  simp only [splice, hs]
  rw [seg]
  have h1 : l.drop (off + n) = (l.drop off).drop n := by rw [List.drop_drop]
  rw [h1]
  conv => rhs; rw [← List.take_append_drop off l, ← List.take_append_drop n (l.drop off)]
  simp

theorem StOK.set {i : Nat} {x : AVal} {v : Value} (hst : StOK n g w a σ) (hv : a.tmps[i]? = some v) (hx : VOK w g σ.objs x v) : StOK n g w a (σ.set i x) := by
  refine ⟨fun j y hj => ?_, hst.heap, hst.size, hst.defers⟩
  simp only [St.set, upd] at hj
  cases hb : Nat.beq j i with
  | true =>
    rw [hb] at hj
    simp only [cond_true, Option.some.injEq] at hj
    subst hj
    have := Nat.eq_of_beq_eq_true hb
    subst this
    exact ⟨v, hv, hx⟩
  | false => rw [hb] at hj; exact hst.slots j y hj

theorem cell_set {id : Nat} {x x' : AVal} (hst : StOK n g w a σ) (hobj : σ.objs id = some (.cell x)) (hsk : x'.sk = x.sk)
    (hok : ∃ c e, w.heap[g.blk id]? = some (.cells c e (0, 0)) ∧ g.tag (g.blk id) = .box id ∧ AOK w g σ.objs x' c.toList) : StOK n g w a (σ.setObj id (.cell x')) := by
  have hk : IdKept g g id (σ.objs id) (some (.cell x')) := .inr (.inr (.inl ⟨x, x', hobj, rfl, hsk, rfl⟩))
  refine hst.turn ⟨fun b hb => ⟨hb, rfl⟩⟩ (fun i hi => ⟨⟨fun _ => rfl, fun _ b hb => ⟨hb, rfl⟩⟩, rfl, fun hb => ⟨hb, rfl⟩⟩) (.inl hk) ?_ hst.heap.tags
  obtain ⟨c, e, h1, h2, h3⟩ := hok
  refine ⟨c, e, h1, h2, ?_⟩
  refine AOK.frame ⟨fun b hb => ⟨hb, rfl⟩⟩ (fun i _ => ?_) h3
  by_cases hi : i = id
  · subst hi; simp only [St.setObj, upd_same]; exact hk
  · simp only [St.setObj]; rw [upd_other _ _ hi]; exact IdKept.refl g i _
theorem cell_fresh {id m : Nat} {x x' : AVal} (hf : Fresh g σ m) (hobj : σ.objs id = some (.cell x)) (hx : m ∉ x'.ids) : Fresh g (σ.setObj id (.cell x')) m := by
  have hm : m ≠ id := by intro he; subst he; have := hf.objs; rw [hobj] at this; simp at this
  refine ⟨by simp only [St.setObj]; rw [upd_other _ _ hm]; exact hf.objs, hf.row, hf.box, hf.slots, fun i y hi => ?_⟩
  by_cases he : i = id
  · subst he
    simp only [St.setObj, upd_same, Option.some.injEq, Obj.cell.injEq] at hi
    subst hi; exact hx
  · simp only [St.setObj] at hi
    rw [upd_other _ _ he] at hi
    exact hf.cells i y hi

theorem convK_ok : (l : List (Nat × Option Path × Conv)) → {g : Ghost} → {σ : St} → {k : St → Option R} → StOK n g w a σ → FreshUp g σ → convK l σ k = some r →
    ∃ σ' g', k σ' = some r ∧ StOK n g' w a σ' ∧ Ext w g w g' ∧ FreshUp g' σ'
  | [], g, σ, k, hst, hf, h => ⟨σ, g, h, hst, Ext.refl w g, hf⟩
  | (i, none, cv) :: l, g, σ, k, hst, hf, h => by
    simp only [convK] at h
    split at h
    · rename_i x hx
      obtain ⟨v, hv, hok⟩ := hst.slots i x hx
      cases hval : x.val with
      | false => rw [hval] at h; simp at h
      | true =>
        rw [hval] at h
        simp only [cond_true] at h
        obtain ⟨hag, hn1, hn2, hn3⟩ := val_isAgg hval
        obtain ⟨cs, hcs, hmk⟩ := VOK_cells hok hn3
        obtain ⟨x', σ1, g1, h, hst1, hext1, hf1, ht⟩ := convA_ok hst hf hval hcs (hf.ids hx) h
        obtain ⟨_, hm1, hm2, _⟩ := val_isAgg ht.val
        have hv1 : VOK w g1 σ1.objs x' v := VOK_of_cells ht.ok (by rw [ht.agg]; exact hmk) hm1 hm2
        obtain ⟨σ2, g2, h2, hst2, hext2, hf2⟩ := convK_ok l (hst1.set hv hv1) (fun m hm => (hf1 m hm).set i (ht.ids m hm)) h
        exact ⟨σ2, g2, h2, hst2, hext1.trans hext2, hf2⟩
    · simp at h
  | (i, some p, cv) :: l, g, σ, k, hst, hf, h => by
    simp only [convK] at h
    split at h
    · rename_i id q hx
      obtain ⟨y, y', off, cc, e, hobj, h, hoff, hcell, htag, hsz, hall, hpart, hids⟩ := bfetch_ok hst.heap h
      have hym : ∀ m, σ.next ≤ m → m ∉ y'.ids := fun m hm => hids m ((hf m hm).cells id y hobj)
      cases hval : y'.val with
      | false => rw [hval] at h; simp at h
      | true =>
        rw [hval] at h
        simp only [cond_true] at h
        obtain ⟨x', σ1, g1, h, hst1, hext1, hf1, ht⟩ := convA_ok hst hf hval hpart hym h
        obtain ⟨z, z', off2, cc2, e2, hobj2, h, hoff2, hcell2, htag2, hsz2, hall2, hpart2, hids2⟩ := bfetch_ok hst1.heap h
        have hcell3 := hcell2
        have htag3 := htag2
        obtain ⟨hz, hblk⟩ := ht.cells id z hobj2
        rw [hobj] at hz
        simp only [Option.some.injEq, Obj.cell.injEq] at hz
        subst hz
        rw [hblk, hcell] at hcell2
        simp only [Option.some.injEq, Go.Obj.cells.injEq] at hcell2
        obtain ⟨rfl, _, _⟩ := hcell2
        simp only [Sk.off, Option.some.injEq, Prod.mk.injEq] at hoff2
        obtain ⟨rfl, hzs⟩ := hoff2
        have hz' : AOK w g1 σ1.objs z' cc.toList := by
          have hl : z'.sk.size = cc.toList.length := by rw [← hzs, ← hall2.len]
          rw [hl, seg_all] at hpart2
          exact hpart2
        rw [hzs, ← ht.sk] at hoff
        obtain ⟨w', hk, hws, hwok, hwids⟩ := setA_rep ht.ok hz' hoff h
        rw [splice_self _ _ _ (by rw [Array.length_toList]; exact hsz)] at hwok
        obtain ⟨σ2, g2, h2, hst2, hext2, hf2⟩ := convK_ok l (cell_set hst1 hobj2 (hws.trans hzs.symm) ⟨_, _, hcell3, htag3, hwok⟩)
          (fun m hm => cell_fresh (hf1 m hm) hobj2 (hwids m (hids2 m ((hf1 m hm).cells _ _ hobj2)) (ht.ids m hm))) hk
        exact ⟨σ2, g2, h2, hst2, hext1.trans hext2, hf2⟩
    · simp at h

theorem normL_ok {cut : Cut} {k : List (Nat × AVal) → List Obj → Option R} (hst : StOK n g w a σ) (hf : FreshUp g σ) (h : normL cut σ k = some r) :
    ∃ sl os g', k sl os = some r ∧ StOK n g' w a (St.of sl os) ∧ Ext w g w g' ∧ FreshUp g' (St.of sl os) := by
  obtain ⟨σ1, g1, h, hst1, hext1, hf1⟩ := convK_ok cut.conv hst hf h
  split at h
  · rename_i l hl
    obtain ⟨sl, os, g2, h2, hst2, hext2, hf2⟩ := renum_ok (liveSlots_some hl) hst1 h
    exact ⟨sl, os, g2, h2, hst2, hext1.trans hext2, hf2⟩
  · simp at h
theorem norm_ok {cut : Cut} (hst : StOK n g w a σ) (hf : FreshUp g σ) (h : norm cut σ k = some r) :
    ∃ σ' g', k σ' = some r ∧ StOK n g' w a σ' ∧ Ext w g w g' ∧ FreshUp g' σ' := by
  obtain ⟨sl, os, g', h1, h2, h3, h4⟩ := normL_ok hst hf h
  exact ⟨_, g', h1, h2, h3, h4⟩
end

end Go.Kz
