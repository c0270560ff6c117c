/-
  Cuts: values in another form; the whole of a cut.
-/
import Derived.Test.YtoccnkcnkcngjaaKzADF
import Derived.LoopN
import Derived.OpenShut
import Derived.ShutString
import Derived.ChangeOld
import Derived.Below
import Derived.Laws.Cover3
set_option linter.unusedVariables false
set_option linter.unusedSimpArgs false
namespace Go.Kz
variable {R : Type}

section
variable {n : Nat} {w : World} {a : Act} {g : Ghost} {σ : St} {k : St → Option R} {r : R}

theorem Shrunk.freshUp {g' : Ghost} {σ' : St} (h : Shrunk g σ.objs g' σ'.objs) (hs : σ'.slots = σ.slots) (hn : σ'.next = σ.next) (hf : FreshUp g σ) : FreshUp g' σ' :=
  fun m hm => h.fresh hs (hf m (by rw [← hn]; exact hm))

theorem FreshUp.ids {i : Nat} {av : AVal} (hf : FreshUp g σ) (h : σ.slots i = some av) : ∀ m, σ.next ≤ m → m ∉ av.ids := fun m hm => (hf m hm).slots i av h

/-- A value in another form: the same cells. -/
structure Turned (w : World) (g : Ghost) (σ : St) (x : AVal) (cs : List Value) (g' : Ghost) (σ' : St) (x' : AVal) : Prop where
  ok : AOK w g' σ'.objs x' cs
  sk : x'.sk = x.sk
  agg : x'.isAgg = x.isAgg
  val : x'.val = true
  ids : ∀ m, σ'.next ≤ m → m ∉ x'.ids
  slots : σ'.slots = σ.slots
  next : σ.next ≤ σ'.next
  cells : ∀ id z, σ'.objs id = some (.cell z) → σ.objs id = some (.cell z) ∧ g'.blk id = g.blk id

/-- A part of a row, cut to be the row. -/
theorem cutRow_ok {x : AVal} {f : AVal → St → Option R} {cs : List Value} (hst : StOK n g w a σ) (hf : FreshUp g σ) (hval : x.val = true) (hx : AOK w g σ.objs x cs) (hids : ∀ m, σ.next ≤ m → m ∉ x.ids) (h : cutRow σ x f = some r) :
    ∃ x' σ' g', f x' σ' = some r ∧ StOK n g' w a σ' ∧ Ext w g w g' ∧ FreshUp g' σ' ∧ Turned w g σ x cs g' σ' x' := by
  unfold cutRow at h
  split at h
  · rename_i id ep p q
    split at h
    · rename_i t l e hobj
      cases hb : Nat.beq e ep with
      | false => rw [hb] at h; simp at h
      | true =>
        rw [hb] at h
        have he := Nat.eq_of_beq_eq_true hb
        subst he
        simp only [cond_true] at h
        obtain ⟨u, rfl, hone, hv⟩ := hx
        obtain ⟨_, h0, hab, hbl, e1⟩ := (hv _ _ _ hobj).2 rfl
        let c : Ctx := ⟨0, fun _ => none, fun _ => none, n, fun _ => [], fun _ => none, fun _ _ => none, ⟨[], []⟩, fun _ => none, fun _ => none, fun _ => false, fun _ => false, fun _ _ => none⟩
        obtain ⟨hst1, hext1, hfr1⟩ := resize_ok (c := c) (e' := e + 1) hst hobj h0 hab hbl (Nat.lt_succ_self _)
        refine ⟨_, _, _, h, hst1, hext1, fun m hm => hfr1 m (hf m hm), ⟨u, rfl, hone, fun t' l' e' ho' => ?_⟩, rfl, rfl, rfl, fun m hm => hids m hm, rfl, Nat.le_refl _, fun i z hz => ?_⟩
        · simp only [St.setObj, upd_same, Option.some.injEq, Obj.row.injEq] at ho'
          obtain ⟨_, _, rfl⟩ := ho'
          exact ⟨Nat.le_refl _, fun _ => by simp only [svG, if_true]; exact e1⟩
        · by_cases hi : i = id
          · subst hi; simp [St.setObj, upd_same] at hz
          · simp only [St.setObj] at hz
            rw [upd_other _ _ hi] at hz
            exact ⟨hz, rfl⟩
    · simp at h
  · exact ⟨_, σ, g, h, hst, Ext.refl w g, hf, hx, rfl, rfl, hval, hids, rfl, Nat.le_refl _, fun _ _ hz => ⟨hz, rfl⟩⟩

theorem FreshUp.nil_row {t : Ty} (hst : StOK n g w a σ) (hf : FreshUp g σ) (ht : t.isRo = true) :
    StOK n (svG g σ.next (.slice none 0 0)) w a { σ.setObj σ.next (.row t [] 0) with next := σ.next + 1 } ∧ Ext w g w (svG g σ.next (.slice none 0 0)) ∧
      FreshUp (svG g σ.next (.slice none 0 0)) { σ.setObj σ.next (.row t [] 0) with next := σ.next + 1 } := by
  have hst' : StOK n (svG g σ.next (.slice none 0 0)) w a (σ.setObj σ.next (.row t [] 0)) := by
    refine hst.turn ⟨fun b hb => ⟨hb, rfl⟩⟩ (fun i hi => svG_same hi) (.inr (hf _ (Nat.le_refl _))) ?_ hst.heap.tags
    exact ⟨ht, none, 0, by simp [svG], by simp [svG], Nat.le_refl _, Nat.zero_le _, .inl ⟨rfl, rfl, rfl⟩⟩
  refine ⟨⟨hst'.slots, hst'.heap, hst'.size, hst'.defers⟩, ⟨rfl, rfl, rfl, Nat.le_refl _, Nat.le_refl _, fun b _ _ => ⟨rfl, rfl⟩⟩, fun m hm => ?_⟩
  have hm' : σ.next + 1 ≤ m := hm
  have := Fresh.turn (g := g) (g' := svG g σ.next (.slice none 0 0)) (o := .row t [] 0) (id := σ.next) (fun b => .inl rfl) (by omega) (by simp) (hf m (by omega))
  exact ⟨this.objs, this.row, this.box, this.slots, this.cells⟩

theorem convA_ok {x : AVal} {cv : Conv} {f : AVal → St → Option R} {cs : List Value} (hst : StOK n g w a σ) (hf : FreshUp g σ) (hval : x.val = true) (hx : AOK w g σ.objs x cs) (hids : ∀ m, σ.next ≤ m → m ∉ x.ids) (h : convA σ x cv f = some r) :
    ∃ x' σ' g', f x' σ' = some r ∧ StOK n g' w a σ' ∧ Ext w g w g' ∧ FreshUp g' σ' ∧ Turned w g σ x cs g' σ' x' := by
  cases cv with
  | row t =>
    simp only [convA] at h
    split at h
    · cases ht : t.isRo with
      | false => rw [ht] at h; simp at h
      | true =>
        rw [ht] at h
        simp only [cond_true] at h
        obtain ⟨h1, h2, h3⟩ := FreshUp.nil_row hst hf ht
        have hx' : cs = [.slice none 0 0] := hx
        subst hx'
        refine ⟨_, _, _, h, h1, h2, h3, ⟨_, rfl, rfl, fun t' l' e' ho' => ?_⟩, rfl, rfl, rfl, fun m hm => ?_, rfl, Nat.le_succ _, fun i z hz => ?_⟩
        · simp only [St.setObj, upd_same, Option.some.injEq, Obj.row.injEq] at ho'
          obtain ⟨_, _, rfl⟩ := ho'
          exact ⟨Nat.le_refl _, fun _ => by simp [svG]⟩
        · simp only [AVal.ids, List.mem_singleton]
          have hm' : σ.next + 1 ≤ m := hm
          omega
        · by_cases hi : i = σ.next
          · subst hi; simp [St.setObj, upd_same] at hz
          · simp only [St.setObj] at hz
            rw [upd_other _ _ hi] at hz
            exact ⟨hz, rfl⟩
    · exact cutRow_ok hst hf hval hx hids h
  | dat t =>
    simp only [convA] at h
    cases hb : (t.isRo && x.val && x.sk.same t.sk) with
    | false => rw [hb] at h; simp at h
    | true =>
      rw [hb] at h
      simp only [cond_true] at h
      simp only [Bool.and_eq_true] at hb
      have hsk := Sk.same_eq hb.2
      obtain ⟨d, σ', g', hk, hs, hn, hsh, hrep⟩ := give_ok 20 hst.heap hx hb.1.1 h
      refine ⟨_, σ', g', hk, hsh.st hs hst, hsh.ext, hsh.freshUp hs hn hf, ⟨hb.1.1, hrep⟩, hsk.symm, ?_, rfl, fun m _ => by simp [AVal.ids], hs, by rw [hn]; exact Nat.le_refl _, fun i z hz => ?_⟩
      · rw [(val_isAgg hval).1, hsk]; rfl
      · rcases hsh.objs i with e | e
        · rw [← e]; exact ⟨hz, by rw [hsh.blk]⟩
        · rw [e] at hz; simp at hz

theorem splice_self (l : List Value) (off n : Nat) (h : off + n ≤ l.length) : splice l off (seg l off n) = l := by
  have hs : (seg l off n).length = n := seg_length h
  simp only [splice, hs]
  rw [seg]
  have h1 : l.drop (off + n) = (l.drop off).drop n := by rw [List.drop_drop]
  rw [h1]
  conv => rhs; rw [← List.take_append_drop off l, ← List.take_append_drop n (l.drop off)]
  simp

theorem StOK.set {i : Nat} {x : AVal} {v : Value} (hst : StOK n g w a σ) (hv : a.tmps[i]? = some v) (hx : VOK w g σ.objs x v) : StOK n g w a (σ.set i x) := by
  refine ⟨fun j y hj => ?_, hst.heap, hst.size, hst.defers⟩
  simp only [St.set, upd] at hj
  cases hb : Nat.beq j i with
  | true =>
    rw [hb] at hj
    simp only [cond_true, Option.some.injEq] at hj
    subst hj
    have := Nat.eq_of_beq_eq_true hb
    subst this
    exact ⟨v, hv, hx⟩
  | false => rw [hb] at hj; exact hst.slots j y hj

theorem cell_set {id : Nat} {x x' : AVal} (hst : StOK n g w a σ) (hobj : σ.objs id = some (.cell x)) (hsk : x'.sk = x.sk)
    (hok : ∃ c e, w.heap[g.blk id]? = some (.cells c e (0, 0)) ∧ g.tag (g.blk id) = .box id ∧ AOK w g σ.objs x' c.toList) : StOK n g w a (σ.setObj id (.cell x')) := by
  have hk : IdKept g g id (σ.objs id) (some (.cell x')) := .inr (.inr (.inl ⟨x, x', hobj, rfl, hsk, rfl⟩))
  refine hst.turn ⟨fun b hb => ⟨hb, rfl⟩⟩ (fun i hi => ⟨⟨fun _ => rfl, fun _ b hb => ⟨hb, rfl⟩⟩, rfl, fun hb => ⟨hb, rfl⟩⟩) (.inl hk) ?_ hst.heap.tags
  obtain ⟨c, e, h1, h2, h3⟩ := hok
  refine ⟨c, e, h1, h2, ?_⟩
  refine AOK.frame ⟨fun b hb => ⟨hb, rfl⟩⟩ (fun i _ => ?_) h3
  by_cases hi : i = id
  · subst hi; simp only [St.setObj, upd_same]; exact hk
  · simp only [St.setObj]; rw [upd_other _ _ hi]; exact IdKept.refl g i _
theorem cell_fresh {id m : Nat} {x x' : AVal} (hf : Fresh g σ m) (hobj : σ.objs id = some (.cell x)) (hx : m ∉ x'.ids) : Fresh g (σ.setObj id (.cell x')) m := by
  have hm : m ≠ id := by intro he; subst he; have := hf.objs; rw [hobj] at this; simp at this
  refine ⟨by simp only [St.setObj]; rw [upd_other _ _ hm]; exact hf.objs, hf.row, hf.box, hf.slots, fun i y hi => ?_⟩
  by_cases he : i = id
  · subst he
    simp only [St.setObj, upd_same, Option.some.injEq, Obj.cell.injEq] at hi
    subst hi; exact hx
  · simp only [St.setObj] at hi
    rw [upd_other _ _ he] at hi
    exact hf.cells i y hi

theorem convK_ok : (l : List (Nat × Option Path × Conv)) → {g : Ghost} → {σ : St} → {k : St → Option R} → StOK n g w a σ → FreshUp g σ → convK l σ k = some r →
    ∃ σ' g', k σ' = some r ∧ StOK n g' w a σ' ∧ Ext w g w g' ∧ FreshUp g' σ'
  | [], g, σ, k, hst, hf, h => ⟨σ, g, h, hst, Ext.refl w g, hf⟩
  | (i, none, cv) :: l, g, σ, k, hst, hf, h => by
    simp only [convK] at h
    split at h
    · rename_i x hx
      obtain ⟨v, hv, hok⟩ := hst.slots i x hx
      cases hval : x.val with
      | false => rw [hval] at h; simp at h
      | true =>
        rw [hval] at h
        simp only [cond_true] at h
        obtain ⟨hag, hn1, hn2, hn3⟩ := val_isAgg hval
        obtain ⟨cs, hcs, hmk⟩ := VOK_cells hok hn3
        obtain ⟨x', σ1, g1, h, hst1, hext1, hf1, ht⟩ := convA_ok hst hf hval hcs (hf.ids hx) h
        obtain ⟨_, hm1, hm2, _⟩ := val_isAgg ht.val
        have hv1 : VOK w g1 σ1.objs x' v := VOK_of_cells ht.ok (by rw [ht.agg]; exact hmk) hm1 hm2
        obtain ⟨σ2, g2, h2, hst2, hext2, hf2⟩ := convK_ok l (hst1.set hv hv1) (fun m hm => (hf1 m hm).set i (ht.ids m hm)) h
        exact ⟨σ2, g2, h2, hst2, hext1.trans hext2, hf2⟩
    · simp at h
  | (i, some p, cv) :: l, g, σ, k, hst, hf, h => by
    simp only [convK] at h
    split at h
    · rename_i id q hx
      obtain ⟨y, y', off, cc, e, hobj, h, hoff, hcell, htag, hsz, hall, hpart, hids⟩ := bfetch_ok hst.heap h
      have hym : ∀ m, σ.next ≤ m → m ∉ y'.ids := fun m hm => hids m ((hf m hm).cells id y hobj)
      cases hval : y'.val with
      | false => rw [hval] at h; simp at h
      | true =>
        rw [hval] at h
        simp only [cond_true] at h
        obtain ⟨x', σ1, g1, h, hst1, hext1, hf1, ht⟩ := convA_ok hst hf hval hpart hym h
        obtain ⟨z, z', off2, cc2, e2, hobj2, h, hoff2, hcell2, htag2, hsz2, hall2, hpart2, hids2⟩ := bfetch_ok hst1.heap h
        have hcell3 := hcell2
        have htag3 := htag2
        obtain ⟨hz, hblk⟩ := ht.cells id z hobj2
        rw [hobj] at hz
        simp only [Option.some.injEq, Obj.cell.injEq] at hz
        subst hz
        rw [hblk, hcell] at hcell2
        simp only [Option.some.injEq, Go.Obj.cells.injEq] at hcell2
        obtain ⟨rfl, _, _⟩ := hcell2
        simp only [Sk.off, Option.some.injEq, Prod.mk.injEq] at hoff2
        obtain ⟨rfl, hzs⟩ := hoff2
        have hz' : AOK w g1 σ1.objs z' cc.toList := by
          have hl : z'.sk.size = cc.toList.length := by rw [← hzs, ← hall2.len]
          rw [hl, seg_all] at hpart2
          exact hpart2
        rw [hzs, ← ht.sk] at hoff
        obtain ⟨w', hk, hws, hwok, hwids⟩ := setA_rep ht.ok hz' hoff h
        rw [splice_self _ _ _ (by rw [Array.length_toList]; exact hsz)] at hwok
        obtain ⟨σ2, g2, h2, hst2, hext2, hf2⟩ := convK_ok l (cell_set hst1 hobj2 (hws.trans hzs.symm) ⟨_, _, hcell3, htag3, hwok⟩)
          (fun m hm => cell_fresh (hf1 m hm) hobj2 (hwids m (hids2 m ((hf1 m hm).cells _ _ hobj2)) (ht.ids m hm))) hk
        exact ⟨σ2, g2, h2, hst2, hext1.trans hext2, hf2⟩
    · simp at h

theorem normL_ok {cut : Cut} {k : List (Nat × AVal) → List Obj → Option R} (hst : StOK n g w a σ) (hf : FreshUp g σ) (h : normL cut σ k = some r) :
    ∃ sl os g', k sl os = some r ∧ StOK n g' w a (St.of sl os) ∧ Ext w g w g' ∧ FreshUp g' (St.of sl os) := by
  obtain ⟨σ1, g1, h, hst1, hext1, hf1⟩ := convK_ok cut.conv hst hf h
  split at h
  · rename_i l hl
    obtain ⟨sl, os, g2, h2, hst2, hext2, hf2⟩ := renum_ok (liveSlots_some hl) hst1 h
    exact ⟨sl, os, g2, h2, hst2, hext1.trans hext2, hf2⟩
  · simp at h
theorem norm_ok {cut : Cut} (hst : StOK n g w a σ) (hf : FreshUp g σ) (h : norm cut σ k = some r) :
    ∃ σ' g', k σ' = some r ∧ StOK n g' w a σ' ∧ Ext w g w g' ∧ FreshUp g' σ' := by
  obtain ⟨sl, os, g', h1, h2, h3, h4⟩ := normL_ok hst hf h
  exact ⟨_, g', h1, h2, h3, h4⟩
end

end Go.Kz

/-
  Code: what the interpreter says of it is what the model does.
-/
namespace Go.Kz
variable {R : Type}

def AExit.to : AExit → Exit
  | .normal => .normal
  | .exit i => .exit i
  | .ret => .ret

def wroteL (s : Nat) : List Oper → Bool
  | [] => false
  | o :: l => (match o.dst with
    | some d => Nat.beq d s
    | none => false) || wroteL s l
/-- Does the code write to the slot? -/
def wrote (s : Nat) : Code → Bool
  | .region _ ops _ => wroteL s ops.toList
  | .seq a b => wrote s a || wrote s b
  | .cond _ a b => wrote s a || wrote s b
  | .block _ b => wrote s b
  | .loop b => wrote s b
  | _ => false
theorem wroteL_no {s : Nat} : {l : List Oper} → wroteL s l = false → ∀ o ∈ l, o.dst ≠ some s
  | [], _, o, h => by simp at h
  | x :: l, hw, o, h => by
    simp only [wroteL, Bool.or_eq_false_iff] at hw
    rcases List.mem_cons.1 h with rfl | h
    · intro hd
      have h1 := hw.1
      rw [hd] at h1
      simp only [Nat.beq_refl] at h1
      cases h1
    · exact wroteL_no hw.2 o h
/-- The slots that some code leaves alone. -/
def Kept (b : Code) (a a' : Act) : Prop := ∀ s, wrote s b = false → a'.tmps[s]? = a.tmps[s]?

/-- What must hold wherever the code is left. -/
def Kont (n : Nat) (g : Ghost) (w : World) (k : AExit → St → Option R) (r : R) (F : Act → Prop) (Q : Exit → Act → World → Prop) : Prop :=
  ∀ e σ' g' a' w', k e σ' = some r → StOK n g' w' a' σ' → Ext w g w' g' → FreshUp g' σ' → F a' → Q e.to a' w'

theorem Kont.later {n : Nat} {g g' : Ghost} {w w' : World} {k : AExit → St → Option R} {r : R} {F F' : Act → Prop} {Q : Exit → Act → World → Prop} (h : Kont n g w k r F Q) (he : Ext w g w' g') (hF : ∀ a, F' a → F a) : Kont n g' w' k r F' Q :=
  fun e σ' g2 a' w2 hk hst hext hf hF' => h e σ' g2 a' w2 hk hst (he.trans hext) hf (hF a' hF')

section
variable {P : Program} {c : Ctx}

theorem code_ok (hc : CtxOK P c) (hm : P.follows .mixedOrders = true) : (code : Code) → (∀ b ∈ loopsOf code, LoopOK c b) → {σ : St} → {g : Ghost} → {a : Act} → {w : World} → {k : AExit → St → Option R} → {r : R} → {Q : Exit → Act → World → Prop} →
    (∀ ch a w, ¬ Q (.panic ch) a w) → codeK c code σ k = some r → StOK c.ntmps g w a σ → FreshUp g σ → Kont c.ntmps g w k r (Kept code a) Q → code.wp P Q a w
  | .skip, _, σ, g, a, w, k, r, Q, _, h, hst, hf, hk => Go.wp_skip (hk .normal σ g a w h hst (Ext.refl _ _) hf (fun _ _ => rfl))
  | .region id ops draw, _, σ, g, a, w, k, r, Q, hQ, h, hst, hf, hk => region_ok hc hm hQ h hst hf (fun σ' g' a' w' h' hst' hext' hf' hkp => hk .normal σ' g' a' w' h' hst' hext' hf' (fun s hs => hkp s (wroteL_no hs)))
  | .seq x y, hlo, σ, g, a, w, k, r, Q, hQ, h, hst, hf, hk => by
    simp only [codeK] at h
    refine wp_seq (code_ok hc hm x (fun b hb => hlo b (by simp [loopsOf, hb])) (Q := Exit.then (y.wp P Q) Q) hQ h hst hf ?_)
    intro e σ1 g1 a1 w1 h1 hst1 hext1 hf1 hkp1
    have hy : ∀ a', Kept y a1 a' → Kept (.seq x y) a a' := fun a' h s hs => by
      simp only [wrote, Bool.or_eq_false_iff] at hs
      rw [h s hs.2, hkp1 s hs.1]
    have hx : Kept (.seq x y) a a1 := fun s hs => by
      simp only [wrote, Bool.or_eq_false_iff] at hs
      exact hkp1 s hs.1
    cases e with
    | normal =>
      simp only [kSeq, kCut] at h1
      show y.wp P Q a1 w1
      split at h1
      · obtain ⟨σ2, g2, h2, hst2, hext2, hf2⟩ := norm_ok hst1 hf1 h1
        exact code_ok hc hm y (fun b hb => hlo b (by simp [loopsOf, hb])) hQ h2 hst2 hf2 (hk.later (hext1.trans hext2) hy)
      · exact code_ok hc hm y (fun b hb => hlo b (by simp [loopsOf, hb])) hQ h1 hst1 hf1 (hk.later hext1 hy)
    | exit i => exact hk (.exit i) σ1 g1 a1 w1 h1 hst1 hext1 hf1 hx
    | ret => exact hk .ret σ1 g1 a1 w1 h1 hst1 hext1 hf1 hx
  | .cond x p q, hlo, σ, g, a, w, k, r, Q, hQ, h, hst, hf, hk => by
    simp only [codeK] at h
    split at h
    · rename_i t ht
      have hv := VOK_bool (ev_ok hst ht).1
      refine wp_cond hv ?_
      cases t with
      | true => exact code_ok hc hm p (fun b hb => hlo b (by simp [loopsOf, hb])) hQ h hst hf (hk.later (Ext.refl _ _) fun a' h s hs => h s (by simp only [wrote, Bool.or_eq_false_iff] at hs; exact hs.1))
      | false => exact code_ok hc hm q (fun b hb => hlo b (by simp [loopsOf, hb])) hQ h hst hf (hk.later (Ext.refl _ _) fun a' h s hs => h s (by simp only [wrote, Bool.or_eq_false_iff] at hs; exact hs.2))
    · simp at h
  | .block id b, hlo, σ, g, a, w, k, r, Q, hQ, h, hst, hf, hk => by
    simp only [codeK] at h
    refine wp_block (code_ok hc hm b (fun b' hb => hlo b' (by simp [loopsOf, hb])) (Q := Exit.inBlock id Q) hQ h hst hf ?_)
    intro e σ1 g1 a1 w1 h1 hst1 hext1 hf1 hkp1
    have hx : Kept (.block id b) a a1 := hkp1
    cases e with
    | normal => exact hk .normal σ1 g1 a1 w1 h1 hst1 hext1 hf1 hx
    | exit i =>
      simp only [kBlock] at h1
      simp only [AExit.to, Exit.inBlock]
      cases hb : Nat.beq i id with
      | true =>
        rw [hb] at h1
        rw [if_pos (Nat.eq_of_beq_eq_true hb)]
        exact hk .normal σ1 g1 a1 w1 h1 hst1 hext1 hf1 hx
      | false =>
        rw [hb] at h1
        rw [if_neg (fun he => by subst he; rw [Nat.beq_refl] at hb; simp at hb)]
        exact hk (.exit i) σ1 g1 a1 w1 h1 hst1 hext1 hf1 hx
    | ret => exact hk .ret σ1 g1 a1 w1 h1 hst1 hext1 hf1 hx
  | .loop b, hlo, σ, g, a, w, k, r, Q, hQ, h, hst, hf, hk => by
    simp only [codeK] at h
    split at h
    · rename_i rg hrg
      split at h
      · rename_i lv hlv
        split at h
        · rename_i L hL
          obtain ⟨sl0, os0, g0, h, hst0, hext0, hf0⟩ := normL_ok hst hf h
          have h := hlo b (by simp [loopsOf]) rg lv L hrg hlv hL R sl0 os0 k r h
          refine wp_loop_rounds c.fuel ?_
          have rounds : ∀ (n : Nat) {sl : List (Nat × AVal)} {os : List Obj} {g1 : Ghost} {a1 : Act} {w1 : World}, loopN (codeK c b) lv n sl os (kExit c rg k) = some r → StOK c.ntmps g1 w1 a1 (St.of sl os) → FreshUp g1 (St.of sl os) → Ext w g w1 g1 → Kept b a a1 → Code.rounds P b Q n a1 w1 := by
            intro n
            induction n with
            | zero => intro sl os g1 a1 w1 h; simp [loopN] at h
            | succ n ih =>
            intro sl os g1 a1 w1 h hst hf hext hkp
            simp only [loopN] at h
            rw [rounds_succ]
            refine code_ok hc hm b (fun b' hb => hlo b' (by simp [loopsOf, hb])) (Q := Exit.then (Code.rounds P b Q n) Q) hQ h hst hf ?_
            intro e σ2 g2 a2 w2 h2 hst2 hext2 hf2 hkp2
            have hx : Kept (.loop b) a a2 := fun s hs => (hkp2 s hs).trans (hkp s hs)
            cases e with
            | normal =>
              obtain ⟨sl3, os3, g3, h3, hst3, hext3, hf3⟩ := normL_ok hst2 hf2 h2
              exact ih h3 hst3 hf3 ((hext.trans hext2).trans hext3) hx
            | exit i =>
              simp only [kExit] at h2
              split at h2
              · obtain ⟨σ3, g3, h3, hst3, hext3, hf3⟩ := norm_ok hst2 hf2 h2
                exact hk (.exit i) σ3 g3 a2 w2 h3 hst3 ((hext.trans hext2).trans hext3) hf3 hx
              · simp at h2
            | ret =>
              simp only [kExit] at h2
              obtain ⟨σ3, g3, h3, hst3, hext3, hf3⟩ := norm_ok hst2 hf2 h2
              exact hk .ret σ3 g3 a2 w2 h3 hst3 ((hext.trans hext2).trans hext3) hf3 hx
          exact rounds c.fuel h hst0 hf0 hext0 (fun _ _ => rfl)
        · simp at h
      · simp at h
    · simp at h
  | .exit id, _, σ, g, a, w, k, r, Q, _, h, hst, hf, hk => wp_exit (hk (.exit id) σ g a w h hst (Ext.refl _ _) hf (fun _ _ => rfl))
  | .ret, _, σ, g, a, w, k, r, Q, _, h, hst, hf, hk => wp_ret (hk .ret σ g a w h hst (Ext.refl _ _) hf (fun _ _ => rfl))
  | .goto _, _, _, _, _, _, _, _, _, _, h, _, _, _ => by simp [codeK] at h
  | .label _, _, _, _, _, _, _, _, _, _, h, _, _, _ => by simp [codeK] at h
  | .scope _, _, _, _, _, _, _, _, _, _, h, _, _, _ => by simp [codeK] at h
  | .rangeFunc _ _ _ _, _, _, _, _, _, _, _, _, _, h, _, _, _ => by simp [codeK] at h
  | .refuse _, _, _, _, _, _, _, _, _, _, h, _, _, _ => by simp [codeK] at h
end

end Go.Kz

/-
  What a function hands back: rows that it owns are the caller's from then on.
-/
namespace Go.Kz
variable {R : Type}

def Ty.isChain : Ty → Bool
  | .pair _ _ | .unit => true
  | _ => false
/-- Types of results: slices that are the caller's from then on, and read-only data. -/
def Ty.exOK : Ty → Bool
  | .sl true t => t.isRo
  | .pair a b => a.exOK && b.exOK && b.isChain
  | t => t.isRo

/-- Some objects are gone: frozen, or (those in mv) to be the caller's. -/
structure Shr (g : Ghost) (objs0 : Objs) (g' : Ghost) (objs' : Objs) (ml : List (Option Nat)) : Prop where
  sv : g'.sv = g.sv
  blk : g'.blk = g.blk
  objs : ∀ i, objs' i = objs0 i ∨ objs' i = none
  tag : ∀ b, g'.tag b = g.tag b ∨ (g'.tag b = .ro ∧ ∃ id, objs0 id ≠ none ∧ objs' id = none ∧ some id ∉ ml ∧ ((∃ p, g.tag b = .row id p) ∨ g.tag b = .box id))
  mv : ∀ i, some i ∈ ml → objs0 i ≠ none ∧ objs' i = none
  nodup : (ml.filterMap id).Nodup

theorem Shrunk.shr {g g' : Ghost} {o o' : Objs} (h : Shrunk g o g' o') : Shr g o g' o' [] := by
  refine ⟨h.sv, h.blk, h.objs, fun b => ?_, fun i hi => by simp at hi, by simp⟩
  rcases h.tag b with e | ⟨e, id, h1, h2, h3⟩
  · exact .inl e
  · exact .inr ⟨e, id, h1, h2, by simp, h3⟩
theorem Shr.refl (g : Ghost) (objs : Objs) : Shr g objs g objs [] := ⟨rfl, rfl, fun _ => .inl rfl, fun _ => .inl rfl, fun i h => by simp at h, by simp⟩
theorem Shr.nil (g : Ghost) (objs : Objs) : Shr g objs g objs [none] := ⟨rfl, rfl, fun _ => .inl rfl, fun _ => .inl rfl, fun i h => by simp at h, by simp⟩

theorem Shr.ro {g g' : Ghost} {o o' : Objs} {mv : List (Option Nat)} (h : Shr g o g' o' mv) (w : World) : RoKept w g w g' := by
  refine ⟨fun b hb => ⟨?_, rfl⟩⟩
  rcases h.tag b with e | ⟨e, _⟩
  · rw [e, hb]
  · exact e
/-- What was moved before stands. -/
theorem Shr.stays {g g' : Ghost} {o o' : Objs} {mv : List (Option Nat)} (h : Shr g o g' o' mv) (w : World) {id : Nat} (hid : o id = none ∨ o' id ≠ none ∨ some id ∈ mv) : Same w g w g' id := by
  have hno : ∀ id', o id' ≠ none → o' id' = none → some id' ∉ mv → id' ≠ id := by
    intro id' h1 h2 h3 he
    subst he
    rcases hid with h | h | h
    · exact h1 h
    · exact h h2
    · exact h3 h
  refine ⟨⟨fun q => by rw [h.sv], fun q b hb => ⟨?_, rfl⟩⟩, by rw [h.blk], fun hb => ⟨?_, rfl⟩⟩
  · rcases h.tag b with e | ⟨_, id', h1, h2, h3, ht⟩
    · rw [e, hb]
    · rw [hb] at ht
      rcases ht with ⟨p, ht⟩ | ht
      · simp only [Tag.row.injEq] at ht
        exact absurd ht.1.symm (hno id' h1 h2 h3)
      · simp at ht
  · rcases h.tag (g.blk id) with e | ⟨_, id', h1, h2, h3, ht⟩
    · rw [e, hb]
    · rw [hb] at ht
      rcases ht with ⟨p, ht⟩ | ht
      · simp at ht
      · simp only [Tag.box.injEq] at ht
        exact absurd ht.symm (hno id' h1 h2 h3)
theorem Shr.trans {g g' g'' : Ghost} {o o' o'' : Objs} {m1 m2 : List (Option Nat)} (h : Shr g o g' o' m1) (k : Shr g' o' g'' o'' m2) : Shr g o g'' o'' (m1 ++ m2) := by
  have hback : ∀ i, o' i ≠ Option.none → o i ≠ Option.none := by
    intro i hi
    rcases h.objs i with e | e
    · rw [← e]; exact hi
    · exact absurd e hi
  have hfwd : ∀ i, o' i = Option.none → o'' i = Option.none := by
    intro i hi
    rcases k.objs i with e | e
    · rw [e]; exact hi
    · exact e
  refine ⟨k.sv.trans h.sv, k.blk.trans h.blk, fun i => ?_, fun b => ?_, fun i hi => ?_, ?_⟩
  · rcases k.objs i with e | e
    · rw [e]; exact h.objs i
    · exact .inr e
  · rcases k.tag b with e | ⟨e, id, h1, h2, h3, ht⟩
    · rcases h.tag b with e2 | ⟨e2, id, h1, h2, h3, ht⟩
      · exact .inl (e.trans e2)
      · refine .inr ⟨e.trans e2, id, h1, hfwd id h2, fun hm => ?_, ht⟩
        rcases List.mem_append.1 hm with hm | hm
        · exact h3 hm
        · exact absurd h2 (k.mv id hm).1
    · rcases h.tag b with e2 | ⟨e2, _⟩
      · rw [e2] at ht
        refine .inr ⟨e, id, hback id h1, h2, fun hm => ?_, ht⟩
        rcases List.mem_append.1 hm with hm | hm
        · exact h1 (h.mv id hm).2
        · exact h3 hm
      · rw [e2] at ht; rcases ht with ⟨p, ht⟩ | ht <;> simp at ht
  · rcases List.mem_append.1 hi with hi | hi
    · exact ⟨(h.mv i hi).1, hfwd i (h.mv i hi).2⟩
    · exact ⟨hback i (k.mv i hi).1, (k.mv i hi).2⟩
  · rw [List.filterMap_append, List.nodup_append]
    refine ⟨h.nodup, k.nodup, fun a ha b hb => ?_⟩
    have ha' : some a ∈ m1 := by obtain ⟨x, hx, he⟩ := List.mem_filterMap.1 ha; simp at he; rw [← he]; exact hx
    have hb' : some b ∈ m2 := by obtain ⟨x, hx, he⟩ := List.mem_filterMap.1 hb; simp at he; rw [← he]; exact hx
    intro he; subst he
    exact (k.mv a hb').1 (h.mv a ha').2
theorem Shr.kept {w : World} {g g' : Ghost} {o o' : Objs} {mv : List (Option Nat)} (h : Shr g o g' o' mv) (id : Nat) : IdKept g g' id (o id) (o' id) := by
  rcases h.objs id with e | e
  · rw [e]
    by_cases hn : o' id = Option.none
    · left; rw [← e]; exact hn
    · exact IdKept.same (h.stays w (.inr (.inl hn)))
  · exact .inl e
theorem Shr.heap {w : World} {g g' : Ghost} {o o' : Objs} {mv : List (Option Nat)} (h : Shr g o g' o' mv) (hh : HeapOK w g o) : HeapOK w g' o' := by
  refine ⟨fun id x hx => ?_, fun b hb => ?_⟩
  · have hid : o' id ≠ Option.none := by rw [hx]; simp
    have hx' : o id = some x := by
      rcases h.objs id with e | e
      · rw [← e]; exact hx
      · exact absurd e hid
    exact ObjOK.frame (h.ro w) (h.stays w (.inr (.inl hid))) (fun a ha id' _ => h.kept (w := w) id') (hh.objs id x hx')
  · refine hh.tags b ?_
    rcases h.tag b with e | ⟨e, id', _, _, _, ht⟩
    · rw [← e]; exact hb
    · rcases ht with ⟨p, ht⟩ | ht <;> rw [ht] <;> simp
theorem Shr.ext {w : World} {g g' : Ghost} {o o' : Objs} {mv : List (Option Nat)} (h : Shr g o g' o' mv) : Ext w g w g' := by
  refine ⟨rfl, rfl, rfl, Nat.le_refl _, Nat.le_refl _, fun b _ ht => ⟨rfl, ?_⟩⟩
  rcases h.tag b with e | ⟨_, id', _, _, _, h2⟩
  · exact e
  · rcases h2 with ⟨p, h2⟩ | h2 <;> rw [h2] at ht <;> simp at ht

theorem kill_shr {g : Ghost} {σ : St} {id : Nat} (hid : σ.objs id ≠ none) : Shr g σ.objs g (σ.kill id).objs [some id] := by
  refine ⟨rfl, rfl, (freezeG_shrunk (g := g) (σ := σ) id hid).objs, fun b => .inl rfl, fun i hi => ?_, by simp⟩
  simp only [List.mem_singleton, Option.some.injEq] at hi
  subst hi
  exact ⟨hid, by simp [St.kill, upd]⟩

/-- Where what was moved lies from then on. -/
structure Laid (w : World) (g : Ghost) (mv : List (Option Nat)) (G : Ghost) (base : Nat) : Prop where
  ro : RoKept w g w G
  row : ∀ j i, nthL mv j = some (some i) → Moved w g w G i [] (base + j) []
  nil : ∀ j, nthL mv j = some none → G.sv (base + j) [] = .slice none 0 0

theorem nthL_append {α : Type} : (l m : List α) → (i : Nat) → nthL (l ++ m) i = if i < l.length then nthL l i else nthL m (i - l.length)
  | [], m, i => by simp
  | x :: l, m, 0 => by simp [nthL]
  | x :: l, m, i + 1 => by simp [nthL, nthL_append l m i]
theorem Laid.left {w : World} {g g' G : Ghost} {o o' : Objs} {m1 m2 : List (Option Nat)} {base : Nat} (k : Shr g o g' o' m2) (hm : ∀ i, some i ∈ m1 → o i = none) (h : Laid w g' (m1 ++ m2) G base) : Laid w g m1 G base := by
  refine ⟨⟨fun b hb => h.ro.blk b ((k.ro w).blk b hb).1⟩, fun j i hj => ?_, fun j hj => ?_⟩
  · have hlt := nthL_lt hj
    have hx := h.row j i (by rw [nthL_append, if_pos hlt]; exact hj)
    have hs := k.stays w (.inl (hm i (nthL_mem hj)))
    refine ⟨fun q => (hx.sv q).trans (hs.row.sv q), fun q b hb => ?_⟩
    exact hx.blk q b (hs.row.blk q b hb).1
  · exact h.nil j (by rw [nthL_append, if_pos (nthL_lt hj)]; exact hj)
theorem Laid.right {w : World} {g G : Ghost} {m1 m2 : List (Option Nat)} {base : Nat} (h : Laid w g (m1 ++ m2) G base) : Laid w g m2 G (base + m1.length) := by
  refine ⟨h.ro, fun j i hj => ?_, fun j hj => ?_⟩
  · have := h.row (m1.length + j) i (by rw [nthL_append, if_neg (by omega)]; rw [Nat.add_sub_cancel_left]; exact hj)
    rw [← Nat.add_assoc] at this; exact this
  · have := h.nil (m1.length + j) (by rw [nthL_append, if_neg (by omega)]; rw [Nat.add_sub_cancel_left]; exact hj)
    rw [← Nat.add_assoc] at this; exact this

theorem expose_ro : (t : Ty) → (d : t.den) → (n : Nat) → t.isRo = true → expose t d n = (.data t d, [])
  | .sl true t, l, n, h => by simp [Ty.isRo] at h
  | .sl false t, l, n, _ => rfl
  | .int _, _, _, _ => rfl
  | .bool, _, _, _ => rfl
  | .str, _, _, _ => rfl
  | .unit, _, _, _ => rfl
  | .arr _ _, _, _, _ => rfl
  | .ptr _, _, _, _ => rfl
  | .fn _ _, _, _, _ => rfl
  | .pair a b, (x, y), n, h => by simp only [expose, h, cond_true]

/-- The parts of read-only data, each by itself. -/
theorem exposeC_ro {w : World} {g : Ghost} {objs : Objs} : (t : Ty) → (d : t.den) → (n : Nat) → {cs : List Value} → t.isRo = true → t.isChain = true → t.exOK = true → Rep w g none t d cs →
    AOK w g objs (expose.exposeC t d n).1 cs ∧ (expose.exposeC t d n).2 = []
  | .unit, _, _, cs, _, _, _, h => ⟨h, rfl⟩
  | .pair a b, (x, y), n, cs, h, _, he, hr => by
    obtain ⟨c1, c2, rfl, h1, h2⟩ := hr
    simp only [Ty.isRo, Bool.and_eq_true] at h
    simp only [Ty.exOK, Bool.and_eq_true] at he
    have ha := expose_ro a x n h.1
    have hb := fun n => exposeC_ro (objs := objs) b y n h.2 he.2 he.1.2 h2
    simp only [expose.exposeC, ha, List.length_nil, Nat.add_zero, List.nil_append]
    exact ⟨⟨c1, c2, rfl, ⟨h.1, h1⟩, (hb n).1⟩, (hb n).2⟩
  | .int _, _, _, _, _, h, _, _ => by simp [Ty.isChain] at h
  | .bool, _, _, _, _, h, _, _ => by simp [Ty.isChain] at h
  | .str, _, _, _, _, h, _, _ => by simp [Ty.isChain] at h
  | .arr _ _, _, _, _, _, h, _, _ => by simp [Ty.isChain] at h
  | .sl _ _, _, _, _, _, h, _, _ => by simp [Ty.isChain] at h
  | .ptr _, _, _, _, _, h, _, _ => by simp [Ty.isChain] at h
  | .fn _ _, _, _, _, _, h, _, _ => by simp [Ty.isChain] at h

/-- What is laid before the caller. -/
structure Exposed (w : World) (G : Ghost) (x : AVal × List Obj) (base : Nat) (cs : List Value) : Prop where
  ok : ∀ O, AOK w G O x.1 cs
  objs : ∀ O j o, nthL x.2 j = some o → ObjOK w G O (base + j) o

theorem give_nv {R : Type} {n : Nat} {pt : Bool} {id : Nat} {p : Path} {ep : Nat} {u : Ty} {σ : St} {k : u.den → St → Option R} {r : R} (h : give n (.nv pt id p ep) u σ k = some r) : ∃ v, u = .sl false v := by
  cases n with
  | zero => simp [give] at h
  | succ n =>
    cases pt with
    | true => simp [give] at h
    | false =>
      cases p with
      | cons s q => simp [give] at h
      | nil =>
        simp only [give] at h
        split at h
        · rename_i t l e i ho
          cases hb : Nat.beq e ep with
          | false => rw [hb] at h; simp at h
          | true =>
            rw [hb] at h
            simp only [cond_true] at h
            split at h
            · exact ⟨_, rfl⟩
            · simp at h
        · simp at h

theorem giveM_ok {w : World} : (n : Nat) → {a : AVal} → {u : Ty} → {σ : St} → {g : Ghost} → {k : u.den → St → Option R} → {r : R} → {cs : List Value} →
    HeapOK w g σ.objs → AOK w g σ.objs a cs → u.exOK = true → give n a u σ k = some r →
    ∃ d σ' g' mv, k d σ' = some r ∧ σ'.slots = σ.slots ∧ σ'.next = σ.next ∧ Shr g σ.objs g' σ'.objs mv ∧ (∀ m, (expose u d m).2.length = mv.length) ∧
      (∀ G base, Laid w g' mv G base → Exposed w G (expose u d base) base cs) ∧
      (u.isChain = true → (∀ m, (expose.exposeC u d m).2.length = mv.length) ∧ ∀ G base, Laid w g' mv G base → Exposed w G (expose.exposeC u d base) base cs)
  | 0, _, _, _, _, _, _, _, _, _, _, h => by simp [give] at h
  | n + 1, a, u, σ, g, k, r, cs, hh, hok, hu, h => by
    -- read-only data
    have ro : ∀ d σ' g', u.isRo = true → k d σ' = some r → σ'.slots = σ.slots → σ'.next = σ.next → Shr g σ.objs g' σ'.objs [] → Rep w g' none u d cs →
        ∃ d σ' g' mv, k d σ' = some r ∧ σ'.slots = σ.slots ∧ σ'.next = σ.next ∧ Shr g σ.objs g' σ'.objs mv ∧ (∀ m, (expose u d m).2.length = mv.length) ∧
          (∀ G base, Laid w g' mv G base → Exposed w G (expose u d base) base cs) ∧
          (u.isChain = true → (∀ m, (expose.exposeC u d m).2.length = mv.length) ∧ ∀ G base, Laid w g' mv G base → Exposed w G (expose.exposeC u d base) base cs) := by
      intro d σ' g' hro hk h1 h2 h3 hrep
      refine ⟨d, σ', g', [], hk, h1, h2, h3, fun m => by rw [expose_ro u d m hro]; rfl, fun G base hl => ?_, fun hch => ⟨fun m => ?_, fun G base hl => ?_⟩⟩
      · rw [expose_ro u d base hro]
        exact ⟨fun O => ⟨hro, hrep.kept hl.ro⟩, fun O j o hj => by cases j <;> simp [nthL] at hj⟩
      · rw [(exposeC_ro (w := w) (objs := fun _ => none) u d m hro hch hu hrep).2]; rfl
      · refine ⟨fun O => (exposeC_ro u d base hro hch hu (hrep.kept hl.ro)).1, fun O j o hj => ?_⟩
        rw [(exposeC_ro (w := w) (objs := fun _ => none) u d base hro hch hu hrep).2] at hj
        cases j <;> simp [nthL] at hj
    cases hro : u.isRo with
    | true =>
      obtain ⟨d, σ', g', hk, h1, h2, h3, hrep⟩ := give_ok (n + 1) hh hok hro h
      exact ro d σ' g' hro hk h1 h2 h3.shr hrep
    | false =>
    cases a with
    | data t d =>
      simp only [give] at h
      obtain ⟨rfl, h⟩ := castK_some h
      rw [hok.1] at hro; simp at hro
    | nilS =>
      simp only [give] at h
      obtain ⟨o, v, rfl, h⟩ := nilK_some h
      have hok' : cs = [.slice none 0 0] := hok
      subst hok'
      cases o with
      | false => rw [show (Ty.sl false v).isRo = true from by simpa [Ty.exOK] using hu] at hro; simp at hro
      | true =>
        refine ⟨_, σ, g, [none], h, rfl, rfl, Shr.nil _ _, fun m => rfl, fun G base hl => ?_, fun hch => by simp [Ty.isChain] at hch⟩
        have hsv := hl.nil 0 rfl
        refine ⟨fun O => ⟨_, rfl, rfl, fun t l e _ => ⟨Nat.zero_le _, fun _ => hsv.symm⟩⟩, fun O j o hj => ?_⟩
        cases j with
        | succ j => cases j <;> simp [expose, nthL] at hj
        | zero =>
          simp only [expose, nthL, Option.some.injEq] at hj
          subst hj
          refine ⟨hu, ?_⟩
          rw [hsv]
          exact ⟨none, 0, rfl, hsv, Nat.le_refl _, Nat.zero_le _, .inl ⟨rfl, rfl, rfl⟩⟩
    | ref id p ep =>
      cases p with
      | cons s q => simp [give] at h
      | nil =>
        simp only [give] at h
        split at h
        · rename_i t l e ho
          cases hb : Nat.beq e ep with
          | false => rw [hb] at h; simp at h
          | true =>
            have he : e = ep := Nat.eq_of_beq_eq_true hb
            subst he
            rw [hb] at h
            simp only [cond_true] at h
            obtain ⟨v, rfl, _, hv⟩ := hok
            have hsv := (hv _ _ _ ho).2 rfl
            have hobj := hh.objs id _ ho
            split at h
            · rename_i v' kk
              obtain ⟨he, h⟩ := castK_some h
              simp only [Ty.sl.injEq, true_and] at he
              subst he
              refine ⟨_, σ.kill id, g, [some id], h, rfl, rfl, kill_shr (by rw [ho]; simp), fun m => rfl, fun G base hl => ?_, fun hch => by simp [Ty.isChain] at hch⟩
              have hm := hl.row 0 id rfl
              have hsv' := hm.sv []
              simp only [List.append_nil] at hsv'
              refine ⟨fun O => ⟨_, rfl, ?_, fun t l e _ => ⟨Nat.zero_le _, fun _ => ?_⟩⟩, fun O j o hj => ?_⟩
              · obtain ⟨_, _, _, _, hx, _⟩ := hobj
                rw [hsv, hx]; rfl
              · rw [hsv]; exact hsv'.symm
              · cases j with
                | succ j => cases j <;> simp [expose, nthL] at hj
                | zero =>
                  simp only [expose, nthL, Option.some.injEq] at hj
                  subst hj
                  refine ⟨hobj.1, ?_⟩
                  have := Rep.move hl.ro (o := some (id, [])) (o' := some (base, [])) hm hobj.2
                  show Rep w G (some (base, [])) _ _ [G.sv base []]
                  rw [show G.sv base [] = g.sv id [] from hsv']
                  exact this
            · rename_i v' kk
              rw [show (Ty.sl false v').isRo = true from by simpa [Ty.exOK] using hu] at hro; simp at hro
            · simp at h
        · simp at h
    | bptr id p =>
      cases u with
      | ptr u => rw [show (Ty.ptr u).isRo = true from hu] at hro; simp at hro
      | _ => cases p <;> simp [give] at h
    | clos f c =>
      cases u with
      | fn f' t => rw [show (Ty.fn f' t).isRo = true from hu] at hro; simp at hro
      | _ => simp [give] at h
    | ifc t c => simp [give] at h
    | agg c =>
      simp only [give] at h
      exact giveM_ok n (a := c) hh hok hu h
    | pr a b =>
      cases u with
      | pair t u =>
        simp only [give] at h
        simp only [Ty.exOK, Bool.and_eq_true] at hu
        obtain ⟨c1, c2, rfl, ha, hb⟩ := hok
        obtain ⟨x, σ1, g1, mv1, hk1, h1, h2, h3, hl1, he1, _⟩ := giveM_ok n hh ha hu.1.1 h
        have hb' := AOK.frame (objs' := σ1.objs) (h3.ro w) (fun i _ => h3.kept (w := w) i) hb
        obtain ⟨y, σ2, g2, mv2, hk2, h4, h5, h6, hl2, he2, hc2⟩ := giveM_ok n (h3.heap hh) hb' hu.1.2 hk1
        obtain ⟨hcl2, hce2⟩ := hc2 hu.2
        have hlenC : ∀ m, (expose.exposeC (.pair t u) (x, y) m).2.length = (mv1 ++ mv2).length := fun m => by
          simp only [expose.exposeC, List.length_append, hl1, hcl2]
        have hexC : ∀ G base, Laid w g2 (mv1 ++ mv2) G base → Exposed w G (expose.exposeC (.pair t u) (x, y) base) base (c1 ++ c2) := fun G base hl => by
          have e1 := he1 G base (hl.left h6 (fun i hi => (h3.mv i hi).2))
          have e2 := hce2 G (base + mv1.length) hl.right
          simp only [expose.exposeC]
          rw [hl1 base]
          refine ⟨fun O => ⟨c1, c2, rfl, e1.ok O, e2.ok O⟩, fun O j o hj => ?_⟩
          rw [nthL_append] at hj
          split at hj
          · exact e1.objs O j o hj
          · rename_i hge
            rw [hl1 base] at hj hge
            have := e2.objs O _ o hj
            rw [show base + mv1.length + (j - mv1.length) = base + j from by omega] at this
            exact this
        refine ⟨(x, y), σ2, g2, mv1 ++ mv2, hk2, h4.trans h1, h5.trans h2, h3.trans h6, fun m => ?_, fun G base hl => ?_, fun _ => ⟨hlenC, hexC⟩⟩
        · simp only [expose]
          rw [hro]
          exact hlenC m
        · simp only [expose]
          rw [hro]
          exact ⟨fun O => (hexC G base hl).ok O, (hexC G base hl).objs⟩
      | _ => simp [give] at h
    | un =>
      cases u with
      | unit =>
        simp only [give] at h
        simp [Ty.isRo] at hro
      | _ => simp [give] at h
    | view id p ep x y => cases u <;> simp [give] at h
    | eptr id p ep => cases u <;> simp [give] at h
    | mref id => cases u <;> simp [give] at h
    | nv pt id p ep =>
      obtain ⟨v', rfl⟩ := give_nv h
      rw [show (Ty.sl false v').isRo = true from by simpa [Ty.exOK] using hu] at hro; simp at hro
    | tup c => exact hok.elim

end Go.Kz

/-
  Functions: from the interpreter's equation to the contract.
-/
namespace Go.Kz
variable {R : Type}

/-- The ghost before the caller: what was moved, in its order. -/
def indexO (x : Nat) : List (Option Nat) → Nat → Option Nat
  | [], _ => none
  | some y :: l, i => if y = x then some i else indexO x l (i + 1)
  | none :: l, i => indexO x l (i + 1)
theorem indexO_nth {x : Nat} : {l : List (Option Nat)} → {k d : Nat} → (l.filterMap id).Nodup → nthL l d = some (some x) → indexO x l k = some (k + d)
  | [], _, d, _, h => by cases d <;> simp [nthL] at h
  | none :: l, k, d, hn, h => by
    cases d with
    | zero => simp [nthL] at h
    | succ d =>
      simp only [indexO]
      rw [indexO_nth (l := l) (by simpa using hn) h]
      congr 1; omega
  | some y :: l, k, 0, _, h => by
    simp only [nthL, Option.some.injEq] at h
    simp [indexO, h]
  | some y :: l, k, d + 1, hn, h => by
    have hn' : y ∉ l.filterMap id ∧ (l.filterMap id).Nodup := by simpa using hn
    have hm : some x ∈ l := nthL_mem h
    have hne : y ≠ x := by
      intro he; subst he
      exact hn'.1 (List.mem_filterMap.2 ⟨some y, hm, rfl⟩)
    simp only [indexO, if_neg hne]
    rw [indexO_nth (l := l) hn'.2 h]
    congr 1; omega

def laidG (g : Ghost) (mv : List (Option Nat)) : Ghost where
  tag := fun b => match g.tag b with
    | .row i p => (match indexO i mv 0 with
      | some j => .row j p
      | none => .alien)
    | .box _ => .alien
    | t => t
  sv := fun j p => match nthL mv j with
    | some (some i) => g.sv i p
    | _ => .slice none 0 0
  blk := fun _ => 0

theorem laid_mk {w : World} {g : Ghost} {mv : List (Option Nat)} (hn : (mv.filterMap id).Nodup) : Laid w g mv (laidG g mv) 0 := by
  refine ⟨⟨fun b hb => ⟨by simp [laidG, hb], rfl⟩⟩, fun j i hj => ?_, fun j hj => by simp [laidG, hj]⟩
  have hx := indexO_nth (k := 0) hn hj
  rw [Nat.zero_add] at hx ⊢
  exact ⟨fun q => by simp [laidG, hj], fun q b hb => ⟨by simp [laidG, hb, hx], rfl⟩⟩
theorem laid_ext {w : World} {g : Ghost} {mv : List (Option Nat)} : Ext w g w (laidG g mv) := by
  refine ⟨rfl, rfl, rfl, Nat.le_refl _, Nat.le_refl _, fun b _ ht => ⟨rfl, ?_⟩⟩
  rcases ht with ht | ht <;> simp [laidG, ht]

theorem expose_isAgg : (t : Ty) → (d : t.den) → (n : Nat) → (expose t d n).1.isAgg = t.sk.isAgg
  | .sl true t, l, n => rfl
  | .sl false t, l, n => rfl
  | .int _, _, _ => rfl
  | .bool, _, _ => rfl
  | .str, _, _ => rfl
  | .unit, _, _ => rfl
  | .arr _ _, _, _ => rfl
  | .ptr _, _, _ => rfl
  | .fn _ _, _, _ => rfl
  | .pair a b, (x, y), n => by
    simp only [expose]
    cases (Ty.pair a b).isRo <;> rfl

theorem exposed_vok {w : World} {G : Ghost} {t : Ty} {d : t.den} {base : Nat} {cs : List Value} {v : Value} {agg : Bool} (h : Exposed w G (expose t d base) base cs) (hv : v = mkV agg cs) (ha : agg = t.sk.isAgg) (O : Objs) :
    VOK w G O (expose t d base).1 v :=
  VOK_of_cells (h.ok O) (by rw [expose_isAgg, hv, ha]) (expose_form t d base).1 (expose_form t d base).2.1

section
variable {n : Nat} {w : World} {a : Act} {g : Ghost} {σ : St} {r : R}

def exOKs : List Ty → Bool
  | [] => true
  | t :: ts => t.exOK && exOKs ts

/-- How a result is read. -/
def rvRun (tmps : Array Value) : ResultVar → Sem Value
  | .tmp t => pure (tmps.getD t undef)
  | .cell a t => do loadVar t (← asAddr (tmps.getD a undef))

theorem load_ok {x : AVal} {v : Value} {f : AVal → Option R} {r : R} (hh : HeapOK w g σ.objs) (ex : VOK w g σ.objs x v) (h : loadK σ x f = some r) :
    ∃ lv b off cc e fz, v = .pointer (some ⟨b, off, none⟩) ∧ w.heap[b]? = some (.cells cc e fz) ∧ off + lv.sk.size ≤ cc.size ∧ AOK w g σ.objs lv (seg cc.toList off lv.sk.size) ∧ f lv = some r := by
  unfold loadK at h
  split at h
  · rename_i t' d
    simp only [VOK] at ex
    obtain ⟨cs, ⟨hro, b, off, cc, e, fz, rfl, htag, hcell, hsz, hrep⟩, hv⟩ := ex
    exact ⟨.data t' d, b, off, cc, e, fz, hv, hcell, by simpa [AVal.sk, Ty.sk_size] using hsz, ⟨by simpa [Ty.isRo] using hro, by simpa [AVal.sk, Ty.sk_size] using hrep⟩, h⟩
  · rename_i id p ep
    split at h
    · simp at h
    · rename_i s q
      obtain ⟨t0, l0, ho0⟩ := efetch_obj h
      simp only [VOK] at ex
      obtain ⟨cs, ⟨v, rfl, hone, hv⟩, hv'⟩ := ex
      obtain ⟨hp, b0, off0, hpl, hvv⟩ := (hv _ _ _ ho0).2 rfl
      obtain ⟨t1, l1, u1, e1, b, off, cc, ee, ho1, hro, hk, hu1, hpl2, hty, htag, hcell, hsz, hrep⟩ := efetch_ok hh hp h
      rw [ho0] at ho1
      simp only [Option.some.injEq, Obj.row.injEq] at ho1
      obtain ⟨rfl, _, _⟩ := ho1
      rw [hpl] at hpl2
      simp only [Option.some.injEq, Prod.mk.injEq] at hpl2
      obtain ⟨rfl, rfl⟩ := hpl2
      exact ⟨.data u1 e1, b0, off0, cc, ee, (0, 0), by rw [hv']; exact hvv, hcell, by simpa [AVal.sk, Ty.sk_size] using hsz, ⟨hu1, by simpa [AVal.sk, Ty.sk_size] using hrep⟩, hk⟩
  · rename_i id p
    obtain ⟨xc, y, off, cc, e, hobj, h2, hoff, hcell, htag, hle, hall, hpart, hi⟩ := bfetch_ok hh h
    simp only [VOK] at ex
    obtain ⟨cs, ⟨v, rfl, hone, hv⟩, hv'⟩ := ex
    obtain ⟨off', s, hoff', hvv⟩ := hv _ hobj
    rw [hoff] at hoff'
    simp only [Option.some.injEq, Prod.mk.injEq] at hoff'
    obtain ⟨rfl, _⟩ := hoff'
    exact ⟨y, g.blk id, off, cc, e, (0, 0), by rw [hv']; exact hvv, hcell, hle, hpart, h2⟩
  · rename_i id p ep
    obtain ⟨t1, l1, e1, i1, hobj, hep, hrep, hk⟩ := nfetch_ok hh h
    simp only [VOK] at ex
    obtain ⟨cs, ⟨v, rfl, hone, hv⟩, hv'⟩ := ex
    obtain ⟨hp, b0, off0, hpl, hvv⟩ := ((hv _ _ _ _ _ hobj).2 hep).2 rfl
    cases p with
    | nil => exact absurd rfl hp
    | cons s q =>
      obtain ⟨u1, x1, bh, oh, ch, eh, ph, hk, hpl2, hty, _, htag, hcell, hsz, hr⟩ := nest_get hrep hk
      rw [hpl] at hpl2
      simp only [Option.some.injEq, Prod.mk.injEq] at hpl2
      obtain ⟨rfl, rfl⟩ := hpl2
      cases hro : u1.isRo with
      | true =>
        rw [hro] at hk
        exact ⟨.data u1 x1, b0, off0, ch, eh, (0, 0), by rw [hv']; exact hvv, hcell, by simpa [AVal.sk, Ty.sk_size] using hsz, ⟨hro, by simpa [AVal.sk, Ty.sk_size] using Rep.anyOwn (o' := none) hro hr⟩, hk⟩
      | false =>
        rw [hro] at hk
        simp only [cond_false] at hk
        split at hk
        · rename_i v1
          obtain ⟨ad, cp, hcs, hsv, _⟩ := hr
          refine ⟨.nv false id (s :: q) ep, b0, off0, ch, eh, (0, 0), by rw [hv']; exact hvv, hcell, hsz, ⟨_, hcs, rfl, fun t2 l2 e2 i2 h2 hobj' => ?_⟩, hk⟩
          rw [hobj] at hobj'
          simp only [Option.some.injEq, Obj.nest.injEq] at hobj'
          obtain ⟨rfl, _, rfl, rfl, _⟩ := hobj'
          have hi1 : i1 = ep := hep
          exact ⟨Nat.le_of_eq hi1.symm, fun _ => ⟨fun _ => hsv.symm, fun h => (by simp at h)⟩⟩
        · simp at hk
  · simp at h

/-- A result's value. -/
theorem rvK_ok {P : Program} {tt : Nat → Option Ty} (htt : TtOK P tt) {s : ResultVar} {f : AVal → Option R} {r : R} (hst : StOK n g w a σ) {t : Ty}
    (h : rvK tt σ s (fun av => cond (av.val && av.sk.same t.sk) (f av) none) = some r) :
    ∃ av v cs, f av = some r ∧ (rvRun a.tmps s).run P w = .ok v w ∧ AOK w g σ.objs av cs ∧ v = mkV t.sk.isAgg cs := by
  cases s with
  | tmp s =>
    simp only [rvK] at h
    split at h
    · rename_i av hs
      cases hb : (av.val && av.sk.same t.sk) with
      | false => rw [hb] at h; simp at h
      | true =>
        rw [hb] at h
        simp only [cond_true] at h
        simp only [Bool.and_eq_true] at hb
        obtain ⟨v, hv, hok⟩ := hst.slots s av hs
        obtain ⟨hag, _, _, hn3⟩ := val_isAgg hb.1
        obtain ⟨cs, hcs, hmk⟩ := VOK_cells hok hn3
        have hvg : a.tmps.getD s undef = v := by rw [Array.getD_eq_getD_getElem?, hv]; rfl
        exact ⟨av, v, cs, h, by simp [rvRun, hvg], hcs, by rw [hmk, hag, Sk.same_eq hb.2]⟩
    · simp at h
  | cell s T =>
    simp only [rvK] at h
    split at h
    · rename_i x u hs hu
      have hT := htt _ _ hu
      obtain ⟨v, hv, hok⟩ := hst.slots s x hs
      obtain ⟨lv, b, off, cc, e, fz, hvp, hcell, hle, hok', h⟩ := load_ok hst.heap hok h
      cases hc : u.sk.same lv.sk with
      | false => rw [hc] at h; simp at h
      | true =>
        rw [hc] at h
        simp only [cond_true] at h
        cases hb : (lv.val && lv.sk.same t.sk) with
        | false => rw [hb] at h; simp at h
        | true =>
          rw [hb] at h
          simp only [cond_true] at h
          simp only [Bool.and_eq_true] at hb
          have hsk := Sk.same_eq hc
          have hsk2 := Sk.same_eq hb.2
          have hsz : u.size = lv.sk.size := by rw [← hsk, Ty.sk_size]
          have hrun := run_loadVar (P := P) (w := w) hT hcell (by rw [hsz]; exact hle)
          have hvg : a.tmps.getD s undef = v := by rw [Array.getD_eq_getD_getElem?, hv]; rfl
          refine ⟨lv, mkV u.sk.isAgg (seg cc.toList off u.size), _, h, ?_, hok', ?_⟩
          · simp only [rvRun, hvg, hvp, asAddr, Sem.run_bind, Sem.run_pure, Result.andThen_ok]
            exact hrun
          · rw [hsz, hsk, hsk2]
    · simp at h

/-- One result. -/
theorem res1_ok {P : Program} {tt : Nat → Option Ty} (htt : TtOK P tt) {t : Ty} {s : ResultVar} {k : t.den → St → Option R} (hst : StOK n g w a σ) (ht : t.exOK = true) (h : rvK tt σ s (fun a => cond (a.val && a.sk.same t.sk) (give 20 a t σ k) none) = some r) :
    ∃ d σ' g' mv v, k d σ' = some r ∧ (rvRun a.tmps s).run P w = .ok v w ∧ StOK n g' w a σ' ∧ Shr g σ.objs g' σ'.objs mv ∧ (∀ m, (expose t d m).2.length = mv.length) ∧
      ∀ G base, Laid w g' mv G base → (∀ O, VOK w G O (expose t d base).1 v) ∧ ∀ O j o, nthL (expose t d base).2 j = some o → ObjOK w G O (base + j) o := by
  obtain ⟨av, v, cs, h, hrun, hcs, hmk⟩ := rvK_ok htt hst h
  obtain ⟨d, σ', g', mv, hk, h1, h2, h3, hl, he, _⟩ := giveM_ok 20 hst.heap hcs ht h
  have hst' : StOK n g' w a σ' := by
    refine ⟨fun i x hi => ?_, h3.heap hst.heap, hst.size, hst.defers⟩
    rw [h1] at hi
    obtain ⟨u, hu, hx⟩ := hst.slots i x hi
    exact ⟨u, hu, VOK.frame (h3.ro w) (fun id _ => h3.kept (w := w) id) hx⟩
  refine ⟨d, σ', g', mv, v, hk, hrun, hst', h3, hl, fun G base hL => ?_⟩
  have hE := he G base hL
  exact ⟨fun O => exposed_vok hE hmk rfl O, hE.objs⟩

theorem resK_one {tt : Nat → Option Ty} {t : Ty} {rs : List ResultVar} {k : resDen [t] → St → Option R} {r : R} (h : resK tt σ [t] rs k = some r) :
    ∃ s, rs = [s] ∧ rvK tt σ s (fun a => cond (a.val && a.sk.same t.sk) (give 20 a t σ k) none) = some r := by
  match rs, h with
  | [s], h => exact ⟨s, rfl, h⟩
  | [], h => simp [resK] at h
  | _ :: _ :: _, h => simp [resK] at h
theorem resK_more {tt : Nat → Option Ty} {t u : Ty} {ts : List Ty} {rs : List ResultVar} {k : resDen (t :: u :: ts) → St → Option R} {r : R} (h : resK tt σ (t :: u :: ts) rs k = some r) :
    ∃ s l, rs = s :: l ∧ rvK tt σ s (fun a => cond (a.val && a.sk.same t.sk) (give 20 a t σ fun d σ => resK tt σ (u :: ts) l fun ds σ => k (d, ds) σ) none) = some r := by
  match rs, h with
  | s :: l, h => exact ⟨s, l, rfl, h⟩
  | [], h => simp [resK] at h

/-- Readings, one after another. -/
def Reads (P : Program) (tmps : Array Value) (w : World) : List ResultVar → List Value → Prop
  | [], [] => True
  | s :: l, v :: vs => (rvRun tmps s).run P w = .ok v w ∧ Reads P tmps w l vs
  | _, _ => False

/-- Several results, one after another. -/
theorem resL_ok {P : Program} {tt : Nat → Option Ty} (htt : TtOK P tt) : (ts : List Ty) → (rs : List ResultVar) → {g : Ghost} → {σ : St} → {k : resDen ts → St → Option R} → {r : R} → ts ≠ [] → StOK n g w a σ → exOKs ts = true → resK tt σ ts rs k = some r →
    ∃ (d : resDen ts) (σ' : St) (g' : Ghost) (mv : List (Option Nat)) (vs : List Value), k d σ' = some r ∧ Reads P a.tmps w rs vs ∧ vs.length = ts.length ∧ StOK n g' w a σ' ∧ Shr g σ.objs g' σ'.objs mv ∧ (∀ m, (exposeRes.chain ts d m).2.length = mv.length) ∧
      (∀ G base, Laid w g' mv G base → (∀ O, VsOK w G O (exposeRes.chain ts d base).1 vs) ∧ ∀ O j o, nthL (exposeRes.chain ts d base).2 j = some o → ObjOK w G O (base + j) o)
  | [], _, _, _, _, _, hne, _, _, _ => absurd rfl hne
  | [t], rs, g, σ, k, r, _, hst, ht, h => by
    simp only [exOKs, Bool.and_true] at ht
    obtain ⟨s, rfl, h⟩ := resK_one h
    obtain ⟨d, σ', g', mv, v, hk, hrun, hst', hsh, hl, he⟩ := res1_ok htt hst ht h
    refine ⟨d, σ', g', mv, [v], hk, ⟨hrun, trivial⟩, rfl, hst', hsh, fun m => by simp only [exposeRes.chain]; exact hl m, fun G base hL => ?_⟩
    obtain ⟨h1, h2⟩ := he G base hL
    simp only [exposeRes.chain]
    refine ⟨fun O => ?_, h2⟩
    simp only [VsOK]
    exact ⟨_, _, rfl, h1 O, rfl⟩
  | t :: u :: ts, rs, g, σ, k, r, _, hst, ht, h => by
    simp only [exOKs, Bool.and_eq_true] at ht
    obtain ⟨s, l, rfl, h⟩ := resK_more h
    obtain ⟨d, σ1, g1, mv1, v, hk, hrun, hst1, hsh1, hl1, he1⟩ := res1_ok htt hst ht.1 h
    obtain ⟨ds, σ2, g2, mv2, vs, hk2, hss, hlen, hst2, hsh2, hl2, he2⟩ := resL_ok htt (u :: ts) l (by simp) hst1 (by simp only [exOKs, Bool.and_eq_true]; exact ht.2) hk
    refine ⟨(d, ds), σ2, g2, mv1 ++ mv2, v :: vs, hk2, ⟨hrun, hss⟩, by simp [hlen], hst2, hsh1.trans hsh2, fun m => ?_, fun G base hL => ?_⟩
    · simp only [exposeRes.chain, List.length_append, hl1, hl2]
    · obtain ⟨h1, h2⟩ := he1 G base (hL.left hsh2 (fun i hi => (hsh1.mv i hi).2))
      obtain ⟨h3, h4⟩ := he2 G (base + mv1.length) hL.right
      simp only [exposeRes.chain]
      rw [hl1 base]
      refine ⟨fun O => ?_, fun O j o hj => ?_⟩
      · simp only [VsOK]
        exact ⟨_, _, rfl, h1 O, h3 O⟩
      · rw [nthL_append] at hj
        split at hj
        · exact h2 O j o hj
        · rename_i hge
          rw [hl1 base] at hj hge
          have := h4 O _ o hj
          rw [show base + mv1.length + (j - mv1.length) = base + j from by omega] at this
          exact this

theorem run_mapM {P : Program} {tmps : Array Value} {w : World} : (rs : List ResultVar) → (vs : List Value) → Reads P tmps w rs vs → (rs.mapM (rvRun tmps)).run P w = .ok vs w
  | [], [], _ => by simp
  | s :: l, v :: vs, h => by
    have ih := run_mapM l vs h.2
    rw [List.mapM_cons]
    simp only [Sem.run_bind, h.1, Result.andThen_ok, ih, Sem.run_pure]
  | [], _ :: _, h => h.elim
  | _ :: _, [], h => h.elim
def tupV : List Value → Value
  | [v] => v
  | vs => .tuple vs.toArray
theorem run_results {P : Program} {fn : Func} (tmps : Array Value) {w : World} {vs : List Value} (h : Reads P tmps w fn.results.toList vs) : (results fn tmps).run P w = .ok (tupV vs) w := by
  have e : results fn tmps = (do let vs ← fn.results.mapM (rvRun tmps); pure (if h : vs.size = 1 then vs[0] else .tuple vs) : Sem Value) := by
    unfold results
    refine congrArg (fun f => (Array.mapM f fn.results >>= fun vs => pure (if h : vs.size = 1 then vs[0] else Value.tuple vs) : Sem Value)) (funext fun x => ?_)
    cases x <;> rfl
  have h1 := run_mapM _ _ h
  have h2 : (fn.results.mapM (rvRun tmps)).run P w = .ok vs.toArray w := by
    rw [Array.mapM_eq_mapM_toList]
    rw [Sem.run_map, h1]
    rfl
  rw [e]
  simp only [Sem.run_bind, h2, Result.andThen_ok, Sem.run_pure]
  match vs with
  | [] => simp [tupV]
  | [v] => simp [tupV]
  | _ :: _ :: _ => simp [tupV]

theorem res_heap {O : List Obj} {mv : List (Option Nat)} {g' : Ghost} (hh : ∀ b, g'.tag b ≠ .alien → b < w.heap.size) (ho : ∀ j o, nthL O j = some o → ObjOK w (laidG g' mv) (nthL O) (0 + j) o) : HeapOK w (laidG g' mv) (nthL O) := by
  refine ⟨fun j o hj => by have := ho j o hj; rw [Nat.zero_add] at this; exact this, fun b hb => hh b (fun h => hb (by simp [laidG, h]))⟩

/-- The results of a function, as the caller gets them. -/
theorem res_ok {P : Program} {tt : Nat → Option Ty} (htt : TtOK P tt) {fn : Func} {ts : List Ty} {r : resDen ts} (hst : StOK n g w a σ) (ht : exOKs ts = true) (h : resK tt σ ts fn.results.toList (fun r _ => some r) = some r) :
    ∃ v g', (results fn a.tmps).run P w = .ok v w ∧ Ext w g w g' ∧ ResOK w g' (exposeRes ts r 0) v := by
  match ts, r, ht, h with
  | [], r, _, h =>
    have hr : fn.results.toList = [] := by
      generalize fn.results.toList = rs at h
      cases rs with
      | nil => rfl
      | cons x l => simp [resK] at h
    refine ⟨.tuple #[], laidG g [], run_results a.tmps (vs := []) (by rw [hr]; trivial), laid_ext, res_heap hst.heap.tags (fun j o hj => by cases j <;> simp [exposeRes, nthL] at hj), ?_⟩
    simp only [exposeRes, VOK]
    exact ⟨[], rfl, by simp [VsOK]⟩
  | [t], r, ht, h =>
    simp only [exOKs, Bool.and_true] at ht
    obtain ⟨s, hrs, h⟩ := resK_one h
    obtain ⟨d, σ', g', mv, v, hk, hrun, hst', hsh, hlm, he⟩ := res1_ok htt hst ht h
    simp only [Option.some.injEq] at hk
    subst hk
    obtain ⟨h1, h2⟩ := he (laidG g' mv) 0 (laid_mk hsh.nodup)
    exact ⟨v, laidG g' mv, run_results a.tmps (vs := [v]) (by rw [hrs]; exact ⟨hrun, trivial⟩), hsh.ext.trans laid_ext, res_heap hst'.heap.tags (fun j o hj => h2 _ j o hj), h1 _⟩
  | t :: u :: ts, r, ht, h =>
    obtain ⟨d, σ', g', mv, vs, hk, hss, hlen, hst', hsh, hlm, he⟩ := resL_ok htt (t :: u :: ts) _ (by simp) hst ht h
    simp only [Option.some.injEq] at hk
    subst hk
    obtain ⟨h1, h2⟩ := he (laidG g' mv) 0 (laid_mk hsh.nodup)
    have hrun := run_results a.tmps hss
    refine ⟨.tuple vs.toArray, laidG g' mv, ?_, hsh.ext.trans laid_ext, res_heap hst'.heap.tags (fun j o hj => ?_), ?_⟩
    · match vs, hlen, hrun with
      | _ :: _ :: _, _, hrun => exact hrun
    · exact h2 _ j o (by simpa [exposeRes, exposeRes.chain] using hj)
    · simp only [exposeRes, VOK]
      exact ⟨_, rfl, by have := h1 (nthL (exposeRes (t :: u :: ts) d 0).2); simpa [exposeRes, exposeRes.chain] using this⟩
end

theorem argSlots_ok {w : World} {g : Ghost} {objs : Objs} : (p : APat) → (d : p.den) → (i0 : Nat) → {vals : List Value} → RoArgs w g p d vals → ∀ i av, argSlots p d i0 i = some av → i0 ≤ i ∧ ∃ v, vals[i - i0]? = some v ∧ VOK w g objs av v
  | .pr (.val t) q, (x, y), i0, v :: vs, h, i, av, hi => by
    obtain ⟨hro, ⟨cs, hr, hv⟩, hrest⟩ := h
    simp only [argSlots, upd] at hi
    cases hb : Nat.beq i i0 with
    | true =>
      rw [hb] at hi
      simp only [cond_true, Option.some.injEq] at hi
      subst hi
      have := Nat.eq_of_beq_eq_true hb
      subst this
      exact ⟨Nat.le_refl _, v, by simp, cs, ⟨hro, hr⟩, hv⟩
    | false =>
      rw [hb] at hi
      obtain ⟨h1, u, h2, h3⟩ := argSlots_ok q y (i0 + 1) hrest i av hi
      refine ⟨by omega, u, ?_, h3⟩
      have e : i - i0 = (i - (i0 + 1)) + 1 := by omega
      rw [e]; simpa using h2
  | .pr (.val t) q, (x, y), i0, [], h, i, av, hi => h.elim
  | .un, _, _, _, _, _, _, hi => by simp [argSlots] at hi
  | .val _, _, _, _, _, _, _, hi => by simp [argSlots] at hi
  | .ref _, _, _, _, _, _, _, hi => by simp [argSlots] at hi
  | .bptr _, _, _, _, _, _, _, hi => by simp [argSlots] at hi
  | .clos _ _, _, _, _, _, _, _, hi => by simp [argSlots] at hi
  | .agg _, _, _, _, _, _, _, hi => by simp [argSlots] at hi
  | .pr (.ref _) _, _, _, _, _, _, _, hi => by simp [argSlots] at hi
  | .pr (.bptr _) _, _, _, _, _, _, _, hi => by simp [argSlots] at hi
  | .pr (.clos _ _) _, _, _, _, _, _, _, hi => by simp [argSlots] at hi
  | .pr (.agg _) _, _, _, _, _, _, _, hi => by simp [argSlots] at hi
  | .pr (.pr _ _) _, _, _, _, _, _, _, hi => by simp [argSlots] at hi
  | .pr .un _, _, _, _, _, _, _, hi => by simp [argSlots] at hi

def APat.len : APat → Nat
  | .pr _ q => q.len + 1
  | _ => 0
theorem roArgs_len {w : World} {g : Ghost} : (p : APat) → (d : p.den) → {vals : List Value} → RoArgs w g p d vals → vals.length = p.len
  | .pr (.val t) q, (x, y), v :: vs, h => by simp [APat.len, roArgs_len q y h.2.2]
  | .pr (.val t) q, (x, y), [], h => h.elim
  | .un, _, [], _ => rfl
  | .un, _, _ :: _, h => h.elim
  | .val _, _, _, h => h.elim
  | .ref _, _, _, h => h.elim
  | .bptr _, _, _, h => h.elim
  | .clos _ _, _, _, h => h.elim
  | .agg _, _, _, h => h.elim
  | .pr (.ref _) _, _, _, h => h.elim
  | .pr (.bptr _) _, _, _, h => h.elim
  | .pr (.clos _ _) _, _, _, h => h.elim
  | .pr (.agg _) _, _, _, h => h.elim
  | .pr (.pr _ _) _, _, _, h => h.elim
  | .pr .un _, _, _, h => h.elim

theorem entry_ok {w : World} {g : Ghost} {p : APat} {d : p.den} {vals : List Value} {n : Nat} (ht : ∀ b, g.tag b ≠ .alien → g.tag b = .ro ∧ b < w.heap.size) (h : RoArgs w g p d vals) (hn : p.len ≤ n) :
    StOK n g w { tmps := vals.toArray ++ Array.replicate (n - vals.toArray.size) undef, defers := [] } (entry p d) ∧ FreshUp g (entry p d) := by
  have hl := roArgs_len p d h
  refine ⟨⟨fun i av hi => ?_, ⟨fun id o ho => by simp [entry] at ho, fun b hb => (ht b hb).2⟩, by simp [hl]; omega, rfl⟩, fun m _ => ⟨rfl, fun b p hb => ?_, fun b hb => ?_, fun i av hi => ?_, fun id av ho => by simp [entry] at ho⟩⟩
  · obtain ⟨_, v, h1, h2⟩ := argSlots_ok (objs := (entry p d).objs) p d 0 h i av hi
    rw [Nat.sub_zero] at h1
    refine ⟨v, ?_, h2⟩
    have hlt := (List.getElem?_eq_some_iff.1 h1).1
    rw [Array.getElem?_append_left (by simpa using hlt)]
    simpa using h1
  · have := (ht b (by rw [hb]; simp)).1; rw [hb] at this; simp at this
  · have := (ht b (by rw [hb]; simp)).1; rw [hb] at this; simp at this
  · have key : ∀ (p : APat) (d : p.den) (i0 : Nat) (i : Nat) (av : AVal), argSlots p d i0 i = some av → av.ids = [] := by
      intro p
      induction p with
      | pr a q iha ihq =>
        cases a with
        | val t =>
          intro d i0 i av hi
          obtain ⟨x, y⟩ := d
          simp only [argSlots, upd] at hi
          cases hb : Nat.beq i i0 with
          | true => rw [hb] at hi; simp only [cond_true, Option.some.injEq] at hi; subst hi; rfl
          | false => rw [hb] at hi; exact ihq y _ i av hi
        | _ => intro d i0 i av hi; simp [argSlots] at hi
      | _ => intro d i0 i av hi; simp [argSlots] at hi
    rw [key p d 0 i av hi]; simp

/-- A function's contract, from the interpreter's equation. -/
theorem fn_ok {P : Program} {f : Nat} {fn : Func} {body : Code} {c : Ctx} {p : APat} {ts : List Ty} {F : p.den → Option (resDen ts)} (hf : P.funcs[f]? = some fn) (hb : fn.body = some body) (hnm : (fn.name == "runtime.NumGoroutine") = false)
    (hc : CtxOK P c) (hm : P.follows .mixedOrders = true) (hn : c.ntmps = fn.ntmps) (hp : p.len ≤ fn.ntmps) (ht : exOKs ts = true) (hl : ts.length ≤ 6)
    (hlo : ∀ b ∈ loopsOf body, LoopOK c b) (heq : ∀ d, bodyK c ts fn.results.toList body (entry p d) = F d) : CalleeOK P f (.pure p ts F) := by
  intro w g d vals r htag hargs hF
  left
  refine ⟨?_, ?_⟩
  · have hnm' : ¬ fn.name = "runtime.NumGoroutine" := by simpa using hnm
    simp [callFunc, hf, hb, hnm']
  rw [← heq] at hF
  obtain ⟨hst, hfr⟩ := entry_ok htag hargs hp
  rw [← hn] at hst
  refine calls_of_wp hf hb ?_
  rw [← hn]
  refine code_ok hc hm body hlo (Q := bodyPost P fn _) (fun ch a w h => ?_) hF hst hfr ?_
  · obtain ⟨_, v, h, _⟩ := h
    cases h
  · intro e σ' g' a' w' hk hst' hext' hf' _
    have fin : ∀ {σ' : St}, norm c.res σ' (fun σ => resK c.tt σ ts fn.results.toList fun r _ => some r) = some r → StOK c.ntmps g' w' a' σ' → FreshUp g' σ' →
        ∃ v, (results fn a'.tmps).run P w' = .ok v w' ∧ ∃ g', Ext w g w' g' ∧ ResOK w' g' (exposeRes ts r 0) v := by
      intro σ' hk hst' hf'
      obtain ⟨σ1, g1, h1, hst1, hext1, _⟩ := norm_ok hst' hf' hk
      obtain ⟨v, g2, hr, hext2, hres⟩ := res_ok (P := P) hc.tt hst1 ht h1
      exact ⟨v, hr, g2, (hext'.trans hext1).trans hext2, hres⟩
    cases e with
    | exit id => simp at hk
    | normal =>
      obtain ⟨v, h1, h2⟩ := fin hk hst' hf'
      exact ⟨hst'.defers, v, h1, v, rfl, h2⟩
    | ret =>
      obtain ⟨v, h1, h2⟩ := fin hk hst' hf'
      exact ⟨hst'.defers, v, h1, v, rfl, h2⟩

end Go.Kz

/-
  A function that turns what it is given: its contract, from the interpreter's equation.
-/
namespace Go.Kz
variable {R : Type}

def keysL : List (Nat × SPat) → List Nat
  | [] => []
  | (i, _) :: l => i :: keysL l
theorem slMk_keysL : (l : List (Nat × SPat)) → (d : slDen l) → (slMk l d).map Prod.fst = keysL l
  | [], _ => rfl
  | (i, p) :: l, d => by simp only [slMk, List.map_cons, keysL, slMk_keysL l]
theorem getL_mem {α : Type} : {l : List (Nat × α)} → {i : Nat} → {x : α} → (l.map Prod.fst).Nodup → (i, x) ∈ l → getL l i = some x
  | [], _, _, _, h => by simp at h
  | (j, y) :: l, i, x, hn, h => by
    simp only [List.map_cons, List.nodup_cons] at hn
    simp only [getL]
    rcases List.mem_cons.1 h with h | h
    · simp only [Prod.mk.injEq] at h
      rw [← h.1, Nat.beq_refl, ← h.2]; rfl
    · have hne : Nat.beq j i = false := by
        cases hb : Nat.beq j i with
        | false => rfl
        | true =>
          exfalso
          apply hn.1
          rw [Nat.eq_of_beq_eq_true hb]
          exact List.mem_map.2 ⟨_, h, rfl⟩
      rw [hne]
      exact getL_mem hn.2 h
theorem dropN_map {α β : Type} (f : α → β) : (n : Nat) → (l : List α) → (dropN n l).map f = dropN n (l.map f)
  | 0, _ => rfl
  | _ + 1, [] => rfl
  | n + 1, _ :: l => by simp only [dropN, List.map_cons, dropN_map f n l]
theorem dropN_sub {α : Type} : (n : Nat) → (l : List α) → ∀ x ∈ dropN n l, x ∈ l
  | 0, _, x, h => h
  | _ + 1, [], x, h => h
  | n + 1, a :: l, x, h => List.mem_cons_of_mem _ (dropN_sub n l x h)
theorem dropN_app {α : Type} : (l m : List α) → dropN l.length (l ++ m) = m
  | [], m => rfl
  | a :: l, m => dropN_app l m
theorem chain_vs {w : World} {g : Ghost} {O : Objs} {tmps : Array Value} : (l : List (Nat × AVal)) → (∀ x ∈ l, VOK w g O x.2 (tmps.getD x.1 undef)) →
    VsOK w g O (chainV (l.map Prod.snd)) (l.map fun x => tmps.getD x.1 undef)
  | [], _ => by simp [chainV, VsOK]
  | x :: l, h => by
    simp only [List.map_cons, chainV, VsOK]
    exact ⟨_, _, rfl, h x (by simp), chain_vs l fun y hy => h y (by simp [hy])⟩
theorem res_vs {w : World} {g : Ghost} {O : Objs} {tmps : Array Value} (l : List (Nat × AVal)) (h : ∀ x ∈ l, VOK w g O x.2 (tmps.getD x.1 undef)) :
    VOK w g O (resVal (l.map Prod.snd)) (tupV (l.map fun x => tmps.getD x.1 undef)) := by
  have hc := chain_vs l h
  match l, h, hc with
  | [], _, hc => simp only [List.map_nil, resVal, tupV, VOK]; exact ⟨_, rfl, hc⟩
  | [x], h, _ => exact h x (by simp)
  | x :: y :: l, _, hc =>
    show VOK w g O (.tup (chainV ((x :: y :: l).map Prod.snd))) (.tuple ((x :: y :: l).map fun x => tmps.getD x.1 undef).toArray)
    simp only [VOK]
    exact ⟨_, rfl, hc⟩
theorem reads_tmps {P : Program} {tmps : Array Value} {w : World} : (rs : List Nat) → Reads P tmps w (rs.map ResultVar.tmp) (rs.map fun t => tmps.getD t undef)
  | [] => trivial
  | t :: rs => by
    simp only [List.map_cons]
    refine ⟨?_, reads_tmps rs⟩
    simp [rvRun]

def anchB (n : Nat) (b : Code) : List Nat → Bool
  | [] => true
  | i :: l => Nat.blt i n && !wrote i b && anchB n b l
theorem anchB_ok {n : Nat} {b : Code} : {l : List Nat} → anchB n b l = true → ∀ i ∈ l, i < n ∧ wrote i b = false
  | [], _, i, h => by simp at h
  | j :: l, hb, i, h => by
    simp only [anchB, Bool.and_eq_true, Bool.not_eq_true'] at hb
    rcases List.mem_cons.1 h with rfl | h
    · exact ⟨Nat.le_of_ble_eq_true hb.1.1, hb.1.2⟩
    · exact anchB_ok hb.2 i h

/-- A function's contract, from the interpreter's equation. -/
theorem fn_ok_mut {P : Program} {f : Nat} {fn : Func} {body : Code} {c : Ctx} {fin fout : SForm} {anch rs : List Nat} {F : fin.den → Option fout.den} (hf : P.funcs[f]? = some fn) (hb : fn.body = some body) (hnm : (fn.name == "runtime.NumGoroutine") = false)
    (hc : CtxOK P c) (hm : P.follows .mixedOrders = true) (hn : c.ntmps = fn.ntmps) (hp : fin.slots.length ≤ fn.ntmps) (hk : keysL fout.slots = anch ++ rs) (hnd : nodupN (anch ++ rs) = true) (hrs : fn.results.toList = rs.map ResultVar.tmp)
    (hun : ∀ i ∈ anch, i < fin.slots.length ∧ wrote i body = false)
    (hlo : ∀ b ∈ loopsOf body, LoopOK c b) (heq : ∀ d : fin.den, bodyM c fout body (St.of (slMk fin.slots d.1) (osMk fin.objs d.2)) = F d) : CalleeOK P f (.mut fin anch fout F) := by
  intro w g d vals r hvl hst hfresh hF
  left
  refine ⟨?_, ?_⟩
  · have hnm' : ¬ fn.name = "runtime.NumGoroutine" := by simpa using hnm
    simp [callFunc, hf, hb, hnm']
  rw [← heq] at hF
  refine calls_of_wp hf hb ?_
  have hst0 : StOK c.ntmps g w { tmps := vals.toArray ++ Array.replicate (fn.ntmps - vals.toArray.size) undef, defers := [] } (St.of (slMk fin.slots d.1) (osMk fin.objs d.2)) := by
    refine ⟨fun i av hi => ?_, hst.heap, by simp; omega, rfl⟩
    obtain ⟨v, h1, h2⟩ := hst.slots i av hi
    refine ⟨v, ?_, h2⟩
    have hlt : i < vals.toArray.size := (Array.getElem?_eq_some_iff.1 h1).1
    rw [Array.getElem?_append_left hlt]
    exact h1
  have hfr : FreshUp g (St.of (slMk fin.slots d.1) (osMk fin.objs d.2)) := by
    intro m hm
    refine hfresh m ?_
    have : (osMk fin.objs d.2).length ≤ m := hm
    rwa [osMk_len] at this
  refine code_ok hc hm body hlo (Q := bodyPost P fn _) (fun ch a w h => ?_) hF hst0 hfr ?_
  · obtain ⟨_, v, h, _⟩ := h
    cases h
  · intro e σ' g' a' w' hk2 hst' hext' hf' hkp
    have fin : ∀ {σ' : St}, normL c.res σ' (fun sl os => fout.take sl os some) = some r → StOK c.ntmps g' w' a' σ' → FreshUp g' σ' →
        ∃ v, (results fn a'.tmps).run P w' = .ok v w' ∧ ∃ g', Ext w g w' g' ∧ HeapOK w' g' (nthL (osMk fout.objs r.2)) ∧
        (∀ k i av, nthL anch k = some i → nthL ((slMk fout.slots r.1).map Prod.snd) k = some av → ∃ u, vals[i]? = some u ∧ VOK w' g' (nthL (osMk fout.objs r.2)) av u) ∧
        VOK w' g' (nthL (osMk fout.objs r.2)) (resVal (dropN anch.length ((slMk fout.slots r.1).map Prod.snd))) v := by
      intro σ' hk2 hst' hf'
      obtain ⟨sl, os, g1, h1, hst1, hext1, _⟩ := normL_ok hst' hf' hk2
      obtain ⟨r1, h2, h3⟩ := slTake_some fout.slots h1
      obtain ⟨r2, h4, h5⟩ := osTake_some fout.objs h3
      simp only [Option.some.injEq] at h5
      subst h5
      subst h2
      subst h4
      have hkn : ((slMk fout.slots r1).map Prod.fst).Nodup := by rw [slMk_keysL, hk]; exact nodupN_ok hnd
      have hv : ∀ x ∈ slMk fout.slots r1, ∃ v, a'.tmps[x.1]? = some v ∧ VOK w' g1 (nthL (osMk fout.objs r2)) x.2 v := fun x hx => hst1.slots x.1 x.2 (getL_mem hkn hx)
      have hvd : ∀ x ∈ slMk fout.slots r1, VOK w' g1 (nthL (osMk fout.objs r2)) x.2 (a'.tmps.getD x.1 undef) := by
        intro x hx
        obtain ⟨v, q1, q2⟩ := hv x hx
        have : a'.tmps.getD x.1 undef = v := by rw [Array.getD_eq_getD_getElem?, q1]; rfl
        rw [this]; exact q2
      have hdrop : (dropN anch.length (slMk fout.slots r1)).map Prod.fst = rs := by
        rw [dropN_map, slMk_keysL, hk, dropN_app]
      refine ⟨tupV (rs.map fun t => a'.tmps.getD t undef), run_results a'.tmps (by rw [hrs]; exact reads_tmps rs), g1, hext'.trans hext1, hst1.heap, fun k i av hki hkv => ?_, ?_⟩
      · have hkey : (slMk fout.slots r1)[k]? = some (i, av) := by
          rw [nthL_eq, List.getElem?_map, Option.map_eq_some_iff] at hkv
          obtain ⟨x, hx, rfl⟩ := hkv
          have h6 : ((slMk fout.slots r1).map Prod.fst)[k]? = some x.1 := by rw [List.getElem?_map, hx]; rfl
          have hlt : k < anch.length := nthL_lt hki
          rw [slMk_keysL, hk, List.getElem?_append_left hlt, ← nthL_eq, hki] at h6
          simp only [Option.some.injEq] at h6
          rw [hx, h6]
        obtain ⟨v, q1, q2⟩ := hv _ (List.mem_of_getElem? hkey)
        obtain ⟨hlt, hno⟩ := hun i (nthL_mem hki)
        refine ⟨v, ?_, q2⟩
        have h7 := hkp i hno
        rw [q1] at h7
        have hlt2 : i < vals.toArray.size := by simp [hvl]; exact hlt
        rw [Array.getElem?_append_left hlt2] at h7
        simpa using h7.symm
      · rw [← dropN_map]
        have := res_vs (dropN anch.length (slMk fout.slots r1)) (fun x hx => hvd x (dropN_sub _ _ x hx))
        have e : (dropN anch.length (slMk fout.slots r1)).map (fun x => a'.tmps.getD x.1 undef) = rs.map fun t => a'.tmps.getD t undef := by
          rw [← hdrop, List.map_map]; rfl
        rw [e] at this
        exact this
    cases e with
    | exit id => simp at hk2
    | normal =>
      obtain ⟨v, h1, h2⟩ := fin hk2 hst' hf'
      exact ⟨hst'.defers, v, h1, v, rfl, h2⟩
    | ret =>
      obtain ⟨v, h1, h2⟩ := fin hk2 hst' hf'
      exact ⟨hst'.defers, v, h1, v, rfl, h2⟩

end Go.Kz

/-
  Loops by name: states by their form; what a generated text must show.
-/
namespace Go.Kz

variable {R : Type}
/-- Rounds of a loop, at most n. -/
def iter {α : Type} (Body : (α → Option R) → α → Option R) : Nat → α → Option R
  | 0, _ => none
  | n + 1, x => Body (iter Body n) x

/-- Where a round of a loop leads. -/
def kLoop (c : Ctx) (r : Nat) (lv : Cut) (kb : List (Nat × AVal) → List Obj → Option R) (k : AExit → St → Option R) : AExit → St → Option R
  | .normal, σ => normL lv σ kb
  | e, σ => kExit c r k e σ

theorem loop_eq {c : Ctx} {b : Code} {r : Nat} {lv : Cut} {α : Type} {st : α → List (Nat × AVal) × List Obj} {k : AExit → St → Option R} {Body : (α → Option R) → α → Option R}
    (hstep : ∀ (kb : List (Nat × AVal) → List Obj → Option R) (x : α), codeK c b (St.of (st x).1 (st x).2) (kLoop c r lv kb k) = Body (fun y => kb (st y).1 (st y).2) x) :
    ∀ (n : Nat) (x : α), loopN (codeK c b) lv n (st x).1 (st x).2 (kExit c r k) = iter Body n x
  | 0, x => rfl
  | n + 1, x => by
    have e : (fun e σ => match e with
        | .normal => normL lv σ fun sl os => loopN (codeK c b) lv n sl os (kExit c r k)
        | e => kExit c r k e σ) = kLoop c r lv (fun sl os => loopN (codeK c b) lv n sl os (kExit c r k)) k := by
      funext e σ
      cases e <;> rfl
    have h := hstep (fun sl os => loopN (codeK c b) lv n sl os (kExit c r k)) x
    simp only [loopN, iter]
    refine (congrArg (codeK c b (St.of (st x).1 (st x).2)) e).trans (h.trans ?_)
    congr 1
    funext y
    exact loop_eq hstep n y

/-- What is to be shown of a loop that is called by name. -/
theorem loop_mk {c : Ctx} {b : Code} {r : Nat} {lv : Cut} {f : SForm} (F : (R : Type) → f.den → (AExit → St → Option R) → Option R) (hr : firstRegion b = some r) (hlv : c.cut r = some lv)
    (hL : c.lp r = some fun R sl os k => f.take sl os fun d => F R d k)
    (h : ∀ (R : Type) (k : AExit → St → Option R) (d : f.den), loopN (codeK c b) lv c.fuel (slMk f.slots d.1) (osMk f.objs d.2) (kExit c r k) = F R d k) : LoopOK c b := by
  intro r' lv' L hr' hlv' hL' R sl os k x hx
  rw [hr] at hr'
  simp only [Option.some.injEq] at hr'
  subst hr'
  rw [hlv] at hlv'
  simp only [Option.some.injEq] at hlv'
  subst hlv'
  rw [hL] at hL'
  simp only [Option.some.injEq] at hL'
  subst hL'
  replace hx := slTake_some f.slots hx
  obtain ⟨d, rfl, hx⟩ := hx
  replace hx := osTake_some f.objs hx
  obtain ⟨e, rfl, hx⟩ := hx
  rw [h R k (d, e)]
  exact hx

theorem env_nil {P : Program} : EnvOK P fun f => ((getL ([] : List (Nat × List Callee)) f).getD []) := by
  intro f c h; simp [getL] at h
theorem env_cons {P : Program} {f : Nat} {cs : List Callee} {l : List (Nat × List Callee)} (h : ∀ c ∈ cs, CalleeOK P f c) (hl : EnvOK P fun f => (getL l f).getD []) : EnvOK P fun g => (getL ((f, cs) :: l) g).getD [] := by
  intro g c hc
  simp only [getL] at hc
  cases hb : Nat.beq f g with
  | true =>
    rw [hb] at hc
    have := Nat.eq_of_beq_eq_true hb
    subst this
    exact h c hc
  | false => rw [hb] at hc; exact hl g c hc

def mtB (P : Program) : List (Nat × Ty × Ty) → Bool
  | [] => true
  | (T, kt, vt) :: l => (match P.underlying T with
    | some (.map K E) => tyB P kt K && tyB P vt E && (match P.info? E with
      | some i => (match i.zero with
        | some z => (match vt.sk.isAgg, z with
          | true, .agg _ => true
          | false, .int _ _ => true
          | false, .bool _ => true
          | false, .string _ => true
          | _, _ => false)
        | none => false)
      | none => false)
    | _ => false) && mtB P l
theorem mtB_ok {P : Program} : {l : List (Nat × Ty × Ty)} → mtB P l = true → MtOK P (getL l)
  | [], _, _, _, _, h => by simp [getL] at h
  | (T, kt, vt) :: l, hb, T', kt', vt', h => by
    simp only [mtB, Bool.and_eq_true] at hb
    simp only [getL] at h
    cases he : Nat.beq T T' with
    | false => rw [he] at h; exact mtB_ok hb.2 T' kt' vt' h
    | true =>
      rw [he] at h
      simp only [cond_true, Option.some.injEq, Prod.mk.injEq] at h
      obtain ⟨rfl, rfl⟩ := h
      obtain rfl := Nat.eq_of_beq_eq_true he
      have h1 := hb.1
      split at h1
      · rename_i K E hu
        simp only [Bool.and_eq_true] at h1
        refine ⟨K, E, hu, tyB_ok h1.1.1, tyB_ok h1.1.2, ?_⟩
        have h2 := h1.2
        split at h2
        · rename_i i hi
          split at h2
          · rename_i z hz
            refine ⟨i, z, hi, hz, ?_⟩
            split at h2
            · rename_i hag; rw [hag]; simp [mkV, Value.cells]
            · rename_i hag; rw [hag]; simp [mkV, Value.cells]
            · rename_i hag; rw [hag]; simp [mkV, Value.cells]
            · rename_i hag; rw [hag]; simp [mkV, Value.cells]
            · simp at h2
          · simp at h2
        · simp at h2
      · simp at h1

@[reducible] def wi8 (n : Int) : Int := IntKind.i8.wrap n
@[reducible] def wi16 (n : Int) : Int := IntKind.i16.wrap n
@[reducible] def wi32 (n : Int) : Int := IntKind.i32.wrap n
@[reducible] def wi64 (n : Int) : Int := IntKind.i64.wrap n
@[reducible] def wu8 (n : Int) : Int := IntKind.u8.wrap n
@[reducible] def wu16 (n : Int) : Int := IntKind.u16.wrap n
@[reducible] def wu32 (n : Int) : Int := IntKind.u32.wrap n
@[reducible] def wu64 (n : Int) : Int := IntKind.u64.wrap n
@[reducible] def len {α : Type} (l : List α) : Int := (l.length : Int)

theorem forall_mem1 {p : Callee → Prop} {a : Callee} (h : p a) : ∀ c ∈ [a], p c := by
  intro c hc; simp only [List.mem_singleton] at hc; subst hc; exact h
inductive AllL (p : Code → Prop) : List Code → Prop
  | nil : AllL p []
  | cons {b : Code} {l : List Code} (h : p b) (t : AllL p l) : AllL p (b :: l)
theorem AllL.mem {p : Code → Prop} {l : List Code} (h : AllL p l) : ∀ b ∈ l, p b := by
  induction h with
  | nil => intro b hb; simp at hb
  | cons h t ih =>
    intro b hb
    rcases List.mem_cons.1 hb with rfl | hb
    · exact h
    · exact ih b hb
theorem loops_ok {c : Ctx} {b : Code} {l : List Code} (h : loopsOf b = l) (hs : AllL (LoopOK c) l) : ∀ b' ∈ loopsOf b, LoopOK c b' := by
  rw [h]; exact hs.mem

end Go.Kz

/-
  Laws: arguments that come in, as data; the call of a law.
-/
namespace Go.Kz

/-- All that is there is read-only. -/
def wholeG (w : World) : Ghost := ⟨fun b => if b < w.heap.size then .ro else .alien, fun _ _ => undef, fun _ => 0⟩
theorem wholeG_tag {w : World} {b : Nat} (h : b < w.heap.size) : (wholeG w).tag b = .ro := by simp [wholeG, h]

theorem exists_list {α : Type} {p : Nat → α → Prop} : (n : Nat) → (∀ i, i < n → ∃ x, p i x) → ∃ l : List α, l.length = n ∧ ∀ (i : Nat) (h : i < l.length), p i (l.get ⟨i, h⟩)
  | 0, _ => ⟨[], rfl, fun i h => by simp at h⟩
  | n + 1, h => by
    obtain ⟨x, hx⟩ := h 0 (by omega)
    obtain ⟨l, hl, hp⟩ := exists_list (p := fun i => p (i + 1)) n (fun i hi => h (i + 1) (by omega))
    refine ⟨x :: l, by simp [hl], fun i hi => ?_⟩
    cases i with
    | zero => exact hx
    | succ i => exact hp i (by simpa using hi)

theorem InfoOK.cellsOf {P : Program} {T : TypeId} {t : Ty} (h : InfoOK P T t) : P.cellsOf T = t.size ∧ 0 < t.size := by
  obtain ⟨i, z, h1, h2, _, _, _, h3⟩ := h.info
  simp [Program.cellsOf, h1, h2]; omega

/-- Plain data: what an argument may be. -/
def Ty.plain : Ty → Bool
  | .int _ | .bool | .str | .unit => true
  | .pair a b => a.plain && b.plain
  | .arr _ t => t.plain
  | .sl false t => t.plain
  | _ => false
theorem Ty.plain_ro : {t : Ty} → t.plain = true → t.isRo = true
  | .int _, _ => rfl
  | .bool, _ => rfl
  | .str, _ => rfl
  | .unit, _ => rfl
  | .pair a b, h => by simp only [Ty.plain, Bool.and_eq_true] at h; simp [Ty.isRo, Ty.plain_ro h.1, Ty.plain_ro h.2]
  | .arr _ t, h => by simp only [Ty.plain] at h; simp only [Ty.isRo]; exact Ty.plain_ro h
  | .sl false t, h => by simp only [Ty.plain] at h; simp only [Ty.isRo]; simpa using Ty.plain_ro h
  | .sl true _, h => by simp [Ty.plain] at h
  | .ptr _, h => by simp [Ty.plain] at h
  | .fn _ _, h => by simp [Ty.plain] at h

section
variable {H : Type} {enc : TypeId × Value → H} {P : Program} {w : World} {base : Nat} {spare : Nat → Bool} {held : Bool}

theorem cells_block {b off n : Nat} {cs : List Value} {c : Array Value} {e : TypeId} {fz : Nat × Nat} (hl : cs.length = n) (hc : ∀ j, j < n → w.cell? ⟨b, off + j, none⟩ = cs[j]?) (hb : w.heap[b]? = some (.cells c e fz)) (hn : 0 < n) :
    off + n ≤ c.size ∧ seg c.toList off n = cs := by
  have hcell : ∀ j, j < n → c[off + j]? = cs[j]? := fun j hj => by
    have := hc j hj
    simpa [World.cell?, hb] using this
  have hle : off + n ≤ c.size := by
    have h1 := hcell (n - 1) (by omega)
    have h2 : cs[n - 1]? ≠ none := by simp; omega
    rw [← h1] at h2
    simp at h2; omega
  refine ⟨hle, ?_⟩
  apply List.ext_getElem?
  intro j
  by_cases hj : j < n
  · rw [← hcell j hj]
    simp [seg, List.getElem?_take, hj]
  · rw [List.getElem?_eq_none (by rw [seg_length (by simpa using hle)]; omega), List.getElem?_eq_none (by rw [hl]; omega)]

mutual
/-- An argument, as data. -/
theorem open_rep : (t : Ty) → {T : TypeId} → {fuel : Nat} → {cs : List Value} → {x : DataW H × List MemPlace} → t.plain = true → TyOK P t T → DataW.trod enc P w base spare held fuel T cs = some x → ∃ d, Rep w (wholeG w) none t d cs
  | .int k, T, fuel, cs, x, _, hT, h => by
    simp only [TyOK] at hT
    obtain ⟨m, rfl, _, hw⟩ := DataW.trod_int hT.1 h
    simp only [Lit.wf, Bool.and_eq_true, decide_eq_true_eq] at hw
    exact ⟨m, rfl, hw.1, hw.2⟩
  | .bool, T, fuel, cs, x, _, hT, h => by
    simp only [TyOK] at hT
    obtain ⟨b, rfl, _⟩ := DataW.trod_bool hT.1 h
    exact ⟨b, rfl⟩
  | .str, T, fuel, cs, x, _, hT, h => by
    simp only [TyOK] at hT
    obtain ⟨s, rfl, _, hs⟩ := DataW.trod_string hT.1 h
    exact ⟨s.data.toList, s, rfl, rfl, hs⟩
  | .unit, T, fuel, cs, x, _, hT, h => by simp only [TyOK] at hT
  | .pair a b, T, fuel, cs, x, hp, hT, h => by
    simp only [TyOK] at hT
    obtain ⟨⟨fs, hu, hfs⟩, hinf⟩ := hT
    obtain ⟨xs, n, _, _, hl, hlen, hf⟩ := DataW.trod_struct hu h
    obtain ⟨hcz, _⟩ := hinf.cellsOf
    rw [hcz] at hl
    obtain ⟨d, hd⟩ := open_fields (.pair a b) (off := 0) (cs := cs) (n := n) hp hfs (by rw [hl]; simp) (fun i f hi => by
      have hi' : fs[i]? = some f := by rw [← Array.getElem?_toList]; exact hi
      have := hf i f hi'
      have hlt : i < xs.length := by rw [hlen]; exact (Array.getElem?_eq_some_iff.1 hi').1
      exact ⟨xs[i], by rw [this]; simp [hlt]⟩)
    refine ⟨d, ?_⟩
    have : seg cs 0 (Ty.pair a b).size = cs := by rw [← hl]; exact seg_all cs
    rw [this] at hd
    exact hd
  | .arr n t, T, fuel, cs, x, hp, hT, h => by
    simp only [TyOK] at hT
    obtain ⟨⟨E, hu, hE⟩, hinf⟩ := hT
    obtain ⟨hcz, _⟩ := hinf.cellsOf
    obtain ⟨hez, _⟩ := hE.info.cellsOf
    obtain ⟨xs, m, _, _, hl, hlen, hx⟩ := DataW.trod_array hu h
    rw [hcz] at hl
    rw [hez] at hx
    have each : ∀ i, i < n → ∃ d, Rep w (wholeG w) none t d (seg cs (i * t.size) t.size) := fun i hi => by
      have h1 := hx i hi
      have h2 : xs[i]? = some xs[i] := by simp [hlen, hi]
      rw [h2] at h1
      exact open_rep t (by simpa [Ty.plain] using hp) hE h1
    obtain ⟨l, hll, hel⟩ := exists_list n each
    exact ⟨l, hll, hl, fun i hi => Rep.anyOwn (Ty.plain_ro (by simpa [Ty.plain] using hp)) (hel i hi)⟩
  | .sl false t, T, fuel, cs, x, hp, hT, h => by
    simp only [TyOK] at hT
    obtain ⟨⟨E, hu, hE⟩, _⟩ := hT
    obtain ⟨hez, hpos⟩ := hE.info.cellsOf
    rcases DataW.trod_slice hu h with ⟨rfl, _⟩ | ⟨a, len, cap, elems, rest, n, _, rfl, _, hb, hlc, hcm, hlen, hel, _⟩
    · exact ⟨([] : List t.den), none, 0, rfl, Nat.le_refl _, Nat.zero_le _, fun hn => absurd rfl hn⟩
    · rw [hez] at hel
      have each : ∀ i, i < len → ∃ d, (∃ cs', w.cells? base (a.add (i * t.size)) t.size = some cs' ∧ Rep w (wholeG w) none t d cs') := fun i hi => by
        have h1 := hel i hi
        have h2 : elems[i]? = some elems[i] := by simp [hlen, hi]
        rw [h2, Option.bind_eq_some_iff] at h1
        obtain ⟨cs', hc, hy⟩ := h1
        obtain ⟨d, hd⟩ := open_rep t (by simpa [Ty.plain] using hp) hE hy
        exact ⟨d, cs', hc, hd⟩
      obtain ⟨l, hll, hl⟩ := exists_list len each
      refine ⟨l, some a, cap, by rw [hll], by rw [hll]; exact hlc, hcm, fun hne => ?_⟩
      have hlp : 0 < len := by rw [← hll]; exact List.length_pos_iff.2 hne
      -- the block
      obtain ⟨cs0, hc0, _⟩ := hl 0 (by rw [hll]; exact hlp)
      obtain ⟨_, hl0, hcell0⟩ := World.cells?_some hc0
      have hz := hcell0 0 hpos
      simp only [Nat.zero_mul] at hz
      have ha0 : (a.add 0).add 0 = a := by simp [Addr.add]
      rw [ha0] at hz
      have hne0 : cs0[0]? ≠ none := by
        rw [List.getElem?_eq_getElem (by rw [hl0]; exact hpos)]; simp
      rw [← hz] at hne0
      obtain ⟨b, off, spot⟩ := a
      have hsp : spot = none ∧ ∃ c e fz, w.heap[b]? = some (.cells c e fz) := by
        simp only [World.cell?] at hne0
        split at hne0
        · rename_i c e fz hblk
          refine ⟨?_, c, e, fz, hblk⟩
          cases spot with
          | none => rfl
          | some s => simp at hne0
        · simp at hne0
      obtain ⟨rfl, c, e, fz, hblk⟩ := hsp
      have hlt : b < w.heap.size := (Array.getElem?_eq_some_iff.1 hblk).1
      have elt : ∀ (i : Nat) (hi : i < l.length), off + i * t.size + t.size ≤ c.size ∧ Rep w (wholeG w) none t (l.get ⟨i, hi⟩) (seg c.toList (off + i * t.size) t.size) := fun i hi => by
        obtain ⟨cs', hc', hr⟩ := hl i hi
        obtain ⟨_, hl', hcell'⟩ := World.cells?_some hc'
        have hadd : (⟨b, off, none⟩ : Addr).add (i * t.size) = ⟨b, off + i * t.size, none⟩ := Addr.add_lit ..
        rw [hadd] at hcell'
        have h2 := cells_block (b := b) (off := off + i * t.size) (n := t.size) hl' (fun j hj => by
          have := hcell' j hj
          rw [Addr.add_lit] at this
          exact this) hblk hpos
        exact ⟨h2.1, by rw [h2.2]; exact hr⟩
      refine ⟨b, off, c, e, fz, rfl, wholeG_tag hlt, hblk, ?_, fun i hi => (elt i hi).2⟩
      have := (elt (l.length - 1) (by omega)).1
      have hm : (l.length - 1 + 1) * t.size = l.length * t.size := by rw [Nat.sub_add_cancel (by omega)]
      rw [Nat.add_mul] at hm
      omega
  | .sl true _, _, _, _, _, hp, _, _ => by simp [Ty.plain] at hp
  | .ptr _, _, _, _, _, hp, _, _ => by simp [Ty.plain] at hp
  | .fn _ _, _, _, _, _, hp, _, _ => by simp [Ty.plain] at hp
theorem open_fields : (t : Ty) → {fs : List Field} → {off : Nat} → {cs : List Value} → {n : Nat} → t.plain = true → FsOK P t fs off → off + t.size ≤ cs.length →
    (∀ (i : Nat) (f : Field), fs[i]? = some f → ∃ x, DataW.trod enc P w base spare held n f.type ((cs.drop f.offset).take (P.cellsOf f.type)) = some x) → ∃ d, Rep w (wholeG w) none t d (seg cs off t.size)
  | .pair a b, f :: fs, off, cs, n, hp, hfs, hl, h => by
    simp only [FsOK] at hfs
    obtain ⟨ho, hta, htb⟩ := hfs
    simp only [Ty.plain, Bool.and_eq_true] at hp
    simp only [Ty.size] at hl
    obtain ⟨y, hy⟩ := h 0 f rfl
    rw [ho, (hta.info.cellsOf).1] at hy
    obtain ⟨d1, hd1⟩ := open_rep a hp.1 hta hy
    obtain ⟨d2, hd2⟩ := open_fields b (off := off + a.size) hp.2 htb (by omega) (fun i g hg => h (i + 1) g (by simpa using hg))
    refine ⟨(d1, d2), seg cs off a.size, seg cs (off + a.size) b.size, ?_, hd1, hd2⟩
    simp only [seg, Ty.size, List.take_add]
    rw [List.drop_drop]
  | .unit, [], off, cs, n, _, _, _, _ => ⟨(), by simp [seg, Ty.size, Rep]⟩
  | .unit, _ :: _, _, _, _, _, h, _, _ => by simp only [FsOK] at h
  | .pair _ _, [], _, _, _, _, h, _, _ => by simp only [FsOK] at h
  | .int _, _, _, _, _, _, h, _, _ => by simp only [FsOK] at h
  | .bool, _, _, _, _, _, h, _, _ => by simp only [FsOK] at h
  | .str, _, _, _, _, _, h, _, _ => by simp only [FsOK] at h
  | .arr _ _, _, _, _, _, _, h, _, _ => by simp only [FsOK] at h
  | .sl _ _, _, _, _, _, _, h, _, _ => by simp only [FsOK] at h
  | .ptr _, _, _, _, _, _, h, _, _ => by simp only [FsOK] at h
  | .fn _ _, _, _, _, _, _, h, _, _ => by simp only [FsOK] at h
end

theorem okWide_mk {t : Ty} {T : TypeId} {v : Value} {r : Reach} (hp : t.plain = true) (hT : TyOK P t T) (h : Value.okWide P w r base T v) : v = mkV t.sk.isAgg v.cells.toList := by
  cases t with
  | int k => simp only [TyOK] at hT; obtain ⟨n, rfl⟩ := Go.WideShapes.okWide_int hT.1 h; rfl
  | bool => simp only [TyOK] at hT; obtain ⟨n, rfl⟩ := Go.WideShapes.okWide_bool hT.1 h; rfl
  | str => simp only [TyOK] at hT; obtain ⟨n, rfl⟩ := Go.WideShapes.okWide_string hT.1 h; rfl
  | unit => simp only [TyOK] at hT
  | pair a b =>
    simp only [TyOK] at hT
    obtain ⟨⟨fs, hu, _⟩, _⟩ := hT
    obtain ⟨cs, rfl, _⟩ := Go.WideShapes.okWide_struct hu h
    simp [mkV, Ty.sk, Sk.isAgg, Value.cells]
  | arr n t =>
    simp only [TyOK] at hT
    obtain ⟨⟨E, hu, _⟩, _⟩ := hT
    simp only [Value.okWide, hu] at h
    obtain ⟨cs, rfl, _⟩ := h
    simp [mkV, Ty.sk, Sk.isAgg, Value.cells]
  | sl o t =>
    simp only [TyOK] at hT
    obtain ⟨⟨E, hu, _⟩, _⟩ := hT
    obtain ⟨a, l, c, rfl⟩ := Go.WideShapes.okWide_slice hu h
    rfl
  | ptr t => simp [Ty.plain] at hp
  | fn f t => simp [Ty.plain] at hp

/-- One argument, opened. -/
theorem arg_open {t : Ty} {T : TypeId} {v : Value} {r : Reach} {base' : Nat} {d : DataW H} {ps : List MemPlace} (hp : t.plain = true) (hT : TyOK P t T) (hv : Value.okWide P w r base' T v) (h : DataW.Trod enc P w base spare held T v d ps) :
    ∃ x, t.isRo = true ∧ ∃ cs, Rep w (wholeG w) none t x cs ∧ v = mkV t.sk.isAgg cs := by
  obtain ⟨fuel, h⟩ := h
  obtain ⟨x, hx⟩ := open_rep t hp hT h
  exact ⟨x, Ty.plain_ro hp, _, hx, okWide_mk hp hT hv⟩
end

/-- The call of a law that is always true. -/
theorem law_walk {P : Program} {f : Nat} {fn : Func} {body : Code} {p : APat} {F : p.den → Option Bool} {d : p.den} {vals : List Value} {w : World} (hf : P.funcs[f]? = some fn) (hb : fn.body = some body) (hnm : (fn.name == "runtime.NumGoroutine") = false)
    (hc : CalleeOK P f (.pure p [.bool] F)) (hF : F d = some true) (ha : RoArgs w (wholeG w) p d vals) :
    Calls P f vals.toArray w fun e w' => e = .returned (.bool true) ∧ Go.RowKit.Below w.heap.size w w' := by
  have hnm' : ¬ fn.name = "runtime.NumGoroutine" := by simpa using hnm
  have hent : (callFunc f vals.toArray).run P w = .ok (.enter f vals.toArray) w := by simp [callFunc, hf, hb, hnm']
  rcases hc w (wholeG w) d vals true (fun b hb => by
    simp only [wholeG] at hb ⊢
    split at hb
    · rename_i h; simp [h]
    · simp at hb) ha hF with ⟨_, h⟩ | ⟨v, w', h, _⟩
  · refine Calls.mono h fun e w' he => ?_
    obtain ⟨v, rfl, g', hext, hres⟩ := he
    have hv := VOK_bool hres.2
    refine ⟨by rw [hv], hext.os, hext.tape, hext.output, hext.size, fun k hk => (hext.keep k hk (.inr (wholeG_tag hk))).1⟩
  · rw [hent] at h; cases h

end Go.Kz

/-
  Plain lemmas on the words of the generated texts.
-/
namespace Go.Kz

/-- A loop by an invariant and a measure: if every round leads to the result, the loop does. -/
theorem iter_rule {α R : Type} {Body : (α → Option R) → α → Option R} {r : Option R} (Inv : α → Prop) (m : α → Nat)
    (h : ∀ x w, Inv x → (∀ y, Inv y → m y < m x → w y = r) → Body w x = r) : ∀ (n : Nat) (x : α), Inv x → m x < n → iter Body n x = r
  | 0, _, _, hn => by omega
  | n + 1, x, hx, hn => h x _ hx fun y hy hm => iter_rule Inv m h n y hy (by omega)

theorem idx_nat {α : Type} (l : List α) (k : Nat) : idx l (k : Int) = l[k]? := rfl
theorem idx_of {α : Type} {l : List α} {i : Int} (h0 : 0 ≤ i) (h1 : i < l.length) : idx l i = some (l[i.toNat]'(by omega)) := by
  obtain ⟨k, rfl⟩ := Int.eq_ofNat_of_zero_le h0
  simp only [idx_nat, Int.toNat_natCast]
  exact List.getElem?_eq_getElem (by omega)
theorem idx_lt {α : Type} {l : List α} {k : Nat} (h : k < l.length) : idx l (k : Int) = some l[k] := by simp [idx_nat, h]
theorem inb_lt {α : Type} {l : List α} {k : Nat} (h : k < l.length) : inb l (k : Int) = true := by simp [inb, h]
theorem len_eq {α : Type} (l : List α) : len l = (l.length : Int) := rfl
theorem chk_true {R : Type} {b : Bool} {x : Option R} (h : b = true) : chk b x = x := by rw [h]; rfl

theorem wi64_of {n : Int} (h1 : -9223372036854775808 ≤ n) (h2 : n ≤ 9223372036854775807) : wi64 n = n := by
  simp only [wi64, IntKind.wrap, IntKind.min, IntKind.max, IntKind.bits, IntKind.signed]
  simp
  omega
end Go.Kz

/-
  Loops that count up.
-/
namespace Go.Kz
variable {σ R : Type} {r : Option R}

theorem dlt_len {α : Type} {l : List α} {k : Nat} (h : k < l.length) : decide ((k : Int) < len l) = true := by simp [len, h]
theorem dnlt_len {α : Type} (l : List α) : decide (((l.length : Nat) : Int) < len l) = false := by simp [len]
theorem take_succ {α : Type} {l : List α} {k : Nat} (h : k < l.length) : l.take (k + 1) = l.take k ++ [l[k]] := by rw [List.take_succ_eq_append_getElem h]
end Go.Kz

/-
  Functions that ask first whether a slice of the caller's is nil: both answers lead to the same result.
-/
namespace Go.Kz
variable {R : Type}

/-- The end of a function. -/
def kFin (c : Ctx) (ts : List Ty) (rs : List ResultVar) : AExit → St → Option (resDen ts) := fun e σ => match e with
  | .exit _ => none
  | _ => norm c.res σ fun σ => resK c.tt σ ts rs fun r _ => some r

theorem fn_ok_nil {P : Program} {f : Nat} {fn : Func} {c : Ctx} {p : APat} {ts : List Ty} {F : p.den → Option (resDen ts)} {A B C : Code} {id : Nat} {o1 o2 : Oper} {s d1 d2 : Nat} {T T' : TypeId} {t tT : Ty} {oT : Bool} {σ0 : p.den → St}
    (hf : P.funcs[f]? = some fn) (hnm : (fn.name == "runtime.NumGoroutine") = false) (hb : fn.body = some (.seq A (.seq (.seq (.region id #[o1, o2] false) C) B)))
    (hc : CtxOK P c) (hm : P.follows .mixedOrders = true) (hn : c.ntmps = fn.ntmps) (hp : p.len ≤ fn.ntmps) (ht : exOKs ts = true)
    (hlA : ∀ b ∈ loopsOf A, LoopOK c b) (hlB : ∀ b ∈ loopsOf B, LoopOK c b) (hlC : ∀ b ∈ loopsOf C, LoopOK c b)
    (hA : ∀ d, codeK c A (entry p d) (fun e σ => match e with | .normal => some σ | _ => none) = some (σ0 d))
    (h1 : o1.op = .move (.tmp s)) (h1d : o1.dst = some d1) (h1g : o1.guard = none)
    (h2 : o2.op = .binOp .eql T (.tmp d1) (.const (.slice none 0 0)) T') (h2d : o2.dst = some d2) (h2g : o2.guard = none)
    (hd1 : d1 < c.ntmps) (hd2 : d2 < c.ntmps) (hT : c.tt T = some (.sl oT tT))
    (l : p.den → List t.den) (hs : ∀ d, (σ0 d).slots s = some (.data (.sl false t) (l d)))
    (heq : ∀ d b, (b = true → l d = []) → codeK c C (((σ0 d).set d1 (.data (.sl false t) (l d))).set d2 (.data .bool b)) (kSeq (kCut (cutAt c B) (codeK c B)) (kFin c ts fn.results.toList)) = F d) : CalleeOK P f (.pure p ts F) := by
  intro w g d vals r htag hargs hF
  left
  refine ⟨?_, ?_⟩
  · have hnm' : ¬ fn.name = "runtime.NumGoroutine" := by simpa using hnm
    simp [callFunc, hf, hb, hnm']
  obtain ⟨hst, hfr⟩ := entry_ok htag hargs hp
  rw [← hn] at hst
  refine calls_of_wp hf hb ?_
  rw [← hn]
  have hQ' : ∀ ch a w', ¬ bodyPost P fn (fun e w' => ∃ v, e = .returned v ∧ ∃ g', Ext w g w' g' ∧ ResOK w' g' (exposeRes ts r 0) v) (.panic ch) a w' := by
    intro ch a w h
    obtain ⟨_, v, h, _⟩ := h
    cases h
  generalize hQd : bodyPost P fn (fun e w' => ∃ v, e = .returned v ∧ ∃ g', Ext w g w' g' ∧ ResOK w' g' (exposeRes ts r 0) v) = Q at hQ' ⊢
  have fin : Kont c.ntmps g w (kFin c ts fn.results.toList) r (fun _ => True) Q := by
    subst hQd
    intro e σ' g' a' w' hk hst' hext' hf' _
    have fin : ∀ {σ' : St}, norm c.res σ' (fun σ => resK c.tt σ ts fn.results.toList fun r _ => some r) = some r → StOK c.ntmps g' w' a' σ' → FreshUp g' σ' →
        ∃ v, (results fn a'.tmps).run P w' = .ok v w' ∧ ∃ g', Ext w g w' g' ∧ ResOK w' g' (exposeRes ts r 0) v := by
      intro σ' hk hst' hf'
      obtain ⟨σ1, g1, h1, hst1, hext1, _⟩ := norm_ok hst' hf' hk
      obtain ⟨v, g2, hr, hext2, hres⟩ := res_ok (P := P) hc.tt hst1 ht h1
      exact ⟨v, hr, g2, (hext'.trans hext1).trans hext2, hres⟩
    cases e with
    | exit id => simp [kFin] at hk
    | normal =>
      obtain ⟨v, h1, h2⟩ := fin hk hst' hf'
      exact ⟨hst'.defers, v, h1, v, rfl, h2⟩
    | ret =>
      obtain ⟨v, h1, h2⟩ := fin hk hst' hf'
      exact ⟨hst'.defers, v, h1, v, rfl, h2⟩
  refine wp_seq (code_ok hc hm A hlA (fun ch a w h => hQ' ch a w h) (hA d) hst hfr ?_)
  intro e σ1 g1 a1 w1 hk1 hst1 hext1 hf1 _
  cases e with
  | exit i => simp at hk1
  | ret => simp at hk1
  | normal =>
    simp only [Option.some.injEq] at hk1
    subst hk1
    show Code.wp P _ _ a1 w1
    refine wp_seq (wp_seq (wp_region ?_))
    obtain ⟨v, hv, hok⟩ := hst1.slots s _ (hs d)
    have hev : a1.eval (.tmp s) = v := by simp [Act.eval, Array.getD_eq_getD_getElem?, hv]
    have hr : List.range (#[o1, o2] : Array Oper).size = [0, 1] := rfl
    rw [hr]
    simp only [wpOps, List.getElem?_toArray, List.getElem?_cons_zero, List.getElem?_cons_succ, wanted_none h1g, wanted_none h2g, if_true]
    left
    have hst2 : StOK c.ntmps g1 w1 (a1.put o1.dst v) ((σ0 d).set d1 (.data (.sl false t) (l d))) := by
      rw [h1d]; exact hst1.put hd1 hok
    refine Yield_wp (v := v) (by simp [execOp, h1, hev]) ?_
    left
    obtain ⟨v2, hv2, hok2⟩ := hst2.slots d1 (.data (.sl false t) (l d)) (by simp [St.set, upd, Nat.beq_refl])
    have hev2 : (a1.put o1.dst v).eval (.tmp d1) = v2 := by simp [Act.eval, Array.getD_eq_getD_getElem?, hv2]
    have hvd : ∃ ad n cap, v2 = .slice ad n cap ∧ (ad.isNone = true → l d = []) := by
      simp only [VOK] at hok2
      obtain ⟨cs, ⟨_, ad, cap, rfl, _, _, hne⟩, hmk⟩ := hok2
      refine ⟨ad, _, cap, by rw [hmk]; rfl, fun hnone => ?_⟩
      by_cases hl : l d = []
      · exact hl
      · obtain ⟨b, off, c', e, fz, he, _⟩ := hne hl
        rw [he] at hnone; simp at hnone
    obtain ⟨ad, n, cap, rfl, hnil⟩ := hvd
    have hTu := hc.tt _ _ hT
    simp only [TyOK] at hTu
    obtain ⟨⟨E, hTE, _⟩, _⟩ := hTu
    have hrun : (execOp (a1.put o1.dst v).eval o2).run P w1 = .ok (.value (.bool ad.isNone)) w1 := by
      have := run_equal_slice_nil (P := P) w1 T E ad n cap hTE
      have h3 : (binOp .eql T (.slice ad n cap) (.slice none 0 0)).run P w1 = .ok (.bool ad.isNone) w1 := by
        simp only [binOp]
        simp [this]
      have hc0 : (a1.put o1.dst v).eval (.const (.slice none 0 0)) = .slice none 0 0 := rfl
      simp [execOp, h2, hev2, hc0, eqGuard, h3]
    refine Yield_wp hrun ?_
    have hst3 : StOK c.ntmps g1 w1 ((a1.put o1.dst v).put o2.dst (.bool ad.isNone)) (((σ0 d).set d1 (.data (.sl false t) (l d))).set d2 (.data .bool ad.isNone)) := by
      rw [h2d]; exact hst2.put hd2 (VOK_bool_mk _)
    have hf3 : FreshUp g1 (((σ0 d).set d1 (.data (.sl false t) (l d))).set d2 (.data .bool ad.isNone)) := by
      intro m hm'
      exact ((hf1 m hm').set d1 (by simp [AVal.ids])).set d2 (by simp [AVal.ids])
    show Code.wp P _ _ _ _
    have he := heq d ad.isNone hnil
    rw [hF] at he
    refine code_ok hc hm C hlC (Q := Exit.then (B.wp P Q) Q) (fun ch a w h => hQ' ch a w h) he hst3 hf3 ?_
    intro e σ4 g4 a4 w4 h4 hst4 hext4 hf4 _
    cases e with
    | normal =>
      simp only [kSeq, kCut] at h4
      show B.wp P Q a4 w4
      split at h4
      · obtain ⟨σ5, g5, h5, hst5, hext5, hf5⟩ := norm_ok hst4 hf4 h4
        exact code_ok hc hm B hlB hQ' h5 hst5 hf5 (fin.later ((hext1.trans hext4).trans hext5) (fun _ _ => trivial))
      · exact code_ok hc hm B hlB hQ' h4 hst4 hf4 (fin.later (hext1.trans hext4) (fun _ _ => trivial))
    | exit i => exact fin.later (F' := fun _ => True) (hext1.trans hext4) (fun _ h => h) (.exit i) σ4 g4 a4 w4 h4 hst4 (Ext.refl _ _) hf4 trivial
    | ret => exact fin.later (F' := fun _ => True) (hext1.trans hext4) (fun _ h => h) .ret σ4 g4 a4 w4 h4 hst4 (Ext.refl _ _) hf4 trivial

end Go.Kz

/-
  What a computation yields: rules for the words of the generated texts.
-/
namespace Go.Kz
variable {R α β σ : Type}

/-- It yields a value, of which Q holds. -/
def Yld (x : Option R) (Q : R → Prop) : Prop := ∃ r, x = some r ∧ Q r
theorem Yld.ret {r : R} {Q : R → Prop} (h : Q r) : Yld (some r) Q := ⟨r, rfl, h⟩
theorem Yld.mono {x : Option R} {P Q : R → Prop} (h : Yld x P) (hq : ∀ r, P r → Q r) : Yld x Q := let ⟨r, h1, h2⟩ := h; ⟨r, h1, hq r h2⟩
theorem Yld.bind {m : Option α} {f : α → Option R} {Q : R → Prop} (h : Yld m fun a => Yld (f a) Q) : Yld (m.bind f) Q := by
  obtain ⟨a, rfl, r, h1, h2⟩ := h
  exact ⟨r, h1, h2⟩
theorem Yld.cond {b : Bool} {x y : Option R} {Q : R → Prop} (h1 : b = true → Yld x Q) (h2 : b = false → Yld y Q) : Yld (cond b x y) Q := by
  cases b with
  | true => exact h1 rfl
  | false => exact h2 rfl
theorem Yld.chk {b : Bool} {x : Option R} {Q : R → Prop} (hb : b = true) (h : Yld x Q) : Yld (chk b x) Q := by rw [hb]; exact h
theorem Yld.idx {l : List α} {i : Int} {Q : α → Prop} (h0 : 0 ≤ i) (h1 : i < l.length) (h : ∀ hk : i.toNat < l.length, Q l[i.toNat]) : Yld (idx l i) Q :=
  ⟨_, idx_of h0 h1, h _⟩
theorem Yld.eq {x : Option R} {r : R} (h : Yld x fun y => y = r) : x = some r := by obtain ⟨y, rfl, rfl⟩ := h; rfl
theorem Yld.of {x : Option R} {r : R} {Q : R → Prop} (h : x = some r) (hq : Q r) : Yld x Q := ⟨r, h, hq⟩

theorem Yld.iter {Q : R → Prop} {Body : (α → Option R) → α → Option R} (Inv : α → Prop) (m : α → Nat)
    (h : ∀ x w, Inv x → (∀ y, Inv y → m y < m x → Yld (w y) Q) → Yld (Body w x) Q) : ∀ (n : Nat) (x : α), Inv x → m x < n → Yld (iter Body n x) Q
  | 0, _, _, hn => by omega
  | n + 1, x, hx, hn => h x _ hx fun y hy hm => Yld.iter Inv m h n y hy (by omega)
/-- A loop that counts up from a number; the count stands first. -/
theorem Yld.up {Q : R → Prop} {F : (Int × σ → Option R) → Int × σ → Option R} (Inv : Nat → σ → Prop) (n : Nat)
    (step : ∀ (k : Nat) (s : σ) (w : Int × σ → Option R), k < n → Inv k s → (∀ s', Inv (k + 1) s' → Yld (w ((k : Int) + 1, s')) Q) → Yld (F w ((k : Int), s)) Q)
    (last : ∀ (s : σ) (w : Int × σ → Option R), Inv n s → Yld (F w ((n : Int), s)) Q) (N k0 : Nat) (hk : k0 ≤ n) (hN : n - k0 < N) (s0 : σ) (h0 : Inv k0 s0) : Yld (Go.Kz.iter F N ((k0 : Int), s0)) Q := by
  refine Yld.iter (fun x => ∃ k : Nat, x.1 = (k : Int) ∧ k ≤ n ∧ Inv k x.2) (fun x => n - x.1.toNat) ?_ N _ ⟨k0, rfl, hk, h0⟩ (by simpa using hN)
  rintro ⟨x, s⟩ w ⟨k, hx, hk, hi⟩ hw
  simp only at hx hi
  subst hx
  by_cases hlt : k < n
  · exact step k s w hlt hi fun s' hs' => hw _ ⟨k + 1, by simp, by omega, hs'⟩ (by simp; omega)
  · have : k = n := by omega
    subst this
    exact last s w hi
theorem Yld.upI {Q : R → Prop} {F : (Int → Option R) → Int → Option R} (Inv : Nat → Prop) (n : Nat)
    (step : ∀ (k : Nat) (w : Int → Option R), k < n → Inv k → (Inv (k + 1) → Yld (w ((k : Int) + 1)) Q) → Yld (F w (k : Int)) Q)
    (last : ∀ (w : Int → Option R), Inv n → Yld (F w (n : Int)) Q) (N k0 : Nat) (hk : k0 ≤ n) (hN : n - k0 < N) (h0 : Inv k0) : Yld (Go.Kz.iter F N (k0 : Int)) Q := by
  refine Yld.iter (fun x => ∃ k : Nat, x = (k : Int) ∧ k ≤ n ∧ Inv k) (fun x => n - x.toNat) ?_ N _ ⟨k0, rfl, hk, h0⟩ (by simpa using hN)
  rintro x w ⟨k, hx, hk, hi⟩ hw
  subst hx
  by_cases hlt : k < n
  · exact step k w hlt hi fun hs' => hw _ ⟨k + 1, by simp, by omega, hs'⟩ (by simp; omega)
  · have : k = n := by omega
    subst this
    exact last w hi
theorem Yld.first {Q : R → Prop} {F : (α → Option R) → α → Option R} {N : Nat} {x : α} (hN : 0 < N) (h : ∀ w, Yld (F w x) Q) : Yld (Go.Kz.iter F N x) Q := by
  cases N with
  | zero => omega
  | succ n => exact h _

theorem wi64_nat {k : Nat} (h : k < 9223372036854775807) : wi64 ((k : Int) + 1) = (k : Int) + 1 := wi64_of (by omega) (by omega)
theorem wi64_pred {k : Nat} (h : 0 < k) (h2 : k < 9223372036854775807) : wi64 ((k : Int) - 1) = ((k - 1 : Nat) : Int) := by
  rw [wi64_of (by omega) (by omega)]; omega
theorem d_false {p : Prop} [Decidable p] (h : ¬ p) : decide p = false := decide_eq_false h
theorem d_true {p : Prop} [Decidable p] (h : p) : decide p = true := decide_eq_true h

end Go.Kz

/-
  A function that gives nothing: where recursion's fuel ends. The range of a law's argument.
-/
namespace Go.Kz

theorem callee_noneM {P : Go.Program} {f : Nat} {fin : SForm} {anch : List Nat} {fout : SForm} {F : fin.den → Option fout.den} (h : ∀ d, F d = none) : CalleeOK P f (.mut fin anch fout F) := by
  intro w g d vals r _ _ _ hF
  rw [h] at hF; cases hF
end Go.Kz
