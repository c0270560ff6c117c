/-
  Append, joined.
-/
import Derived.Test.YtakifbcgkbfclaaKzT
set_option linter.unusedVariables false
set_option linter.unusedSimpArgs false
namespace Go.Kz
variable {R : Type}

section
variable {P : Program} {o : Oper} {a : Act} {w : World} {K : Act → World → Prop} {Q : Exit → Act → World → Prop} {c : Ctx} {σ : St} {g : Ghost} {k : St → Option R} {r : R} {base : Nat} {mo : Bool}

theorem drewG_ro {m : Nat} {tg : Tag} {v : Value} (ht : ∀ b, g.tag b ≠ .alien → b < w.heap.size) (ob : Go.Obj) : RoKept w g (w.drew.alloc ob) (newG g w.heap.size m tg v) :=
  ⟨fun b hb => (newG_ro (w := w.drew) ht ob).blk b hb⟩
theorem drewG_same {m : Nat} {tg : Tag} {v : Value} (ht : ∀ b, g.tag b ≠ .alien → b < w.heap.size) (ob : Go.Obj) {id : Nat} (hid : id ≠ m) : Same w g (w.drew.alloc ob) (newG g w.heap.size m tg v) id :=
  let h := newG_same (w := w.drew) (g := g) (m := m) (tg := tg) (v := v) ht ob hid
  ⟨⟨h.row.sv, h.row.blk⟩, h.blk, h.box⟩
theorem drewG_ext {m : Nat} {tg : Tag} {v : Value} (ht : ∀ b, g.tag b ≠ .alien → b < w.heap.size) (ob : Go.Obj) : Ext w g (w.drew.alloc ob) (newG g w.heap.size m tg v) :=
  let h := newG_ext (w := w.drew) (g := g) (m := m) (tg := tg) (v := v) ht ob
  ⟨h.os, h.tape, h.output, h.size, h.keep⟩

/-- The slice of an object, as what lies in it. -/
theorem obj_tail {id : Nat} {t : Ty} {l : List t.den} {e : Nat} (hobj : ObjOK w g σ.objs id (.row t l e)) :
    ∃ b cap olds, g.sv id [] = .slice b l.length cap ∧ l.length ≤ cap ∧ cap ≤ maxLen ∧ Tail P w g t (.slice b l.length cap) l olds ∧
      ((b = none ∧ l = [] ∧ cap = 0) ∨ ∃ bk off cc ee, b = some ⟨bk, off, none⟩ ∧ g.tag bk = .row id [] ∧ w.heap[bk]? = some (.cells cc ee (0, 0)) ∧ off + cap * t.size ≤ cc.size ∧
        ∀ (i : Nat) (h : i < l.length), Rep w g none t (l.get ⟨i, h⟩) (seg cc.toList (off + i * t.size) t.size)) := by
  obtain ⟨hro, b, cap, _, hsv, h1, h2, h3⟩ := hobj
  rcases h3 with ⟨rfl, hl, rfl⟩ | ⟨bk, off, cc, ee, rfl, htag, hcell, hsz, hel⟩
  · subst hl
    exact ⟨none, 0, [], hsv, h1, h2, Tail.of_nil, .inl ⟨rfl, rfl, rfl⟩⟩
  · have hcap : l.length * t.size ≤ cap * t.size := Nat.mul_le_mul_right _ h1
    have hel' : ∀ (i : Nat) (h : i < l.length), Rep w g none t (l.get ⟨i, h⟩) (seg cc.toList (off + i * t.size) t.size) := fun i hi => Rep.anyOwn hro (hel i hi)
    exact ⟨_, cap, seg cc.toList off (l.length * t.size), hsv, h1, h2, Tail.of_block hcell (by omega) hel', .inr ⟨bk, off, cc, ee, rfl, htag, hcell, hsz, hel'⟩⟩

/-- An append to an owned row. -/
theorem append_own {args : Array Operand} {ts : Array TypeId} {x y : Operand} {t E : TypeId} {t1 u : Ty} {l m : List t1.den} {e id : Nat} {news : List Value}
    (ho : o.op = .call { callee := .builtin .append, args := args, argTypes := ts }) (hargs : args.toList = [x, y]) (htys : ts.toList = [t, t])
    (hund : P.underlying t = some (.slice E)) (hinf : InfoOK P E u) (hus : u.size = t1.size) (hst : StOK c.ntmps g w a σ) (hobj0 : σ.objs id = some (.row t1 l e)) (hev : a.eval x = g.sv id [])
    (hro : t1.isRo = true) (htail : Tail P w g t1 (a.eval y) m news) (hrm : l.length + m.length ≤ 4294967296)
    (h : (σ.setObj id (.row t1 (l ++ m) (e + 1))).putK c o.dst (.ref id [] (e + 1)) k = some r) (hK : Post c.ntmps k r g w σ base true K) : o.wp P a w K Q := by
  obtain ⟨b, cap, olds, hsv, hlc, hcm, hold, hrow⟩ := obj_tail (P := P) (hst.heap.objs _ _ hobj0)
  have hvx : a.eval x = .slice b l.length cap := by rw [← hsv]; exact hev
  have hids : ∀ n, Fresh g σ n → n ≠ id := by
    intro n hn he; subst he
    have := hn.objs; rw [hobj0] at this; simp at this
  have hfr : ∀ n, Fresh g σ n → n ∉ (AVal.ref id [] (e + 1)).ids := by
    intro n hn; simp only [AVal.ids, List.mem_singleton]; exact hids n hn
  have hk0 : ∀ g' : Ghost, IdKept g g' id (σ.objs id) (some (.row t1 (l ++ m) (e + 1))) := fun g' => .inr (.inl ⟨t1, l, l ++ m, e, e + 1, hobj0, rfl, .inl (by omega)⟩)
  by_cases hmore : cap < l.length + m.length
  · obtain ⟨cells, cap', hrun', hobj⟩ := append_more (P := P) (ty := 0) hund hinf hus hst.heap.tags hro hold htail hmore (by omega) (σ.setObj id (.row t1 (l ++ m) (e + 1))).objs id (e + 1)
    have hrun := run_append_op (P := P) ho hargs htys (fun ty => by rw [hvx]; exact hrun')
    refine wp_done (g := g) (base := base) (σ' := σ.setObj id (.row t1 (l ++ m) (e + 1))) (g' := newG g w.heap.size id (.row id []) (.slice (some ⟨w.heap.size, 0, none⟩) (l.length + m.length) cap')) hrun ?_ ?_ (fun n hn hfn => ⟨Fresh.turn (g := g) (fun b => ?_) (hids n hfn) (by simp) hfn, hfr n hfn⟩) rfl ?_ h (fun h => Bool.noConfusion h) hK
    · refine hst.turn (drewG_ro hst.heap.tags _) (fun i hi => drewG_same hst.heap.tags _ hi) (.inl (hk0 _)) hobj ?_
      intro b hb
      simp only [newG] at hb
      split at hb
      · rename_i he; subst he; simp
      · have := hst.heap.tags b hb; simp; omega
    · exact drewG_ext hst.heap.tags _
    · simp only [newG]
      by_cases he : b = w.heap.size
      · right; exact ⟨[], by simp [he]⟩
      · left; simp [he]
    · exact VOK_ref (u := t1) (l := l ++ m) (by simp [St.setObj, upd_same]) (by simp [newG]) rfl
  · have hle : l.length + m.length ≤ cap := by omega
    rcases hrow with ⟨rfl, hl, rfl⟩ | ⟨bk, off, cc, ee, rfl, htag, hcell, hsz, hel⟩
    · subst hl
      have hm : m = [] := List.eq_nil_of_length_eq_zero (by simpa using hle)
      subst hm
      have hrun := run_append_op (P := P) (v := .slice none 0 0) (w' := w) ho hargs htys (fun ty => by rw [hvx]; exact run_append_none (ty := ty) hund hinf hus htail)
      refine wp_done (g := g) (base := base) (σ' := σ.setObj id (.row t1 ([] ++ []) (e + 1))) (g' := svG g id (.slice none 0 0)) hrun ?_ ?_ (fun n hn hfn => ⟨Fresh.turn (g := g) (fun b => .inl rfl) (hids n hfn) (by simp) hfn, hfr n hfn⟩) rfl ?_ h (fun h => Bool.noConfusion h) hK
      · refine hst.turn ⟨fun b hb => ⟨hb, rfl⟩⟩ (fun i hi => svG_same hi) (.inl (hk0 _)) ?_ hst.heap.tags
        exact ⟨hro, none, 0, by simp [svG], by simp [svG], Nat.le_refl _, Nat.zero_le _, .inl ⟨rfl, rfl, rfl⟩⟩
      · exact ⟨rfl, rfl, rfl, Nat.le_refl _, fun b _ _ => ⟨rfl, rfl⟩⟩
      · exact VOK_ref (u := t1) (l := ([] ++ [] : List t1.den)) (by simp [St.setObj, upd_same]) (by simp [svG]) rfl
    · have hrun := run_append_op (P := P) ho hargs htys (fun ty => by rw [hvx]; exact run_append_here (ty := ty) hund hinf hus hcell htail hle hsz)
      have hnl := htail.length
      have hmul : (l.length + m.length) * t1.size ≤ cap * t1.size := Nat.mul_le_mul_right _ hle
      rw [Nat.add_mul] at hmul
      have hcc : cc.toList.length = cc.size := Array.length_toList
      have hro' : RoKept w g (w.setRow bk (splice cc.toList (off + l.length * t1.size) news).toArray) (svG g id (.slice (some ⟨bk, off, none⟩) (l.length + m.length) cap)) := by
        refine ⟨fun b hb => ⟨hb, setRow_other w bk b _ ?_⟩⟩
        intro he; subst he; rw [htag] at hb; simp at hb
      refine wp_done (g := g) (base := base) (σ' := σ.setObj id (.row t1 (l ++ m) (e + 1))) (g' := svG g id (.slice (some ⟨bk, off, none⟩) (l.length + m.length) cap)) hrun ?_ ?_ (fun n hn hfn => ⟨Fresh.turn (g := g) (fun b => .inl rfl) (hids n hfn) (by simp) hfn, hfr n hfn⟩) rfl ?_ h (fun h => Bool.noConfusion h) hK
      · refine hst.turn hro' (fun i hi => ?_) (.inl (hk0 _)) ?_ ?_
        · refine ⟨⟨fun q => by simp [svG, hi], fun q b hb => ⟨hb, setRow_other w bk b _ ?_⟩⟩, rfl, fun hb => ⟨hb, setRow_other w bk _ _ ?_⟩⟩
          · intro he; subst he; rw [htag] at hb; simp only [Tag.row.injEq] at hb; exact hi hb.1.symm
          · intro he; rw [he, htag] at hb; simp at hb
        · refine ⟨hro, some ⟨bk, off, none⟩, cap, by simp [svG], by simp [svG], by simpa using hle, hcm, .inr ⟨bk, off, _, ee, rfl, htag, setRow_heap w bk cc _ ee _ hcell, ?_, fun i hi => ?_⟩⟩
          · rw [List.size_toArray, splice_length _ _ _ (by omega), hcc]; exact hsz
          · refine Rep.anyOwn hro (o := none) ?_
            exact row_here (id := id) hro htail hle hsz hcell hel hro' i hi
        · intro b hb
          have := hst.heap.tags b hb
          simpa [World.setRow] using this
      · refine ⟨rfl, rfl, rfl, by simp [World.setRow], fun b _ hb => ⟨setRow_other w bk b _ ?_, rfl⟩⟩
        intro he; subst he; rw [htag] at hb; simp at hb
      · exact VOK_ref (u := t1) (l := l ++ m) (by simp [St.setObj, upd_same]) (by simp [svG]) rfl

theorem svG_turn {id : Nat} {t : Ty} {l l' : List t.den} {e e' : Nat} {v : Value} (hst : StOK c.ntmps g w a σ) (hobj : σ.objs id = some (.row t l e)) (he : e < e')
    (hok : ObjOK w (svG g id v) (σ.setObj id (.row t l' e')).objs id (.row t l' e')) :
    StOK c.ntmps (svG g id v) w a (σ.setObj id (.row t l' e')) ∧ Ext w g w (svG g id v) ∧ ∀ m, Fresh g σ m → Fresh (svG g id v) (σ.setObj id (.row t l' e')) m := by
  refine ⟨hst.turn ⟨fun b hb => ⟨hb, rfl⟩⟩ (fun i hi => svG_same hi) (.inl (.inr (.inl ⟨t, l, l', e, e', hobj, rfl, .inl he⟩))) hok hst.heap.tags, ⟨rfl, rfl, rfl, Nat.le_refl _, fun b _ _ => ⟨rfl, rfl⟩⟩, fun m hm => ?_⟩
  refine Fresh.turn (g := g) (fun b => .inl rfl) ?_ (by simp) hm
  intro heq; subst heq
  have := hm.objs; rw [hobj] at this; simp at this

/-- A part of a row becomes the row. -/
theorem resize_ok {id : Nat} {t : Ty} {l : List t.den} {e e' : Nat} {p q : Int} (hst : StOK c.ntmps g w a σ) (hobj : σ.objs id = some (.row t l e)) (h0 : 0 ≤ p) (hpq : p ≤ q) (hq : q ≤ (l.length : Int)) (he : e < e') :
    StOK c.ntmps (svG g id (subSlice (g.sv id []) t.size p q)) w a (σ.setObj id (.row t (sub l p q) e')) ∧ Ext w g w (svG g id (subSlice (g.sv id []) t.size p q)) ∧
      ∀ m, Fresh g σ m → Fresh (svG g id (subSlice (g.sv id []) t.size p q)) (σ.setObj id (.row t (sub l p q) e')) m := by
  refine svG_turn hst hobj he ?_
  obtain ⟨hro, ad, cap, _, hsv, hlc, hcm, hrow⟩ := hst.heap.objs _ _ hobj
  have hlen : (sub l p q).length = (q - p).toNat := by rw [sub_length l p q h0 hpq hq]; omega
  have hv : subSlice (g.sv id []) t.size p q = .slice (if cap - p.toNat = 0 then ad else ad.map (·.add (p.toNat * t.size))) (sub l p q).length (cap - p.toNat) := by rw [hsv, hlen]; rfl
  refine ⟨hro, _, _, by simp only [svG, if_true]; exact congrArg (fun v => [v]) hv, by simp only [svG, if_true]; exact hv, by rw [hlen]; omega, by omega, ?_⟩
  rcases hrow with ⟨rfl, hl, rfl⟩ | ⟨b, off, c', ee, rfl, htag, hcell, hsz, hel⟩
  · left
    refine ⟨by simp, ?_, by simp⟩
    rw [hl] at hq
    simp only [List.length_nil] at hq
    exact List.eq_nil_of_length_eq_zero (by rw [hlen]; omega)
  · right
    have hmul : cap * t.size = (cap - p.toNat) * t.size + p.toNat * t.size := by rw [← Nat.add_mul]; congr 1; omega
    by_cases hz : cap - p.toNat = 0
    · refine ⟨b, off, c', ee, by rw [if_pos hz], htag, hcell, by rw [hz]; omega, fun i hi => ?_⟩
      exfalso
      have : i < (sub l p q).length := hi
      omega
    · refine ⟨b, off + p.toNat * t.size, c', ee, ?_, htag, hcell, by omega, fun i hi => ?_⟩
      · rw [if_neg hz]
        simp only [Option.map_some, Addr.add_lit]
      · have hi' : i < (sub l p q).length := hi
        have hi3 : p.toNat + i < l.length := by omega
        have := Rep.anyOwn (o' := none) hro (hel (p.toNat + i) hi3)
        have hg := sub_get l p q i hi' hi3
        refine Rep.anyOwn hro (o := none) ?_
        have e1 : off + p.toNat * t.size + i * t.size = off + (p.toNat + i) * t.size := by rw [Nat.add_mul]; omega
        rw [e1]
        have h2 : (sub l p q).get ⟨i, hi'⟩ = l.get ⟨p.toNat + i, hi3⟩ := hg
        show Rep w _ none t ((sub l p q).get ⟨i, hi'⟩) _
        rw [h2]
        exact Rep.kept (show RoKept w g w (svG g id (subSlice (g.sv id []) t.size p q)) from ⟨fun b hb => ⟨hb, rfl⟩⟩) this

theorem Post.pre {n : Nat} {g0 : Ghost} {σ0 : St} (h : Post n k r g w σ base mo K) (he : Ext w g w g0) (hf : ∀ m, Fresh g σ m → Fresh g0 σ0 m) (hn : σ0.next = σ.next) : Post n k r g0 w σ0 base mo K :=
  fun σ' g' a' w' hk hst hext hfr hnx hag => h σ' g' a' w' hk hst (he.trans hext) (fun m hm hfm => hfr m hm (hf m hfm)) (hnx.trans hn) hag

theorem Post.pre' {n : Nat} {g0 : Ghost} {σ0 : St} (h : Post n k r g w σ base mo K) (he : Ext w g w g0) (hf : ∀ m, (m < base ∨ base + 8 ≤ m) → Fresh g σ m → Fresh g0 σ0 m) (hn : σ0.next = σ.next) : Post n k r g0 w σ0 base mo K :=
  fun σ' g' a' w' hk hst hext hfr hnx hag => h σ' g' a' w' hk hst (he.trans hext) (fun m hm hfm => hfr m hm (hf m hm hfm)) (hnx.trans hn) hag

theorem Tail.congr {g' : Ghost} {t : Ty} {x : Value} {m : List t.den} {news : List Value} (h : Tail P w g t x m news) (hr : RoKept w g w g') : Tail P w g' t x m news :=
  ⟨h.len, h.cells, h.length, fun i hi => (h.elts i hi).kept hr, h.one⟩

theorem setObj_setObj (σ : St) (i : Nat) (x y : Obj) : (σ.setObj i x).setObj i y = σ.setObj i y := by
  simp only [St.setObj, St.mk.injEq, true_and, and_true]
  funext j
  simp only [upd]
  cases Nat.beq j i <;> rfl

theorem op_append (htt : TtOK P c.tt) {args : Array Operand} {ts : Array TypeId} (ho : o.op = .call { callee := .builtin .append, args := args, argTypes := ts })
    (hst : StOK c.ntmps g w a σ) (hf : Fresh g σ base) (h : opK0 c σ base o k = some r) (hK : Post c.ntmps k r g w σ base true K) : o.wp P a w K Q := by
  simp only [opK0, ho] at h
  split at h
  · rename_i x y t t' hargs htys
    split at h
    · rename_i av bv ot u hx hy htt'
      cases hb : Nat.beq t t' with
      | false => rw [hb] at h; simp at h
      | true =>
        rw [hb] at h
        have htq := Nat.eq_of_beq_eq_true hb
        subst htq
        simp only [cond_true] at h
        have hT := htt _ _ htt'
        simp only [TyOK] at hT
        obtain ⟨⟨E, hund, hE⟩, _⟩ := hT
        have hinf := hE.info
        obtain ⟨ex, efx⟩ := ev_ok hst hx
        obtain ⟨ey, efy⟩ := ev_ok hst hy
        unfold appendK at h
        split at h
        · -- nil
          have hv := VOK_nil.1 ex
          split at h
          · rename_i t1 _
            cases hbs : t1.sk.same u.sk with
            | false => rw [hbs] at h; simp at h
            | true =>
              rw [hbs] at h
              simp only [cond_true] at h
              have hsk := Sk.same_eq hbs
              have hus : u.size = t1.size := by rw [← Ty.sk_size, ← Ty.sk_size, hsk]
              obtain ⟨hro, hval, h, hnv⟩ := tailK_some h
              obtain ⟨m, news, h, htail⟩ := tail_ok (P := P) hst.heap hro ey h hval hnv
              obtain ⟨hrm, h⟩ := chk_some h
              have hrm := of_decide_eq_true hrm
              unfold room at hrm
              by_cases hm : m = []
              · subst hm
                have hrun := run_append_op (P := P) (v := .slice none 0 0) (w' := w) ho hargs htys (fun ty => by rw [hv]; exact run_append_none (ty := ty) hund hinf hus htail)
                refine wp_done (g := g) (base := base) (σ' := σ.setObj base (.row t1 [] 1)) (g' := svG g base (.slice none 0 0)) hrun ?_ ?_ (fun n hn hfn => ⟨Fresh.turn (g := g) (fun b => .inl rfl) (by omega) (by simp) hfn, by simp [AVal.ids]; omega⟩) rfl ?_ h (fun h => Bool.noConfusion h) hK
                · refine hst.turn ⟨fun b hb => ⟨hb, rfl⟩⟩ (fun i hi => svG_same hi) (.inr hf) ?_ hst.heap.tags
                  exact ⟨hro, none, 0, by simp [svG], by simp [svG], Nat.le_refl _, Nat.zero_le _, .inl ⟨rfl, rfl, rfl⟩⟩
                · exact ⟨rfl, rfl, rfl, Nat.le_refl _, fun b _ _ => ⟨rfl, rfl⟩⟩
                · exact VOK_ref (u := t1) (l := []) (by simp [St.setObj, upd_same]) (by simp [svG]) rfl
              · have hpos : 0 < m.length := List.length_pos_iff.2 hm
                obtain ⟨cells, cap', hrun', hobj⟩ := append_more (P := P) (ty := 0) (b := none) (cap := 0) (l := ([] : List t1.den)) hund hinf hus hst.heap.tags hro Tail.of_nil htail (by simpa using hpos) (by simpa using hrm) (σ.setObj base (.row t1 m 1)).objs base 1
                simp only [List.length_nil, Nat.zero_add, List.nil_append] at hrun' hobj
                have hrun := run_append_op (P := P) ho hargs htys (fun ty => by rw [hv]; exact hrun')
                refine wp_done (g := g) (base := base) (σ' := σ.setObj base (.row t1 m 1)) (g' := newG g w.heap.size base (.row base []) (.slice (some ⟨w.heap.size, 0, none⟩) m.length cap')) hrun ?_ ?_ (fun n hn hfn => ⟨Fresh.turn (g := g) (fun b => ?_) (by omega) (by simp) hfn, by simp [AVal.ids]; omega⟩) rfl ?_ h (fun h => Bool.noConfusion h) hK
                · refine hst.turn (drewG_ro hst.heap.tags _) (fun i hi => drewG_same hst.heap.tags _ hi) (.inr hf) hobj ?_
                  intro b hb
                  simp only [newG] at hb
                  split at hb
                  · rename_i he; subst he; simp
                  · have := hst.heap.tags b hb; simp; omega
                · exact drewG_ext hst.heap.tags _
                · simp only [newG]
                  by_cases he : b = w.heap.size
                  · right; exact ⟨[], by simp [he]⟩
                  · left; simp [he]
                · exact VOK_ref (u := t1) (l := m) (by simp [St.setObj, upd_same]) (by simp [newG]) rfl
          · simp at h
        · -- an owned row
          rename_i id ep
          split at h
          · rename_i t1 l e hobj0
            cases hbs : (Nat.beq e ep && t1.sk.same u.sk) with
            | false => rw [hbs] at h; simp at h
            | true =>
              rw [hbs] at h
              simp only [cond_true] at h
              simp only [Bool.and_eq_true] at hbs
              have hee := Nat.eq_of_beq_eq_true hbs.1
              subst hee
              have hsk := Sk.same_eq hbs.2
              have hus : u.size = t1.size := by rw [← Ty.sk_size, ← Ty.sk_size, hsk]
              obtain ⟨hro, hval, h, hnv⟩ := tailK_some h
              obtain ⟨m, news, h, htail⟩ := tail_ok (P := P) hst.heap hro ey h hval hnv
              obtain ⟨hrm, h⟩ := chk_some h
              have hrm := of_decide_eq_true hrm
              unfold room at hrm
              simp only [VOK] at ex
              obtain ⟨cs, ⟨v, rfl, hone, hv⟩, hv'⟩ := ex
              have e1 := (hv _ _ _ hobj0).2 rfl
              exact append_own ho hargs htys hund hinf hus hst hobj0 (by rw [← e1]; exact hv') hro htail hrm h hK
          · simp at h
        · -- a part of an owned row
          rename_i id ep pa pb
          split at h
          · rename_i t1 l e hobj0
            cases hbs : (Nat.beq e ep && t1.sk.same u.sk) with
            | false => rw [hbs] at h; simp at h
            | true =>
              rw [hbs] at h
              simp only [cond_true] at h
              simp only [Bool.and_eq_true] at hbs
              have hee := Nat.eq_of_beq_eq_true hbs.1
              subst hee
              have hsk := Sk.same_eq hbs.2
              have hus : u.size = t1.size := by rw [← Ty.sk_size, ← Ty.sk_size, hsk]
              obtain ⟨hro, hval, h, hnv⟩ := tailK_some h
              obtain ⟨m, news, h, htail⟩ := tail_ok (P := P) hst.heap hro ey h hval hnv
              obtain ⟨hrm, h⟩ := chk_some h
              have hrm := of_decide_eq_true hrm
              unfold room at hrm
              simp only [VOK] at ex
              obtain ⟨cs, ⟨v, rfl, hone, hv⟩, hv'⟩ := ex
              obtain ⟨_, h0, hab, hbl, e1⟩ := (hv _ _ _ hobj0).2 rfl
              obtain ⟨hst1, hext1, hfr1⟩ := resize_ok (e' := e + 1) hst hobj0 h0 hab hbl (Nat.lt_succ_self _)
              refine append_own (id := id) (e := e + 1) (l := sub l pa pb) ho hargs htys hund hinf hus hst1 (by simp [St.setObj, upd_same]) ?_ hro (htail.congr ⟨fun b hb => ⟨hb, rfl⟩⟩) hrm (by rw [setObj_setObj]; exact h) (hK.pre hext1 hfr1 rfl)
              rw [hv']
              simp only [svG, if_true]
              exact e1
          · simp at h
        · -- one of the rows of a row of rows
          rename_i id q0 p0 ep
          split at h
          · rename_i t1 l0 e0 i0 hobj0
            cases hb0 : Nat.beq i0 ep with
            | false => rw [hb0] at h; simp at h
            | true =>
              rw [hb0] at h
              have hee := Nat.eq_of_beq_eq_true hb0
              subst hee
              simp only [cond_true] at h
              have hwhole : Rep w g (some (id, [])) (.sl true t1) l0 [g.sv id []] := hst.heap.objs id _ hobj0
              obtain ⟨U, X, _, _, _, _, _, hk1, _, _, htu, _, _, _, _⟩ := nest_get hwhole h
              obtain ⟨U', X', hk1', hget⟩ := getK_at _ _ _ h
              split at hk1'
              · rename_i v l1
                cases hbs : v.sk.same u.sk with
                | false => rw [hbs] at hk1'; simp at hk1'
                | true =>
                  rw [hbs] at hk1'
                  simp only [cond_true] at hk1'
                  have hsk := Sk.same_eq hbs
                  have hus : u.size = v.size := by rw [← Ty.sk_size, ← Ty.sk_size, hsk]
                  obtain ⟨hro, hval, hk1', hnv⟩ := tailK_some hk1'
                  obtain ⟨m, news, hk1', htail⟩ := tail_ok (P := P) hst.heap hro ey hk1' hval hnv
                  obtain ⟨hrm, hk1'⟩ := chk_some hk1'
                  have hrm := of_decide_eq_true hrm
                  unfold room at hrm
                  have htyR : tyR t1 (q0 :: p0) = some v := by
                    have hg : getK (.sl true t1) l0 (q0 :: p0) (fun u x => some (⟨u, x⟩ : (u : Ty) × u.den)) = some ⟨.sl true v, l1⟩ := hget _ _
                    obtain ⟨U2, X2, _, _, _, _, _, hk2, _, _, htu2, _, _, _, _⟩ := nest_get hwhole hg
                    simp only [Option.some.injEq, Sigma.mk.injEq] at hk2
                    obtain ⟨rfl, _⟩ := hk2
                    have := tyU_Q htu2
                    cases q0 with
                    | fst => simp [tyQ] at this
                    | snd => simp [tyQ] at this
                    | idx j0 => simpa [tyR, tyQ] using this
                  simp only [VOK] at ex
                  obtain ⟨cs, ⟨vv, rfl, hone, hv⟩, hv'⟩ := ex
                  have e1 := ((hv _ _ _ _ _ hobj0).2 rfl).1 rfl
                  obtain ⟨hst1, hext1, hfr1, hsv1, hro1⟩ := out_ok hst hf hobj0 hro htyR hget
                  refine append_own (id := base) (e := 0) (l := l1) ho hargs htys hund hinf hus hst1 (by simp [St.setObj, upd_same]) ?_ hro (htail.congr hro1) hrm (by rw [setObj_setObj]; exact hk1') (hK.pre' hext1 (fun m hm => hfr1 m (by omega)) rfl)
                  rw [hsv1]
                  exact (hv'.trans e1)
              · simp at hk1'
          · simp at h
        · simp at h
    · simp at h
  · simp at h

end
end Go.Kz
