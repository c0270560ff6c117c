/-
  Calls of functions that turn nothing.
-/
import Derived.Test.YtakifbcgkbfclaaKzW
set_option linter.unusedVariables false
set_option linter.unusedSimpArgs false
namespace Go.Kz
variable {R : Type}

theorem leaf_vs {w : World} {g : Ghost} {objs : Objs} : {a : AVal} → {cs : List Value} → leafC a = true → AOK w g objs a cs → VsOK w g objs a cs
  | .pr x c, cs, hl, h => by
    simp only [leafC, Bool.and_eq_true, Bool.not_eq_true'] at hl
    obtain ⟨c1, c2, rfl, h1, h2⟩ := h
    obtain ⟨hag, hn1, hn2, hn3⟩ := val_isAgg hl.1.1
    have hlen := h1.len
    have hsz : x.sk.size = 1 := by
      have := hl.1.2
      cases hsk : x.sk <;> rw [hsk] at this <;> simp [Sk.isAgg] at this
      rfl
    rw [hsz] at hlen
    obtain ⟨v, rfl⟩ := List.length_eq_one_iff.1 hlen
    simp only [VsOK]
    refine ⟨v, c2, rfl, VOK_of_cells h1 ?_ hn1 hn2, leaf_vs hl.2 h2⟩
    rw [hag, hl.1.2]; rfl
  | .un, cs, _, h => by simp only [VsOK]; exact h
  | .data _ _, _, hl, _ => by simp [leafC] at hl
  | .nilS, _, hl, _ => by simp [leafC] at hl
  | .ref _ _ _, _, hl, _ => by simp [leafC] at hl
  | .view _ _ _ _ _, _, hl, _ => by simp [leafC] at hl
  | .bptr _ _, _, hl, _ => by simp [leafC] at hl
  | .eptr _ _ _, _, hl, _ => by simp [leafC] at hl
  | .mref _, _, hl, _ => by simp [leafC] at hl
  | .nv _ _ _ _, _, hl, _ => by simp [leafC] at hl
  | .clos _ _, _, hl, _ => by simp [leafC] at hl
  | .agg _, _, hl, _ => by simp [leafC] at hl
  | .tup _, _, hl, _ => by simp [leafC] at hl

theorem vs_append {w : World} {g : Ghost} {objs : Objs} : {a c : AVal} → {vs us : List Value} → VsOK w g objs a vs → VsOK w g objs c us → VsOK w g objs (appendC a c) (vs ++ us)
  | .pr x y, c, vs, us, h, k => by
    simp only [VsOK, appendC] at h ⊢
    obtain ⟨v, r, rfl, h1, h2⟩ := h
    exact ⟨v, r ++ us, rfl, h1, vs_append h2 k⟩
  | .un, c, vs, us, h, k => by
    simp only [VsOK] at h
    subst h
    exact k
  | .data _ _, _, _, _, h, _ => by simp [VsOK] at h
  | .nilS, _, _, _, h, _ => by simp [VsOK] at h
  | .ref _ _ _, _, _, _, h, _ => by simp [VsOK] at h
  | .view _ _ _ _ _, _, _, _, h, _ => by simp [VsOK] at h
  | .bptr _ _, _, _, _, h, _ => by simp [VsOK] at h
  | .eptr _ _ _, _, _, _, h, _ => by simp [VsOK] at h
  | .mref _, _, _, _, h, _ => by simp [VsOK] at h
  | .nv _ _ _ _, _, _, _, h, _ => by simp [VsOK] at h
  | .clos _ _, _, _, _, h, _ => by simp [VsOK] at h
  | .agg _, _, _, _, h, _ => by simp [VsOK] at h
  | .tup _, _, _, _, h, _ => by simp [VsOK] at h

theorem asData_isAgg {w : World} {g : Ghost} {σ : St} (hh : HeapOK w g σ.objs) {a : AVal} {t : Ty} {f : t.den → Option R} {r : R} (hv : a.val = true) (h : asData σ 20 a t f = some r) : a.isAgg = t.sk.isAgg := by
  cases a with
  | data t' d =>
    simp only [asData] at h
    obtain ⟨rfl, _⟩ := castK_some h
    rfl
  | nilS =>
    simp only [asData] at h
    cases hb : t.isRo with
    | false => rw [hb] at h; simp at h
    | true =>
      rw [hb] at h
      obtain ⟨o, u, rfl, _⟩ := nilK_some h
      rfl
  | ref id p ep =>
    simp only [asData] at h
    obtain ⟨t', l, _, _, _, h⟩ := fetch_ok hh h
    obtain ⟨he, _⟩ := castK_some h
    rw [← he]; rfl
  | view id p ep x y =>
    simp only [asData] at h
    obtain ⟨t', l, _, _, _, h⟩ := fetch_ok hh h
    obtain ⟨he, _⟩ := castK_some h
    rw [← he]; rfl
  | bptr id p => cases t <;> simp [asData] at h <;> rfl
  | eptr id p ep => cases t <;> simp [asData] at h <;> rfl
  | mref id => simp [asData] at h
  | nv pt id p ep =>
    cases pt with
    | true => simp [asData] at h
    | false =>
      simp only [asData] at h
      obtain ⟨_, _, _, _, _, _, _, _, _, h, _⟩ := nrow_ok hh h
      obtain ⟨he, _⟩ := castK_some h
      rw [← he]; rfl
  | clos f c => cases t <;> simp [asData] at h <;> rfl
  | agg c =>
    cases c with
    | pr x y =>
      simp only [asData] at h
      cases t <;> simp [asData] at h <;> rfl
    | un =>
      simp only [asData] at h
      cases t <;> simp [asData] at h <;> rfl
    | _ => simp [AVal.val] at hv
  | tup c => simp [AVal.val] at hv
  | pr x y => simp [AVal.val] at hv
  | un => simp [AVal.val] at hv

/-- Values that are no references, as data. -/
theorem asData_no {w : World} {g : Ghost} {σ : St} : (n : Nat) → {a : AVal} → {t : Ty} → {k : t.den → Option R} → {r : R} → {cs : List Value} → noIds a = true →
    AOK w g σ.objs a cs → asData σ n a t k = some r → ∃ d, k d = some r ∧ t.isRo = true ∧ Rep w g none t d cs
  | 0, _, _, _, _, _, _, _, h => by simp [asData] at h
  | n + 1, .data t' d, t, k, r, cs, _, hok, h => by
    simp only [asData] at h
    obtain ⟨rfl, h⟩ := castK_some h
    exact ⟨_, h, hok.1, hok.2⟩
  | n + 1, .nilS, t, k, r, cs, _, hok, h => by
    simp only [asData] at h
    cases hb : t.isRo with
    | false => rw [hb] at h; simp at h
    | true =>
      rw [hb] at h
      obtain ⟨o, u, rfl, h⟩ := nilK_some h
      cases o with
      | true => simp [Ty.isRo] at hb
      | false =>
        have hok' : cs = [.slice none 0 0] := hok
        subst hok'
        exact ⟨_, h, rfl, none, 0, rfl, Nat.le_refl _, Nat.zero_le _, fun hn => absurd rfl hn⟩
  | n + 1, .clos f c, t, k, r, cs, hn, hok, h => by
    cases t with
    | fn f' t =>
      simp only [asData] at h
      cases hb : Nat.beq f f' with
      | false => rw [hb] at h; simp at h
      | true =>
        rw [hb] at h
        have he : f = f' := Nat.eq_of_beq_eq_true hb
        subst he
        obtain ⟨vs, rfl, hc⟩ := hok
        obtain ⟨d, hk, hr, hrep⟩ := asData_no n (a := c) (by simpa [noIds] using hn) hc h
        exact ⟨d, hk, by simpa [Ty.isRo] using hr, vs, rfl, hrep⟩
    | _ => simp [asData] at h
  | n + 1, .agg c, t, k, r, cs, hn, hok, h => by
    simp only [asData] at h
    exact asData_no n (a := c) (by simpa [noIds] using hn) hok h
  | n + 1, .pr a b, t, k, r, cs, hn, hok, h => by
    cases t with
    | pair t u =>
      simp only [asData] at h
      simp only [noIds, Bool.and_eq_true] at hn
      obtain ⟨c1, c2, rfl, ha, hb⟩ := hok
      obtain ⟨x, hk, hr1, hrep1⟩ := asData_no n hn.1 ha h
      obtain ⟨y, hk, hr2, hrep2⟩ := asData_no n hn.2 hb hk
      exact ⟨(x, y), hk, by simp [Ty.isRo, hr1, hr2], c1, c2, rfl, hrep1, hrep2⟩
    | _ => simp [asData] at h
  | n + 1, .un, t, k, r, cs, _, hok, h => by
    cases t with
    | unit =>
      simp only [asData] at h
      exact ⟨(), h, rfl, hok⟩
    | _ => simp [asData] at h
  | n + 1, .ref _ _ _, _, _, _, _, hn, _, _ => by simp [noIds] at hn
  | n + 1, .view _ _ _ _ _, _, _, _, _, hn, _, _ => by simp [noIds] at hn
  | n + 1, .bptr _ _, _, _, _, _, hn, _, _ => by simp [noIds] at hn
  | n + 1, .eptr _ _ _, _, _, _, _, hn, _, _ => by simp [noIds] at hn
  | n + 1, .mref _, _, _, _, _, hn, _, _ => by simp [noIds] at hn
  | n + 1, .nv _ _ _ _, _, _, _, _, hn, _, _ => by simp [noIds] at hn
  | n + 1, .tup _, _, _, _, _, _, hok, _ => hok.elim

/-- The owned made another's. -/
def alienG (g : Ghost) : Ghost := { g with tag := fun b => match g.tag b with
  | .ro => .ro
  | _ => .alien }
theorem alienG_tag {g : Ghost} {b : Nat} : (alienG g).tag b = .ro ↔ g.tag b = .ro := by
  simp only [alienG]
  cases g.tag b <;> simp
theorem alienG_ro (w : World) (g : Ghost) : RoKept w g w (alienG g) := ⟨fun b hb => ⟨alienG_tag.2 hb, rfl⟩⟩
theorem alienG_lent {w : World} {g : Ghost} (ht : ∀ b, g.tag b ≠ .alien → b < w.heap.size) : Lent w g (alienG g) := by
  refine ⟨fun b hb => ?_⟩
  have h1 : (alienG g).tag b = .ro := by
    simp only [alienG] at hb ⊢
    cases h : g.tag b <;> rw [h] at hb <;> simp at hb ⊢
  exact ⟨h1, ht b (by rw [alienG_tag.1 h1]; simp)⟩
theorem roG_lent {w : World} {g : Ghost} (ht : ∀ b, g.tag b ≠ .alien → b < w.heap.size) : Lent w g (roG g) := by
  refine ⟨fun b hb => ?_⟩
  simp only [roG] at hb ⊢
  cases h : g.tag b with
  | alien => rw [h] at hb; simp at hb
  | ro => exact ⟨rfl, ht b (by rw [h]; simp)⟩
  | row i p => exact ⟨rfl, ht b (by rw [h]; simp)⟩
  | box i => exact ⟨rfl, ht b (by rw [h]; simp)⟩

/-- The arguments of a call that turns nothing. -/
theorem args_ok {w : World} {g gl : Ghost} {σ : St} (hh : HeapOK w g σ.objs) (hgl : gl = roG g ∨ gl = alienG g) : {p : APat} → {a : AVal} → {vs : List Value} → {b : Bnd} → {k : p.den → Bnd → Option R} → {r : R} →
    (gl = roG g ∨ noIds a = true) → chainP p = true → valsC a = true → VsOK w g σ.objs a vs → matchArgs σ p a b k = some r → ∃ d, k d b = some r ∧ RoArgs w gl p d vs
  | .pr (.val t) q, .pr x y, vs, b, k, r, hm, hp, hv, h, hk => by
    simp only [matchArgs] at hk
    simp only [valsC, Bool.and_eq_true] at hv
    simp only [VsOK] at h
    obtain ⟨v, rest, rfl, h1, h2⟩ := h
    obtain ⟨hag, hn1, hn2, hn3⟩ := val_isAgg hv.1
    obtain ⟨cs, hok, hmk⟩ := VOK_cells h1 hn3
    have hd : ∃ d, (matchArgs σ q y b fun dy b => k (d, dy) b) = some r ∧ t.isRo = true ∧ Rep w gl none t d cs := by
      rcases hm with rfl | hm
      · exact asData_ok hh 20 hok hk
      · simp only [noIds, Bool.and_eq_true] at hm
        obtain ⟨d, hk, hr, hrep⟩ := asData_no 20 hm.1 hok hk
        refine ⟨d, hk, hr, ?_⟩
        rcases hgl with rfl | rfl
        · exact hrep.kept (roG_ro w g)
        · exact hrep.kept (alienG_ro w g)
    obtain ⟨d, hk', hr, hrep⟩ := hd
    obtain ⟨dy, hk2, hargs⟩ := args_ok hh hgl (hm.imp _root_.id (fun hm => by simp only [noIds, Bool.and_eq_true] at hm; exact hm.2)) (by simpa [chainP] using hp) hv.2 h2 hk'
    exact ⟨(d, dy), hk2, hr, ⟨cs, hrep, by rw [hmk, asData_isAgg hh hv.1 hk]⟩, hargs⟩
  | .un, .un, vs, b, k, r, _, _, _, h, hk => by
    simp only [matchArgs] at hk
    simp only [VsOK] at h
    subst h
    exact ⟨(), hk, trivial⟩
  | .un, .pr _ _, _, _, _, _, _, _, _, _, hk => by simp [matchArgs] at hk
  | .un, .data _ _, _, _, _, _, _, _, hv, _, _ => by simp [valsC] at hv
  | .un, .nilS, _, _, _, _, _, _, hv, _, _ => by simp [valsC] at hv
  | .un, .ref _ _ _, _, _, _, _, _, _, hv, _, _ => by simp [valsC] at hv
  | .un, .view _ _ _ _ _, _, _, _, _, _, _, hv, _, _ => by simp [valsC] at hv
  | .un, .bptr _ _, _, _, _, _, _, _, hv, _, _ => by simp [valsC] at hv
  | .un, .eptr _ _ _, _, _, _, _, _, _, hv, _, _ => by simp [valsC] at hv
  | .un, .mref _, _, _, _, _, _, _, hv, _, _ => by simp [valsC] at hv
  | .un, .nv _ _ _ _, _, _, _, _, _, _, hv, _, _ => by simp [valsC] at hv
  | .un, .clos _ _, _, _, _, _, _, _, hv, _, _ => by simp [valsC] at hv
  | .un, .agg _, _, _, _, _, _, _, hv, _, _ => by simp [valsC] at hv
  | .un, .tup _, _, _, _, _, _, _, hv, _, _ => by simp [valsC] at hv
  | .pr (.val _) _, .un, _, _, _, _, _, _, _, _, hk => by simp [matchArgs] at hk
  | .pr (.val _) _, .data _ _, _, _, _, _, _, _, hv, _, _ => by simp [valsC] at hv
  | .pr (.val _) _, .nilS, _, _, _, _, _, _, hv, _, _ => by simp [valsC] at hv
  | .pr (.val _) _, .ref _ _ _, _, _, _, _, _, _, hv, _, _ => by simp [valsC] at hv
  | .pr (.val _) _, .view _ _ _ _ _, _, _, _, _, _, _, hv, _, _ => by simp [valsC] at hv
  | .pr (.val _) _, .bptr _ _, _, _, _, _, _, _, hv, _, _ => by simp [valsC] at hv
  | .pr (.val _) _, .eptr _ _ _, _, _, _, _, _, _, hv, _, _ => by simp [valsC] at hv
  | .pr (.val _) _, .mref _, _, _, _, _, _, _, hv, _, _ => by simp [valsC] at hv
  | .pr (.val _) _, .nv _ _ _ _, _, _, _, _, _, _, hv, _, _ => by simp [valsC] at hv
  | .pr (.val _) _, .clos _ _, _, _, _, _, _, _, hv, _, _ => by simp [valsC] at hv
  | .pr (.val _) _, .agg _, _, _, _, _, _, _, hv, _, _ => by simp [valsC] at hv
  | .pr (.val _) _, .tup _, _, _, _, _, _, _, hv, _, _ => by simp [valsC] at hv
  | .pr (.ref _) _, _, _, _, _, _, _, hp, _, _, _ => by simp [chainP] at hp
  | .pr (.bptr _) _, _, _, _, _, _, _, hp, _, _, _ => by simp [chainP] at hp
  | .pr (.clos _ _) _, _, _, _, _, _, _, hp, _, _, _ => by simp [chainP] at hp
  | .pr (.agg _) _, _, _, _, _, _, _, hp, _, _, _ => by simp [chainP] at hp
  | .pr (.pr _ _) _, _, _, _, _, _, _, hp, _, _, _ => by simp [chainP] at hp
  | .pr .un _, _, _, _, _, _, _, hp, _, _, _ => by simp [chainP] at hp
  | .val _, _, _, _, _, _, _, hp, _, _, _ => by simp [chainP] at hp
  | .ref _, _, _, _, _, _, _, hp, _, _, _ => by simp [chainP] at hp
  | .bptr _, _, _, _, _, _, _, hp, _, _, _ => by simp [chainP] at hp
  | .clos _ _, _, _, _, _, _, _, hp, _, _, _ => by simp [chainP] at hp
  | .agg _, _, _, _, _, _, _, hp, _, _, _ => by simp [chainP] at hp

section
variable {P : Program} {o : Oper} {a : Act} {w : World} {K : Act → World → Prop} {Q : Exit → Act → World → Prop} {c : Ctx} {σ : St} {g : Ghost} {k : St → Option R} {r : R} {base : Nat} {mo : Bool}

theorem done_K {σ' : St} {g' : Ghost} {w' : World} {av : AVal} {v : Value} (hst : StOK c.ntmps g' w' a σ') (hext : Ext w g w' g')
    (hfr : ∀ m, (m < base ∨ base + 8 ≤ m) → Fresh g σ m → Fresh g' σ' m ∧ m ∉ av.ids) (hn : σ'.next = σ.next) (hv : VOK w' g' σ'.objs av v)
    (h : σ'.putK c o.dst av k = some r) (hag : mo = false → Agree w w') (hK : Post c.ntmps k r g w σ base mo K) : K (a.put o.dst v) w' := by
  rcases putK_some h with ⟨hd, hk⟩ | ⟨i, hd, hi, hk⟩
  · rw [hd]; exact hK σ' g' a w' hk hst hext (fun m hm hf => (hfr m hm hf).1) hn hag
  · rw [hd]; exact hK _ g' _ w' hk (hst.put hi hv) hext (fun m hm hf => (hfr m hm hf).1.set i (hfr m hm hf).2) hn hag

/-- The callee and all its arguments. -/
theorem callee_ok {gv args all : AVal} {fid : Nat} {x : Operand} {vs : List Value} (hg : VOK w g σ.objs gv (a.eval x)) (hargs : VsOK w g σ.objs args vs)
    (h : calleeOf gv args = some (fid, all)) :
    ∃ us, a.eval x = .func (.func fid) #[] us.toArray ∧ VsOK w g σ.objs all (vs ++ us) := by
  unfold calleeOf at h
  split at h
  · rename_i f cap
    cases hl : leafC cap with
    | false => rw [hl] at h; simp at h
    | true =>
      rw [hl] at h
      simp only [cond_true, Option.some.injEq, Prod.mk.injEq] at h
      obtain ⟨rfl, rfl⟩ := h
      simp only [VOK] at hg
      obtain ⟨cs, ⟨us, rfl, hc⟩, hv⟩ := hg
      exact ⟨us, hv, vs_append hargs (leaf_vs hl hc)⟩
  · rename_i f t d
    cases hl : (leafC (splitC t d) && (splitC t d).sk.same t.sk) with
    | false => rw [hl] at h; simp at h
    | true =>
      rw [hl] at h
      simp only [cond_true, Option.some.injEq, Prod.mk.injEq] at h
      obtain ⟨rfl, rfl⟩ := h
      simp only [Bool.and_eq_true] at hl
      simp only [VOK] at hg
      obtain ⟨cs, ⟨hro, us, rfl, hrep⟩, hv⟩ := hg
      exact ⟨us, hv, vs_append hargs (leaf_vs hl.1 (splitC_rep (by simpa [Ty.isRo] using hro) hrep (Sk.same_eq hl.2)))⟩
  · simp at h

theorem pickC_mem {a : AVal} : {l : List Callee} → {x : Callee} → pickC a l = some x → x ∈ l
  | [], _, h => by simp [pickC] at h
  | y :: l, x, h => by
    simp only [pickC] at h
    cases hf : fits y.args a with
    | true => rw [hf] at h; simp only [cond_true, Option.some.injEq] at h; simp [h]
    | false => rw [hf] at h; exact List.mem_cons_of_mem _ (pickC_mem h)

theorem op_call (henv : EnvOK P c.env) {cl : Call} {x : Operand} (ho : o.op = .call cl) (hcl : cl.callee = .value x)
    (hst : StOK c.ntmps g w a σ) (hfr : ∀ m, base ≤ m → m < base + 8 → Fresh g σ m) {gv args : AVal} (hx : ev σ x = some gv) (hargs : evs σ cl.args.toList = some args)
    (h : (callK c σ base gv args fun v σ => σ.putK c o.dst v k) = some r) (hK : Post c.ntmps k r g w σ base mo K) : o.wp P a w K Q := by
  obtain ⟨eg, _⟩ := ev_ok hst hx
  obtain ⟨ea, _⟩ := evs_ok hst hargs
  unfold callK at h
  split at h
  · rename_i fid all hcallee
    obtain ⟨us, hfv, hall⟩ := callee_ok eg ea hcallee
    split at h
    · rename_i p res F hpick
      have hco := henv fid _ (pickC_mem hpick)
      unfold callPure at h
      have hrun : ∀ w', (execOp a.eval o).run P w' = (callFunc fid ((cl.args.toList.map a.eval) ++ us).toArray).run P w' := by
        intro w'
        have e1 : cl.args.map a.eval = (cl.args.toList.map a.eval).toArray := by apply Array.toList_inj.1; rw [Array.toList_map]
        simp [execOp, ho, resolve, hcl, hfv, Deferred.ofValue, invoke, e1]
      cases hb : (chainP p && valsC all && (flats res || noIds all)) with
      | false => rw [hb] at h; simp at h
      | true =>
        rw [hb] at h
        simp only [cond_true] at h
        simp only [Bool.and_eq_true, Bool.or_eq_true] at hb
        have key : ∀ gl, (gl = roG g ∨ gl = alienG g) → (gl = roG g ∨ noIds all = true) → (gl = alienG g ∨ flats res = true) → o.wp P a w K Q := by
          intro gl hgl hmode hmode2
          have hlent : Lent w g gl := by
            rcases hgl with rfl | rfl
            · exact roG_lent hst.heap.tags
            · exact alienG_lent hst.heap.tags
          obtain ⟨d, hk, hro⟩ := args_ok hst.heap hgl hmode hb.1.1 hb.1.2 hall h
          simp only [Option.bind_eq_some_iff] at hk
          obtain ⟨rv, hF, hk⟩ := hk
          cases hb2 : Nat.ble (exposeRes res rv base).2.length 8 with
          | false => rw [hb2] at hk; simp at hk
          | true =>
            rw [hb2] at hk
            simp only [cond_true] at hk
            have hlen := Nat.le_of_ble_eq_true hb2
            rw [res_objs res rv base 0] at hlen
            have hdone : ∀ v w', (∃ g', Ext w gl w' g' ∧ ResOK w' g' (exposeRes res rv 0) v) → K (a.put o.dst v) w' := by
              intro v w' ⟨gc, hext, hres⟩
              have hc : RoKept w' gc w' (mergeG g gc base (exposeRes res rv 0).2.length w.heap.size) ∨ flats res = true := by
                rcases hmode2 with rfl | hf
                · left
                  refine ⟨fun b hb => ⟨?_, rfl⟩⟩
                  simp only [mergeG]
                  by_cases hlt : b < w.heap.size
                  · rw [if_pos hlt]
                    have := (merge_heap hlent hext hlt).2
                    rw [hb] at this
                    exact alienG_tag.1 this.symm
                  · rw [if_neg hlt, hb]
                · exact .inr hf
              obtain ⟨h1, h2, h3⟩ := merge_st hst hlent hext hfr hlen hc hres
              exact done_K h1 (merge_ext hlent hext) h3 (addObjs_next _ _ _) h2 hk (fun _ b hb => (merge_heap hlent hext hb).1) hK
            rcases hco w gl d ((cl.args.toList.map a.eval) ++ us) rv hlent.tags hro hF with ⟨hr1, hr2⟩ | ⟨v, w', hr1, hr2⟩
            · unfold Oper.wp
              rw [hrun, hr1, Oper.upon_enter]
              refine Calls.mono hr2 (fun e w' he => ?_)
              obtain ⟨v, rfl, hv⟩ := he
              exact hdone v w' hv
            · unfold Oper.wp
              rw [hrun, hr1, Oper.upon_value]
              exact hdone v w' hr2
        by_cases hn : noIds all = true
        · exact key (alienG g) (.inr rfl) (.inr hn) (.inl rfl)
        · exact key (roG g) (.inl rfl) (.inl rfl) (.inr (hb.2.resolve_right hn))
    · rename_i p os res F hpick
      exact (henv fid _ (pickC_mem hpick)).elim
    · simp at h
  · simp at h
end

end Go.Kz
