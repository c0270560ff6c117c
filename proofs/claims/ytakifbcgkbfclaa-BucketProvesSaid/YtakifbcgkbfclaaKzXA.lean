/-
  Maps that the function makes itself; parts of slices.
-/
import Derived.Test.YtakifbcgkbfclaaKzX
import Derived.MapKept
set_option linter.unusedVariables false
set_option linter.unusedSimpArgs false
namespace Go.Kz
open Go.MapKept
variable {R : Type}

def keyDesc : Ty → TypeDesc
  | .int k => .int k
  | .str => .string
  | _ => .bool

theorem key_under {P : Program} {t : Ty} {T : TypeId} (hk : keyTy t = true) (h : TyOK P t T) : P.underlying T = some (keyDesc t) := by
  cases t <;> simp [keyTy] at hk <;> simp only [TyOK] at h <;> exact h.1
theorem keyTy_noSl {t : Ty} (hk : keyTy t = true) : t.noSl = true := by
  cases t <;> simp [keyTy] at hk <;> rfl
theorem key_isKey {w : World} {g : Ghost} {o : Own} {t : Ty} {d : t.den} {cs : List Value} (hk : keyTy t = true) (h : Rep w g o t d cs) : IsKey (keyDesc t) (mkV t.sk.isAgg cs) := by
  cases t <;> simp [keyTy] at hk
  · obtain ⟨rfl, _⟩ := h; simp [keyDesc, mkV, Ty.sk, Sk.isAgg, IsKey]
  · cases h; simp [keyDesc, mkV, Ty.sk, Sk.isAgg, IsKey]
  · obtain ⟨s, rfl, _⟩ := h; simp [keyDesc, mkV, Ty.sk, Sk.isAgg, IsKey]
theorem key_eq {w : World} {g : Ghost} {o : Own} {t : Ty} {d e : t.den} {cs es : List Value} (hk : keyTy t = true) (h : Rep w g o t d cs) (h' : Rep w g o t e es) :
    (mkV t.sk.isAgg cs = mkV t.sk.isAgg es) ↔ keyEq t d e = true := by
  cases t <;> simp [keyTy] at hk
  · obtain ⟨rfl, _⟩ := h; obtain ⟨rfl, _⟩ := h'; simp [keyEq, mkV, Ty.sk, Sk.isAgg]
  · cases h; cases h'; simp [keyEq, mkV, Ty.sk, Sk.isAgg]
  · obtain ⟨s, rfl, hs, _⟩ := h
    obtain ⟨s', rfl, hs', _⟩ := h'
    simp only [keyEq, mkV, Ty.sk, Sk.isAgg, Bool.false_eq_true, if_false, List.headD_cons, Value.string.injEq, decide_eq_true_eq]
    constructor
    · rintro rfl; rw [← hs, ← hs']
    · intro he
      obtain ⟨⟨l⟩⟩ := s
      obtain ⟨⟨l'⟩⟩ := s'
      simp only at hs hs'
      rw [hs, hs', he]

theorem findNow_at {d : TypeDesc} {k : Value} : (es : List MapEntry) → (i : Nat) → Instr.findNow d k es i = (Instr.findNow d k es 0).map fun x => x.map fun y => (i + y.1, y.2)
  | [], i => by simp [Instr.findNow]
  | e :: es, i => by
    simp only [Instr.findNow]
    cases Instr.sameNow d k e.key with
    | none => rfl
    | some b =>
      cases b with
      | true => simp
      | false =>
        simp only
        rw [findNow_at es (i + 1), findNow_at es (0 + 1)]
        cases Instr.findNow d k es 0 with
        | none => rfl
        | some x => cases x with
          | none => rfl
          | some y => simp; omega

/-- A key looked for among the entries of a map. -/
theorem find_ok {w : World} {g : Ghost} {kt vt : Ty} (hk : keyTy kt = true) {k : kt.den} {kcs : List Value} (hkr : Rep w g none kt k kcs) : {es : List MapEntry} → {m : List (kt.den × vt.den)} → MapRep w g kt vt es m →
    (Instr.findNow (keyDesc kt) (mkV kt.sk.isAgg kcs) es 0 = some none ∧ mget (keyEq kt) m k = none ∧
      ∀ d cs b, Rep w g none vt d cs → MapRep w g kt vt (es ++ [⟨mkV kt.sk.isAgg kcs, mkV vt.sk.isAgg cs, b⟩]) (mput (keyEq kt) m k d)) ∨
    ∃ j e v cs, Instr.findNow (keyDesc kt) (mkV kt.sk.isAgg kcs) es 0 = some (some (j, e.val)) ∧ es[j]? = some e ∧ e.key = mkV kt.sk.isAgg kcs ∧ mget (keyEq kt) m k = some v ∧ Rep w g none vt v cs ∧ e.val = mkV vt.sk.isAgg cs ∧
      ∀ d cs, Rep w g none vt d cs → MapRep w g kt vt (es.modify j fun e => { e with key := mkV kt.sk.isAgg kcs, val := mkV vt.sk.isAgg cs }) (mput (keyEq kt) m k d)
  | [], [], _ => .inl ⟨rfl, rfl, fun d cs b h => ⟨⟨kcs, hkr, rfl⟩, ⟨cs, h, rfl⟩, trivial⟩⟩
  | [], _ :: _, h => h.elim
  | _ :: _, [], h => h.elim
  | e :: es, (k', v') :: m, ⟨⟨c1, h1, e1⟩, ⟨c2, h2, e2⟩, h⟩ => by
    have i1 := key_isKey hk hkr
    have i2 := key_isKey hk h1
    obtain ⟨r, hr, hiff⟩ := sameNow_of_keys i1 i2
    have hq := key_eq hk hkr h1
    have hrk : r = keyEq kt k k' := by
      cases r with
      | true => exact (hq.1 (hiff.1 rfl)).symm
      | false =>
        cases hc : keyEq kt k k' with
        | false => rfl
        | true => have := hiff.2 (hq.2 hc); simp at this
    rw [← e1] at hr
    cases r with
    | true =>
      right
      have hke : e.key = mkV kt.sk.isAgg kcs := by rw [e1]; exact (hiff.1 rfl).symm
      refine ⟨0, e, v', c2, by simp [Instr.findNow, hr], rfl, hke, by simp [mget, ← hrk], h2, e2, fun d cs hd => ?_⟩
      simp only [mput, ← hrk, cond_true, List.modify_zero_cons]
      exact ⟨⟨c1, h1, by rw [← e1, hke]⟩, ⟨cs, hd, rfl⟩, h⟩
    | false =>
      rcases find_ok hk hkr h with ⟨f1, f2, f3⟩ | ⟨j, e', v, cs, f1, f2, f3, f4, f5, f6, f7⟩
      · left
        refine ⟨?_, by simp [mget, ← hrk, f2], fun d cs b hd => ?_⟩
        · simp only [Instr.findNow, hr]
          rw [findNow_at, f1]; rfl
        · simp only [mput, ← hrk, cond_false, List.cons_append]
          exact ⟨⟨c1, h1, e1⟩, ⟨c2, h2, e2⟩, f3 d cs b hd⟩
      · right
        refine ⟨j + 1, e', v, cs, ?_, by simpa using f2, f3, by simp [mget, ← hrk, f4], f5, f6, fun d cs hd => ?_⟩
        · simp only [Instr.findNow, hr]
          rw [findNow_at, f1]
          simp; omega
        · simp only [mput, ← hrk, cond_false, List.modify_succ_cons]
          exact ⟨⟨c1, h1, e1⟩, ⟨c2, h2, e2⟩, f7 d cs hd⟩

section
variable {P : Program} {o : Oper} {a : Act} {w : World} {K : Act → World → Prop} {Q : Exit → Act → World → Prop} {c : Ctx} {σ : St} {g : Ghost} {k : St → Option R} {r : R} {base : Nat} {mo : Bool}

theorem op_makeMap {t : TypeId} (ho : o.op = .makeMap t none) (hst : StOK c.ntmps g w a σ) (hf : Fresh g σ base) (h : opK0 c σ base o k = some r) (hK : Post c.ntmps k r g w σ base mo K) : o.wp P a w K Q := by
  simp only [opK0, ho] at h
  split at h
  · rename_i kt vt hmt
    cases hc : (keyTy kt && vt.noSl) with
    | false => rw [hc] at h; simp at h
    | true =>
      rw [hc] at h
      simp only [cond_true] at h
      simp only [Bool.and_eq_true] at hc
      refine wp_new (ob := .map #[] 0) (obj := .map kt vt []) (tg := .box base) (v := undef) (v' := .map (some w.heap.size)) hst hf (.inl rfl) ?_ rfl ?_ (by simp) ?_ h hK
      · simp only [execOp, ho]
        simp [Instr.makeMap]
      · refine ⟨#[], 0, ?_, ?_, noSl_isRo (keyTy_noSl hc.1), noSl_isRo hc.2, trivial⟩
        · have hb : (newG g w.heap.size base (.box base) undef).blk base = w.heap.size := by simp [newG]
          rw [hb]; exact heap_alloc_new w _
        · simp [newG]
      · simp only [VOK]
        refine ⟨_, ⟨_, rfl, rfl, fun _ _ _ _ => ?_⟩, rfl⟩
        simp [newG]
  · simp at h

theorem data_value {t : Ty} {d : t.den} {v : Value} {objs : Objs} {cs : List Value} (ht : t.noSl = true) {w' : World} {g' : Ghost} {o' : Own} (h : Rep w' g' o' t d cs) (hv : v = mkV t.sk.isAgg cs) : VOK w g objs (.data t d) v :=
  ⟨cs, ⟨noSl_isRo ht, Rep.noSl ht h⟩, hv⟩

/-- A value that is read as data. -/
theorem key_data {i : Operand} {b : AVal} {kt : Ty} {f : kt.den → Option R} (hst : StOK c.ntmps g w a σ) (hk : kt.noSl = true) (hb : b.val = true) (hi : ev σ i = some b) (h : asData σ 20 b kt f = some r) :
    ∃ d cs, f d = some r ∧ Rep w g none kt d cs ∧ a.eval i = mkV kt.sk.isAgg cs := by
  obtain ⟨cs, hok, hmk, _⟩ := VOK_valueCells hb (ev_ok hst hi).1
  obtain ⟨d, hd, _, hr⟩ := asData_ok hst.heap 20 hok h
  exact ⟨d, cs, hd, Rep.noSl hk hr, by rw [hmk, asData_isAgg hst.heap hb h]⟩

theorem op_lookup (hmt : MtOK P c.mt) {t : TypeId} {x i : Operand} {ok : Bool} (ho : o.op = .lookup t x i ok) (hst : StOK c.ntmps g w a σ) (h : opK0 c σ base o k = some r) : Yield P o a w g σ c k r := by
  simp only [opK0, ho] at h
  split at h
  · rename_i av bv hx hi
    obtain ⟨id, kt, vt, m, rfl, hmt', hobj, hkt, hvt, h⟩ := mapK_some h
    obtain ⟨KT, E, hund, hkT, hvT, iz, z, hiz, hz, hzv⟩ := hmt _ _ _ hmt'
    cases hb : bv.val with
    | false => rw [hb] at h; simp at h
    | true =>
      rw [hb] at h
      simp only [cond_true] at h
      obtain ⟨key, kcs, h, hkr, hev⟩ := key_data hst (keyTy_noSl hkt) hb hi h
      obtain ⟨es, ck, hblk, htag, _, _, hrep⟩ := hst.heap.objs _ _ hobj
      have hv := VOK_mref (ev_ok hst hx).1 hobj
      have hlt : g.blk id < w.heap.size := hst.heap.tags _ (by rw [htag]; simp)
      have hkd := key_under hkt hkT
      have hik := key_isKey hkt hkr
      split at h
      · rename_i zd hzd
        obtain ⟨i0, z0, hi0, hs0, _, hz0, hc0, _⟩ := hvT.info.info
        have hzz : z0 = z := by rw [hiz] at hi0; cases hi0; rw [hz] at hz0; cases hz0; rfl
        subst hzz
        have hzrep := zero_rep (w := w) (g := g) (noSl_isRo hvt) hzd
        rw [← hc0] at hzrep
        have hzrun : ∀ w', (zeroValue E).run P w' = .ok z0 w' := fun w' => by simp [zeroValue, typeInfo, hiz, hz]
        -- what is found
        have found : ∃ (vv : Value) (cs : List Value), Rep w g none vt ((mget (keyEq kt) m key).getD zd) cs ∧ vv = mkV vt.sk.isAgg cs ∧
            ∀ w', Agree w w' → (Instr.lookup t (.map (some (g.blk id))) (mkV kt.sk.isAgg kcs) ok).run P w' = .ok (if ok then .tuple #[vv, .bool (mget (keyEq kt) m key).isSome] else vv) w' := by
          rcases find_ok hkt hkr hrep with ⟨f1, f2, _⟩ | ⟨j, e, v, cs, f1, f2, f3, f4, f5, f6, _⟩
          · refine ⟨z0, z0.cells.toList, by rw [f2]; exact hzrep, hzv, fun w' hag => ?_⟩
            have hb' : w'.heap[g.blk id]? = some (.map es ck) := by rw [hag _ hlt]; exact hblk
            have hg : (getObj (g.blk id)).run P w' = .ok (.map es ck) w' := by simp [getObj, Sem.run, hb']
            have hck := run_checkKey (P := P) (w := w') hkd hik es.isEmpty 9999
            have hfk := run_findKey (P := P) (w := w') hkd f1
            simp [Instr.lookup, run_underlying hund, hg, hck, hfk, hzrun, f2]
          · refine ⟨e.val, cs, by rw [f4]; exact f5, f6, fun w' hag => ?_⟩
            have hb' : w'.heap[g.blk id]? = some (.map es ck) := by rw [hag _ hlt]; exact hblk
            have hg : (getObj (g.blk id)).run P w' = .ok (.map es ck) w' := by simp [getObj, Sem.run, hb']
            have hck := run_checkKey (P := P) (w := w') hkd hik es.isEmpty 9999
            have hfk := run_findKey (P := P) (w := w') hkd f1
            simp [Instr.lookup, run_underlying hund, hg, hck, hfk, f4]
        obtain ⟨vv, cs, hvr, hvv, hrun⟩ := found
        have hrun' : ∀ w', AgP o w w' → (execOp a.eval o).run P w' = .ok (.value (if ok then .tuple #[vv, .bool (mget (keyEq kt) m key).isSome] else vv)) w' := fun w' hag => by
          have := hrun w' (hag (by simp [isP, ho]))
          simp only [execOp, ho, hv, hev]
          simp [this]
        cases ok with
        | true =>
          simp only [cond_true] at h
          refine yld (hrun') ?_ (fun m _ => by simp [AVal.ids]) h
          simp only [if_true, VOK]
          refine ⟨[vv, .bool (mget (keyEq kt) m key).isSome], rfl, ?_⟩
          simp only [VsOK]
          exact ⟨vv, _, rfl, data_value hvt hvr hvv, _, _, rfl, VOK_bool_mk _, rfl⟩
        | false =>
          simp only [cond_false] at h
          exact yld hrun' (by simp only [Bool.false_eq_true, if_false]; exact data_value hvt hvr hvv) (fun m _ => by simp [AVal.ids]) h
      · simp at h
  · simp at h


/-- A map turns. -/
theorem map_turn {id : Nat} {kt vt : Ty} {m m' : List (kt.den × vt.den)} {es : Array MapEntry} {ck : Nat} (hst : StOK c.ntmps g w a σ) (hobj : σ.objs id = some (.map kt vt m)) (hm : MapRep w g kt vt es.toList m') :
    StOK c.ntmps g { w with heap := w.heap.setIfInBounds (g.blk id) (.map es ck) } a (σ.setObj id (.map kt vt m')) ∧ Ext w g { w with heap := w.heap.setIfInBounds (g.blk id) (.map es ck) } g ∧
      ∀ n, Fresh g σ n → Fresh g (σ.setObj id (.map kt vt m')) n := by
  obtain ⟨es0, ck0, hblk, htag, hkr, hvr, _⟩ := hst.heap.objs _ _ hobj
  obtain ⟨h1, h2⟩ := heap_set (o' := .map es ck) hblk
  have hro : RoKept w g { w with heap := w.heap.setIfInBounds (g.blk id) (.map es ck) } g := by
    refine ⟨fun b hb => ⟨hb, h2 b ?_⟩⟩
    intro he; subst he; rw [htag] at hb; simp at hb
  refine ⟨hst.turn hro (fun i hi => ?_) (.inl (.inr (.inr (.inr (.inl ⟨kt, vt, m, m', hobj, rfl, rfl⟩))))) ⟨es, ck, h1, htag, hkr, hvr, hm.kept hro⟩ (fun b hb => ?_), ⟨rfl, rfl, rfl, by simp, fun b _ hb => ⟨h2 b ?_, rfl⟩⟩, fun n hn => ?_⟩
  · refine ⟨⟨fun q => rfl, fun q b hb => ⟨hb, h2 b ?_⟩⟩, rfl, fun hb => ⟨hb, h2 _ ?_⟩⟩
    · intro he; subst he; rw [htag] at hb; simp at hb
    · intro he; rw [he, htag] at hb; simp only [Tag.box.injEq] at hb; exact hi hb.symm
  · have := hst.heap.tags b hb; simpa using this
  · intro he; subst he; rw [htag] at hb; simp at hb
  · refine Fresh.turn (g := g) (fun b => .inl rfl) ?_ (by simp) hn
    intro heq; subst heq
    have := hn.objs; rw [hobj] at this; simp at this

theorem op_mapUpdate (hmt : MtOK P c.mt) {t : TypeId} {x i y : Operand} (ho : o.op = .mapUpdate t x i y) (hst : StOK c.ntmps g w a σ) (h : opK0 c σ base o k = some r) (hK : Post c.ntmps k r g w σ base true K) : o.wp P a w K Q := by
  simp only [opK0, ho] at h
  split at h
  · rename_i av bv vv hx hi hy hdst
    obtain ⟨id, kt, vt, m, rfl, hmt', hobj, hkt, hvt, h⟩ := mapK_some h
    obtain ⟨KT, E, hund, hkT, hvT, _⟩ := hmt _ _ _ hmt'
    cases hb : (bv.val && vv.val) with
    | false => rw [hb] at h; simp at h
    | true =>
      rw [hb] at h
      simp only [cond_true] at h
      simp only [Bool.and_eq_true] at hb
      obtain ⟨key, kcs, h, hkr, hev⟩ := key_data hst (keyTy_noSl hkt) hb.1 hi h
      obtain ⟨d, dcs, h, hdr, hevd⟩ := key_data hst hvt hb.2 hy h
      obtain ⟨es, ck, hblk, htag, _, _, hrep⟩ := hst.heap.objs _ _ hobj
      have hv := VOK_mref (ev_ok hst hx).1 hobj
      have hkd := key_under hkt hkT
      have hik := key_isKey hkt hkr
      have hg : (getObj (g.blk id)).run P w = .ok (.map es ck) w := by simp [getObj, Sem.run, hblk]
      have hset : ∀ ob, (setObj (g.blk id) ob).run P w = .ok () { w with heap := w.heap.setIfInBounds (g.blk id) ob } := fun ob => by simp [setObj, Sem.run, hblk]
      have hck := run_checkKey (P := P) (w := w) hkd hik false 9999
      have key : ∃ es' ck', (Instr.mapUpdate t (.map (some (g.blk id))) (mkV kt.sk.isAgg kcs) (mkV vt.sk.isAgg dcs)).run P w = .ok () { w with heap := w.heap.setIfInBounds (g.blk id) (.map es' ck') } ∧ MapRep w g kt vt es'.toList (mput (keyEq kt) m key d) := by
        rcases find_ok hkt hkr hrep with ⟨f1, f2, f3⟩ | ⟨j, e, v, cs, f1, f2, f3, f4, f5, f6, f7⟩
        · have hfk := run_findKey (P := P) (w := w) hkd f1
          refine ⟨es.push ⟨mkV kt.sk.isAgg kcs, mkV vt.sk.isAgg dcs, ck⟩, ck + 1, ?_, ?_⟩
          · simp [Instr.mapUpdate, run_underlying hund, hg, hck, hfk, hset]
          · rw [Array.toList_push]; exact f3 d dcs ck hdr
        · have hfk := run_findKey (P := P) (w := w) hkd f1
          have hks := run_keyThatStays (P := P) (w := w) hik
          have hej : es[j]? = some e := by rw [← Array.getElem?_toList]; exact f2
          refine ⟨es.modify j fun e => { e with key := mkV kt.sk.isAgg kcs, val := mkV vt.sk.isAgg dcs }, ck, ?_, ?_⟩
          · simp [Instr.mapUpdate, run_underlying hund, hg, hck, hfk, hset, hej, f3, hks]
          · rw [Array.toList_modify]; exact f7 d dcs hdr
      obtain ⟨es', ck', hrun, hrep'⟩ := key
      obtain ⟨hst', hext, hfr⟩ := map_turn (ck := ck') hst hobj hrep'
      refine wp_skip hdst ?_ hst' hext (fun n _ hn => hfr n hn) rfl h (fun h => Bool.noConfusion h) hK
      simp only [execOp, ho, hv, hev, hevd]
      simp [hrun]
  · simp at h

/-! ## Parts of slices -/

theorem run_slice {t E : TypeId} {s : Nat} (hund : P.underlying t = some (.slice E)) (hs : (sizeOf E).run P w = .ok s w) (ad : Option Addr) (len cap : Nat) (lo hi : Option Value) (l h : Int) (hlc : len ≤ cap)
    (hlo : (lo = none ∧ l = 0) ∨ ∃ k, lo = some (.int k l)) (hhi : (hi = none ∧ h = len) ∨ ∃ k, hi = some (.int k h)) (h0 : 0 ≤ l) (h1 : l ≤ h) (h2 : h ≤ (len : Int)) :
    (Instr.sliceAt t (.slice ad len cap) lo hi none).run P w = .ok (.slice (if cap - l.toNat = 0 then ad else ad.map (·.add (l.toNat * s))) (h - l).toNat (cap - l.toNat)) w := by
  have hb : ∀ k code, (Instr.sliceBound (.int k h) cap code).run P w = .ok h.toNat w := fun k code => run_sliceBound w k h cap code (by omega) (by omega)
  have hb2 : ∀ (k : IntKind) code (y : Nat), l ≤ (y : Int) → (Instr.sliceBound (.int k l) y code).run P w = .ok l.toNat w := fun k code y hy => run_sliceBound w k l y code h0 hy
  have e1 : (cap = l.toNat) = (cap - l.toNat = 0) := propext (by constructor <;> omega)
  have e2 : h.toNat - l.toNat = (h - l).toNat := by omega
  have e3 : len - l.toNat = ((len : Int) - l).toNat := by omega
  rcases hlo with ⟨rfl, rfl⟩ | ⟨k, rfl⟩ <;> rcases hhi with ⟨rfl, rfl⟩ | ⟨k', rfl⟩
  · simp [Instr.sliceAt, Instr.slice, Instr.sliceBounds, run_underlying hund, hs]
  · simp [Instr.sliceAt, Instr.slice, Instr.sliceBounds, run_underlying hund, hs, hb]
  · have := hb2 k .sliceB len (by omega)
    simp [Instr.sliceAt, Instr.slice, Instr.sliceBounds, run_underlying hund, hs, this, e1, e3]
  · have := hb2 k .sliceB h.toNat (by omega)
    simp [Instr.sliceAt, Instr.slice, Instr.sliceBounds, run_underlying hund, hs, hb, this, e1, e2]

theorem evI_ok {σ : St} (hst : StOK c.ntmps g w a σ) {x : Option Operand} {n : Option Int} (h : evI σ x = some n) : (x.map a.eval = none ∧ n = none) ∨ ∃ k i, x.map a.eval = some (.int k i) ∧ n = some i := by
  cases x with
  | none => simp only [evI, Option.some.injEq] at h; exact .inl ⟨rfl, h.symm⟩
  | some x =>
    simp only [evI] at h
    split at h
    · rename_i k i hx
      simp only [Option.some.injEq] at h
      exact .inr ⟨k, i, by simp [(VOK_int (ev_ok hst hx).1).1], h.symm⟩
    · simp at h

theorem op_slice (htt : TtOK P c.tt) {t : TypeId} {x : Operand} {lo hi : Option Operand} (ho : o.op = .slice t x lo hi none) (hst : StOK c.ntmps g w a σ) (h : opK0 c σ base o k = some r) : Yield P o a w g σ c k r := by
  simp only [opK0, ho] at h
  split at h
  · rename_i av ow u l hn hx hu hlo hhi
    have hT := htt _ _ hu
    simp only [TyOK] at hT
    obtain ⟨⟨E, hund, hE⟩, _⟩ := hT
    obtain ⟨ex, ef⟩ := ev_ok hst hx
    clear ef
    have hlo' : (lo.map a.eval = none ∧ l.getD 0 = 0) ∨ ∃ k, lo.map a.eval = some (.int k (l.getD 0)) := by
      rcases evI_ok hst hlo with ⟨h1, rfl⟩ | ⟨k, i, h1, rfl⟩
      · exact .inl ⟨h1, rfl⟩
      · exact .inr ⟨k, h1⟩
    have hhi' : ∀ n : Nat, (hi.map a.eval = none ∧ hn.getD (n : Int) = n) ∨ ∃ k, hi.map a.eval = some (.int k (hn.getD (n : Int))) := fun n => by
      rcases evI_ok hst hhi with ⟨h1, rfl⟩ | ⟨k, i, h1, rfl⟩
      · exact .inl ⟨h1, rfl⟩
      · exact .inr ⟨k, h1⟩
    have hsz : ∀ w', (sizeOf E).run P w' = .ok u.size w' := hE.info.sizeOf
    unfold sliceK at h
    split at h
    · -- nil
      have hv := VOK_nil.1 ex
      obtain ⟨hc, h⟩ := chk_some h
      simp only [Bool.and_eq_true, decide_eq_true_eq] at hc
      refine yld (v := .slice none 0 0) (fun w' _ => ?_) (VOK_nil.2 rfl) (fun m _ => by simp [AVal.ids]) h
      have := run_slice (w := w') hund (hsz w') none 0 0 _ _ (l.getD 0) (hn.getD ((0 : Nat) : Int)) (Nat.le_refl _) hlo' (hhi' 0) (by omega) (by simp; omega) (by simp; omega)
      simp only [execOp, ho, hv, Option.map_none]
      rw [hc.1] at this
      simp only [Int.ofNat_zero] at this
      rw [show hn.getD 0 = 0 from hc.2] at this
      simp [this]
    · -- read-only data
      rename_i t' d
      cases hs : t'.sk.same u.sk with
      | false => rw [hs] at h; simp at h
      | true =>
        rw [hs] at h
        have hsk := Sk.same_eq hs
        have hus : u.size = t'.size := by rw [← Ty.sk_size, ← Ty.sk_size, hsk]
        simp only [cond_true] at h
        obtain ⟨hc, h⟩ := chk_some h
        simp only [Bool.and_eq_true, decide_eq_true_eq] at hc
        obtain ⟨⟨c0, c1⟩, c2⟩ := hc
        simp only [VOK] at ex
        obtain ⟨cs, ⟨hro, ad, cap, rfl, h1, h2, h3⟩, hv⟩ := ex
        have hv' : a.eval x = .slice ad (List.length d) cap := hv
        have hlen := sub_length d (l.getD 0) (hn.getD (List.length d : Int)) c0 c1 c2
        refine yld (v := .slice (if cap - (l.getD 0).toNat = 0 then ad else ad.map (·.add ((l.getD 0).toNat * u.size))) (hn.getD (List.length d : Int) - l.getD 0).toNat (cap - (l.getD 0).toNat)) (fun w' _ => ?_) ?_ (fun m _ => by simp [AVal.ids]) h
        · have := run_slice (w := w') hund (hsz w') ad (List.length d) cap _ _ (l.getD 0) (hn.getD (List.length d : Int)) h1 hlo' (hhi' _) c0 c1 c2
          simp only [execOp, ho, hv', Option.map_none]
          simp [this]
        · have hln : (sub d (l.getD 0) (hn.getD (List.length d : Int))).length = (hn.getD (List.length d : Int) - l.getD 0).toNat := by rw [hlen]; omega
          refine ⟨_, ⟨hro, _, cap - (l.getD 0).toNat, rfl, by rw [hln]; omega, by omega, fun hne => ?_⟩, by rw [hln]; rfl⟩
          have hpos : 0 < (hn.getD (List.length d : Int) - l.getD 0).toNat := by rw [← hln]; exact List.length_pos_iff.2 hne
          have hdn : d ≠ [] := by intro he; subst he; simp at c2 hpos; omega
          obtain ⟨b, off, cc, e, fz, rfl, htag, hcell, hsz', hel⟩ := h3 hdn
          refine ⟨b, off + (l.getD 0).toNat * t'.size, cc, e, fz, ?_, htag, hcell, ?_, fun i hi => ?_⟩
          · rw [if_neg (by omega)]
            simp only [Option.map_some, Addr.add_lit, hus]
          · rw [hln]
            have : (hn.getD (List.length d : Int) - l.getD 0).toNat + (l.getD 0).toNat ≤ List.length d := by omega
            have := Nat.mul_le_mul_right t'.size this
            rw [Nat.add_mul] at this
            omega
          · have hi3 : (l.getD 0).toNat + i < List.length d := by rw [hln] at hi; omega
            have hg := sub_get d (l.getD 0) (hn.getD (List.length d : Int)) i hi hi3
            rw [hg]
            have e1 : off + (l.getD 0).toNat * t'.size + i * t'.size = off + ((l.getD 0).toNat + i) * t'.size := by rw [Nat.add_mul]; omega
            rw [e1]
            exact hel _ hi3
    · -- an owned row
      rename_i id ep
      obtain ⟨t', d, hobj, _, hro, h⟩ := fetch_ok hst.heap h
      cases hs : t'.sk.same u.sk with
      | false => rw [hs] at h; simp at h
      | true =>
        rw [hs] at h
        have hsk := Sk.same_eq hs
        have hus : u.size = t'.size := by rw [← Ty.sk_size, ← Ty.sk_size, hsk]
        simp only [cond_true] at h
        obtain ⟨hc, h⟩ := chk_some h
        simp only [Bool.and_eq_true, decide_eq_true_eq] at hc
        obtain ⟨⟨c0, c1⟩, c2⟩ := hc
        simp only [VOK] at ex
        obtain ⟨cs, ⟨v, rfl, hone, hv⟩, hv'⟩ := ex
        have e1 := (hv _ _ _ hobj).2 rfl
        obtain ⟨_, ad, cap, _, hsv, h1, h2, _⟩ := hst.heap.objs _ _ hobj
        have hvx : a.eval x = .slice ad (List.length d) cap := by rw [hv']; show v = _; rw [e1, hsv]
        refine yld (v := subSlice (g.sv id []) t'.size (l.getD 0) (hn.getD (List.length d : Int))) (fun w' _ => ?_) ?_ (fun m hm => ?_) h
        · have := run_slice (w := w') hund (hsz w') ad (List.length d) cap _ _ (l.getD 0) (hn.getD (List.length d : Int)) h1 hlo' (hhi' _) c0 c1 c2
          simp only [execOp, ho, hvx, Option.map_none, hsv, subSlice]
          rw [hus] at this
          simp [this]
        · simp only [VOK]
          refine ⟨[subSlice (g.sv id []) t'.size (l.getD 0) (hn.getD (List.length d : Int))], ⟨_, rfl, by rw [hsv]; rfl, fun t2 l2 e2 ho2 => ?_⟩, rfl⟩
          rw [hobj] at ho2
          simp only [Option.some.injEq, Obj.row.injEq] at ho2
          obtain ⟨rfl, hl2, rfl⟩ := ho2
          have hl2 := eq_of_heq hl2
          subst hl2
          exact ⟨Nat.le_refl _, fun _ => ⟨rfl, c0, c1, c2, rfl⟩⟩
        · simp only [AVal.ids, List.mem_singleton]
          intro he; subst he
          have := hm.objs; rw [hobj] at this; simp at this
    · simp at h
  · simp at h


theorem run_slice3 {t E : TypeId} {s : Nat} (hund : P.underlying t = some (.slice E)) (hs : (sizeOf E).run P w = .ok s w) (ad : Option Addr) (len cap : Nat) (kh km : IntKind) (h m : Int) (h0 : 0 ≤ h) (h1 : h ≤ m) (h2 : m ≤ (cap : Int)) :
    (Instr.sliceAt t (.slice ad len cap) none (some (.int kh h)) (some (.int km m))).run P w = .ok (.slice (if m.toNat = 0 then ad else ad.map (·.add (0 * s))) h.toNat m.toNat) w := by
  have hb : ∀ code, (Instr.sliceBound (.int km m) cap code).run P w = .ok m.toNat w := fun code => run_sliceBound w km m cap code (by omega) (by omega)
  have hb2 : ∀ code, (Instr.sliceBound (.int kh h) m.toNat code).run P w = .ok h.toNat w := fun code => run_sliceBound w kh h m.toNat code h0 (by omega)
  simp [Instr.sliceAt, Instr.slice, Instr.sliceBounds, run_underlying hund, hs, hb, hb2]

/-- A part of a row, from its start on, whose room ends where is said. -/
theorem op_slice3 (htt : TtOK P c.tt) {t : TypeId} {x : Operand} {lo hi : Option Operand} {mx : Operand} (ho : o.op = .slice t x lo hi (some mx)) (hst : StOK c.ntmps g w a σ) (h : opK0 c σ base o k = some r)
    (hK : Post c.ntmps k r g w σ base mo K) : o.wp P a w K Q := by
  cases lo with
  | some lo => simp [opK0, ho] at h
  | none =>
  cases hi with
  | none => simp [opK0, ho] at h
  | some hi =>
  simp only [opK0, ho] at h
  split at h
  · rename_i id ep kh hn km m ow u hx hhi hmx hu
    split at h
    · rename_i t' l e hobj
      cases hb : (Nat.beq e ep && t'.sk.same u.sk) with
      | false => rw [hb] at h; simp at h
      | true =>
        rw [hb] at h
        simp only [cond_true] at h
        simp only [Bool.and_eq_true] at hb
        have hee := Nat.eq_of_beq_eq_true hb.1
        subst hee
        have hsk := Sk.same_eq hb.2
        have hus : u.size = t'.size := by rw [← Ty.sk_size, ← Ty.sk_size, hsk]
        obtain ⟨hc, h⟩ := chk_some h
        simp only [Bool.and_eq_true, decide_eq_true_eq] at hc
        obtain ⟨⟨c0, c1⟩, c2⟩ := hc
        have c0 : @LE.le Int Int.instLEInt 0 hn := c0
        have c1 : @LE.le Int Int.instLEInt hn m := c1
        have c2 : @LE.le Int Int.instLEInt m (l.length : Int) := c2
        have hT := htt _ _ hu
        simp only [TyOK] at hT
        obtain ⟨⟨E, hund, hE⟩, _⟩ := hT
        obtain ⟨ex, ef⟩ := ev_ok hst hx
        obtain ⟨vh, _⟩ := VOK_int (ev_ok hst hhi).1
        obtain ⟨vm, _⟩ := VOK_int (ev_ok hst hmx).1
        simp only [VOK] at ex
        obtain ⟨cs, ⟨v, rfl, hone, hv⟩, hv'⟩ := ex
        have e1 := (hv _ _ _ hobj).2 rfl
        obtain ⟨hro, ad, cap, _, hsv, hlc, hcm, hrow⟩ := hst.heap.objs _ _ hobj
        have hv2 : a.eval x = .slice ad l.length cap := by rw [← hsv, ← e1]; exact hv'
        have hlen : (sub l 0 hn).length = hn.toNat := by rw [sub_length l 0 hn (Int.le_refl 0) c0 (by omega)]; simp
        have hrun := run_slice3 (P := P) (w := w) hund (hE.info.sizeOf w) ad l.length cap kh km hn m c0 c1 (by omega)
        have hok : ObjOK w (svG g id (.slice (if m.toNat = 0 then ad else ad.map (·.add (0 * u.size))) hn.toNat m.toNat)) (σ.setObj id (.row t' (sub l 0 hn) (e + 1))).objs id (.row t' (sub l 0 hn) (e + 1)) := by
          refine ⟨hro, (if m.toNat = 0 then ad else ad.map (·.add (0 * u.size))), m.toNat, by rw [hlen]; simp [svG], by rw [hlen]; simp [svG], by rw [hlen]; omega, by omega, ?_⟩
          rcases hrow with ⟨rfl, hl, rfl⟩ | ⟨b, off, c', ee, rfl, htag, hcell, hsz, hel⟩
          · left
            rw [hl] at c2
            simp only [List.length_nil] at c2
            exact ⟨by simp, List.eq_nil_of_length_eq_zero (by rw [hlen]; omega), by omega⟩
          · right
            have hmul : m.toNat * t'.size ≤ cap * t'.size := Nat.mul_le_mul_right _ (by omega)
            refine ⟨b, off, c', ee, by split <;> simp [Addr.add], htag, hcell, by omega, fun i hi => ?_⟩
            have hi' : i < (sub l 0 hn).length := hi
            have hi3 : (0 : Int).toNat + i < l.length := by simp; omega
            have := Rep.anyOwn (o' := none) hro (hel ((0 : Int).toNat + i) hi3)
            have hg := sub_get l 0 hn i hi' hi3
            refine Rep.anyOwn hro (o := none) ?_
            have h2 : (sub l 0 hn).get ⟨i, hi'⟩ = l.get ⟨(0 : Int).toNat + i, hi3⟩ := hg
            show Rep w _ none t' ((sub l 0 hn).get ⟨i, hi'⟩) _
            rw [h2]
            have e0 : (0 : Int).toNat + i = i := by simp
            have := Rep.kept (show RoKept w g w (svG g id (.slice (if m.toNat = 0 then some ⟨b, off, none⟩ else (some ⟨b, off, none⟩ : Option Addr).map (·.add (0 * u.size))) hn.toNat m.toNat)) from ⟨fun b hb => ⟨hb, rfl⟩⟩) this
            simpa [e0] using this
        obtain ⟨h1, h2, h3⟩ := svG_turn hst hobj (Nat.lt_succ_self e) hok
        refine wp_done (v := .slice (if m.toNat = 0 then ad else ad.map (·.add (0 * u.size))) hn.toNat m.toNat) (g := g) (base := base) ?_ h1 h2 (fun n _ hfn => ⟨h3 n hfn, by simp only [AVal.ids, List.mem_singleton]; intro he; subst he; have := hfn.objs; rw [hobj] at this; simp at this⟩) rfl ?_ h (fun _ => Agree.refl w) hK
        · simp only [execOp, ho, hv2, vh, vm, Option.map_some, Option.map_none]
          simp [hrun]
        · exact VOK_ref (u := t') (l := sub l 0 hn) (by simp [St.setObj, upd_same]) (by simp [svG]) rfl
    · simp at h
  · simp at h

end
end Go.Kz
