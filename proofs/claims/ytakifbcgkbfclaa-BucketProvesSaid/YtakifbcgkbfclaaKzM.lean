/-
  Lengths, addresses, loads.
-/
import Derived.Test.YtakifbcgkbfclaaKzL
import Derived.MapKept
set_option linter.unusedVariables false
set_option linter.unusedSimpArgs false
namespace Go.Kz
variable {R : Type}

section
variable {P : Program} {o : Oper} {a : Act} {w : World} {K : Act → World → Prop} {Q : Exit → Act → World → Prop} {c : Ctx} {σ : St} {g : Ghost} {k : St → Option R} {r : R} {base : Nat}

theorem chk_some {b : Bool} {x : Option R} (h : chk b x = some r) : b = true ∧ x = some r := by
  cases b <;> simp_all [chk]

/-- What a table of map types says of the program's types. -/
def MtOK (P : Program) (mt : Nat → Option (Ty × Ty)) : Prop := ∀ t kt vt, mt t = some (kt, vt) → ∃ K E, P.underlying t = some (.map K E) ∧ TyOK P kt K ∧ TyOK P vt E ∧ ∃ i z, P.info? E = some i ∧ i.zero = some z ∧ z = mkV vt.sk.isAgg z.cells.toList

theorem mapK_some {σ : St} {mt : Option (Ty × Ty)} {a : AVal} {f : (id : Nat) → (kt vt : Ty) → List (kt.den × vt.den) → Option R} {r : R} (h : mapK σ mt a f = some r) :
    ∃ id kt vt m, a = .mref id ∧ mt = some (kt, vt) ∧ σ.objs id = some (.map kt vt m) ∧ keyTy kt = true ∧ vt.noSl = true ∧ f id kt vt m = some r := by
  unfold mapK at h
  split at h
  · rename_i id kt' vt'
    split at h
    · rename_i kt vt m hobj
      cases hc : ((Ty.same kt kt').isSome && (Ty.same vt vt').isSome && keyTy kt && vt.noSl) with
      | false => rw [hc] at h; simp at h
      | true =>
        rw [hc] at h
        simp only [Bool.and_eq_true, Option.isSome_iff_exists] at hc
        obtain ⟨⟨⟨⟨e1, _⟩, ⟨e2, _⟩⟩, hk⟩, hv⟩ := hc
        obtain rfl := e1.down
        obtain rfl := e2.down
        exact ⟨id, kt, vt, m, rfl, rfl, hobj, hk, hv, h⟩
    · simp at h
  · simp at h
theorem MapRep.length {w : World} {g : Ghost} {kt vt : Ty} : {es : List MapEntry} → {m : List (kt.den × vt.den)} → MapRep w g kt vt es m → es.length = m.length
  | [], [], _ => rfl
  | _ :: _, (_, _) :: _, ⟨_, _, h⟩ => by simp [h.length]
  | [], _ :: _, h => h.elim
  | _ :: _, [], h => h.elim
theorem VOK_mref {w : World} {g : Ghost} {objs : Objs} {id : Nat} {v : Value} {kt vt : Ty} {m : List (kt.den × vt.den)} (h : VOK w g objs (.mref id) v) (ho : objs id = some (.map kt vt m)) : v = .map (some (g.blk id)) := by
  simp only [VOK] at h
  obtain ⟨cs, ⟨x, rfl, _, hx⟩, hv⟩ := h
  rw [hv]; exact hx _ _ _ ho

theorem op_len {args : Array Operand} {ts : Array TypeId} (ho : o.op = .call { callee := .builtin .len, args := args, argTypes := ts }) (htt : TtOK P c.tt) (hmt : MtOK P c.mt)
    (hst : StOK c.ntmps g w a σ) (h : opK0 c σ base o k = some r) : Yield P o a w g σ c k r := by
  simp only [opK0, ho] at h
  split at h
  · rename_i x t hargs htys
    split at h
    · rename_i av ot u hx htt'
      have hT := htt _ _ htt'
      simp only [TyOK] at hT
      obtain ⟨⟨E, hund, _⟩, _⟩ := hT
      obtain ⟨ex, ef⟩ := ev_ok hst hx
      clear ef
      -- the value is a slice whose length is what the interpreter says
      have key : ∃ n : Nat, (∃ b cp, a.eval x = .slice b n cp) ∧ n ≤ maxLen ∧ (σ.putK c o.dst (.data (.int .i64) (n : Int)) k = some r) := by
        unfold lenK at h
        split at h
        · have := VOK_nil.1 ex
          exact ⟨0, ⟨none, 0, this⟩, Nat.zero_le _, h⟩
        · rename_i ow t' l
          simp only [VOK] at ex
          obtain ⟨cs, ⟨hro, hrep⟩, hv⟩ := ex
          cases ow with
          | true => simp [Ty.isRo] at hro
          | false =>
            obtain ⟨b, cp, rfl, h1, h2, _⟩ := hrep
            exact ⟨_, ⟨b, cp, hv⟩, by omega, h⟩
        · obtain ⟨t', l, hobj, rfl, _, h⟩ := fetch_ok hst.heap h
          simp only [VOK] at ex
          obtain ⟨cs, ⟨v, rfl, hone, hv⟩, hv'⟩ := ex
          have e1 := (hv _ _ _ hobj).2 rfl
          obtain ⟨b, cp, _, hsv, h1, h2, _⟩ := (hst.heap.objs _ _ hobj).2
          refine ⟨l.length, ⟨b, cp, ?_⟩, by omega, h⟩
          rw [← hsv, ← e1]; exact hv'
        · rename_i id p ep av bv
          obtain ⟨t', l, hobj, rfl, _, h⟩ := fetch_ok hst.heap h
          simp only [VOK] at ex
          obtain ⟨cs, ⟨v, rfl, hone, hv⟩, hv'⟩ := ex
          obtain ⟨_, h0, hab, hbl, e1⟩ := (hv _ _ _ hobj).2 rfl
          obtain ⟨b, cp, _, hsv, h1, h2, _⟩ := (hst.heap.objs _ _ hobj).2
          refine ⟨(bv - av).toNat, ⟨if cp - av.toNat = 0 then b else b.map (·.add (av.toNat * t'.size)), cp - av.toNat, ?_⟩, by omega, ?_⟩
          · rw [hv']; show v = _; rw [e1, hsv]; rfl
          · rw [Int.toNat_of_nonneg (by omega)]; exact h
        · obtain ⟨t', l0, e, i, v', l, hobj, hep, hrep, h, _, _⟩ := nrow_ok hst.heap h
          simp only [VOK] at ex
          obtain ⟨cs, ⟨v, rfl, hone, hv⟩, hv'⟩ := ex
          have e1 := ((hv _ _ _ _ _ hobj).2 hep).1 rfl
          obtain ⟨b, cp, _, hsv, h1, h2, _⟩ := hrep
          refine ⟨l.length, ⟨b, cp, ?_⟩, by omega, h⟩
          rw [← hsv, ← e1]; exact hv'
        · simp at h
      obtain ⟨n, ⟨b, cp, hv⟩, hn, h⟩ := key
      refine yld (v := .int .i64 n) ?_ (VOK_int_mk ?_) (fun m _ => by simp [AVal.ids]) h
      · intro w' _
        have e1 : args = #[x] := by apply Array.toList_inj.1; simpa using hargs
        have e2 : ts = #[t] := by apply Array.toList_inj.1; simpa using htys
        subst e1; subst e2
        simp [execOp, ho, resolve, invoke, builtin, Builtin.len_, run_underlying hund, hv, goInt]
      · simp only [maxLen] at hn
        simp only [IntKind.min, IntKind.max, IntKind.bits, IntKind.signed]
        simp
        omega
    · rename_i av hx htt'
      obtain ⟨id, kt, vt, m, rfl, hmt', hobj, _, _, h⟩ := mapK_some h
      obtain ⟨hlen, h⟩ := chk_some h
      obtain ⟨K, E, hund, _, _⟩ := hmt _ _ _ hmt'
      obtain ⟨ex, _⟩ := ev_ok hst hx
      obtain ⟨es, ck, hblk, htag, _, _, hrep⟩ := hst.heap.objs _ _ hobj
      have hv := VOK_mref ex hobj
      have hl := hrep.length
      have hlt : g.blk id < w.heap.size := hst.heap.tags _ (by rw [htag]; simp)
      refine yld (v := .int .i64 m.length) ?_ (VOK_int_mk ?_) (fun m _ => by simp [AVal.ids]) h
      · intro w' hag
        replace hag := hag (by simp [isP, ho])
        have e1 : args = #[x] := by apply Array.toList_inj.1; simpa using hargs
        have e2 : ts = #[t] := by apply Array.toList_inj.1; simpa using htys
        subst e1; subst e2
        have hb' : w'.heap[g.blk id]? = some (.map es ck) := by rw [hag _ hlt]; exact hblk
        have hsz : es.size = m.length := by rw [← hl, Array.length_toList]
        have hg : (getObj (g.blk id)).run P w' = .ok (.map es ck) w' := by simp [getObj, Sem.run, hb']
        simp [execOp, ho, resolve, invoke, builtin, Builtin.len_, run_underlying hund, hv, goInt, hg, hsz]
      · have : m.length ≤ room := by simpa using hlen
        simp only [room] at this
        simp only [IntKind.min, IntKind.max, IntKind.bits, IntKind.signed]
        simp
        omega
    · simp at h
  · simp at h

theorem InfoOK.sizeOf {T : TypeId} {t : Ty} (h : InfoOK P T t) (w : World) : (sizeOf T).run P w = .ok t.size w := by
  obtain ⟨i, z, hi, hs, _⟩ := h.info
  simp [Go.sizeOf, typeInfo, hi, hs]

theorem run_indexAt_slice {T E : TypeId} {t : Ty} (hT : P.underlying T = some (.slice E)) (hE : InfoOK P E t) (b off len cap : Nat) (ki : IntKind) (i : Int) (h0 : 0 ≤ i) (h1 : i < len) (w : World) :
    (Instr.indexAt T (.slice (some ⟨b, off, none⟩) len cap) (.int ki i)).run P w = .ok (.pointer (some ⟨b, off + i.toNat * t.size, none⟩)) w := by
  have hs := hE.sizeOf w
  simp [Instr.indexAt, asIntOf, run_underlying hT, h0, h1, hs, Addr.add_lit]

theorem run_indexAt_arr {T E : TypeId} {t : Ty} {n : Nat} (hT : P.underlying T = some (.array n E)) (hE : InfoOK P E t) (b off : Nat) (ki : IntKind) (i : Int) (h0 : 0 ≤ i) (h1 : i < n) (w : World) :
    (Instr.indexAt T (.pointer (some ⟨b, off, none⟩)) (.int ki i)).run P w = .ok (.pointer (some ⟨b, off + i.toNat * t.size, none⟩)) w := by
  have hs := hE.sizeOf w
  simp [Instr.indexAt, Instr.sureAddr, asIntOf, run_underlying hT, h0, h1, hs, Addr.add_lit]

theorem inb_iff {α : Type} {l : List α} {i : Int} (h : inb l i = true) : 0 ≤ i ∧ i < (l.length : Int) := by
  simpa [inb] using h
theorem op_index_nest {t : TypeId} {x i : Operand} {id : Nat} {p : Path} {ep : Nat} {ow' : Bool} {u' : Ty} {j : Int} {ki : IntKind} (hT : TyOK P (.sl ow' u') t) (ho : o.op = .indexAddr t x i) (hst : StOK c.ntmps g w a σ)
    (hx : ev σ x = some (.nv false id p ep)) (vi : a.eval i = .int ki j) (ef : ∀ m, Fresh g σ m → m ∉ (AVal.nv false id p ep).ids) (ex : VOK w g σ.objs (.nv false id p ep) (a.eval x))
    (h : (nrowK σ id p ep fun t l => cond (t.sk.same u'.sk) (chk (inb l j) (σ.putK c o.dst (.nv true id (p ++ [.idx j]) (innerOf σ id)) k)) none) = some r) : Yield P o a w g σ c k r := by
  simp only [TyOK] at hT
  obtain ⟨⟨E, hund, hE⟩, _⟩ := hT
  obtain ⟨t0, l0, e0, i0, t', l, hobj, hep, hrep, h, hq, xx, hpl⟩ := nrow_ok hst.heap h
  cases hs : t'.sk.same u'.sk with
  | false => rw [hs] at h; simp at h
  | true =>
    rw [hs] at h
    have hsk := Sk.same_eq hs
    have hsz : u'.size = t'.size := by rw [← Ty.sk_size, ← Ty.sk_size, hsk]
    simp only [cond_true] at h
    obtain ⟨hin, h⟩ := chk_some h
    obtain ⟨h0, hlt⟩ := inb_iff hin
    simp only [VOK] at ex
    obtain ⟨cs, ⟨v, rfl, hone, hv⟩, hv'⟩ := ex
    have e1 := ((hv _ _ _ _ _ hobj).2 hep).1 rfl
    obtain ⟨ad, cp, _, hsv, h1, h2, h3⟩ := hrep
    rcases h3 with ⟨_, hl, _⟩ | ⟨bk, off, cc, e, rfl, htag, hcell, hsz', hel⟩
    · rw [hl] at hlt; simp at hlt; omega
    · have hv2 : a.eval x = .slice (some ⟨bk, off, none⟩) l.length cp := by rw [← hsv, ← e1]; exact hv'
      refine yld (v := .pointer (some ⟨bk, off + j.toNat * t'.size, none⟩)) ?_ ?_ (fun m hm => by have := ef m hm; simpa [AVal.ids] using this) h
      · intro w' _; simp [execOp, ho, hv2, vi, run_indexAt_slice hund hE.info bk off _ cp ki j h0 hlt w', hsz]
      · simp only [VOK]
        refine ⟨_, ⟨_, rfl, rfl, fun t1 l1 e1 i1 h1 hobj' => ?_⟩, rfl⟩
        rw [hobj] at hobj'
        simp only [Option.some.injEq, Obj.nest.injEq] at hobj'
        obtain ⟨rfl, _, rfl, rfl, _⟩ := hobj'
        have hin : innerOf σ id = i0 := by simp [innerOf, hobj]
        rw [hin]
        refine ⟨Nat.le_refl _, fun _ => ⟨fun h => (by simp at h), fun _ => ⟨by simp, bk, off + j.toNat * t'.size, place_elem (x := xx) hq hpl (by simpa using hsv), rfl⟩⟩⟩

theorem op_index (htt : TtOK P c.tt) {t : TypeId} {x i : Operand} (ho : o.op = .indexAddr t x i) (hst : StOK c.ntmps g w a σ) (h : opK0 c σ base o k = some r) : Yield P o a w g σ c k r := by
  simp only [opK0, ho] at h
  split at h
  · rename_i av ki j u hx hi hu
    have hT := htt _ _ hu
    obtain ⟨ex, ef⟩ := ev_ok hst hx
    obtain ⟨vi, _⟩ := VOK_int (ev_ok hst hi).1
    unfold indexK at h
    split at h
    · -- read-only slice
      rename_i ow t' l ow' u'
      simp only [TyOK] at hT
      obtain ⟨⟨E, hund, hE⟩, _⟩ := hT
      cases hs : t'.sk.same u'.sk with
      | false => rw [hs] at h; simp at h
      | true =>
        rw [hs] at h
        have hsk := Sk.same_eq hs
        have hsz : u'.size = t'.size := by rw [← Ty.sk_size, ← Ty.sk_size, hsk]
        simp only [cond_true, Option.bind_eq_some_iff] at h
        obtain ⟨d, hd, h⟩ := h
        obtain ⟨h0, hi', rfl, hlt⟩ := idx_some hd
        simp only [VOK] at ex
        obtain ⟨cs, ⟨hro, hrep⟩, hv⟩ := ex
        cases ow with
        | true => simp [Ty.isRo] at hro
        | false =>
          obtain ⟨b, cp, rfl, h1, h2, h3⟩ := hrep
          obtain ⟨bk, off, cc, e, fz, rfl, htag, hcell, hsz', hel⟩ := h3 (by intro hn; rw [hn] at hi'; simp at hi')
          have hv' : a.eval x = .slice (some ⟨bk, off, none⟩) (List.length l) cp := hv
          refine yld (v := .pointer (some ⟨bk, off + j.toNat * t'.size, none⟩)) ?_ ?_ (fun m _ => by simp [AVal.ids]) h
          · intro w' _; simp [execOp, ho, hv', vi, run_indexAt_slice hund hE.info bk off _ cp ki j h0 hlt w', hsz]
          · simp only [VOK]
            refine ⟨_, ⟨by simpa [Ty.isRo] using hro, bk, off + j.toNat * t'.size, cc, e, fz, rfl, htag, hcell, ?_, hel _ hi'⟩, rfl⟩
            have : (j.toNat + 1) * t'.size ≤ List.length l * t'.size := Nat.mul_le_mul_right _ hi'
            rw [Nat.add_mul] at this; omega
    · -- pointer to a read-only array
      rename_i n t' l m u'
      simp only [TyOK] at hT
      obtain ⟨⟨E, hund, hE⟩, _⟩ := hT
      cases hs : (Nat.beq n m && t'.sk.same u'.sk) with
      | false => rw [hs] at h; simp at h
      | true =>
        rw [hs] at h
        simp only [Bool.and_eq_true] at hs
        have hnm : n = m := Nat.eq_of_beq_eq_true hs.1
        subst hnm
        have hsk := Sk.same_eq hs.2
        have hsz : u'.size = t'.size := by rw [← Ty.sk_size, ← Ty.sk_size, hsk]
        simp only [cond_true, Option.bind_eq_some_iff] at h
        obtain ⟨d, hd, h⟩ := h
        obtain ⟨h0, hi', rfl, hlt⟩ := idx_some hd
        simp only [VOK] at ex
        obtain ⟨cs, ⟨hro, bk, off, cc, e, fz, rfl, htag, hcell, hsz', hl, hcl, hel⟩, hv⟩ := ex
        have hv' : a.eval x = .pointer (some ⟨bk, off, none⟩) := hv
        have hjn : j.toNat < n := by rw [← hl]; exact hi'
        have hmul : (j.toNat + 1) * t'.size ≤ n * t'.size := Nat.mul_le_mul_right _ hjn
        rw [Nat.add_mul] at hmul
        simp only [Ty.size] at hsz'
        refine yld (v := .pointer (some ⟨bk, off + j.toNat * t'.size, none⟩)) ?_ ?_ (fun m _ => by simp [AVal.ids]) h
        · intro w' _; simp [execOp, ho, hv', vi, run_indexAt_arr hund hE.info bk off ki j h0 (by omega) w', hsz]
        · simp only [VOK]
          refine ⟨_, ⟨by simpa [Ty.isRo] using hro, bk, off + j.toNat * t'.size, cc, e, fz, rfl, htag, hcell, by omega, ?_⟩, rfl⟩
          have := hel _ hi'
          simp only [Ty.size] at this
          rw [seg_seg _ _ _ _ _ (by omega)] at this
          exact this
    · -- a row of one's own
      rename_i id p ep ow' u'
      simp only [TyOK] at hT
      obtain ⟨⟨E, hund, hE⟩, _⟩ := hT
      obtain ⟨t', l, hobj, rfl, hro, h⟩ := fetch_ok hst.heap h
      cases hs : t'.sk.same u'.sk with
      | false => rw [hs] at h; simp at h
      | true =>
        rw [hs] at h
        have hsk := Sk.same_eq hs
        have hsz : u'.size = t'.size := by rw [← Ty.sk_size, ← Ty.sk_size, hsk]
        simp only [cond_true] at h
        obtain ⟨hin, h⟩ := chk_some h
        obtain ⟨h0, hlt⟩ := inb_iff hin
        simp only [VOK] at ex
        obtain ⟨cs, ⟨v, rfl, hone, hv⟩, hv'⟩ := ex
        have e1 := (hv _ _ _ hobj).2 rfl
        obtain ⟨ad, cp, _, hsv, h1, h2, h3⟩ := (hst.heap.objs _ _ hobj).2
        rcases h3 with ⟨_, hl, _⟩ | ⟨bk, off, cc, e, rfl, htag, hcell, hsz', hel⟩
        · rw [hl] at hlt; simp at hlt; omega
        · have hv2 : a.eval x = .slice (some ⟨bk, off, none⟩) l.length cp := by rw [← hsv, ← e1]; exact hv'
          refine yld (v := .pointer (some ⟨bk, off + j.toNat * t'.size, none⟩)) ?_ ?_ (fun m hm => by have := ef m hm; simpa [AVal.ids] using this) h
          · intro w' _; simp [execOp, ho, hv2, vi, run_indexAt_slice hund hE.info bk off _ cp ki j h0 hlt w', hsz]
          · simp only [VOK]
            refine ⟨_, ⟨_, rfl, rfl, fun t1 l1 e1 hobj' => ?_⟩, rfl⟩
            rw [hobj] at hobj'
            simp only [Option.some.injEq, Obj.row.injEq] at hobj'
            obtain ⟨rfl, hl1, rfl⟩ := hobj'
            refine ⟨Nat.le_refl _, fun _ => ⟨by simp, bk, off + j.toNat * t'.size, ?_, rfl⟩⟩
            simp [place, hsv]
    · -- a part of a row of one's own
      rename_i id p ep av bv ow' u'
      simp only [TyOK] at hT
      obtain ⟨⟨E, hund, hE⟩, _⟩ := hT
      obtain ⟨t', l, hobj, rfl, hro, h⟩ := fetch_ok hst.heap h
      cases hs : t'.sk.same u'.sk with
      | false => rw [hs] at h; simp at h
      | true =>
        rw [hs] at h
        have hsk := Sk.same_eq hs
        have hsz : u'.size = t'.size := by rw [← Ty.sk_size, ← Ty.sk_size, hsk]
        simp only [cond_true] at h
        obtain ⟨hin, h⟩ := chk_some h
        simp only [Bool.and_eq_true, decide_eq_true_eq] at hin
        obtain ⟨h0, hlt⟩ := hin
        simp only [VOK] at ex
        obtain ⟨cs, ⟨v, rfl, hone, hv⟩, hv'⟩ := ex
        obtain ⟨_, ha0, hab, hbl, e1⟩ := (hv _ _ _ hobj).2 rfl
        obtain ⟨ad, cp, _, hsv, h1, h2, h3⟩ := (hst.heap.objs _ _ hobj).2
        rcases h3 with ⟨_, hl, _⟩ | ⟨bk, off, cc, e, rfl, htag, hcell, hsz', hel⟩
        · rw [hl] at hbl; simp at hbl; omega
        · have hv2 : a.eval x = .slice (some ⟨bk, off + av.toNat * t'.size, none⟩) (bv - av).toNat (cp - av.toNat) := by
            rw [hv']; show v = _
            rw [e1, hsv]
            simp only [subSlice]
            rw [if_neg (by omega)]
            simp [Addr.add_lit]
          refine yld (v := .pointer (some ⟨bk, off + (av + j).toNat * t'.size, none⟩)) ?_ ?_ (fun m hm => by have := ef m hm; simpa [AVal.ids] using this) h
          · intro w' _
            have hj3' : ∀ x : Int, x < bv - av → x < (((bv - av).toNat : Nat) : Int) := fun x hx => by omega
            have hj3 := hj3' j hlt
            have e3 : off + av.toNat * t'.size + j.toNat * t'.size = off + (av + j).toNat * t'.size := by
              have : (av + j).toNat = av.toNat + j.toNat := by omega
              rw [this, Nat.add_mul]; omega
            simp [execOp, ho, hv2, vi, run_indexAt_slice hund hE.info bk _ _ (cp - av.toNat) ki j h0 hj3 w', hsz, e3]
          · simp only [VOK]
            refine ⟨_, ⟨_, rfl, rfl, fun t1 l1 e1 hobj' => ?_⟩, rfl⟩
            rw [hobj] at hobj'
            simp only [Option.some.injEq, Obj.row.injEq] at hobj'
            obtain ⟨rfl, hl1, rfl⟩ := hobj'
            refine ⟨Nat.le_refl _, fun _ => ⟨by simp, bk, off + (av + j).toNat * t'.size, ?_, rfl⟩⟩
            simp [place, hsv]
    · -- a row of rows, or one of its rows: see below
      rename_i id p ep ow' u'
      exact op_index_nest hT ho hst hx vi ef ex h
    · -- an array that is a variable
      rename_i id p m u'
      simp only [TyOK] at hT
      obtain ⟨⟨E, hund, hE⟩, _⟩ := hT
      obtain ⟨xc, x', off, cc, e, hobj, h2, hoff, hcell, htag, hle, hall, hpart, hidsx⟩ := bfetch_ok hst.heap h
      split at h2
      · rename_i n t' l
        cases hs : (Nat.beq n m && t'.sk.same u'.sk) with
        | false => rw [hs] at h2; simp at h2
        | true =>
          rw [hs] at h2
          simp only [Bool.and_eq_true] at hs
          have hnm : n = m := Nat.eq_of_beq_eq_true hs.1
          subst hnm
          have hsk := Sk.same_eq hs.2
          have hsz : u'.size = t'.size := by rw [← Ty.sk_size, ← Ty.sk_size, hsk]
          simp only [cond_true] at h2
          obtain ⟨hin, h2⟩ := chk_some h2
          obtain ⟨h0, hlt⟩ := inb_iff hin
          have hln : List.length l = n := hpart.2.1
          simp only [VOK] at ex
          obtain ⟨cs, ⟨v, rfl, hone, hv⟩, hv'⟩ := ex
          obtain ⟨off', s, hoff', hvv⟩ := hv _ hobj
          rw [hoff] at hoff'
          simp only [Option.some.injEq, Prod.mk.injEq] at hoff'
          obtain ⟨rfl, _⟩ := hoff'
          have hv2 : a.eval x = .pointer (some ⟨g.blk id, off, none⟩) := by rw [hv']; exact hvv
          refine yld (v := .pointer (some ⟨g.blk id, off + j.toNat * t'.size, none⟩)) ?_ ?_ (fun m hm => by have := ef m hm; simpa [AVal.ids] using this) h2
          · intro w' _; simp [execOp, ho, hv2, vi, run_indexAt_arr hund hE.info (g.blk id) off ki j h0 (by omega) w', hsz]
          · simp only [VOK]
            refine ⟨_, ⟨_, rfl, rfl, fun x1 hobj' => ?_⟩, rfl⟩
            rw [hobj] at hobj'
            simp only [Option.some.injEq, Obj.cell.injEq] at hobj'
            subst hobj'
            rw [Sk.off_append _ hoff]
            simp only [AVal.sk, Ty.sk, Sk.off]
            rw [if_pos ⟨h0, by omega⟩]
            exact ⟨_, _, rfl, by simp [Ty.sk_size]⟩
      · simp at h2
    · simp at h
  · simp at h

theorem field_ok : {u : Ty} → {fs : List Field} → {off0 i : Nat} → FsOK P u fs off0 → (tyAt u (fieldPath i)).isSome = true →
    ∃ f s, fs[i]? = some f ∧ tyAt u (fieldPath i) = some s ∧ TyOK P s f.type ∧ ∃ o, u.sk.off (fieldPath i) = some (o, s.sk) ∧ off0 + o = f.offset
  | .pair a b, f :: fs, off0, 0, h, hi => by
    simp only [FsOK] at h
    exact ⟨f, a, rfl, by simp [fieldPath, tyAt], h.2.1, 0, by simp [fieldPath, Ty.sk, Sk.off], by rw [h.1]; omega⟩
  | .pair a b, f :: fs, off0, i + 1, h, hi => by
    simp only [FsOK] at h
    simp only [fieldPath, tyAt] at hi
    obtain ⟨f', s, h1, h2, h3, o, h4, h5⟩ := field_ok h.2.2 hi
    refine ⟨f', s, by simpa using h1, by simpa [fieldPath, tyAt] using h2, h3, a.size + o, ?_, by omega⟩
    simp [fieldPath, Ty.sk, Sk.off, h4, Ty.sk_size]
  | .pair _ _, [], _, _, h, _ => by simp [FsOK] at h
  | .unit, _, _, i, _, hi => by cases i <;> simp [fieldPath, tyAt] at hi
  | .int _, _, _, _, h, _ => by simp [FsOK] at h
  | .bool, _, _, _, h, _ => by simp [FsOK] at h
  | .str, _, _, _, h, _ => by simp [FsOK] at h
  | .arr _ _, _, _, _, h, _ => by simp [FsOK] at h
  | .sl _ _, _, _, _, h, _ => by simp [FsOK] at h
  | .ptr _, _, _, _, h, _ => by simp [FsOK] at h
  | .fn _ _, _, _, _, h, _ => by simp [FsOK] at h

theorem tyAt_pair {u : Ty} {i : Nat} (h : (tyAt u (fieldPath i)).isSome = true) : ∃ a b, u = .pair a b := by
  cases u with
  | pair a b => exact ⟨a, b, rfl⟩
  | _ => cases i <;> simp [fieldPath, tyAt] at h

theorem run_fieldAt {T : TypeId} {u : Ty} {i : Nat} (hT : TyOK P u T) (hi : (tyAt u (fieldPath i)).isSome = true) (b off : Nat) :
    ∃ o s, u.sk.off (fieldPath i) = some (o, s) ∧ ∀ w, (Instr.fieldAt T (.pointer (some ⟨b, off, none⟩)) i).run P w = .ok (.pointer (some ⟨b, off + o, none⟩)) w := by
  obtain ⟨x, y, rfl⟩ := tyAt_pair hi
  simp only [TyOK] at hT
  obtain ⟨⟨fs, hund, hfs⟩, _⟩ := hT
  obtain ⟨f, s, h1, h2, h3, o, h4, h5⟩ := field_ok hfs hi
  refine ⟨o, s.sk, h4, fun w => ?_⟩
  have hf : fs[i]? = some f := by rw [← Array.getElem?_toList]; exact h1
  obtain ⟨inf, z, hi1, hi2, _, _, _, hi3⟩ := h3.info.info
  have hne : ¬ inf.size = 0 := by omega
  have ho : f.offset = o := by omega
  simp [Instr.fieldAt, Instr.sureAddr, run_underlying hund, hf, fieldPlace, Go.sizeOf, typeInfo, hi1, hne, Addr.add_lit, ho]

theorem getK_tyAt : {t : Ty} → {d : t.den} → {p : Path} → {f : (u : Ty) → u.den → Option R} → t.isRo = true → getK t d p f = some r → (tyAt t p).isSome = true
  | t, d, [], f, _, _ => by simp [tyAt]
  | .pair a b, (x, y), .fst :: p, f, ht, h => by simp only [getK] at h; simp only [Ty.isRo, Bool.and_eq_true] at ht; simp only [tyAt]; exact getK_tyAt ht.1 h
  | .pair a b, (x, y), .snd :: p, f, ht, h => by simp only [getK] at h; simp only [Ty.isRo, Bool.and_eq_true] at ht; simp only [tyAt]; exact getK_tyAt ht.2 h
  | .arr n t, l, .idx i :: p, f, ht, h => by
    simp only [getK, Option.bind_eq_some_iff] at h
    obtain ⟨x, _, h⟩ := h
    simp only [tyAt]; exact getK_tyAt (by simpa [Ty.isRo] using ht) h
  | .sl true t, l, .idx i :: p, _, ht, h => by simp [Ty.isRo] at ht
  | .sl false t, l, s :: p, _, _, h => by cases s <;> simp [getK] at h
  | .sl true t, l, .fst :: p, _, _, h => by simp [getK] at h
  | .sl true t, l, .snd :: p, _, _, h => by simp [getK] at h
  | .int _, _, s :: _, _, _, h => by cases s <;> simp [getK] at h
  | .bool, _, s :: _, _, _, h => by cases s <;> simp [getK] at h
  | .str, _, s :: _, _, _, h => by cases s <;> simp [getK] at h
  | .unit, _, s :: _, _, _, h => by cases s <;> simp [getK] at h
  | .ptr _, _, s :: _, _, _, h => by cases s <;> simp [getK] at h
  | .fn _ _, _, s :: _, _, _, h => by cases s <;> simp [getK] at h
  | .pair _ _, _, .idx _ :: _, _, _, h => by simp [getK] at h
  | .arr _ _, _, .fst :: _, _, _, h => by simp [getK] at h
  | .arr _ _, _, .snd :: _, _, _, h => by simp [getK] at h
theorem tyAt_sk : {t u : Ty} → {p : Path} → t.sk = u.sk → (tyAt t p).isSome = true → (tyAt u p).isSome = true
  | _, _, [], _, _ => by simp [tyAt]
  | .pair a b, .pair c d, .fst :: p, hs, h => by simp only [Ty.sk, Sk.pair.injEq] at hs; simp only [tyAt] at h ⊢; exact tyAt_sk hs.1 h
  | .pair a b, .pair c d, .snd :: p, hs, h => by simp only [Ty.sk, Sk.pair.injEq] at hs; simp only [tyAt] at h ⊢; exact tyAt_sk hs.2 h
  | .arr n t, .arr m u, .idx i :: p, hs, h => by simp only [Ty.sk, Sk.arr.injEq] at hs; simp only [tyAt] at h ⊢; exact tyAt_sk hs.2 h
  | .pair a b, u, .fst :: p, hs, h => by cases u <;> simp [Ty.sk] at hs; simp only [tyAt] at h ⊢; exact tyAt_sk hs.1 h
  | .pair a b, u, .snd :: p, hs, h => by cases u <;> simp [Ty.sk] at hs; simp only [tyAt] at h ⊢; exact tyAt_sk hs.2 h
  | .arr n t, u, .idx i :: p, hs, h => by cases u <;> simp [Ty.sk] at hs; simp only [tyAt] at h ⊢; exact tyAt_sk hs.2 h
  | .int _, _, s :: _, _, h => by cases s <;> simp [tyAt] at h
  | .bool, _, s :: _, _, h => by cases s <;> simp [tyAt] at h
  | .str, _, s :: _, _, h => by cases s <;> simp [tyAt] at h
  | .unit, _, s :: _, _, h => by cases s <;> simp [tyAt] at h
  | .ptr _, _, s :: _, _, h => by cases s <;> simp [tyAt] at h
  | .fn _ _, _, s :: _, _, h => by cases s <;> simp [tyAt] at h
  | .sl _ _, _, s :: _, _, h => by cases s <;> simp [tyAt] at h
  | .pair _ _, _, .idx _ :: _, _, h => by simp [tyAt] at h
  | .arr _ _, _, .fst :: _, _, h => by simp [tyAt] at h
  | .arr _ _, _, .snd :: _, _, h => by simp [tyAt] at h

theorem efetch_obj {id : Nat} {p : Path} {ep : Nat} {f : (u : Ty) → u.den → Option R} (h : efetchK σ id p ep f = some r) : ∃ t l, σ.objs id = some (.row t l ep) := by
  unfold efetchK at h
  split at h
  · rename_i t l e ho
    cases hb : Nat.beq e ep with
    | false => rw [hb] at h; simp at h
    | true => exact ⟨t, l, by rw [ho, Nat.eq_of_beq_eq_true hb]⟩
  · simp at h

/-- A place inside a place. -/
theorem place_append {id : Nat} : {t : Ty} → {pre : Path} → {b off : Nat} → {p q : Path} → {b' off' o : Nat} → {s s' : Sk} →
    place g id t pre b off p = some (b', off') → tyS t p = some s → s.off q = some (o, s') → place g id t pre b off (p ++ q) = some (b', off' + o)
  | t, pre, b, off, [], q, b', off', o, s, s', h, hs, hq => by
    simp only [place, Option.some.injEq, Prod.mk.injEq] at h
    obtain ⟨rfl, rfl⟩ := h
    simp only [tyS, Option.some.injEq] at hs
    subst hs
    exact place_flat hq
  | .pair a c, pre, b, off, .fst :: p, q, b', off', o, s, s', h, hs, hq => by
    simp only [place, List.cons_append, tyS] at h hs ⊢; exact place_append h hs hq
  | .pair a c, pre, b, off, .snd :: p, q, b', off', o, s, s', h, hs, hq => by
    simp only [place, List.cons_append, tyS] at h hs ⊢; exact place_append h hs hq
  | .arr n t, pre, b, off, .idx i :: p, q, b', off', o, s, s', h, hs, hq => by
    simp only [place, List.cons_append, tyS] at h hs ⊢; exact place_append h hs hq
  | .sl true t, pre, b, off, .idx i :: p, q, b', off', o, s, s', h, hs, hq => by
    simp only [place, List.cons_append, tyS] at h hs ⊢
    split at h
    · exact place_append h hs hq
    · simp at h
  | .sl false t, _, _, _, s :: _, _, _, _, _, _, _, h, _, _ => by cases s <;> simp [place] at h
  | .sl true t, _, _, _, .fst :: _, _, _, _, _, _, _, h, _, _ => by simp [place] at h
  | .sl true t, _, _, _, .snd :: _, _, _, _, _, _, _, h, _, _ => by simp [place] at h
  | .int _, _, _, _, s :: _, _, _, _, _, _, _, h, _, _ => by cases s <;> simp [place] at h
  | .bool, _, _, _, s :: _, _, _, _, _, _, _, h, _, _ => by cases s <;> simp [place] at h
  | .str, _, _, _, s :: _, _, _, _, _, _, _, h, _, _ => by cases s <;> simp [place] at h
  | .unit, _, _, _, s :: _, _, _, _, _, _, _, h, _, _ => by cases s <;> simp [place] at h
  | .ptr _, _, _, _, s :: _, _, _, _, _, _, _, h, _, _ => by cases s <;> simp [place] at h
  | .fn _ _, _, _, _, s :: _, _, _, _, _, _, _, h, _, _ => by cases s <;> simp [place] at h
  | .pair _ _, _, _, _, .idx _ :: _, _, _, _, _, _, _, h, _, _ => by simp [place] at h
  | .arr _ _, _, _, _, .fst :: _, _, _, _, _, _, _, h, _, _ => by simp [place] at h
  | .arr _ _, _, _, _, .snd :: _, _, _, _, _, _, _, h, _, _ => by simp [place] at h

end
end Go.Kz
