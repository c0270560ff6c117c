/-
  Values read: as data, in rows, in variables.
-/
import Derived.Test.YtakifbcgkbfclaaKzKA
set_option linter.unusedVariables false
set_option linter.unusedSimpArgs false
namespace Go.Kz
variable {R : Type}

/-- The same ghost, everything that is known read-only. -/
def roG (g : Ghost) : Ghost := { g with tag := fun b => match g.tag b with
  | .alien => .alien
  | _ => .ro }
theorem roG_ro (w : World) (g : Ghost) : RoKept w g w (roG g) := ⟨fun b hb => ⟨by simp [roG, hb], rfl⟩⟩
theorem roG_frozen (w : World) (g : Ghost) (id : Nat) (p : Path) : Frozen w g w (roG g) id p := ⟨fun q b hb => ⟨by simp [roG, hb], rfl⟩⟩
theorem roG_row {g : Ghost} {b id : Nat} {p : Path} (h : g.tag b = .row id p) : (roG g).tag b = .ro := by simp [roG, h]
theorem roG_box {g : Ghost} {b id : Nat} (h : g.tag b = .box id) : (roG g).tag b = .ro := by simp [roG, h]

theorem Ty.isRo_ro : (t : Ty) → t.ro.isRo = true
  | .int _ => rfl
  | .bool => rfl
  | .str => rfl
  | .unit => rfl
  | .pair a b => by simp [Ty.ro, Ty.isRo, Ty.isRo_ro a, Ty.isRo_ro b]
  | .arr _ t => by simp [Ty.ro, Ty.isRo, Ty.isRo_ro t]
  | .sl _ t => by simp [Ty.ro, Ty.isRo, Ty.isRo_ro t]
  | .ptr t => by simp [Ty.ro, Ty.isRo, Ty.isRo_ro t]
  | .fn _ c => by simp [Ty.ro, Ty.isRo, Ty.isRo_ro c]

theorem getK_isRo : {t : Ty} → {d : t.den} → {p : Path} → {k : (u : Ty) → u.den → Option R} → {r : R} → t.isRo = true → getK t d p k = some r →
    ∃ u e, k u e = some r ∧ u.isRo = true
  | t, d, [], k, r, ht, h => ⟨t, d, by cases t <;> simpa [getK] using h, ht⟩
  | .pair a b, (x, y), .fst :: p, k, r, ht, h => by
    simp only [getK] at h; simp only [Ty.isRo, Bool.and_eq_true] at ht
    exact getK_isRo ht.1 h
  | .pair a b, (x, y), .snd :: p, k, r, ht, h => by
    simp only [getK] at h; simp only [Ty.isRo, Bool.and_eq_true] at ht
    exact getK_isRo ht.2 h
  | .arr n t, l, .idx i :: p, k, r, ht, h => by
    simp only [getK, Option.bind_eq_some_iff] at h
    obtain ⟨x, _, h⟩ := h
    exact getK_isRo (by simpa [Ty.isRo] using ht) h
  | .sl true t, l, .idx i :: p, k, r, ht, h => by simp [Ty.isRo] at ht
  | .sl false t, l, s :: p, k, r, ht, h => by cases s <;> simp [getK] at h
  | .sl true t, l, .fst :: p, k, r, ht, h => by simp [getK] at h
  | .sl true t, l, .snd :: p, k, r, ht, h => by simp [getK] at h
  | .int _, _, s :: _, _, _, _, h => by cases s <;> simp [getK] at h
  | .bool, _, s :: _, _, _, _, h => by cases s <;> simp [getK] at h
  | .str, _, s :: _, _, _, _, h => by cases s <;> simp [getK] at h
  | .unit, _, s :: _, _, _, _, h => by cases s <;> simp [getK] at h
  | .ptr _, _, s :: _, _, _, _, h => by cases s <;> simp [getK] at h
  | .fn _ _, _, s :: _, _, _, _, h => by cases s <;> simp [getK] at h
  | .pair _ _, _, .idx _ :: _, _, _, _, h => by simp [getK] at h
  | .arr _ _, _, .fst :: _, _, _, _, h => by simp [getK] at h
  | .arr _ _, _, .snd :: _, _, _, _, h => by simp [getK] at h

theorem place_flat {g : Ghost} {id : Nat} : {t : Ty} → {pre : Path} → {b off : Nat} → {q : Path} → {o : Nat} → {s : Sk} → t.sk.off q = some (o, s) → place g id t pre b off q = some (b, off + o)
  | t, pre, b, off, [], o, s, h => by
    simp only [Sk.off, Option.some.injEq, Prod.mk.injEq] at h
    obtain ⟨rfl, _⟩ := h
    simp [place]
  | .pair a c, pre, b, off, .fst :: q, o, s, h => by
    simp only [Ty.sk, Sk.off] at h
    simp only [place]
    exact place_flat h
  | .pair a c, pre, b, off, .snd :: q, o, s, h => by
    simp only [Ty.sk, Sk.off, Option.map_eq_some_iff, Prod.mk.injEq] at h
    obtain ⟨⟨o', s'⟩, h, rfl, rfl⟩ := h
    simp only [place, place_flat h, Ty.sk_size, Nat.add_assoc]
  | .arr n t, pre, b, off, .idx i :: q, o, s, h => by
    simp only [Ty.sk, Sk.off] at h
    split at h
    · simp only [Option.map_eq_some_iff, Prod.mk.injEq] at h
      obtain ⟨⟨o', s'⟩, h, rfl, rfl⟩ := h
      simp only [place, place_flat h, Ty.sk_size, Nat.add_assoc]
    · simp at h
  | .int _, _, _, _, s :: _, _, _, h => by cases s <;> simp [Ty.sk, Sk.off] at h
  | .bool, _, _, _, s :: _, _, _, h => by cases s <;> simp [Ty.sk, Sk.off] at h
  | .str, _, _, _, s :: _, _, _, h => by cases s <;> simp [Ty.sk, Sk.off] at h
  | .unit, _, _, _, s :: _, _, _, h => by cases s <;> simp [Ty.sk, Sk.off] at h
  | .ptr _, _, _, _, s :: _, _, _, h => by cases s <;> simp [Ty.sk, Sk.off] at h
  | .fn _ _, _, _, _, s :: _, _, _, h => by cases s <;> simp [Ty.sk, Sk.off] at h
  | .sl _ _, _, _, _, s :: _, _, _, h => by cases s <;> simp [Ty.sk, Sk.off] at h
  | .pair _ _, _, _, _, .idx _ :: _, _, _, h => by simp [Ty.sk, Sk.off] at h
  | .arr _ _, _, _, _, .fst :: _, _, _, h => by simp [Ty.sk, Sk.off] at h
  | .arr _ _, _, _, _, .snd :: _, _, _, h => by simp [Ty.sk, Sk.off] at h

theorem off_tyS : {t : Ty} → {q : Path} → {o : Nat} → {s : Sk} → t.sk.off q = some (o, s) → tyS t q = some s
  | t, [], o, s, h => by
    simp only [Sk.off, Option.some.injEq, Prod.mk.injEq] at h
    simp only [tyS, h.2]
  | .pair a c, .fst :: q, o, s, h => by
    simp only [Ty.sk, Sk.off] at h
    simp only [tyS]; exact off_tyS h
  | .pair a c, .snd :: q, o, s, h => by
    simp only [Ty.sk, Sk.off, Option.map_eq_some_iff, Prod.mk.injEq] at h
    obtain ⟨⟨o', s'⟩, h, rfl, rfl⟩ := h
    simp only [tyS]; exact off_tyS h
  | .arr n t, .idx i :: q, o, s, h => by
    simp only [Ty.sk, Sk.off] at h
    split at h
    · simp only [Option.map_eq_some_iff, Prod.mk.injEq] at h
      obtain ⟨⟨o', s'⟩, h, rfl, rfl⟩ := h
      simp only [tyS]; exact off_tyS h
    · simp at h
  | .int _, s :: _, _, _, h => by cases s <;> simp [Ty.sk, Sk.off] at h
  | .bool, s :: _, _, _, h => by cases s <;> simp [Ty.sk, Sk.off] at h
  | .str, s :: _, _, _, h => by cases s <;> simp [Ty.sk, Sk.off] at h
  | .unit, s :: _, _, _, h => by cases s <;> simp [Ty.sk, Sk.off] at h
  | .ptr _, s :: _, _, _, h => by cases s <;> simp [Ty.sk, Sk.off] at h
  | .fn _ _, s :: _, _, _, h => by cases s <;> simp [Ty.sk, Sk.off] at h
  | .sl _ _, s :: _, _, _, h => by cases s <;> simp [Ty.sk, Sk.off] at h
  | .pair _ _, .idx _ :: _, _, _, h => by simp [Ty.sk, Sk.off] at h
  | .arr _ _, .fst :: _, _, _, h => by simp [Ty.sk, Sk.off] at h
  | .arr _ _, .snd :: _, _, _, h => by simp [Ty.sk, Sk.off] at h

/-- The row object behind a reference. -/
theorem fetch_ok {w : World} {g : Ghost} {σ : St} (hh : HeapOK w g σ.objs) {id : Nat} {p : Path} {ep : Nat} {k : (u : Ty) → List u.den → Option R} {r : R}
    (h : fetchK σ id p ep k = some r) : ∃ t l, σ.objs id = some (.row t l ep) ∧ p = [] ∧ t.isRo = true ∧ k t l = some r := by
  unfold fetchK at h
  split at h
  · rename_i t l e ho
    have hok := hh.objs id _ ho
    cases hb : Nat.beq e ep with
    | false => rw [hb] at h; simp at h
    | true =>
      rw [hb] at h
      have he : e = ep := Nat.eq_of_beq_eq_true hb
      subst he
      simp only [cond_true, rowK] at h
      cases p with
      | nil =>
        have h' : k t l = some r := by simpa [getK] using h
        exact ⟨t, l, ho, rfl, hok.1, h'⟩
      | cons s q =>
        cases s with
        | idx i =>
          simp only [getK, Option.bind_eq_some_iff] at h
          obtain ⟨x, _, h⟩ := h
          obtain ⟨u, e', hu, hro⟩ := getK_isRo hok.1 h
          split at hu
          · simp [Ty.isRo] at hro
          · simp at hu
        | fst => simp [getK] at h
        | snd => simp [getK] at h
  · simp at h

/-- An element of a row, or a part of one. -/
theorem efetch_ok {w : World} {g : Ghost} {σ : St} (hh : HeapOK w g σ.objs) {id : Nat} {p : Path} {ep : Nat} {k : (u : Ty) → u.den → Option R} {r : R} (hp : p ≠ [])
    (h : efetchK σ id p ep k = some r) : ∃ t l u e b off c ee, σ.objs id = some (.row t l ep) ∧ t.isRo = true ∧ k u e = some r ∧ u.isRo = true ∧
      place g id (.sl true t) [] 0 0 p = some (b, off) ∧ tyS (.sl true t) p = some u.sk ∧ g.tag b = .row id [] ∧ w.heap[b]? = some (.cells c ee (0, 0)) ∧ off + u.size ≤ c.size ∧ Rep w g none u e (seg c.toList off u.size) := by
  unfold efetchK at h
  split at h
  · rename_i t l e ho
    have hok := hh.objs id _ ho
    cases hb : Nat.beq e ep with
    | false => rw [hb] at h; simp at h
    | true =>
      rw [hb] at h
      have he : e = ep := Nat.eq_of_beq_eq_true hb
      subst he
      simp only [cond_true, rowK] at h
      cases p with
      | nil => exact absurd rfl hp
      | cons s q =>
        cases s with
        | idx i =>
          simp only [getK, Option.bind_eq_some_iff] at h
          obtain ⟨x, hx, h⟩ := h
          obtain ⟨h0, hi, rfl, hlt⟩ := idx_some hx
          obtain ⟨a, cap, hcs, hsv, hlc, hcm, hrow⟩ := hok.2
          rcases hrow with ⟨_, hl, _⟩ | ⟨b, off, c, ee, ha, htag, hcell, hsz, helts⟩
          · rw [hl] at hi; simp at hi
          · have hel := Rep.anyOwn (o' := none) hok.1 (helts _ hi)
            obtain ⟨u, e', o, hk, hu, hoff, hr⟩ := getK_rep hok.1 hel h
            have hle := Sk.off_le hoff
            rw [Ty.sk_size, Ty.sk_size] at hle
            have hcap : (i.toNat + 1) * t.size ≤ cap * t.size := Nat.mul_le_mul_right _ (by omega)
            rw [Nat.add_mul] at hcap
            refine ⟨t, l, u, e', b, off + i.toNat * t.size + o, c, ee, ho, hok.1, hk, hu, ?_, by simp only [tyS]; exact off_tyS hoff, htag, hcell, by omega, ?_⟩
            · simp only [place, hsv, ha, List.nil_append]
              exact place_flat hoff
            · rw [seg_seg _ _ _ _ _ hle] at hr
              exact hr
        | fst => simp [getK] at h
        | snd => simp [getK] at h
  · simp at h

/-- A variable's content, or a part of it. -/
theorem bfetch_ok {w : World} {g : Ghost} {σ : St} (hh : HeapOK w g σ.objs) {id : Nat} {p : Path} {k : AVal → Option R} {r : R}
    (h : bfetchK σ id p k = some r) : ∃ a a' off c e, σ.objs id = some (.cell a) ∧ k a' = some r ∧ a.sk.off p = some (off, a'.sk) ∧
      w.heap[g.blk id]? = some (.cells c e (0, 0)) ∧ g.tag (g.blk id) = .box id ∧ off + a'.sk.size ≤ c.size ∧ AOK w g σ.objs a c.toList ∧ AOK w g σ.objs a' (seg c.toList off a'.sk.size) ∧ ∀ m, m ∉ a.ids → m ∉ a'.ids := by
  unfold bfetchK at h
  split at h
  · rename_i a ho
    obtain ⟨c, e, hc, ht, hok⟩ := hh.objs id _ ho
    obtain ⟨a', off, hk, hoff, hr, hi⟩ := getA_rep hok h
    refine ⟨a, a', off, c, e, ho, hk, hoff, hc, ht, ?_, hok, hr, hi⟩
    have := Sk.off_le hoff
    have h2 := hok.len
    rw [Array.length_toList] at h2
    omega
  · simp at h

theorem sub_length {α : Type} (l : List α) (a b : Int) (h0 : 0 ≤ a) (hab : a ≤ b) (hb : b ≤ (l.length : Int)) : (sub l a b).length = b.toNat - a.toNat := by
  simp only [sub, List.length_take, List.length_drop]; omega
theorem sub_get {α : Type} (l : List α) (a b : Int) (i : Nat) (h : i < (sub l a b).length) (h' : a.toNat + i < l.length) : (sub l a b).get ⟨i, h⟩ = l.get ⟨a.toNat + i, h'⟩ := by
  simp [sub, List.getElem_take, List.getElem_drop]

theorem asData_ok {w : World} {g : Ghost} {σ : St} (hh : HeapOK w g σ.objs) : (n : Nat) → {a : AVal} → {t : Ty} → {k : t.den → Option R} → {r : R} → {cs : List Value} →
    AOK w g σ.objs a cs → asData σ n a t k = some r → ∃ d, k d = some r ∧ t.isRo = true ∧ Rep w (roG g) none t d cs
  | 0, _, _, _, _, _, _, h => by simp [asData] at h
  | n + 1, .data t' d, t, k, r, cs, hok, h => by
    simp only [asData] at h
    obtain ⟨rfl, h⟩ := castK_some h
    exact ⟨_, h, hok.1, hok.2.kept (roG_ro w g)⟩
  | n + 1, .nilS, t, k, r, cs, hok, h => by
    simp only [asData] at h
    cases hb : t.isRo with
    | false => rw [hb] at h; simp at h
    | true =>
      rw [hb] at h
      cases t with
      | sl o t =>
        cases o with
        | true => simp [Ty.isRo] at hb
        | false =>
          refine ⟨([] : List t.den), h, rfl, ?_⟩
          have hok' : cs = [.slice none 0 0] := hok
          subst hok'
          exact ⟨none, 0, rfl, Nat.le_refl _, Nat.zero_le _, fun hn => absurd rfl hn⟩
      | _ => simp [nilK] at h
  | n + 1, .ref id p ep, t, k, r, cs, hok, h => by
    simp only [asData] at h
    obtain ⟨v, l, ho, rfl, hro, h⟩ := fetch_ok hh h
    obtain ⟨rfl, h⟩ := castK_some h
    obtain ⟨x, rfl, _, hx⟩ := hok
    have hx' := (hx _ _ _ ho).2 rfl
    have hobj := hh.objs id _ ho
    refine ⟨_, h, Ty.isRo_ro _, ?_⟩
    have := Rep.freeze (roG_ro w g) (o := some (id, [])) (roG_frozen w g id []) hobj.2
    rw [hx']
    exact this
  | n + 1, .view id p ep a b, t, k, r, cs, hok, h => by
    simp only [asData] at h
    obtain ⟨v, l, ho, rfl, hro, h⟩ := fetch_ok hh h
    obtain ⟨rfl, h⟩ := castK_some h
    obtain ⟨x, rfl, _, hx⟩ := hok
    obtain ⟨_, h0, hab, hbl, hv⟩ := (hx _ _ _ ho).2 rfl
    have hobj := hh.objs id _ ho
    refine ⟨_, h, Ty.isRo_ro _, ?_⟩
    obtain ⟨ad, cap, hcs, hsv, hlc, hcm, hrow⟩ := hobj.2
    have hlen := sub_length l a b h0 hab hbl
    show Rep w (roG g) none (.sl false v.ro) (Ty.toRo (.sl false v) (sub l a b)) [x]
    rw [toRo_sl, hv, hsv]
    have hln : (List.map (Ty.toRo v) (sub l a b)).length = (b - a).toNat := by rw [List.length_map, hlen]; omega
    refine ⟨_, cap - a.toNat, by simp only [subSlice]; rw [hln], by rw [hln]; omega, by omega, fun hne => ?_⟩
    have hpos : 0 < (b - a).toNat := by
      rw [← hln]; exact List.length_pos_iff.2 hne
    rcases hrow with ⟨_, hl, _⟩ | ⟨bk, off, c, ee, ha, htag, hcell, hsz, helts⟩
    · rw [hl] at hbl; simp at hbl; omega
    · subst ha
      refine ⟨bk, off + a.toNat * v.size, c, ee, (0, 0), ?_, roG_row htag, hcell, ?_, fun i hi => ?_⟩
      · rw [if_neg (by omega)]
        simp only [Option.map_some, Addr.add]
        split
        · rename_i hz
          rw [hz]; simp
        · rfl
      · rw [hln, Ty.size_ro]
        have : (b - a).toNat + a.toNat ≤ cap := by omega
        have := Nat.mul_le_mul_right v.size this
        rw [Nat.add_mul] at this
        omega
      · have hi2 : i < (sub l a b).length := by simpa using hi
        have hi3 : a.toNat + i < l.length := by omega
        have he := Rep.freeze (roG_ro w g) (o := some (id, [] ++ [Step.idx ((a.toNat + i : Nat) : Int)])) (roG_frozen w g id _) (helts (a.toNat + i) hi3)
        rw [List.get_eq_getElem, List.getElem_map]
        have hg := sub_get l a b i hi2 hi3
        rw [List.get_eq_getElem] at hg
        rw [hg, Ty.size_ro]
        have e : off + a.toNat * v.size + i * v.size = off + (a.toNat + i) * v.size := by rw [Nat.add_mul]; omega
        rw [e]
        exact he
  | n + 1, .bptr id p, t, k, r, cs, hok, h => by
    cases t with
    | ptr t =>
      simp only [asData] at h
      obtain ⟨a, a', off, c, e, ho, hk, hoff, hc, ht, hsz, hall, hpart, _⟩ := bfetch_ok hh h
      obtain ⟨d, hd, hro, hrep⟩ := asData_ok hh n hpart hk
      obtain ⟨v, rfl, _, hv⟩ := hok
      obtain ⟨off', s, hoff', rfl⟩ := hv _ ho
      rw [hoff] at hoff'
      simp only [Option.some.injEq, Prod.mk.injEq] at hoff'
      obtain ⟨rfl, _⟩ := hoff'
      have hl := hrep.len
      rw [seg_length (by rw [Array.length_toList]; exact hsz)] at hl
      refine ⟨d, hd, hro, ?_⟩
      exact ⟨g.blk id, off, c, e, (0, 0), rfl, roG_box ht, hc, by omega, by rw [← hl]; exact hrep⟩
    | _ => simp [asData] at h
  | n + 1, .eptr id p ep, t, k, r, cs, hok, h => by
    cases t with
    | ptr t =>
      simp only [asData] at h
      obtain ⟨v, rfl, _, hv⟩ := hok
      have hobj : ∃ t l, σ.objs id = some (.row t l ep) := by
        unfold efetchK at h
        split at h
        · rename_i t l e ho
          cases hb : Nat.beq e ep with
          | false => rw [hb] at h; simp at h
          | true => exact ⟨t, l, by rw [ho, Nat.eq_of_beq_eq_true hb]⟩
        · simp at h
      obtain ⟨t0, l0, ho0⟩ := hobj
      obtain ⟨hp, b0, off0, hpl, hv'⟩ := (hv _ _ _ ho0).2 rfl
      obtain ⟨t1, l1, u, e, b, off, c, ee, ho, hro, hk, hu, hpl2, _, htag, hcell, hsz, hrep⟩ := efetch_ok hh hp h
      rw [ho0] at ho
      simp only [Option.some.injEq, Obj.row.injEq] at ho
      obtain ⟨rfl, _, _⟩ := ho
      rw [hpl] at hpl2
      simp only [Option.some.injEq, Prod.mk.injEq] at hpl2
      obtain ⟨rfl, rfl⟩ := hpl2
      obtain ⟨rfl, hk⟩ := castK_some hk
      refine ⟨_, hk, by simp only [Ty.isRo]; exact Ty.isRo_ro u, ?_⟩
      have hf := Rep.freeze (roG_ro w g) (o := none) trivial hrep
      exact ⟨b0, off0, c, ee, (0, 0), by rw [hv'], roG_row htag, hcell, by rw [Ty.size_ro]; exact hsz, by rw [Ty.size_ro]; exact hf⟩
    | _ => simp [asData] at h
  | n + 1, .clos f c, t, k, r, cs, hok, h => by
    cases t with
    | fn gid t =>
      simp only [asData] at h
      cases hb : Nat.beq f gid with
      | false => rw [hb] at h; simp at h
      | true =>
        rw [hb] at h
        have he : f = gid := Nat.eq_of_beq_eq_true hb
        subst he
        obtain ⟨vs, rfl, hc⟩ := hok
        obtain ⟨d, hd, hro, hrep⟩ := asData_ok hh n hc h
        exact ⟨d, hd, hro, vs, rfl, hrep⟩
    | _ => simp [asData] at h
  | n + 1, .agg c, t, k, r, cs, hok, h => by
    simp only [asData] at h
    exact asData_ok hh n (a := c) hok h
  | n + 1, .pr a b, t, k, r, cs, hok, h => by
    cases t with
    | pair t u =>
      simp only [asData] at h
      obtain ⟨c1, c2, rfl, h1, h2⟩ := hok
      obtain ⟨x, hx, hrx, hrepx⟩ := asData_ok hh n h1 h
      obtain ⟨y, hy, hry, hrepy⟩ := asData_ok hh n h2 hx
      exact ⟨(x, y), hy, by simp [Ty.isRo, hrx, hry], c1, c2, rfl, hrepx, hrepy⟩
    | _ => simp [asData] at h
  | n + 1, .un, t, k, r, cs, hok, h => by
    cases t with
    | unit =>
      simp only [asData] at h
      exact ⟨(), h, rfl, hok⟩
    | _ => simp [asData] at h
  | n + 1, .mref _, t, k, r, cs, hok, h => by cases t <;> simp [asData] at h
  | n + 1, .nv true _ _ _, t, k, r, cs, hok, h => by cases t <;> simp [asData] at h
  | n + 1, .nv false id p ep, t, k, r, cs, hok, h => by
    simp only [asData] at h
    obtain ⟨t0, l0, e, i, v, l, ho, hep, hrep, h, _, _⟩ := nrow_ok hh h
    obtain ⟨rfl, h⟩ := castK_some h
    obtain ⟨x, rfl, _, hx⟩ := hok
    have hx' := ((hx _ _ _ _ _ ho).2 hep).1 rfl
    refine ⟨_, h, Ty.isRo_ro _, ?_⟩
    have := Rep.freeze (roG_ro w g) (o := some (id, p)) (roG_frozen w g id p) hrep
    rw [hx']
    exact this
  | n + 1, .tup _, t, k, r, cs, hok, h => hok.elim

end Go.Kz
