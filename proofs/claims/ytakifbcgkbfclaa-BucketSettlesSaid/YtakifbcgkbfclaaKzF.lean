/-
  Parts of abstract values in cells: read, replaced; states.
-/
import Derived.Test.YtakifbcgkbfclaaKzE
set_option linter.unusedVariables false
set_option linter.unusedSimpArgs false
namespace Go.Kz
variable {R : Type}

theorem getA_rep {w : World} {g : Ghost} {objs : Objs} : {a : AVal} → {p : Path} → {k : AVal → Option R} → {r : R} → {cs : List Value} →
    AOK w g objs a cs → getA a p k = some r →
    ∃ a' off, k a' = some r ∧ a.sk.off p = some (off, a'.sk) ∧ AOK w g objs a' (seg cs off a'.sk.size) ∧ ∀ m, m ∉ a.ids → m ∉ a'.ids
  | a, [], k, r, cs, hok, h => by
    have hk : k a = some r := by cases a <;> simpa [getA] using h
    exact ⟨a, 0, hk, by simp [Sk.off], by rw [← hok.len, seg_all]; exact hok, fun m hm => hm⟩
  | .agg c, s :: p, k, r, cs, hok, h => by
    simp only [getA] at h
    exact getA_rep (a := c) (show AOK w g objs c cs from hok) h
  | .pr a b, .fst :: p, k, r, cs, hok, h => by
    simp only [getA] at h
    obtain ⟨c1, c2, rfl, h1, h2⟩ := hok
    obtain ⟨a', off, hk, ho, hr, hi⟩ := getA_rep h1 h
    have := Sk.off_le ho
    refine ⟨a', off, hk, by simpa [AVal.sk, Sk.off] using ho, ?_, fun m hm => hi m (by simp [AVal.ids] at hm; exact hm.1)⟩
    rw [seg_append_left _ _ _ _ (by rw [h1.len]; exact this)]; exact hr
  | .pr a b, .snd :: p, k, r, cs, hok, h => by
    simp only [getA] at h
    obtain ⟨c1, c2, rfl, h1, h2⟩ := hok
    obtain ⟨a', off, hk, ho, hr, hi⟩ := getA_rep h2 h
    refine ⟨a', a.sk.size + off, hk, by simp [AVal.sk, Sk.off, ho], ?_, fun m hm => hi m (by simp [AVal.ids] at hm; exact hm.2)⟩
    rw [seg_append_right' _ _ _ _ _ h1.len.symm]; exact hr
  | .data t d, s :: p, k, r, cs, hok, h => by
    have h' : getK t d (s :: p) (fun u e => k (.data u e)) = some r := by cases s <;> simpa [getA] using h
    obtain ⟨u, e, off, hk, hu, ho, hr⟩ := getK_rep hok.1 hok.2 h'
    exact ⟨.data u e, off, hk, by simpa [AVal.sk] using ho, ⟨hu, by simpa [AVal.sk, Ty.sk_size] using hr⟩, fun m _ => by simp [AVal.ids]⟩
  | .nilS, s :: _, _, _, _, _, h => by cases s <;> simp [getA] at h
  | .ref _ _ _, s :: _, _, _, _, _, h => by cases s <;> simp [getA] at h
  | .view _ _ _ _ _, s :: _, _, _, _, _, h => by cases s <;> simp [getA] at h
  | .bptr _ _, s :: _, _, _, _, _, h => by cases s <;> simp [getA] at h
  | .eptr _ _ _, s :: _, _, _, _, _, h => by cases s <;> simp [getA] at h
  | .mref _, s :: _, _, _, _, _, h => by cases s <;> simp [getA] at h
  | .nv _ _ _ _, s :: _, _, _, _, _, h => by cases s <;> simp [getA] at h
  | .clos _ _, s :: _, _, _, _, _, h => by cases s <;> simp [getA] at h
  | .tup _, s :: _, _, _, _, _, h => by cases s <;> simp [getA] at h
  | .un, s :: _, _, _, _, _, h => by cases s <;> simp [getA] at h
  | .pr _ _, .idx _ :: _, _, _, _, _, h => by simp [getA] at h

theorem splitC_rep {w : World} {g : Ghost} {objs : Objs} : {t : Ty} → {d : t.den} → {cs : List Value} → t.isRo = true → Rep w g none t d cs →
    (splitC t d).sk = t.sk → AOK w g objs (splitC t d) cs
  | .pair a b, (x, y), cs, ht, h, hs => by
    obtain ⟨c1, c2, rfl, h1, h2⟩ := h
    simp only [Ty.isRo, Bool.and_eq_true] at ht
    simp only [splitC, AVal.sk, Ty.sk, Sk.pair.injEq, true_and] at hs
    exact ⟨c1, c2, rfl, ⟨ht.1, h1⟩, splitC_rep ht.2 h2 hs⟩
  | .unit, _, cs, _, h, _ => h
  | .int _, _, _, _, _, hs => by simp [splitC, AVal.sk, Ty.sk] at hs
  | .bool, _, _, _, _, hs => by simp [splitC, AVal.sk, Ty.sk] at hs
  | .str, _, _, _, _, hs => by simp [splitC, AVal.sk, Ty.sk] at hs
  | .arr _ _, _, _, _, _, hs => by simp [splitC, AVal.sk, Ty.sk] at hs
  | .sl _ _, _, _, _, _, hs => by simp [splitC, AVal.sk, Ty.sk] at hs
  | .ptr _, _, _, _, _, hs => by simp [splitC, AVal.sk, Ty.sk] at hs
  | .fn _ _, _, _, _, _, hs => by simp [splitC, AVal.sk, Ty.sk] at hs

/-- A part replaced brings no other objects. -/
theorem splitC_ids : (t : Ty) → (d : t.den) → (splitC t d).ids = []
  | .pair a b, (x, y) => by simp [splitC, AVal.ids, splitC_ids b y]
  | .int _, _ => by simp [splitC, AVal.ids]
  | .bool, _ => by simp [splitC, AVal.ids]
  | .str, _ => by simp [splitC, AVal.ids]
  | .unit, _ => by simp [splitC, AVal.ids]
  | .arr _ _, _ => by simp [splitC, AVal.ids]
  | .sl _ _, _ => by simp [splitC, AVal.ids]
  | .ptr _, _ => by simp [splitC, AVal.ids]
  | .fn _ _, _ => by simp [splitC, AVal.ids]


theorem splice_zero_append (c1 c2 ecs : List Value) (h : ecs.length = c1.length) : splice (c1 ++ c2) 0 ecs = ecs ++ c2 := by
  simp only [splice, List.take_zero, List.nil_append, Nat.zero_add, h, List.drop_left]

theorem setSplit_rep {w : World} {g : Ghost} {objs : Objs} {new : AVal} {ecs : List Value} (hn : AOK w g objs new ecs) :
    {t : Ty} → {d : t.den} → {p : Path} → {k : AVal → Option R} → {r : R} → {cs : List Value} → {off : Nat} →
    t.isRo = true → Rep w g none t d cs → t.sk.off p = some (off, new.sk) → setSplit new t d p k = some r →
    ∃ u, k u = some r ∧ (∀ m, m ∉ new.ids → m ∉ u.ids) ∧ (u.sk = t.sk → AOK w g objs u (splice cs off ecs))
  | .pair a b, (x, y), [.fst], k, r, cs, off, ht, h, ho, hk => by
    obtain ⟨c1, c2, rfl, h1, h2⟩ := h
    simp only [Ty.isRo, Bool.and_eq_true] at ht
    simp only [Ty.sk, Sk.off, Option.some.injEq, Prod.mk.injEq] at ho
    obtain ⟨rfl, hs⟩ := ho
    refine ⟨_, hk, fun m hm => by simp [AVal.ids, splitC_ids, hm], fun he => ?_⟩
    simp only [AVal.sk, Ty.sk, Sk.pair.injEq] at he
    rw [splice_zero_append _ _ _ (by rw [hn.len, h1.len, ← hs, Ty.sk_size])]
    exact ⟨ecs, c2, rfl, hn, splitC_rep ht.2 h2 he.2⟩
  | .pair a b, (x, y), .fst :: s :: p, k, r, cs, off, ht, h, ho, hk => by
    obtain ⟨c1, c2, rfl, h1, h2⟩ := h
    simp only [Ty.isRo, Bool.and_eq_true] at ht
    simp only [Ty.sk, Sk.off] at ho
    simp only [setSplit] at hk
    obtain ⟨u, hu, hi, hok⟩ := setSplit_rep hn ht.1 h1 ho hk
    refine ⟨_, hu, fun m hm => by simp [AVal.ids, splitC_ids, hi m hm], fun he => ?_⟩
    simp only [AVal.sk, Ty.sk, Sk.pair.injEq] at he
    have := Sk.off_le ho
    rw [Ty.sk_size] at this
    rw [splice_append_left _ _ _ _ (by rw [h1.len, hn.len]; exact this)]
    exact ⟨_, c2, rfl, hok he.1, splitC_rep ht.2 h2 he.2⟩
  | .pair a b, (x, y), .snd :: p, k, r, cs, off, ht, h, ho, hk => by
    obtain ⟨c1, c2, rfl, h1, h2⟩ := h
    simp only [Ty.isRo, Bool.and_eq_true] at ht
    simp only [Ty.sk, Sk.off, Option.map_eq_some_iff, Prod.mk.injEq] at ho
    obtain ⟨⟨o, s⟩, ho, rfl, rfl⟩ := ho
    have hk' : setSplit new b y p (fun u => k (.pr (.data a x) u)) = some r := by simpa [setSplit] using hk
    obtain ⟨u, hu, hi, hok⟩ := setSplit_rep hn ht.2 h2 ho hk'
    refine ⟨_, hu, fun m hm => by simp [AVal.ids, hi m hm], fun he => ?_⟩
    simp only [AVal.sk, Ty.sk, Sk.pair.injEq] at he
    rw [splice_append_right _ _ _ _ _ (by rw [h1.len, Ty.sk_size])]
    exact ⟨c1, _, rfl, ⟨ht.1, h1⟩, hok he.2⟩
  | .pair _ _, _, [], _, _, _, _, _, _, _, hk => by simp [setSplit] at hk
  | .pair _ _, _, .idx _ :: _, _, _, _, _, _, _, _, hk => by simp [setSplit] at hk
  | .int _, _, _, _, _, _, _, _, _, _, hk => by simp [setSplit] at hk
  | .bool, _, _, _, _, _, _, _, _, _, hk => by simp [setSplit] at hk
  | .str, _, _, _, _, _, _, _, _, _, hk => by simp [setSplit] at hk
  | .unit, _, _, _, _, _, _, _, _, _, hk => by simp [setSplit] at hk
  | .arr _ _, _, _, _, _, _, _, _, _, _, hk => by simp [setSplit] at hk
  | .sl _ _, _, _, _, _, _, _, _, _, _, hk => by simp [setSplit] at hk
  | .ptr _, _, _, _, _, _, _, _, _, _, hk => by simp [setSplit] at hk
  | .fn _ _, _, _, _, _, _, _, _, _, _, hk => by simp [setSplit] at hk

theorem setA_rep {w : World} {g : Ghost} {objs : Objs} {new : AVal} {ecs : List Value} (hn : AOK w g objs new ecs) :
    {a : AVal} → {p : Path} → {k : AVal → Option R} → {r : R} → {cs : List Value} → {off : Nat} →
    AOK w g objs a cs → a.sk.off p = some (off, new.sk) → setA new a p k = some r →
    ∃ a', k a' = some r ∧ a'.sk = a.sk ∧ AOK w g objs a' (splice cs off ecs) ∧ ∀ m, m ∉ a.ids → m ∉ new.ids → m ∉ a'.ids
  | a, [], k, r, cs, off, hok, ho, h => by
    have hk : k new = some r := by cases a <;> simpa [setA] using h
    simp only [Sk.off, Option.some.injEq, Prod.mk.injEq] at ho
    obtain ⟨rfl, hs⟩ := ho
    have : splice cs 0 ecs = ecs := by
      simp only [splice, List.take_zero, List.nil_append, Nat.zero_add]
      rw [hn.len, ← hs, ← hok.len]; simp
    exact ⟨new, hk, hs.symm, by rw [this]; exact hn, fun m _ h => h⟩
  | .agg c, s :: p, k, r, cs, off, hok, ho, h => by
    simp only [setA] at h
    obtain ⟨a', hk, hs, hr, hi⟩ := setA_rep hn (a := c) (show AOK w g objs c cs from hok) ho h
    exact ⟨.agg a', hk, hs, hr, hi⟩
  | .pr a b, .fst :: p, k, r, cs, off, hok, ho, h => by
    simp only [setA] at h
    obtain ⟨c1, c2, rfl, h1, h2⟩ := hok
    have ho' : a.sk.off p = some (off, new.sk) := by simpa [AVal.sk, Sk.off] using ho
    obtain ⟨a', hk, hs, hr, hi⟩ := setA_rep hn h1 ho' h
    have := Sk.off_le ho'
    refine ⟨.pr a' b, hk, by simp [AVal.sk, hs], ?_, fun m hm hn => by simp [AVal.ids] at hm ⊢; exact ⟨hi m hm.1 hn, hm.2⟩⟩
    rw [splice_append_left _ _ _ _ (by rw [h1.len, hn.len]; exact this)]
    exact ⟨_, _, rfl, hr, h2⟩
  | .pr a b, .snd :: p, k, r, cs, off, hok, ho, h => by
    simp only [setA] at h
    obtain ⟨c1, c2, rfl, h1, h2⟩ := hok
    simp only [AVal.sk, Sk.off, Option.map_eq_some_iff, Prod.mk.injEq] at ho
    obtain ⟨⟨o, s⟩, ho, rfl, rfl⟩ := ho
    obtain ⟨a', hk, hs, hr, hi⟩ := setA_rep hn h2 ho h
    refine ⟨.pr a a', hk, by simp [AVal.sk, hs], ?_, fun m hm hn => by simp [AVal.ids] at hm ⊢; exact ⟨hm.1, hi m hm.2 hn⟩⟩
    rw [splice_append_right _ _ _ _ _ h1.len.symm]
    exact ⟨_, _, rfl, h1, hr⟩
  | .data t d, s :: p, k, r, cs, off, hok, ho, h => by
    have h' : cond (fitsAt t (s :: p) new) (setFit new t d (s :: p) k)
      (setSplit new t d (s :: p) fun u => cond (u.sk.same t.sk) (k (.agg u)) none) = some r := by cases s <;> simpa [setA] using h
    cases hf : fitsAt t (s :: p) new with
    | true =>
      rw [hf] at h'
      cases new with
      | data u e =>
        obtain ⟨d', off', hk, ho', hr⟩ := setK_rep hok.1 hok.2 hn.2 h'
        simp only [AVal.sk] at ho
        rw [ho'] at ho
        simp only [Option.some.injEq, Prod.mk.injEq] at ho
        obtain ⟨rfl, _⟩ := ho
        exact ⟨_, hk, rfl, ⟨hok.1, hr⟩, fun m _ _ => by simp [AVal.ids]⟩
      | _ => simp [setFit] at h'
    | false =>
      rw [hf] at h'
      obtain ⟨u, hu, hi, hok'⟩ := setSplit_rep hn hok.1 hok.2 (by simpa [AVal.sk] using ho) h'
      cases hs : u.sk.same t.sk with
      | true =>
        rw [hs] at hu
        exact ⟨.agg u, hu, Sk.same_eq hs, hok' (Sk.same_eq hs), fun m _ hm => hi m hm⟩
      | false => rw [hs] at hu; simp at hu
  | .nilS, s :: _, _, _, _, _, _, _, h => by cases s <;> simp [setA] at h
  | .ref _ _ _, s :: _, _, _, _, _, _, _, h => by cases s <;> simp [setA] at h
  | .view _ _ _ _ _, s :: _, _, _, _, _, _, _, h => by cases s <;> simp [setA] at h
  | .bptr _ _, s :: _, _, _, _, _, _, _, h => by cases s <;> simp [setA] at h
  | .eptr _ _ _, s :: _, _, _, _, _, _, _, h => by cases s <;> simp [setA] at h
  | .mref _, s :: _, _, _, _, _, _, _, h => by cases s <;> simp [setA] at h
  | .nv _ _ _ _, s :: _, _, _, _, _, _, _, h => by cases s <;> simp [setA] at h
  | .clos _ _, s :: _, _, _, _, _, _, _, h => by cases s <;> simp [setA] at h
  | .tup _, s :: _, _, _, _, _, _, _, h => by cases s <;> simp [setA] at h
  | .un, s :: _, _, _, _, _, _, _, h => by cases s <;> simp [setA] at h
  | .pr _ _, .idx _ :: _, _, _, _, _, _, _, h => by simp [setA] at h

end Go.Kz
