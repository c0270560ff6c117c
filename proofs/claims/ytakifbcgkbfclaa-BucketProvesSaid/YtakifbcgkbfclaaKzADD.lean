/-
  What an operation makes of a part of a state, it makes of the whole: operation by operation.
-/
import Derived.Test.YtakifbcgkbfclaaKzADC
set_option linter.unusedVariables false
set_option linter.unusedSimpArgs false
namespace Go.Kz
variable {R : Type}

theorem chk_run {b : Bool} {x : Option R} {r : R} (h : chk b x = some r) : b = true ∧ x = some r := by
  cases b with
  | true => exact ⟨rfl, h⟩
  | false => simp [chk] at h
theorem cond_run {b : Bool} {x : Option R} {r : R} (h : cond b x none = some r) : b = true ∧ x = some r := by
  cases b with
  | true => exact ⟨rfl, h⟩
  | false => simp at h
theorem binInt_run {op : BinOp} {kd : IntKind} {a b : Int} {f : AVal → Option R} {r : R} (h : binInt op kd a b f = some r) : ∃ v, f v = some r ∧ ∀ (R' : Type) (f' : AVal → Option R'), binInt op kd a b f' = f' v := by
  cases op <;> simp only [binInt] at h ⊢
  case quo =>
    cases hb : (b == 0) with
    | true => rw [hb] at h; simp at h
    | false => rw [hb] at h; exact ⟨_, h, fun _ _ => rfl⟩
  case rem =>
    cases hb : (b == 0) with
    | true => rw [hb] at h; simp at h
    | false => rw [hb] at h; exact ⟨_, h, fun _ _ => rfl⟩
  all_goals first
    | exact ⟨_, h, fun _ _ => rfl⟩
    | simp at h
theorem shiftInt_run {op : BinOp} {kd : IntKind} {a b : Int} {f : AVal → Option R} {r : R} (h : shiftInt op kd a b f = some r) : ∃ v, f v = some r ∧ ∀ (R' : Type) (f' : AVal → Option R'), shiftInt op kd a b f' = f' v := by
  cases op <;> simp only [shiftInt] at h ⊢
  case shl =>
    cases hb : decide (b < 0) with
    | true => rw [hb] at h; simp at h
    | false => rw [hb] at h; exact ⟨_, h, fun _ _ => rfl⟩
  case shr =>
    cases hb : decide (b < 0) with
    | true => rw [hb] at h; simp at h
    | false => rw [hb] at h; exact ⟨_, h, fun _ _ => rfl⟩
  all_goals simp at h
theorem binBool_run {op : BinOp} {a b : Bool} {f : AVal → Option R} {r : R} (h : binBool op a b f = some r) : ∃ v, f v = some r ∧ ∀ (R' : Type) (f' : AVal → Option R'), binBool op a b f' = f' v := by
  cases op <;> simp only [binBool] at h ⊢
  all_goals first
    | exact ⟨_, h, fun _ _ => rfl⟩
    | simp at h
theorem eqRes_run {op : BinOp} {b : Bool} {f : AVal → Option R} {r : R} (h : eqRes op b f = some r) : ∃ v, f v = some r ∧ ∀ (R' : Type) (f' : AVal → Option R'), eqRes op b f' = f' v := by
  cases op <;> simp only [eqRes] at h ⊢
  all_goals first
    | exact ⟨_, h, fun _ _ => rfl⟩
    | simp at h
theorem unK_run {op : UnOp} {x : AVal} {f : AVal → Option R} {r : R} (h : unK op x f = some r) : ∃ v, f v = some r ∧ ∀ (R' : Type) (f' : AVal → Option R'), unK op x f' = f' v := by
  unfold unK at h
  split at h
  · exact ⟨_, h, fun _ _ => rfl⟩
  · exact ⟨_, h, fun _ _ => rfl⟩
  · exact ⟨_, h, fun _ _ => rfl⟩
  · simp at h

def binL (σ : St) (q : Bool) (t : Option Ty) (op : BinOp) (x y : AVal) (f : AVal → Option R) : Option R := match t with
  | some (.pair a b) => cond (q && eqTy (.pair a b) && x.val && y.val) (asData σ 20 x (.pair a b) fun d => asData σ 20 y (.pair a b) fun e => eqRes op (eqD (.pair a b) d e) f) none
  | _ => none
theorem binL_run {σ : St} {q : Bool} {t : Option Ty} {op : BinOp} {x y : AVal} {f : AVal → Option R} {r : R} (h : binL σ q t op x y f = some r) :
    ∃ v, f v = some r ∧ ∀ τ, OLe σ τ → ∀ (R' : Type) (f' : AVal → Option R'), binL τ q t op x y f' = f' v := by
  unfold binL at h
  split at h
  · rename_i a b
    obtain ⟨hc, h⟩ := cond_run h
    obtain ⟨d, h, h1⟩ := asData_run _ _ _ h
    obtain ⟨e, h, h2⟩ := asData_run _ _ _ h
    obtain ⟨v, h, h3⟩ := eqRes_run h
    refine ⟨v, h, fun τ hle R' f' => ?_⟩
    simp only [binL, hc, cond_true]
    rw [h1 τ hle, h2 τ hle, h3]
  · simp at h
theorem binK_run {σ : St} {q : Bool} {t : Option Ty} {op : BinOp} {x y : AVal} {f : AVal → Option R} {r : R} (h : binK σ q t op x y f = some r) :
    ∃ v, f v = some r ∧ ∀ τ, OLe σ τ → ∀ (R' : Type) (f' : AVal → Option R'), binK τ q t op x y f' = f' v := by
  by_cases h1 : ∃ k a j b, x = .data (.int k) a ∧ y = .data (.int j) b
  · obtain ⟨kd, a, j, b, rfl, rfl⟩ := h1
    simp only [binK] at h ⊢
    cases hs : isShift op with
    | true =>
      rw [hs] at h
      simp only [cond_true] at h ⊢
      obtain ⟨v, h, ha⟩ := shiftInt_run h
      exact ⟨v, h, fun τ _ R' f' => ha R' f'⟩
    | false =>
      rw [hs] at h
      simp only [cond_false] at h ⊢
      split at h
      · obtain ⟨v, h, ha⟩ := binInt_run h
        exact ⟨v, h, fun τ _ R' f' => ha R' f'⟩
      · simp at h
  · by_cases h2 : ∃ a b, x = .data .bool a ∧ y = .data .bool b
    · obtain ⟨a, b, rfl, rfl⟩ := h2
      simp only [binK] at h ⊢
      split at h
      · obtain ⟨v, h, ha⟩ := binBool_run h
        exact ⟨v, h, fun τ _ R' f' => ha R' f'⟩
      · simp at h
    · have e : ∀ (σ : St) (R' : Type) (f' : AVal → Option R'), binK σ q t op x y f' = binL σ q t op x y f' := by
        intro σ R' f'
        unfold binK binL
        split
        · exact absurd ⟨_, _, _, _, rfl, rfl⟩ h1
        · exact absurd ⟨_, _, rfl, rfl⟩ h2
        · rfl
      rw [e] at h
      obtain ⟨v, h, ha⟩ := binL_run h
      exact ⟨v, h, fun τ hle R' f' => by rw [e]; exact ha τ hle R' f'⟩

theorem holds_run {σ τ : St} {a : AVal} (hle : OLe σ τ) (h : holds σ a = true) : holds τ a = true := by
  unfold holds at h ⊢
  split at h
  · rfl
  · rename_i id _
    split at h
    · rename_i ho; rw [hle _ _ ho]
    · simp at h
  · rename_i id _ ep
    split at h
    · rename_i ho; simp only [hle _ _ ho]; exact h
    · simp at h
  · rename_i id _ ep
    split at h
    · rename_i ho; simp only [hle _ _ ho]; exact h
    · simp at h
  · simp at h

theorem lenK_run {σ : St} {x : AVal} {f : Int → Option R} {r : R} (h : lenK σ x f = some r) : ∃ v, f v = some r ∧ ∀ τ, OLe σ τ → ∀ (R' : Type) (f' : Int → Option R'), lenK τ x f' = f' v := by
  unfold lenK at h
  split at h
  · exact ⟨_, h, fun _ _ _ _ => rfl⟩
  · exact ⟨_, h, fun _ _ _ _ => rfl⟩
  · obtain ⟨u, l, h, ha⟩ := fetchK_run h
    exact ⟨_, h, fun τ hle R' f' => by simp only [lenK]; rw [ha τ hle]⟩
  · obtain ⟨u, l, h, ha⟩ := fetchK_run h
    exact ⟨_, h, fun τ hle R' f' => by simp only [lenK]; rw [ha τ hle]⟩
  · obtain ⟨u, l, h, ha⟩ := nrowK_run h
    exact ⟨_, h, fun τ hle R' f' => by simp only [lenK]; rw [(ha τ hle).2]⟩
  · simp at h
theorem mapK_run {σ : St} {mt : Option (Ty × Ty)} {a : AVal} {f : (id : Nat) → (kt vt : Ty) → List (kt.den × vt.den) → Option R} {r : R} (h : mapK σ mt a f = some r) :
    ∃ id kt vt m, (∃ y, σ.objs id = some y) ∧ f id kt vt m = some r ∧ ∀ τ, OLe σ τ → ∀ (R' : Type) (f' : (id : Nat) → (kt vt : Ty) → List (kt.den × vt.den) → Option R'), mapK τ mt a f' = f' id kt vt m := by
  unfold mapK at h
  split at h
  · rename_i id kt' vt'
    split at h
    · rename_i kt vt m ho
      cases hc : ((Ty.same kt kt').isSome && (Ty.same vt vt').isSome && keyTy kt && vt.noSl) with
      | false => rw [hc] at h; simp at h
      | true =>
        rw [hc, cond_true] at h
        refine ⟨id, kt, vt, m, ⟨_, ho⟩, h, fun τ hle R' f' => ?_⟩
        simp only [mapK]
        rw [hle _ _ ho]
        simp only [hc, cond_true]
    · simp at h
  · simp at h
theorem sliceK_run {σ : St} {u : Ty} {x : AVal} {lo : Int} {hi : Option Int} {f : AVal → Option R} {r : R} (h : sliceK σ u x lo hi f = some r) :
    ∃ v, f v = some r ∧ ∀ τ, OLe σ τ → ∀ (R' : Type) (f' : AVal → Option R'), sliceK τ u x lo hi f' = f' v := by
  unfold sliceK at h
  split at h
  · obtain ⟨hb, h⟩ := chk_run h
    exact ⟨_, h, fun τ _ R' f' => by simp only [sliceK, hb, chk, cond_true]⟩
  · obtain ⟨hc, h⟩ := cond_run h
    obtain ⟨hb, h⟩ := chk_run h
    exact ⟨_, h, fun τ _ R' f' => by simp only [sliceK, hc, hb, chk, cond_true]⟩
  · obtain ⟨t, l, h, ha⟩ := fetchK_run h
    obtain ⟨hc, h⟩ := cond_run h
    obtain ⟨hb, h⟩ := chk_run h
    exact ⟨_, h, fun τ hle R' f' => by simp only [sliceK]; rw [ha τ hle]; simp only [hc, hb, chk, cond_true]⟩
  · simp at h
theorem foldInts_run {g : Int → Int → Int} {kd : IntKind} : {c : AVal} → {x : Int} → {f : Int → Option R} → {r : R} → foldInts g kd x c f = some r → ∃ v, f v = some r ∧ ∀ (R' : Type) (f' : Int → Option R'), foldInts g kd x c f' = f' v
  | .un, x, f, r, h => ⟨x, h, fun _ _ => rfl⟩
  | .pr (.data (.int j) y) c, x, f, r, h => by
    simp only [foldInts] at h ⊢
    split at h
    · rename_i he _
      obtain ⟨v, h, ha⟩ := foldInts_run (c := c) h
      refine ⟨v, h, fun R' f' => ?_⟩
      exact ha R' f'
    · simp at h
  | .data _ _, _, _, _, h => by simp [foldInts] at h
  | .nilS, _, _, _, h => by simp [foldInts] at h
  | .ref _ _ _, _, _, _, h => by simp [foldInts] at h
  | .view _ _ _ _ _, _, _, _, h => by simp [foldInts] at h
  | .bptr _ _, _, _, _, h => by simp [foldInts] at h
  | .eptr _ _ _, _, _, _, h => by simp [foldInts] at h
  | .mref _, _, _, _, h => by simp [foldInts] at h
  | .nv _ _ _ _, _, _, _, h => by simp [foldInts] at h
  | .clos _ _, _, _, _, h => by simp [foldInts] at h
  | .agg _, _, _, _, h => by simp [foldInts] at h
  | .tup _, _, _, _, h => by simp [foldInts] at h
  | .pr (.data .bool _) _, _, _, _, h => by simp [foldInts] at h
  | .pr (.data .str _) _, _, _, _, h => by simp [foldInts] at h
  | .pr (.data .unit _) _, _, _, _, h => by simp [foldInts] at h
  | .pr (.data (.pair _ _) _) _, _, _, _, h => by simp [foldInts] at h
  | .pr (.data (.arr _ _) _) _, _, _, _, h => by simp [foldInts] at h
  | .pr (.data (.sl _ _) _) _, _, _, _, h => by simp [foldInts] at h
  | .pr (.data (.ptr _) _) _, _, _, _, h => by simp [foldInts] at h
  | .pr (.data (.fn _ _) _) _, _, _, _, h => by simp [foldInts] at h
  | .pr .nilS _, _, _, _, h => by simp [foldInts] at h
  | .pr (.ref _ _ _) _, _, _, _, h => by simp [foldInts] at h
  | .pr (.view _ _ _ _ _) _, _, _, _, h => by simp [foldInts] at h
  | .pr (.bptr _ _) _, _, _, _, h => by simp [foldInts] at h
  | .pr (.eptr _ _ _) _, _, _, _, h => by simp [foldInts] at h
  | .pr (.mref _) _, _, _, _, h => by simp [foldInts] at h
  | .pr (.nv _ _ _ _) _, _, _, _, h => by simp [foldInts] at h
  | .pr (.clos _ _) _, _, _, _, h => by simp [foldInts] at h
  | .pr (.agg _) _, _, _, _, h => by simp [foldInts] at h
  | .pr (.tup _) _, _, _, _, h => by simp [foldInts] at h
  | .pr (.pr _ _) _, _, _, _, h => by simp [foldInts] at h
  | .pr .un _, _, _, _, h => by simp [foldInts] at h

theorem indexK_run {σ : St} {u : Ty} {x : AVal} {i : Int} {f : AVal → Option R} {r : R} (h : indexK σ u x i f = some r) :
    ∃ v, f v = some r ∧ ∀ τ, OLe σ τ → ∀ (R' : Type) (f' : AVal → Option R'), indexK τ u x i f' = f' v := by
  unfold indexK at h
  split at h
  · obtain ⟨hc, h⟩ := cond_run h
    obtain ⟨d, hd, h⟩ := Option.bind_eq_some_iff.1 h
    exact ⟨_, h, fun τ _ R' f' => by simp only [indexK, hc, cond_true, hd, Option.bind_some]⟩
  · obtain ⟨hc, h⟩ := cond_run h
    obtain ⟨d, hd, h⟩ := Option.bind_eq_some_iff.1 h
    exact ⟨_, h, fun τ _ R' f' => by simp only [indexK, hc, cond_true, hd, Option.bind_some]⟩
  · obtain ⟨t, l, h, ha⟩ := fetchK_run h
    obtain ⟨hc, h⟩ := cond_run h
    obtain ⟨hb, h⟩ := chk_run h
    exact ⟨_, h, fun τ hle R' f' => by simp only [indexK]; rw [ha τ hle]; simp only [hc, hb, chk, cond_true]⟩
  · obtain ⟨t, l, h, ha⟩ := fetchK_run h
    obtain ⟨hc, h⟩ := cond_run h
    obtain ⟨hb, h⟩ := chk_run h
    exact ⟨_, h, fun τ hle R' f' => by simp only [indexK]; rw [ha τ hle]; simp only [hc, hb, chk, cond_true]⟩
  · rename_i id p ep _ u
    obtain ⟨t, l, h, ha⟩ := nrowK_run h
    obtain ⟨hc, h⟩ := cond_run h
    obtain ⟨hb, h⟩ := chk_run h
    exact ⟨_, h, fun τ hle R' f' => by simp only [indexK]; rw [(ha τ hle).2]; simp only [hc, hb, chk, cond_true, (ha τ hle).1]⟩
  · obtain ⟨a, h, ha⟩ := bfetchK_run h
    split at h
    · obtain ⟨hc, h⟩ := cond_run h
      obtain ⟨hb, h⟩ := chk_run h
      exact ⟨_, h, fun τ hle R' f' => by simp only [indexK]; rw [ha τ hle]; simp only [hc, hb, chk, cond_true]⟩
    · simp at h
  · simp at h
theorem loadK_run {σ : St} {x : AVal} {f : AVal → Option R} {r : R} (h : loadK σ x f = some r) :
    ∃ v, f v = some r ∧ ∀ τ, OLe σ τ → ∀ (R' : Type) (f' : AVal → Option R'), loadK τ x f' = f' v := by
  unfold loadK at h
  split at h
  · exact ⟨_, h, fun _ _ _ _ => rfl⟩
  · split at h
    · simp at h
    · obtain ⟨u, d, h, ha⟩ := efetchK_run h
      exact ⟨_, h, fun τ hle R' f' => by simp only [loadK]; rw [ha τ hle]⟩
  · obtain ⟨a, h, ha⟩ := bfetchK_run h
    exact ⟨_, h, fun τ hle R' f' => by simp only [loadK]; rw [ha τ hle]⟩
  · rename_i id p ep
    obtain ⟨u, d, h, ha⟩ := nfetchK_run h
    cases hro : u.isRo with
    | true =>
      rw [hro] at h
      exact ⟨_, h, fun τ hle R' f' => by simp only [loadK]; rw [(ha τ hle).2]; simp only [hro, cond_true]⟩
    | false =>
      rw [hro, cond_false] at h
      split at h
      · exact ⟨_, h, fun τ hle R' f' => by simp only [loadK]; rw [(ha τ hle).2]; simp only [hro, cond_false]⟩
      · simp at h
  · simp at h
theorem fieldK_run {σ : St} {u : Ty} {x : AVal} {i : Nat} {f : AVal → Option R} {r : R} (h : fieldK σ u x i f = some r) :
    ∃ v, f v = some r ∧ ∀ τ, OLe σ τ → ∀ (R' : Type) (f' : AVal → Option R'), fieldK τ u x i f' = f' v := by
  unfold fieldK at h
  split at h
  · obtain ⟨hc, h⟩ := cond_run h
    obtain ⟨v, e, h, ha⟩ := getK_run _ _ _ h
    exact ⟨_, h, fun τ _ R' f' => by simp only [fieldK, hc, cond_true]; rw [ha]⟩
  · obtain ⟨a, h, ha⟩ := bfetchK_run h
    obtain ⟨hc, h⟩ := cond_run h
    exact ⟨_, h, fun τ hle R' f' => by simp only [fieldK]; rw [ha τ hle]; simp only [hc, cond_true]⟩
  · split at h
    · simp at h
    · obtain ⟨t, d, h, ha⟩ := efetchK_run h
      obtain ⟨hc, h⟩ := cond_run h
      exact ⟨_, h, fun τ hle R' f' => by simp only [fieldK]; rw [ha τ hle]; simp only [hc, cond_true]⟩
  · obtain ⟨t, d, h, ha⟩ := nfetchK_run h
    obtain ⟨hc, h⟩ := cond_run h
    exact ⟨_, h, fun τ hle R' f' => by simp only [fieldK]; rw [(ha τ hle).2]; simp only [hc, cond_true]⟩
  · simp at h
theorem tailK_run {σ : St} {t : Ty} {x : AVal} {f : List t.den → Option R} {r : R} (h : tailK σ t x f = some r) :
    ∃ v, f v = some r ∧ ∀ τ, OLe σ τ → ∀ (R' : Type) (f' : List t.den → Option R'), tailK τ t x f' = f' v := by
  unfold tailK at h
  obtain ⟨hc, h⟩ := cond_run h
  obtain ⟨d, h, ha⟩ := asData_run _ _ _ h
  exact ⟨d, h, fun τ hle R' f' => by unfold tailK; rw [hc, cond_true]; exact ha τ hle R' f'⟩
theorem elemTy_run {σ τ : St} (hle : OLe σ τ) {x : AVal} {t : Ty} (h : elemTy σ x = some t) : elemTy τ x = some t := by
  unfold elemTy at h ⊢
  split at h
  · exact h
  · obtain ⟨u, l, h, ha⟩ := fetchK_run h
    rw [ha τ hle]; exact h
  · obtain ⟨u, l, h, ha⟩ := fetchK_run h
    rw [ha τ hle]; exact h
  · obtain ⟨u, l, h, ha⟩ := nrowK_run h
    rw [(ha τ hle).2]; exact h
  · simp at h

theorem giveRow_run {n : Nat} {σ : St} {a : AVal} {v : Ty} {k : List v.den → St → Option R} {r : R} (h : giveRow σ a v k = some r) :
    ∃ d ob, k d (putO ob σ) = some r ∧ Dom n σ ob ∧ ∀ τ, OLe σ τ → ∀ (R' : Type) (k' : List v.den → St → Option R'), giveRow τ a v k' = k' d (putO ob τ) := by
  unfold giveRow at h
  split at h
  · exact ⟨[], [], h, Dom.nil, fun _ _ _ _ => rfl⟩
  · rename_i id ep
    split at h
    · rename_i t l e ho
      obtain ⟨hc, h⟩ := cond_run h
      obtain ⟨d, h, ha⟩ := castK_run h
      refine ⟨d, [(id, none)], h, Dom.old ho, fun τ hle R' k' => ?_⟩
      simp only [giveRow]
      rw [hle _ _ ho]
      simp only [hc, cond_true]
      exact ha R' _
    · simp at h
  · simp at h
theorem fillK_run {n : Nat} {σ : St} {id : Nat} {t : Ty} {l : List t.den} {e i : Nat} {h0 : Option Path} {p : Path} {a : AVal} {f : St → Option R} {r : R} (ho : σ.objs id = some (.nest t l e i h0)) (h : fillK σ id t l e i p a f = some r) :
    ∃ ob, f (putO ob σ) = some r ∧ Dom n σ ob ∧ ∀ τ, OLe σ τ → ∀ (R' : Type) (f' : St → Option R'), fillK τ id t l e i p a f' = f' (putO ob τ) := by
  unfold fillK at h
  split at h
  · rename_i v hv
    obtain ⟨hc, h⟩ := cond_run h
    obtain ⟨d, ob, h, hd, ha⟩ := giveRow_run (n := n) h
    obtain ⟨l', h, hs⟩ := setK_run _ _ _ h
    refine ⟨ob ++ [(id, some (.nest t l' e (i + 1) none))], by rw [putO_append]; exact h, ?_, fun τ hle R' f' => ?_⟩
    · intro x hx
      rcases List.mem_append.1 hx with hx | hx
      · exact hd x hx
      · exact Dom.old ho x hx
    · unfold fillK
      rw [hv]
      simp only [hc, cond_true]
      rw [ha τ hle, hs, putO_append]
      rfl
  · simp at h
theorem nstoreK_run {n : Nat} {σ : St} {id : Nat} {p : Path} {ep : Nat} {a : AVal} {f : St → Option R} {r : R} (h : nstoreK σ id p ep a f = some r) :
    ∃ ob, f (putO ob σ) = some r ∧ Dom n σ ob ∧ ∀ τ, OLe σ τ → ∀ (R' : Type) (f' : St → Option R'), nstoreK τ id p ep a f' = f' (putO ob τ) := by
  unfold nstoreK at h
  split at h
  · rename_i t l e i ho
    obtain ⟨hc, h⟩ := cond_run h
    cases hs : (tyR t p).isSome with
    | true =>
      rw [hs, cond_true] at h
      obtain ⟨ob, h, hd, ha⟩ := fillK_run (n := n) ho h
      refine ⟨ob, h, hd, fun τ hle R' f' => ?_⟩
      unfold nstoreK
      rw [hle _ _ ho]
      simp only [hc, hs, cond_true]
      exact ha τ hle R' f'
    | false =>
      rw [hs, cond_false] at h
      split at h
      · rename_i s p1 j q hl
        obtain ⟨U, X, h, hg1⟩ := getK_run _ _ _ h
        split at h
        · rename_i v l1
          obtain ⟨hro, h⟩ := cond_run h
          obtain ⟨u, x, h, hg2⟩ := getK_run _ _ _ h
          obtain ⟨d, ob, h, hd, hb⟩ := give_run (n := n) _ _ _ h
          split at h
          · rename_i t2 l2 e2 i2 ho2
            obtain ⟨l1', h, hs1⟩ := setK_run _ _ _ h
            obtain ⟨l', h, hs2⟩ := setK_run _ _ _ h
            refine ⟨ob ++ [(id, some (.nest t l' e i none))], by rw [putO_append]; exact h, ?_, fun τ hle R' f' => ?_⟩
            · intro x hx
              rcases List.mem_append.1 hx with hx | hx
              · exact hd x hx
              · exact Dom.old ho x hx
            · unfold nstoreK
              rw [hle _ _ ho]
              simp only [hc, hs, cond_true, cond_false, hl]
              rw [hg1]
              simp only [hro, cond_true]
              rw [hg2, hb τ hle, hle.putO ob _ _ ho2]
              simp only
              rw [hs1, hs2, putO_append]
              rfl
          · simp at h
        · simp at h
      · simp at h
  · rename_i t l e i h0 ho
    obtain ⟨hc, h⟩ := cond_run h
    obtain ⟨hp, h⟩ := chk_run h
    obtain ⟨ob, h, hd, ha⟩ := fillK_run (n := n) ho h
    refine ⟨ob, h, hd, fun τ hle R' f' => ?_⟩
    unfold nstoreK
    rw [hle _ _ ho]
    simp only [hc, hp, chk, cond_true]
    exact ha τ hle R' f'
  · simp at h

theorem storeK_run {n : Nat} {σ : St} {x a : AVal} {f : St → Option R} {r : R} (h : storeK σ x a f = some r) :
    ∃ ob, f (putO ob σ) = some r ∧ Dom n σ ob ∧ ∀ τ, OLe σ τ → ∀ (R' : Type) (f' : St → Option R'), storeK τ x a f' = f' (putO ob τ) := by
  unfold storeK at h
  split at h
  · rename_i id p ep
    split at h
    · simp at h
    · rename_i s q
      obtain ⟨u, e, h, ha⟩ := efetchK_run h
      obtain ⟨d, ob, h, hd, hb⟩ := give_run (n := n) _ _ _ h
      split at h
      · rename_i t l e' ho
        obtain ⟨hc, h⟩ := cond_run h
        obtain ⟨l', h, hs⟩ := setK_run _ _ _ h
        refine ⟨ob ++ [(id, some (.row t l' e'))], by rw [putO_append]; exact h, hd.append (Dom.old ho), fun τ hle R' f' => ?_⟩
        simp only [storeK]
        rw [ha τ hle, hb τ hle]
        rw [hle.putO ob _ _ ho]
        simp only [hc, cond_true]
        rw [hs, putO_append]
        rfl
      · simp at h
  · rename_i id p
    split at h
    · rename_i whole ho
      obtain ⟨old, h, ha⟩ := getA_run h
      obtain ⟨hc, h⟩ := cond_run h
      obtain ⟨w, h, hs⟩ := setA_run _ _ h
      refine ⟨[(id, some (.cell w))], h, Dom.old ho, fun τ hle R' f' => ?_⟩
      simp only [storeK]
      rw [hle _ _ ho]
      simp only
      rw [ha]
      simp only [hc, cond_true]
      rw [hs]; rfl
    · simp at h
  · obtain ⟨ob, h, hd, ha⟩ := nstoreK_run (n := n) h
    exact ⟨ob, h, hd, fun τ hle R' f' => by simp only [storeK]; exact ha τ hle R' f'⟩
  · simp at h

theorem appendK_run {n : Nat} {σ : St} {u : Ty} {s x : AVal} {f : AVal → St → Option R} {r : R} (h : appendK σ n u s x f = some r) :
    ∃ v ob, f v (putO ob σ) = some r ∧ Dom n σ ob ∧ ∀ τ, OLe σ τ → ∀ (R' : Type) (f' : AVal → St → Option R'), appendK τ n u s x f' = f' v (putO ob τ) := by
  unfold appendK at h
  split at h
  · split at h
    · rename_i t ht
      obtain ⟨hc, h⟩ := cond_run h
      obtain ⟨m, h, ha⟩ := tailK_run h
      obtain ⟨hb, h⟩ := chk_run h
      refine ⟨_, [(n, some (.row t m 1))], h, Dom.new, fun τ hle R' f' => ?_⟩
      simp only [appendK]
      rw [elemTy_run hle ht]
      simp only [hc, cond_true]
      rw [ha τ hle, hb]; rfl
    · simp at h
  · rename_i id ep
    split at h
    · rename_i t l e ho
      obtain ⟨hc, h⟩ := cond_run h
      obtain ⟨m, h, ha⟩ := tailK_run h
      obtain ⟨hb, h⟩ := chk_run h
      refine ⟨_, [(id, some (.row t (l ++ m) (e + 1)))], h, Dom.old ho, fun τ hle R' f' => ?_⟩
      simp only [appendK]
      rw [hle _ _ ho]
      simp only [hc, cond_true]
      rw [ha τ hle, hb]; rfl
    · simp at h
  · rename_i id ep a b
    split at h
    · rename_i t l e ho
      obtain ⟨hc, h⟩ := cond_run h
      obtain ⟨m, h, ha⟩ := tailK_run h
      obtain ⟨hb, h⟩ := chk_run h
      refine ⟨_, [(id, some (.row t (sub l a b ++ m) (e + 2)))], h, Dom.old ho, fun τ hle R' f' => ?_⟩
      simp only [appendK]
      rw [hle _ _ ho]
      simp only [hc, cond_true]
      rw [ha τ hle, hb]; rfl
    · simp at h
  · rename_i id q p ep
    split at h
    · rename_i t l e i ho
      obtain ⟨hc, h⟩ := cond_run h
      obtain ⟨U, X, h, hg⟩ := getK_run _ _ _ h
      split at h
      · rename_i v l1
        obtain ⟨hc2, h⟩ := cond_run h
        obtain ⟨m, h, ha⟩ := tailK_run h
        obtain ⟨hb, h⟩ := chk_run h
        refine ⟨_, [(id, some (.nest t l e i (some (q :: p))))] ++ [(n, some (.row v (l1 ++ m) 1))], h, Dom.append (Dom.old ho) Dom.new, fun τ hle R' f' => ?_⟩
        simp only [appendK]
        rw [hle _ _ ho]
        simp only [hc, cond_true]
        rw [hg]
        simp only [hc2, cond_true]
        rw [ha τ hle, hb]; rfl
      · simp at h
    · simp at h
  · simp at h

theorem parts_run {n : Nat} {lo : List Operand} {t : Ty} : {ps : List (Nat × Operand)} → {R : Type} → {σ : St} → {k : List t.den → St → Option R} → {r : R} → (∀ x ∈ ps, x.2 ∈ lo) → parts σ t ps k = some r →
    ∃ ds ob, k ds (putO ob σ) = some r ∧ Dom n σ ob ∧ ∀ τ, SameAt lo σ τ → OLe σ τ → ∀ (R' : Type) (k' : List t.den → St → Option R'), parts τ t ps k' = k' ds (putO ob τ)
  | [], _, σ, k, r, _, h => ⟨[], [], h, Dom.nil, fun _ _ _ _ _ => rfl⟩
  | (i, x) :: ps, _, σ, k, r, hm, h => by
    simp only [parts] at h
    split at h
    · rename_i a hx
      obtain ⟨hc, h⟩ := cond_run h
      obtain ⟨d, ob, h, hd, ha⟩ := give_run (n := n) _ _ _ h
      obtain ⟨ds, oc, h, hd', hb⟩ := parts_run (n := n) (fun y hy => hm y (by simp [hy])) h
      refine ⟨d :: ds, ob ++ oc, by rw [putO_append]; exact h, hd.append hd', fun τ hs hle R' k' => ?_⟩
      simp only [parts]
      rw [ev_same hs (hm (i, x) (by simp)), hx]
      simp only [hc, cond_true]
      rw [ha τ hle, hb (putO ob τ) (fun t ht => by rw [putO_slots, putO_slots]; exact hs t ht) (hle.putO ob), putO_append]
    · simp at h

theorem bind1_run {b : Bnd} {i id : Nat} {k : Bnd → Option R} {r : R} (h : bind1 b i id k = some r) : ∃ b', k b' = some r ∧ ∀ (R' : Type) (k' : Bnd → Option R'), bind1 b i id k' = k' b' := by
  unfold bind1 at h
  split at h
  · rename_i j hj
    obtain ⟨hc, h⟩ := cond_run h
    exact ⟨b, h, fun R' k' => by unfold bind1; rw [hj]; simp only [hc, cond_true]⟩
  · rename_i hj
    cases hv : hasVal b id with
    | true => rw [hv] at h; simp at h
    | false =>
      rw [hv, cond_false] at h
      exact ⟨_, h, fun R' k' => by unfold bind1; rw [hj]; simp only [hv, cond_false]⟩
/-- What a function is given, as data. -/
theorem matchArgs_run {σ : St} : (p : APat) → {R : Type} → (a : AVal) → {b : Bnd} → {k : p.den → Bnd → Option R} → {r : R} → chainP p = true → matchArgs σ p a b k = some r →
    ∃ d b', k d b' = some r ∧ ∀ τ, OLe σ τ → ∀ (R' : Type) (k' : p.den → Bnd → Option R'), matchArgs τ p a b k' = k' d b'
  | .un, _, .un, b, k, r, _, h => ⟨(), b, h, fun _ _ _ _ => rfl⟩
  | .pr (.val t) q, _, .pr x y, b, k, r, hp, h => by
    simp only [matchArgs] at h ⊢
    obtain ⟨d, h, ha⟩ := asData_run _ _ _ h
    obtain ⟨e, b', h, hb⟩ := matchArgs_run q y (by simpa [chainP] using hp) h
    exact ⟨(d, e), b', h, fun τ hle R' k' => by rw [ha τ hle]; exact hb τ hle R' _⟩
  | .un, _, .data _ _, _, _, _, _, h | .un, _, .nilS, _, _, _, _, h | .un, _, .ref _ _ _, _, _, _, _, h | .un, _, .view _ _ _ _ _, _, _, _, _, h | .un, _, .bptr _ _, _, _, _, _, h | .un, _, .eptr _ _ _, _, _, _, _, h | .un, _, .mref _, _, _, _, _, h | .un, _, .nv _ _ _ _, _, _, _, _, h
  | .un, _, .clos _ _, _, _, _, _, h | .un, _, .agg _, _, _, _, _, h | .un, _, .tup _, _, _, _, _, h | .un, _, .pr _ _, _, _, _, _, h => by simp [matchArgs] at h
  | .pr (.val _) _, _, .data _ _, _, _, _, _, h | .pr (.val _) _, _, .nilS, _, _, _, _, h | .pr (.val _) _, _, .ref _ _ _, _, _, _, _, h | .pr (.val _) _, _, .view _ _ _ _ _, _, _, _, _, h | .pr (.val _) _, _, .bptr _ _, _, _, _, _, h | .pr (.val _) _, _, .eptr _ _ _, _, _, _, _, h | .pr (.val _) _, _, .mref _, _, _, _, _, h | .pr (.val _) _, _, .nv _ _ _ _, _, _, _, _, h
  | .pr (.val _) _, _, .clos _ _, _, _, _, _, h | .pr (.val _) _, _, .agg _, _, _, _, _, h | .pr (.val _) _, _, .tup _, _, _, _, _, h | .pr (.val _) _, _, .un, _, _, _, _, h => by simp [matchArgs] at h
  | .val _, _, _, _, _, _, hp, _ | .ref _, _, _, _, _, _, hp, _ | .bptr _, _, _, _, _, _, hp, _ | .clos _ _, _, _, _, _, _, hp, _ | .agg _, _, _, _, _, _, hp, _
  | .pr (.ref _) _, _, _, _, _, _, hp, _ | .pr (.bptr _) _, _, _, _, _, _, hp, _ | .pr (.clos _ _) _, _, _, _, _, _, hp, _ | .pr (.agg _) _, _, _, _, _, _, hp, _ | .pr (.pr _ _) _, _, _, _, _, _, hp, _ | .pr .un _, _, _, _, _, _, hp, _ => by simp [chainP] at hp

def obsOf : Nat → List Obj → List (Nat × Option Obj)
  | _, [] => []
  | n, o :: os => (n, some o) :: obsOf (n + 1) os
theorem addObjs_putO : (os : List Obj) → (n : Nat) → (σ : St) → σ.addObjs n os = putO (obsOf n os) σ
  | [], _, _ => rfl
  | o :: os, n, σ => by simp only [St.addObjs, obsOf, putO]; exact addObjs_putO os (n + 1) _
theorem obsOf_dom {m : Nat} {σ : St} : (os : List Obj) → (n : Nat) → m ≤ n → n + os.length ≤ m + 8 → Dom m σ (obsOf n os)
  | [], _, _, _ => Dom.nil
  | o :: os, n, h1, h2 => by
    intro x hx
    simp only [obsOf, List.mem_cons] at hx
    simp only [List.length_cons] at h2
    rcases hx with rfl | hx
    · exact .inr ⟨h1, by simp only; omega⟩
    · exact obsOf_dom os (n + 1) (by omega) (by omega) x hx

theorem callPure_run {n : Nat} {σ : St} {all : AVal} {p : APat} {res : List Ty} {F : p.den → Option (resDen res)} {f : AVal → St → Option R} {r : R} (h : callPure σ n all p res F f = some r) :
    ∃ v ob, f v (putO ob σ) = some r ∧ Dom n σ ob ∧ ∀ τ, OLe σ τ → ∀ (R' : Type) (f' : AVal → St → Option R'), callPure τ n all p res F f' = f' v (putO ob τ) := by
  unfold callPure at h
  obtain ⟨hc, h⟩ := cond_run h
  have hp : chainP p = true := by simp only [Bool.and_eq_true] at hc; exact hc.1.1
  obtain ⟨d, b, h, ha⟩ := matchArgs_run p all hp h
  obtain ⟨y, hy, h⟩ := Option.bind_eq_some_iff.1 h
  obtain ⟨hl, h⟩ := cond_run h
  rw [addObjs_putO] at h
  refine ⟨_, _, h, obsOf_dom _ _ (Nat.le_refl _) (by have := Nat.le_of_ble_eq_true hl; omega), fun τ hle R' f' => ?_⟩
  unfold callPure
  rw [hc, cond_true, ha τ hle, hy]
  simp only [Option.bind_some, hl, cond_true, addObjs_putO]
theorem callK_run {c : Ctx} {n : Nat} {σ : St} {g args : AVal} {f : AVal → St → Option R} {r : R} (hp : ∀ fid all, calleeOf g args = some (fid, all) → pureC (c.env fid) = true) (h : callK c σ n g args f = some r) :
    ∃ v ob, f v (putO ob σ) = some r ∧ Dom n σ ob ∧ ∀ τ, OLe σ τ → ∀ (R' : Type) (f' : AVal → St → Option R'), callK c τ n g args f' = f' v (putO ob τ) := by
  unfold callK at h
  split at h
  · rename_i fid all hco
    cases hpk : pickC all (c.env fid) with
    | none => rw [hpk] at h; simp at h
    | some x =>
      obtain ⟨p, res, F, rfl⟩ := pureC_pick (hp fid all hco) hpk
      rw [hpk] at h
      obtain ⟨v, ob, h, hd, ha⟩ := callPure_run h
      refine ⟨v, ob, h, hd, fun τ hle R' f' => ?_⟩
      unfold callK
      rw [hco]
      simp only
      rw [hpk]
      exact ha τ hle R' f'
  · simp at h

end Go.Kz
