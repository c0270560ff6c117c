/-
  What an operation makes of a part of a state, it makes of the whole: operation by operation.
-/
import Derived.Test.YtakifbcgkbfclaaKzADC
import Derived.LoopN
set_option linter.unusedVariables false
set_option linter.unusedSimpArgs false
namespace Go.Kz
variable {R : Type}

theorem chk_run {b : Bool} {x : Option R} {r : R} (h : chk b x = some r) : b = true ∧ x = some r := by
  cases b with
  | true => exact ⟨rfl, h⟩
  | false => simp [chk] at h
theorem cond_run {b : Bool} {x : Option R} {r : R} (h : cond b x none = some r) : b = true ∧ x = some r := by
  cases b with
  | true => exact ⟨rfl, h⟩
  | false => simp at h
theorem binInt_run {op : BinOp} {kd : IntKind} {a b : Int} {f : AVal → Option R} {r : R} (h : binInt op kd a b f = some r) : ∃ v, f v = some r ∧ ∀ (R' : Type) (f' : AVal → Option R'), binInt op kd a b f' = f' v := by
  cases op <;> simp only [binInt] at h ⊢
  case quo =>
    cases hb : (b == 0) with
    | true => rw [hb] at h; simp at h
    | false => rw [hb] at h; exact ⟨_, h, fun _ _ => rfl⟩
  case rem =>
    cases hb : (b == 0) with
    | true => rw [hb] at h; simp at h
    | false => rw [hb] at h; exact ⟨_, h, fun _ _ => rfl⟩
  all_goals first
    | exact ⟨_, h, fun _ _ => rfl⟩
    | simp at h
theorem shiftInt_run {op : BinOp} {kd : IntKind} {a b : Int} {f : AVal → Option R} {r : R} (h : shiftInt op kd a b f = some r) : ∃ v, f v = some r ∧ ∀ (R' : Type) (f' : AVal → Option R'), shiftInt op kd a b f' = f' v := by
  cases op <;> simp only [shiftInt] at h ⊢
  case shl =>
    cases hb : decide (b < 0) with
    | true => rw [hb] at h; simp at h
    | false => rw [hb] at h; exact ⟨_, h, fun _ _ => rfl⟩
  case shr =>
    cases hb : decide (b < 0) with
    | true => rw [hb] at h; simp at h
    | false => rw [hb] at h; exact ⟨_, h, fun _ _ => rfl⟩
  all_goals simp at h
theorem binBool_run {op : BinOp} {a b : Bool} {f : AVal → Option R} {r : R} (h : binBool op a b f = some r) : ∃ v, f v = some r ∧ ∀ (R' : Type) (f' : AVal → Option R'), binBool op a b f' = f' v := by
  cases op <;> simp only [binBool] at h ⊢
  all_goals first
    | exact ⟨_, h, fun _ _ => rfl⟩
    | simp at h
theorem eqRes_run {op : BinOp} {b : Bool} {f : AVal → Option R} {r : R} (h : eqRes op b f = some r) : ∃ v, f v = some r ∧ ∀ (R' : Type) (f' : AVal → Option R'), eqRes op b f' = f' v := by
  cases op <;> simp only [eqRes] at h ⊢
  all_goals first
    | exact ⟨_, h, fun _ _ => rfl⟩
    | simp at h
theorem unK_run {op : UnOp} {x : AVal} {f : AVal → Option R} {r : R} (h : unK op x f = some r) : ∃ v, f v = some r ∧ ∀ (R' : Type) (f' : AVal → Option R'), unK op x f' = f' v := by
  unfold unK at h
  split at h
  · exact ⟨_, h, fun _ _ => rfl⟩
  · exact ⟨_, h, fun _ _ => rfl⟩
  · exact ⟨_, h, fun _ _ => rfl⟩
  · simp at h

def binL (σ : St) (q : Bool) (t : Option Ty) (op : BinOp) (x y : AVal) (f : AVal → Option R) : Option R := match t with
  | some (.pair a b) => cond (q && eqTy (.pair a b) && x.val && y.val) (asData σ 20 x (.pair a b) fun d => asData σ 20 y (.pair a b) fun e => eqRes op (eqD (.pair a b) d e) f) none
  | _ => none
theorem binL_run {σ : St} {q : Bool} {t : Option Ty} {op : BinOp} {x y : AVal} {f : AVal → Option R} {r : R} (h : binL σ q t op x y f = some r) :
    ∃ v, f v = some r ∧ ∀ τ, OLe σ τ → ∀ (R' : Type) (f' : AVal → Option R'), binL τ q t op x y f' = f' v := by
  unfold binL at h
  split at h
  · rename_i a b
    obtain ⟨hc, h⟩ := cond_run h
    obtain ⟨d, h, h1⟩ := asData_run _ _ _ h
    obtain ⟨e, h, h2⟩ := asData_run _ _ _ h
    obtain ⟨v, h, h3⟩ := eqRes_run h
    refine ⟨v, h, fun τ hle R' f' => ?_⟩
    simp only [binL, hc, cond_true]
    rw [h1 τ hle, h2 τ hle, h3]
  · simp at h
theorem binK_run {σ : St} {q : Bool} {t : Option Ty} {op : BinOp} {x y : AVal} {f : AVal → Option R} {r : R} (h : binK σ q t op x y f = some r) :
    ∃ v, f v = some r ∧ ∀ τ, OLe σ τ → ∀ (R' : Type) (f' : AVal → Option R'), binK τ q t op x y f' = f' v := by
  by_cases h1 : ∃ k a j b, x = .data (.int k) a ∧ y = .data (.int j) b
  · obtain ⟨kd, a, j, b, rfl, rfl⟩ := h1
    simp only [binK] at h ⊢
    cases hs : isShift op with
    | true =>
      rw [hs] at h
      simp only [cond_true] at h ⊢
      obtain ⟨v, h, ha⟩ := shiftInt_run h
      exact ⟨v, h, fun τ _ R' f' => ha R' f'⟩
    | false =>
      rw [hs] at h
      simp only [cond_false] at h ⊢
      split at h
      · obtain ⟨v, h, ha⟩ := binInt_run h
        exact ⟨v, h, fun τ _ R' f' => ha R' f'⟩
      · simp at h
  · by_cases h2 : ∃ a b, x = .data .bool a ∧ y = .data .bool b
    · obtain ⟨a, b, rfl, rfl⟩ := h2
      simp only [binK] at h ⊢
      split at h
      · obtain ⟨v, h, ha⟩ := binBool_run h
        exact ⟨v, h, fun τ _ R' f' => ha R' f'⟩
      · simp at h
    · have e : ∀ (σ : St) (R' : Type) (f' : AVal → Option R'), binK σ q t op x y f' = binL σ q t op x y f' := by
        intro σ R' f'
        unfold binK binL
        split
        · exact absurd ⟨_, _, _, _, rfl, rfl⟩ h1
        · exact absurd ⟨_, _, rfl, rfl⟩ h2
        · rfl
      rw [e] at h
      obtain ⟨v, h, ha⟩ := binL_run h
      exact ⟨v, h, fun τ hle R' f' => by rw [e]; exact ha τ hle R' f'⟩

theorem holds_run {σ τ : St} {a : AVal} (hle : OLe σ τ) (h : holds σ a = true) : holds τ a = true := by
  unfold holds at h ⊢
  split at h
  · rfl
  · rename_i id _
    split at h
    · rename_i ho; rw [hle _ _ ho]
    · simp at h
  · rename_i id _ ep
    split at h
    · rename_i ho; simp only [hle _ _ ho]; exact h
    · simp at h
  · rename_i id _ ep
    split at h
    · rename_i ho; simp only [hle _ _ ho]; exact h
    · simp at h
  · simp at h

theorem lenK_run {σ : St} {x : AVal} {f : Int → Option R} {r : R} (h : lenK σ x f = some r) : ∃ v, f v = some r ∧ ∀ τ, OLe σ τ → ∀ (R' : Type) (f' : Int → Option R'), lenK τ x f' = f' v := by
  unfold lenK at h
  split at h
  · exact ⟨_, h, fun _ _ _ _ => rfl⟩
  · exact ⟨_, h, fun _ _ _ _ => rfl⟩
  · obtain ⟨u, l, h, ha⟩ := fetchK_run h
    exact ⟨_, h, fun τ hle R' f' => by simp only [lenK]; rw [ha τ hle]⟩
  · obtain ⟨u, l, h, ha⟩ := fetchK_run h
    exact ⟨_, h, fun τ hle R' f' => by simp only [lenK]; rw [ha τ hle]⟩
  · obtain ⟨u, l, h, ha⟩ := nrowK_run h
    exact ⟨_, h, fun τ hle R' f' => by simp only [lenK]; rw [(ha τ hle).2]⟩
  · simp at h
theorem mapK_run {σ : St} {mt : Option (Ty × Ty)} {a : AVal} {f : (id : Nat) → (kt vt : Ty) → List (kt.den × vt.den) → Option R} {r : R} (h : mapK σ mt a f = some r) :
    ∃ id kt vt m, (∃ y, σ.objs id = some y) ∧ f id kt vt m = some r ∧ ∀ τ, OLe σ τ → ∀ (R' : Type) (f' : (id : Nat) → (kt vt : Ty) → List (kt.den × vt.den) → Option R'), mapK τ mt a f' = f' id kt vt m := by
  unfold mapK at h
  split at h
  · rename_i id kt' vt'
    split at h
    · rename_i kt vt m ho
      cases hc : ((Ty.same kt kt').isSome && (Ty.same vt vt').isSome && keyTy kt && vt.noSl) with
      | false => rw [hc] at h; simp at h
      | true =>
        rw [hc, cond_true] at h
        refine ⟨id, kt, vt, m, ⟨_, ho⟩, h, fun τ hle R' f' => ?_⟩
        simp only [mapK]
        rw [hle _ _ ho]
        simp only [hc, cond_true]
    · simp at h
  · simp at h
theorem sliceK_run {σ : St} {u : Ty} {x : AVal} {lo : Int} {hi : Option Int} {f : AVal → Option R} {r : R} (h : sliceK σ u x lo hi f = some r) :
    ∃ v, f v = some r ∧ ∀ τ, OLe σ τ → ∀ (R' : Type) (f' : AVal → Option R'), sliceK τ u x lo hi f' = f' v := by
  unfold sliceK at h
  split at h
  · obtain ⟨hb, h⟩ := chk_run h
    exact ⟨_, h, fun τ _ R' f' => by simp only [sliceK, hb, chk, cond_true]⟩
  · obtain ⟨hc, h⟩ := cond_run h
    obtain ⟨hb, h⟩ := chk_run h
    exact ⟨_, h, fun τ _ R' f' => by simp only [sliceK, hc, hb, chk, cond_true]⟩
  · obtain ⟨t, l, h, ha⟩ := fetchK_run h
    obtain ⟨hc, h⟩ := cond_run h
    obtain ⟨hb, h⟩ := chk_run h
    exact ⟨_, h, fun τ hle R' f' => by simp only [sliceK]; rw [ha τ hle]; simp only [hc, hb, chk, cond_true]⟩
  · simp at h
theorem foldInts_run {g : Int → Int → Int} {kd : IntKind} : {c : AVal} → {x : Int} → {f : Int → Option R} → {r : R} → foldInts g kd x c f = some r → ∃ v, f v = some r ∧ ∀ (R' : Type) (f' : Int → Option R'), foldInts g kd x c f' = f' v
  | .un, x, f, r, h => ⟨x, h, fun _ _ => rfl⟩
  | .pr (.data (.int j) y) c, x, f, r, h => by
    simp only [foldInts] at h ⊢
    split at h
    · rename_i he _
      obtain ⟨v, h, ha⟩ := foldInts_run (c := c) h
      refine ⟨v, h, fun R' f' => ?_⟩
      exact ha R' f'
    · simp at h
  | .data _ _, _, _, _, h => by simp [foldInts] at h
  | .nilS, _, _, _, h => by simp [foldInts] at h
  | .ref _ _ _, _, _, _, h => by simp [foldInts] at h
  | .view _ _ _ _ _, _, _, _, h => by simp [foldInts] at h
  | .bptr _ _, _, _, _, h => by simp [foldInts] at h
  | .eptr _ _ _, _, _, _, h => by simp [foldInts] at h
  | .mref _, _, _, _, h => by simp [foldInts] at h
  | .nv _ _ _ _, _, _, _, h => by simp [foldInts] at h
  | .clos _ _, _, _, _, h => by simp [foldInts] at h
  | .agg _, _, _, _, h => by simp [foldInts] at h
  | .tup _, _, _, _, h => by simp [foldInts] at h
  | .pr (.data .bool _) _, _, _, _, h => by simp [foldInts] at h
  | .pr (.data .str _) _, _, _, _, h => by simp [foldInts] at h
  | .pr (.data .unit _) _, _, _, _, h => by simp [foldInts] at h
  | .pr (.data (.pair _ _) _) _, _, _, _, h => by simp [foldInts] at h
  | .pr (.data (.arr _ _) _) _, _, _, _, h => by simp [foldInts] at h
  | .pr (.data (.sl _ _) _) _, _, _, _, h => by simp [foldInts] at h
  | .pr (.data (.ptr _) _) _, _, _, _, h => by simp [foldInts] at h
  | .pr (.data (.fn _ _) _) _, _, _, _, h => by simp [foldInts] at h
  | .pr .nilS _, _, _, _, h => by simp [foldInts] at h
  | .pr (.ref _ _ _) _, _, _, _, h => by simp [foldInts] at h
  | .pr (.view _ _ _ _ _) _, _, _, _, h => by simp [foldInts] at h
  | .pr (.bptr _ _) _, _, _, _, h => by simp [foldInts] at h
  | .pr (.eptr _ _ _) _, _, _, _, h => by simp [foldInts] at h
  | .pr (.mref _) _, _, _, _, h => by simp [foldInts] at h
  | .pr (.nv _ _ _ _) _, _, _, _, h => by simp [foldInts] at h
  | .pr (.clos _ _) _, _, _, _, h => by simp [foldInts] at h
  | .pr (.agg _) _, _, _, _, h => by simp [foldInts] at h
  | .pr (.tup _) _, _, _, _, h => by simp [foldInts] at h
  | .pr (.pr _ _) _, _, _, _, h => by simp [foldInts] at h
  | .pr .un _, _, _, _, h => by simp [foldInts] at h

theorem indexK_run {σ : St} {u : Ty} {x : AVal} {i : Int} {f : AVal → Option R} {r : R} (h : indexK σ u x i f = some r) :
    ∃ v, f v = some r ∧ ∀ τ, OLe σ τ → ∀ (R' : Type) (f' : AVal → Option R'), indexK τ u x i f' = f' v := by
  unfold indexK at h
  split at h
  · obtain ⟨hc, h⟩ := cond_run h
    obtain ⟨d, hd, h⟩ := Option.bind_eq_some_iff.1 h
    exact ⟨_, h, fun τ _ R' f' => by simp only [indexK, hc, cond_true, hd, Option.bind_some]⟩
  · obtain ⟨hc, h⟩ := cond_run h
    obtain ⟨d, hd, h⟩ := Option.bind_eq_some_iff.1 h
    exact ⟨_, h, fun τ _ R' f' => by simp only [indexK, hc, cond_true, hd, Option.bind_some]⟩
  · obtain ⟨t, l, h, ha⟩ := fetchK_run h
    obtain ⟨hc, h⟩ := cond_run h
    obtain ⟨hb, h⟩ := chk_run h
    exact ⟨_, h, fun τ hle R' f' => by simp only [indexK]; rw [ha τ hle]; simp only [hc, hb, chk, cond_true]⟩
  · obtain ⟨t, l, h, ha⟩ := fetchK_run h
    obtain ⟨hc, h⟩ := cond_run h
    obtain ⟨hb, h⟩ := chk_run h
    exact ⟨_, h, fun τ hle R' f' => by simp only [indexK]; rw [ha τ hle]; simp only [hc, hb, chk, cond_true]⟩
  · rename_i id p ep _ u
    obtain ⟨t, l, h, ha⟩ := nrowK_run h
    obtain ⟨hc, h⟩ := cond_run h
    obtain ⟨hb, h⟩ := chk_run h
    exact ⟨_, h, fun τ hle R' f' => by simp only [indexK]; rw [(ha τ hle).2]; simp only [hc, hb, chk, cond_true, (ha τ hle).1]⟩
  · obtain ⟨a, h, ha⟩ := bfetchK_run h
    split at h
    · obtain ⟨hc, h⟩ := cond_run h
      obtain ⟨hb, h⟩ := chk_run h
      exact ⟨_, h, fun τ hle R' f' => by simp only [indexK]; rw [ha τ hle]; simp only [hc, hb, chk, cond_true]⟩
    · simp at h
  · simp at h
theorem loadK_run {σ : St} {x : AVal} {f : AVal → Option R} {r : R} (h : loadK σ x f = some r) :
    ∃ v, f v = some r ∧ ∀ τ, OLe σ τ → ∀ (R' : Type) (f' : AVal → Option R'), loadK τ x f' = f' v := by
  unfold loadK at h
  split at h
  · exact ⟨_, h, fun _ _ _ _ => rfl⟩
  · split at h
    · simp at h
    · obtain ⟨u, d, h, ha⟩ := efetchK_run h
      exact ⟨_, h, fun τ hle R' f' => by simp only [loadK]; rw [ha τ hle]⟩
  · obtain ⟨a, h, ha⟩ := bfetchK_run h
    exact ⟨_, h, fun τ hle R' f' => by simp only [loadK]; rw [ha τ hle]⟩
  · rename_i id p ep
    obtain ⟨u, d, h, ha⟩ := nfetchK_run h
    cases hro : u.isRo with
    | true =>
      rw [hro] at h
      exact ⟨_, h, fun τ hle R' f' => by simp only [loadK]; rw [(ha τ hle).2]; simp only [hro, cond_true]⟩
    | false =>
      rw [hro, cond_false] at h
      split at h
      · exact ⟨_, h, fun τ hle R' f' => by simp only [loadK]; rw [(ha τ hle).2]; simp only [hro, cond_false]⟩
      · simp at h
  · simp at h
theorem fieldK_run {σ : St} {u : Ty} {x : AVal} {i : Nat} {f : AVal → Option R} {r : R} (h : fieldK σ u x i f = some r) :
    ∃ v, f v = some r ∧ ∀ τ, OLe σ τ → ∀ (R' : Type) (f' : AVal → Option R'), fieldK τ u x i f' = f' v := by
  unfold fieldK at h
  split at h
  · obtain ⟨hc, h⟩ := cond_run h
    obtain ⟨v, e, h, ha⟩ := getK_run _ _ _ h
    exact ⟨_, h, fun τ _ R' f' => by simp only [fieldK, hc, cond_true]; rw [ha]⟩
  · obtain ⟨a, h, ha⟩ := bfetchK_run h
    obtain ⟨hc, h⟩ := cond_run h
    exact ⟨_, h, fun τ hle R' f' => by simp only [fieldK]; rw [ha τ hle]; simp only [hc, cond_true]⟩
  · split at h
    · simp at h
    · obtain ⟨t, d, h, ha⟩ := efetchK_run h
      obtain ⟨hc, h⟩ := cond_run h
      exact ⟨_, h, fun τ hle R' f' => by simp only [fieldK]; rw [ha τ hle]; simp only [hc, cond_true]⟩
  · obtain ⟨t, d, h, ha⟩ := nfetchK_run h
    obtain ⟨hc, h⟩ := cond_run h
    exact ⟨_, h, fun τ hle R' f' => by simp only [fieldK]; rw [(ha τ hle).2]; simp only [hc, cond_true]⟩
  · simp at h
theorem tailK_run {σ : St} {t : Ty} {x : AVal} {f : List t.den → Option R} {r : R} (h : tailK σ t x f = some r) :
    ∃ v, f v = some r ∧ ∀ τ, OLe σ τ → ∀ (R' : Type) (f' : List t.den → Option R'), tailK τ t x f' = f' v := by
  unfold tailK at h
  obtain ⟨hc, h⟩ := cond_run h
  obtain ⟨d, h, ha⟩ := asData_run _ _ _ h
  exact ⟨d, h, fun τ hle R' f' => by unfold tailK; rw [hc, cond_true]; exact ha τ hle R' f'⟩
theorem elemTy_run {σ τ : St} (hle : OLe σ τ) {x : AVal} {t : Ty} (h : elemTy σ x = some t) : elemTy τ x = some t := by
  unfold elemTy at h ⊢
  split at h
  · exact h
  · obtain ⟨u, l, h, ha⟩ := fetchK_run h
    rw [ha τ hle]; exact h
  · obtain ⟨u, l, h, ha⟩ := fetchK_run h
    rw [ha τ hle]; exact h
  · obtain ⟨u, l, h, ha⟩ := nrowK_run h
    rw [(ha τ hle).2]; exact h
  · simp at h

theorem giveRow_run {n : Nat} {σ : St} {a : AVal} {v : Ty} {k : List v.den → St → Option R} {r : R} (h : giveRow σ a v k = some r) :
    ∃ d ob, k d (putO ob σ) = some r ∧ Dom n σ ob ∧ ∀ τ, OLe σ τ → ∀ (R' : Type) (k' : List v.den → St → Option R'), giveRow τ a v k' = k' d (putO ob τ) := by
  unfold giveRow at h
  split at h
  · exact ⟨[], [], h, Dom.nil, fun _ _ _ _ => rfl⟩
  · rename_i id ep
    split at h
    · rename_i t l e ho
      obtain ⟨hc, h⟩ := cond_run h
      obtain ⟨d, h, ha⟩ := castK_run h
      refine ⟨d, [(id, none)], h, Dom.old ho, fun τ hle R' k' => ?_⟩
      simp only [giveRow]
      rw [hle _ _ ho]
      simp only [hc, cond_true]
      exact ha R' _
    · simp at h
  · simp at h
theorem fillK_run {n : Nat} {σ : St} {id : Nat} {t : Ty} {l : List t.den} {e i : Nat} {h0 : Option Path} {p : Path} {a : AVal} {f : St → Option R} {r : R} (ho : σ.objs id = some (.nest t l e i h0)) (h : fillK σ id t l e i p a f = some r) :
    ∃ ob, f (putO ob σ) = some r ∧ Dom n σ ob ∧ ∀ τ, OLe σ τ → ∀ (R' : Type) (f' : St → Option R'), fillK τ id t l e i p a f' = f' (putO ob τ) := by
  unfold fillK at h
  split at h
  · rename_i v hv
    obtain ⟨hc, h⟩ := cond_run h
    obtain ⟨d, ob, h, hd, ha⟩ := giveRow_run (n := n) h
    obtain ⟨l', h, hs⟩ := setK_run _ _ _ h
    refine ⟨ob ++ [(id, some (.nest t l' e (i + 1) none))], by rw [putO_append]; exact h, ?_, fun τ hle R' f' => ?_⟩
    · intro x hx
      rcases List.mem_append.1 hx with hx | hx
      · exact hd x hx
      · exact Dom.old ho x hx
    · unfold fillK
      rw [hv]
      simp only [hc, cond_true]
      rw [ha τ hle, hs, putO_append]
      rfl
  · simp at h
theorem nstoreK_run {n : Nat} {σ : St} {id : Nat} {p : Path} {ep : Nat} {a : AVal} {f : St → Option R} {r : R} (h : nstoreK σ id p ep a f = some r) :
    ∃ ob, f (putO ob σ) = some r ∧ Dom n σ ob ∧ ∀ τ, OLe σ τ → ∀ (R' : Type) (f' : St → Option R'), nstoreK τ id p ep a f' = f' (putO ob τ) := by
  unfold nstoreK at h
  split at h
  · rename_i t l e i ho
    obtain ⟨hc, h⟩ := cond_run h
    cases hs : (tyR t p).isSome with
    | true =>
      rw [hs, cond_true] at h
      obtain ⟨ob, h, hd, ha⟩ := fillK_run (n := n) ho h
      refine ⟨ob, h, hd, fun τ hle R' f' => ?_⟩
      unfold nstoreK
      rw [hle _ _ ho]
      simp only [hc, hs, cond_true]
      exact ha τ hle R' f'
    | false =>
      rw [hs, cond_false] at h
      split at h
      · rename_i s p1 j q hl
        obtain ⟨U, X, h, hg1⟩ := getK_run _ _ _ h
        split at h
        · rename_i v l1
          obtain ⟨hro, h⟩ := cond_run h
          obtain ⟨u, x, h, hg2⟩ := getK_run _ _ _ h
          obtain ⟨d, ob, h, hd, hb⟩ := give_run (n := n) _ _ _ h
          split at h
          · rename_i t2 l2 e2 i2 ho2
            obtain ⟨l1', h, hs1⟩ := setK_run _ _ _ h
            obtain ⟨l', h, hs2⟩ := setK_run _ _ _ h
            refine ⟨ob ++ [(id, some (.nest t l' e i none))], by rw [putO_append]; exact h, ?_, fun τ hle R' f' => ?_⟩
            · intro x hx
              rcases List.mem_append.1 hx with hx | hx
              · exact hd x hx
              · exact Dom.old ho x hx
            · unfold nstoreK
              rw [hle _ _ ho]
              simp only [hc, hs, cond_true, cond_false, hl]
              rw [hg1]
              simp only [hro, cond_true]
              rw [hg2, hb τ hle, hle.putO ob _ _ ho2]
              simp only
              rw [hs1, hs2, putO_append]
              rfl
          · simp at h
        · simp at h
      · simp at h
  · rename_i t l e i h0 ho
    obtain ⟨hc, h⟩ := cond_run h
    obtain ⟨hp, h⟩ := chk_run h
    obtain ⟨ob, h, hd, ha⟩ := fillK_run (n := n) ho h
    refine ⟨ob, h, hd, fun τ hle R' f' => ?_⟩
    unfold nstoreK
    rw [hle _ _ ho]
    simp only [hc, hp, chk, cond_true]
    exact ha τ hle R' f'
  · simp at h

theorem storeK_run {n : Nat} {σ : St} {x a : AVal} {f : St → Option R} {r : R} (h : storeK σ x a f = some r) :
    ∃ ob, f (putO ob σ) = some r ∧ Dom n σ ob ∧ ∀ τ, OLe σ τ → ∀ (R' : Type) (f' : St → Option R'), storeK τ x a f' = f' (putO ob τ) := by
  unfold storeK at h
  split at h
  · rename_i id p ep
    split at h
    · simp at h
    · rename_i s q
      obtain ⟨u, e, h, ha⟩ := efetchK_run h
      obtain ⟨d, ob, h, hd, hb⟩ := give_run (n := n) _ _ _ h
      split at h
      · rename_i t l e' ho
        obtain ⟨hc, h⟩ := cond_run h
        obtain ⟨l', h, hs⟩ := setK_run _ _ _ h
        refine ⟨ob ++ [(id, some (.row t l' e'))], by rw [putO_append]; exact h, hd.append (Dom.old ho), fun τ hle R' f' => ?_⟩
        simp only [storeK]
        rw [ha τ hle, hb τ hle]
        rw [hle.putO ob _ _ ho]
        simp only [hc, cond_true]
        rw [hs, putO_append]
        rfl
      · simp at h
  · rename_i id p
    split at h
    · rename_i whole ho
      obtain ⟨old, h, ha⟩ := getA_run h
      obtain ⟨hc, h⟩ := cond_run h
      obtain ⟨w, h, hs⟩ := setA_run _ _ h
      refine ⟨[(id, some (.cell w))], h, Dom.old ho, fun τ hle R' f' => ?_⟩
      simp only [storeK]
      rw [hle _ _ ho]
      simp only
      rw [ha]
      simp only [hc, cond_true]
      rw [hs]; rfl
    · simp at h
  · obtain ⟨ob, h, hd, ha⟩ := nstoreK_run (n := n) h
    exact ⟨ob, h, hd, fun τ hle R' f' => by simp only [storeK]; exact ha τ hle R' f'⟩
  · simp at h

theorem appendK_run {n : Nat} {σ : St} {u : Ty} {s x : AVal} {f : AVal → St → Option R} {r : R} (h : appendK σ n u s x f = some r) :
    ∃ v ob, f v (putO ob σ) = some r ∧ Dom n σ ob ∧ ∀ τ, OLe σ τ → ∀ (R' : Type) (f' : AVal → St → Option R'), appendK τ n u s x f' = f' v (putO ob τ) := by
  unfold appendK at h
  split at h
  · split at h
    · rename_i t ht
      obtain ⟨hc, h⟩ := cond_run h
      obtain ⟨m, h, ha⟩ := tailK_run h
      obtain ⟨hb, h⟩ := chk_run h
      refine ⟨_, [(n, some (.row t m 1))], h, Dom.new, fun τ hle R' f' => ?_⟩
      simp only [appendK]
      rw [elemTy_run hle ht]
      simp only [hc, cond_true]
      rw [ha τ hle, hb]; rfl
    · simp at h
  · rename_i id ep
    split at h
    · rename_i t l e ho
      obtain ⟨hc, h⟩ := cond_run h
      obtain ⟨m, h, ha⟩ := tailK_run h
      obtain ⟨hb, h⟩ := chk_run h
      refine ⟨_, [(id, some (.row t (l ++ m) (e + 1)))], h, Dom.old ho, fun τ hle R' f' => ?_⟩
      simp only [appendK]
      rw [hle _ _ ho]
      simp only [hc, cond_true]
      rw [ha τ hle, hb]; rfl
    · simp at h
  · rename_i id ep a b
    split at h
    · rename_i t l e ho
      obtain ⟨hc, h⟩ := cond_run h
      obtain ⟨m, h, ha⟩ := tailK_run h
      obtain ⟨hb, h⟩ := chk_run h
      refine ⟨_, [(id, some (.row t (sub l a b ++ m) (e + 2)))], h, Dom.old ho, fun τ hle R' f' => ?_⟩
      simp only [appendK]
      rw [hle _ _ ho]
      simp only [hc, cond_true]
      rw [ha τ hle, hb]; rfl
    · simp at h
  · rename_i id q p ep
    split at h
    · rename_i t l e i ho
      obtain ⟨hc, h⟩ := cond_run h
      obtain ⟨U, X, h, hg⟩ := getK_run _ _ _ h
      split at h
      · rename_i v l1
        obtain ⟨hc2, h⟩ := cond_run h
        obtain ⟨m, h, ha⟩ := tailK_run h
        obtain ⟨hb, h⟩ := chk_run h
        refine ⟨_, [(id, some (.nest t l e i (some (q :: p))))] ++ [(n, some (.row v (l1 ++ m) 1))], h, Dom.append (Dom.old ho) Dom.new, fun τ hle R' f' => ?_⟩
        simp only [appendK]
        rw [hle _ _ ho]
        simp only [hc, cond_true]
        rw [hg]
        simp only [hc2, cond_true]
        rw [ha τ hle, hb]; rfl
      · simp at h
    · simp at h
  · simp at h

theorem parts_run {n : Nat} {lo : List Operand} {t : Ty} : {ps : List (Nat × Operand)} → {R : Type} → {σ : St} → {k : List t.den → St → Option R} → {r : R} → (∀ x ∈ ps, x.2 ∈ lo) → parts σ t ps k = some r →
    ∃ ds ob, k ds (putO ob σ) = some r ∧ Dom n σ ob ∧ ∀ τ, SameAt lo σ τ → OLe σ τ → ∀ (R' : Type) (k' : List t.den → St → Option R'), parts τ t ps k' = k' ds (putO ob τ)
  | [], _, σ, k, r, _, h => ⟨[], [], h, Dom.nil, fun _ _ _ _ _ => rfl⟩
  | (i, x) :: ps, _, σ, k, r, hm, h => by
    simp only [parts] at h
    split at h
    · rename_i a hx
      obtain ⟨hc, h⟩ := cond_run h
      obtain ⟨d, ob, h, hd, ha⟩ := give_run (n := n) _ _ _ h
      obtain ⟨ds, oc, h, hd', hb⟩ := parts_run (n := n) (fun y hy => hm y (by simp [hy])) h
      refine ⟨d :: ds, ob ++ oc, by rw [putO_append]; exact h, hd.append hd', fun τ hs hle R' k' => ?_⟩
      simp only [parts]
      rw [ev_same hs (hm (i, x) (by simp)), hx]
      simp only [hc, cond_true]
      rw [ha τ hle, hb (putO ob τ) (fun t ht => by rw [putO_slots, putO_slots]; exact hs t ht) (hle.putO ob), putO_append]
    · simp at h

theorem bind1_run {b : Bnd} {i id : Nat} {k : Bnd → Option R} {r : R} (h : bind1 b i id k = some r) : ∃ b', k b' = some r ∧ ∀ (R' : Type) (k' : Bnd → Option R'), bind1 b i id k' = k' b' := by
  unfold bind1 at h
  split at h
  · rename_i j hj
    obtain ⟨hc, h⟩ := cond_run h
    exact ⟨b, h, fun R' k' => by unfold bind1; rw [hj]; simp only [hc, cond_true]⟩
  · rename_i hj
    cases hv : hasVal b id with
    | true => rw [hv] at h; simp at h
    | false =>
      rw [hv, cond_false] at h
      exact ⟨_, h, fun R' k' => by unfold bind1; rw [hj]; simp only [hv, cond_false]⟩
/-- What a function is given, as data. -/
theorem matchArgs_run {σ : St} : (p : APat) → {R : Type} → (a : AVal) → {b : Bnd} → {k : p.den → Bnd → Option R} → {r : R} → chainP p = true → matchArgs σ p a b k = some r →
    ∃ d b', k d b' = some r ∧ ∀ τ, OLe σ τ → ∀ (R' : Type) (k' : p.den → Bnd → Option R'), matchArgs τ p a b k' = k' d b'
  | .un, _, .un, b, k, r, _, h => ⟨(), b, h, fun _ _ _ _ => rfl⟩
  | .pr (.val t) q, _, .pr x y, b, k, r, hp, h => by
    simp only [matchArgs] at h ⊢
    obtain ⟨d, h, ha⟩ := asData_run _ _ _ h
    obtain ⟨e, b', h, hb⟩ := matchArgs_run q y (by simpa [chainP] using hp) h
    exact ⟨(d, e), b', h, fun τ hle R' k' => by rw [ha τ hle]; exact hb τ hle R' _⟩
  | .un, _, .data _ _, _, _, _, _, h | .un, _, .nilS, _, _, _, _, h | .un, _, .ref _ _ _, _, _, _, _, h | .un, _, .view _ _ _ _ _, _, _, _, _, h | .un, _, .bptr _ _, _, _, _, _, h | .un, _, .eptr _ _ _, _, _, _, _, h | .un, _, .mref _, _, _, _, _, h | .un, _, .nv _ _ _ _, _, _, _, _, h
  | .un, _, .clos _ _, _, _, _, _, h | .un, _, .agg _, _, _, _, _, h | .un, _, .tup _, _, _, _, _, h | .un, _, .pr _ _, _, _, _, _, h => by simp [matchArgs] at h
  | .pr (.val _) _, _, .data _ _, _, _, _, _, h | .pr (.val _) _, _, .nilS, _, _, _, _, h | .pr (.val _) _, _, .ref _ _ _, _, _, _, _, h | .pr (.val _) _, _, .view _ _ _ _ _, _, _, _, _, h | .pr (.val _) _, _, .bptr _ _, _, _, _, _, h | .pr (.val _) _, _, .eptr _ _ _, _, _, _, _, h | .pr (.val _) _, _, .mref _, _, _, _, _, h | .pr (.val _) _, _, .nv _ _ _ _, _, _, _, _, h
  | .pr (.val _) _, _, .clos _ _, _, _, _, _, h | .pr (.val _) _, _, .agg _, _, _, _, _, h | .pr (.val _) _, _, .tup _, _, _, _, _, h | .pr (.val _) _, _, .un, _, _, _, _, h => by simp [matchArgs] at h
  | .val _, _, _, _, _, _, hp, _ | .ref _, _, _, _, _, _, hp, _ | .bptr _, _, _, _, _, _, hp, _ | .clos _ _, _, _, _, _, _, hp, _ | .agg _, _, _, _, _, _, hp, _
  | .pr (.ref _) _, _, _, _, _, _, hp, _ | .pr (.bptr _) _, _, _, _, _, _, hp, _ | .pr (.clos _ _) _, _, _, _, _, _, hp, _ | .pr (.agg _) _, _, _, _, _, _, hp, _ | .pr (.pr _ _) _, _, _, _, _, _, hp, _ | .pr .un _, _, _, _, _, _, hp, _ => by simp [chainP] at hp

def obsOf : Nat → List Obj → List (Nat × Option Obj)
  | _, [] => []
  | n, o :: os => (n, some o) :: obsOf (n + 1) os
theorem addObjs_putO : (os : List Obj) → (n : Nat) → (σ : St) → σ.addObjs n os = putO (obsOf n os) σ
  | [], _, _ => rfl
  | o :: os, n, σ => by simp only [St.addObjs, obsOf, putO]; exact addObjs_putO os (n + 1) _
theorem obsOf_dom {m : Nat} {σ : St} : (os : List Obj) → (n : Nat) → m ≤ n → n + os.length ≤ m + 8 → Dom m σ (obsOf n os)
  | [], _, _, _ => Dom.nil
  | o :: os, n, h1, h2 => by
    intro x hx
    simp only [obsOf, List.mem_cons] at hx
    simp only [List.length_cons] at h2
    rcases hx with rfl | hx
    · exact .inr ⟨h1, by simp only; omega⟩
    · exact obsOf_dom os (n + 1) (by omega) (by omega) x hx

theorem callPure_run {n : Nat} {σ : St} {all : AVal} {p : APat} {res : List Ty} {F : p.den → Option (resDen res)} {f : AVal → St → Option R} {r : R} (h : callPure σ n all p res F f = some r) :
    ∃ v ob, f v (putO ob σ) = some r ∧ Dom n σ ob ∧ ∀ τ, OLe σ τ → ∀ (R' : Type) (f' : AVal → St → Option R'), callPure τ n all p res F f' = f' v (putO ob τ) := by
  unfold callPure at h
  obtain ⟨hc, h⟩ := cond_run h
  have hp : chainP p = true := by simp only [Bool.and_eq_true] at hc; exact hc.1.1
  obtain ⟨d, b, h, ha⟩ := matchArgs_run p all hp h
  obtain ⟨y, hy, h⟩ := Option.bind_eq_some_iff.1 h
  obtain ⟨hl, h⟩ := cond_run h
  rw [addObjs_putO] at h
  refine ⟨_, _, h, obsOf_dom _ _ (Nat.le_refl _) (by have := Nat.le_of_ble_eq_true hl; omega), fun τ hle R' f' => ?_⟩
  unfold callPure
  rw [hc, cond_true, ha τ hle, hy]
  simp only [Option.bind_some, hl, cond_true, addObjs_putO]
theorem callK_run {c : Ctx} {n : Nat} {σ : St} {g args : AVal} {f : AVal → St → Option R} {r : R} (hp : ∀ fid all, calleeOf g args = some (fid, all) → pureC (c.env fid) = true) (h : callK c σ n g args f = some r) :
    ∃ v ob, f v (putO ob σ) = some r ∧ Dom n σ ob ∧ ∀ τ, OLe σ τ → ∀ (R' : Type) (f' : AVal → St → Option R'), callK c τ n g args f' = f' v (putO ob τ) := by
  unfold callK at h
  split at h
  · rename_i fid all hco
    cases hpk : pickC all (c.env fid) with
    | none => rw [hpk] at h; simp at h
    | some x =>
      obtain ⟨p, res, F, rfl⟩ := pureC_pick (hp fid all hco) hpk
      rw [hpk] at h
      obtain ⟨v, ob, h, hd, ha⟩ := callPure_run h
      refine ⟨v, ob, h, hd, fun τ hle R' f' => ?_⟩
      unfold callK
      rw [hco]
      simp only
      rw [hpk]
      exact ha τ hle R' f'
  · simp at h

end Go.Kz

/-
  What an operation makes of a part of a state, it makes of the whole: every operation.
-/
namespace Go.Kz
variable {R : Type}

/-- What an operation leaves: a value in a slot, objects. -/
structure Eff where
  sl : Option (Nat × AVal)
  ob : List (Nat × Option Obj)
def Eff.slot (e : Eff) (σ : St) : St := match e.sl with
  | some (d, v) => σ.set d v
  | none => σ
def Eff.app (e : Eff) (σ : St) : St := putO e.ob (e.slot σ)

structure Run (c : Ctx) (σ : St) (n : Nat) (o : Oper) (e : Eff) : Prop where
  sl : ∀ d v, e.sl = some (d, v) → o.dst = some d
  ob : Dom n σ e.ob
  eq : ∀ τ, SameAt o.op.operands.toList σ τ → OLe σ τ → ∀ (R' : Type) (k' : St → Option R'), opK0 c τ n o k' = k' (e.app τ)
  y : isY0 o = true → e.ob = []

theorem putO_set (d : Nat) (v : AVal) : (l : List (Nat × Option Obj)) → (σ : St) → (putO l σ).set d v = putO l (σ.set d v)
  | [], _ => rfl
  | (i, o) :: l, σ => by simp only [putO]; rw [putO_set d v l]; rfl

theorem putK_run {c : Ctx} {σ : St} {d : Option Nat} {v : AVal} {k : St → Option R} {r : R} (h : σ.putK c d v k = some r) :
    ∃ sl : Option (Nat × AVal), (∀ d' v', sl = some (d', v') → d = some d') ∧ k (Eff.slot ⟨sl, []⟩ σ) = some r ∧ ∀ (τ : St) (R' : Type) (k' : St → Option R'), τ.putK c d v k' = k' (Eff.slot ⟨sl, []⟩ τ) := by
  cases d with
  | none => exact ⟨none, by simp, h, fun _ _ _ => rfl⟩
  | some i =>
    simp only [St.putK] at h ⊢
    obtain ⟨hb, h⟩ := cond_run h
    exact ⟨some (i, v), by simp, h, fun _ _ _ => by rw [hb]; rfl⟩

/-- An operation that gives a value. -/
theorem run_val {c : Ctx} {σ : St} {n : Nat} {o : Oper} {k : St → Option R} {r : R} {v : AVal} (h : σ.putK c o.dst v k = some r)
    (ha : ∀ τ, SameAt o.op.operands.toList σ τ → OLe σ τ → ∀ (R' : Type) (k' : St → Option R'), opK0 c τ n o k' = τ.putK c o.dst v k') :
    ∃ e : Eff, k (e.app σ) = some r ∧ Run c σ n o e := by
  obtain ⟨sl, h1, h2, h3⟩ := putK_run h
  exact ⟨⟨sl, []⟩, h2, h1, Dom.nil, fun τ hs hle R' k' => by rw [ha τ hs hle, h3]; rfl, fun _ => rfl⟩

/-- An operation that makes objects and gives a value. -/
theorem run_obj {c : Ctx} {σ : St} {n : Nat} {o : Oper} {k : St → Option R} {r : R} {v : AVal} {ob : List (Nat × Option Obj)} (hy : isY0 o = false) (hd : Dom n σ ob) (h : (putO ob σ).putK c o.dst v k = some r)
    (ha : ∀ τ, SameAt o.op.operands.toList σ τ → OLe σ τ → ∀ (R' : Type) (k' : St → Option R'), opK0 c τ n o k' = (putO ob τ).putK c o.dst v k') :
    ∃ e : Eff, k (e.app σ) = some r ∧ Run c σ n o e := by
  obtain ⟨sl, h1, h2, h3⟩ := putK_run h
  have e : ∀ τ, Eff.slot ⟨sl, []⟩ (putO ob τ) = Eff.app ⟨sl, ob⟩ τ := by
    intro τ
    cases sl with
    | none => rfl
    | some x => exact putO_set _ _ ob τ
  refine ⟨⟨sl, ob⟩, by rw [← e]; exact h2, h1, hd, fun τ hs hle R' k' => by rw [ha τ hs hle, h3, e], fun h => ?_⟩
  rw [hy] at h; simp at h

theorem evI_same {l : List Operand} {σ τ : St} (h : SameAt l σ τ) {x : Option Operand} (hx : ∀ y, x = some y → y ∈ l) : evI τ x = evI σ x := by
  cases x with
  | none => rfl
  | some y => simp only [evI]; rw [ev_same h (hx y rfl)]

theorem opK0_run {c : Ctx} {σ : St} {n : Nat} {o : Oper} {k : St → Option R} {r : R} (hp : pureG c σ o = true) (h : opK0 c σ n o k = some r) : ∃ e : Eff, k (e.app σ) = some r ∧ Run c σ n o e := by
  unfold opK0 at h
  split at h
  · -- move
    rename_i x hop
    split at h
    · rename_i a hx
      exact run_val h fun τ hs _ R' k' => by simp only [opK0, hop]; rw [ev_same hs (by rw [hop]; simp [Op.operands]), hx]
    · simp at h
  · rename_i x hop
    split at h
    · rename_i a hx
      exact run_val h fun τ hs _ R' k' => by simp only [opK0, hop]; rw [ev_same hs (by rw [hop]; simp [Op.operands]), hx]
    · simp at h
  · -- pick
    rename_i t x y hop
    split at h
    · rename_i b ht
      cases b with
      | true =>
        simp only [cond_true] at h
        split at h
        · rename_i a hx
          exact run_val h fun τ hs _ R' k' => by
            simp only [opK0, hop]
            rw [ev_same hs (x := t) (by rw [hop]; simp [Op.operands]), ht, ev_same hs (x := x) (by rw [hop]; simp [Op.operands]), hx]; rfl
        · simp at h
      | false =>
        simp only [cond_false] at h
        split at h
        · rename_i a hx
          exact run_val h fun τ hs _ R' k' => by
            simp only [opK0, hop]
            rw [ev_same hs (x := t) (by rw [hop]; simp [Op.operands]), ht, ev_same hs (x := y) (by rw [hop]; simp [Op.operands]), hx]; rfl
        · simp at h
    · simp at h
  · -- binOp
    rename_i op t x y z hop
    split at h
    · rename_i a b hx hy
      obtain ⟨v, h, ha⟩ := binK_run h
      exact run_val h fun τ hs hle R' k' => by
        simp only [opK0, hop]
        rw [ev_same hs (x := x) (by rw [hop]; simp [Op.operands]), hx, ev_same hs (x := y) (by rw [hop]; simp [Op.operands]), hy]
        exact ha τ hle R' _
    · simp at h
  · -- unOp
    rename_i op t x hop
    split at h
    · rename_i a hx
      obtain ⟨v, h, ha⟩ := unK_run h
      exact run_val h fun τ hs hle R' k' => by
        simp only [opK0, hop]
        rw [ev_same hs (x := x) (by rw [hop]; simp [Op.operands]), hx]
        exact ha R' _
    · simp at h
  · -- convert
    rename_i t t' x hop
    split at h
    · rename_i kj j ks kd hx ht ht'
      exact run_val h fun τ hs _ R' k' => by simp only [opK0, hop]; rw [ev_same hs (by rw [hop]; simp [Op.operands]), hx, ht, ht']
    · simp at h
  · -- indexAddr
    rename_i t x i hop
    split at h
    · rename_i a kd j u hx hi ht
      obtain ⟨v, h, ha⟩ := indexK_run h
      exact run_val h fun τ hs hle R' k' => by
        simp only [opK0, hop]
        rw [ev_same hs (x := x) (by rw [hop]; simp [Op.operands]), hx, ev_same hs (x := i) (by rw [hop]; simp [Op.operands]), hi, ht]
        exact ha τ hle R' _
    · simp at h
  · -- fieldAddr
    rename_i t x i hop
    split at h
    · rename_i a u hx ht
      obtain ⟨v, h, ha⟩ := fieldK_run h
      exact run_val h fun τ hs hle R' k' => by
        simp only [opK0, hop]
        rw [ev_same hs (x := x) (by rw [hop]; simp [Op.operands]), hx, ht]
        exact ha τ hle R' _
    · simp at h
  · -- index
    rename_i t x i hop
    split at h
    · rename_i nn t' l kd j m u hx hi ht
      obtain ⟨hc, h⟩ := cond_run h
      obtain ⟨d, hd, h⟩ := Option.bind_eq_some_iff.1 h
      exact run_val h fun τ hs hle R' k' => by
        simp only [opK0, hop]
        rw [ev_same hs (x := x) (by rw [hop]; simp [Op.operands]), hx, ev_same hs (x := i) (by rw [hop]; simp [Op.operands]), hi, ht]
        simp only [hc, cond_true, hd, Option.bind_some]
    · simp at h
  · -- field
    rename_i t x i hop
    split at h
    · rename_i a u hx ht
      obtain ⟨hc, h⟩ := cond_run h
      obtain ⟨v, h, ha⟩ := getA_run h
      obtain ⟨hc2, h⟩ := cond_run h
      exact run_val h fun τ hs hle R' k' => by
        simp only [opK0, hop]
        rw [ev_same hs (x := x) (by rw [hop]; simp [Op.operands]), hx, ht]
        simp only [hc, cond_true]
        rw [ha]
        simp only [hc2, cond_true]
    · simp at h
  · -- nilCheck
    rename_i x hop
    split at h
    · rename_i a hx
      obtain ⟨hc, h⟩ := cond_run h
      exact run_val h fun τ hs hle R' k' => by
        simp only [opK0, hop]
        rw [ev_same hs (x := x) (by rw [hop]; simp [Op.operands]), hx]
        simp only [holds_run hle hc, cond_true]
    · simp at h
  · -- load
    rename_i t x hop
    split at h
    · rename_i a u hx ht
      obtain ⟨v, h, ha⟩ := loadK_run h
      obtain ⟨hc, h⟩ := cond_run h
      exact run_val h fun τ hs hle R' k' => by
        simp only [opK0, hop]
        rw [ev_same hs (x := x) (by rw [hop]; simp [Op.operands]), hx, ht]
        simp only
        rw [ha τ hle]
        simp only [hc, cond_true]
    · simp at h
  · -- store
    rename_i t x y hop
    split at h
    · rename_i a b u hx hy ht hdst
      obtain ⟨hc, h⟩ := cond_run h
      obtain ⟨ob, h, hd, ha⟩ := storeK_run (n := n) h
      refine ⟨⟨none, ob⟩, h, by simp, hd, fun τ hs hle R' k' => ?_, fun hy => ?_⟩
      · simp only [opK0, hop]
        rw [ev_same hs (x := x) (by rw [hop]; simp [Op.operands]), hx, ev_same hs (x := y) (by rw [hop]; simp [Op.operands]), hy, ht, hdst]
        simp only [hc, cond_true]
        exact ha τ hle R' k'
      · simp [isY0, hop] at hy
    · simp at h
  · -- extract
    rename_i x i hop
    split at h
    · rename_i a hx
      split at h
      · rename_i v hv
        exact run_val h fun τ hs hle R' k' => by
          simp only [opK0, hop]
          rw [ev_same hs (x := x) (by rw [hop]; simp [Op.operands]), hx]
          simp only [hv]
      · simp at h
    · simp at h
  · -- alloc
    rename_i t hop
    split at h
    · rename_i z hz
      refine run_obj (v := .bptr n []) (ob := [(n, some (.cell z))]) (by simp [isY0, hop]) Dom.new (k := k) ?_ fun τ hs hle R' k' => ?_
      · cases hdst : o.dst with
        | none => rw [hdst] at h; exact h
        | some i => rw [hdst] at h; exact h
      · simp only [opK0, hop]
        rw [hz]
        cases o.dst <;> rfl
    · simp at h
  · -- box
    rename_i t x hop
    split at h
    · rename_i a hx
      obtain ⟨hc, h⟩ := cond_run h
      refine run_obj (v := .bptr n []) (ob := [(n, some (.cell a))]) (by simp [isY0, hop]) Dom.new (k := k) ?_ fun τ hs hle R' k' => ?_
      · cases hdst : o.dst with
        | none => rw [hdst] at h; exact h
        | some i => rw [hdst] at h; exact h
      · simp only [opK0, hop]
        rw [ev_same hs (x := x) (by rw [hop]; simp [Op.operands]), hx]
        simp only [hc, cond_true]
        cases o.dst <;> rfl
    · simp at h
  · -- makeFunc
    rename_i f first cap hop
    split at h
    · rename_i hf
      split at h
      · rename_i a ha
        obtain ⟨hc, h⟩ := cond_run h
        exact run_val h fun τ hs hle R' k' => by
          simp only [opK0, hop, hf]
          rw [evs_same hs (m := cap.toList) (fun x hx => by rw [hop]; simp only [Op.operands, Array.toList_append, List.mem_append]; exact .inr hx), ha]
          simp only [hc, cond_true]
      · simp at h
    · simp at h
  · -- makeSlice
    rename_i t len cap hop
    split at h
    · rename_i ow u htf
      split at h
      · rename_i z k1 l k2 m hz hl hm
        cases hu : u.isRo with
        | false =>
          rw [hu, cond_false] at h
          obtain ⟨hc, h⟩ := cond_run h
          obtain ⟨hb, h⟩ := chk_run h
          refine run_obj (v := .nv false n [] 0) (ob := [(n, some (.nest u (List.replicate l.toNat z) 0 0 none))]) (by simp [isY0, hop]) Dom.new (k := k) ?_ fun τ hs hle R' k' => ?_
          · cases hdst : o.dst with
            | none => rw [hdst] at h; exact h
            | some i => rw [hdst] at h; exact h
          · simp only [opK0, hop, htf]
            rw [hz, ev_same hs (x := len) (by rw [hop]; simp [Op.operands]), hl, ev_same hs (x := cap) (by rw [hop]; simp [Op.operands]), hm]
            simp only [hu, cond_false, hc, cond_true, hb, chk]
            cases o.dst <;> rfl
        | true =>
        rw [hu, cond_true] at h
        have hc := hu
        obtain ⟨hb, h⟩ := chk_run h
        refine run_obj (v := .ref n [] 0) (ob := [(n, some (.row u (List.replicate l.toNat z) 0))]) (by simp [isY0, hop]) Dom.new (k := k) ?_ fun τ hs hle R' k' => ?_
        · cases hdst : o.dst with
          | none => rw [hdst] at h; exact h
          | some i => rw [hdst] at h; exact h
        · simp only [opK0, hop, htf]
          rw [hz, ev_same hs (x := len) (by rw [hop]; simp [Op.operands]), hl, ev_same hs (x := cap) (by rw [hop]; simp [Op.operands]), hm]
          simp only [hc, cond_true, hb, chk]
          cases o.dst <;> rfl
      · simp at h
    · simp at h
  · -- build
    rename_i t ps hop
    split at h
    · rename_i a x y ha ht
      obtain ⟨hc, h⟩ := cond_run h
      exact run_val h fun τ hs hle R' k' => by
        simp only [opK0, hop]
        rw [evs_same hs (m := ps.toList.map (·.2)) (fun x hx => by rw [hop]; simp only [Op.operands]; exact hx), ha, ht]
        simp only [hc, cond_true]
    · simp at h
  · -- buildSlice
    rename_i t len ps hop
    split at h
    · rename_i ow u htf
      obtain ⟨hc, h⟩ := cond_run h
      obtain ⟨ds, ob, h, hd, ha⟩ := parts_run (n := n) (lo := o.op.operands.toList) (fun x hx => by rw [hop]; simp only [Op.operands]; exact List.mem_map.2 ⟨x, hx, rfl⟩) h
      cases hfz : froz c o.dst with
      | true =>
        rw [hfz, cond_true] at h
        refine run_obj (v := .data (.sl false u) ds) (ob := ob) (by simp [isY0, hop]) hd (k := k) ?_ fun τ hs hle R' k' => ?_
        · cases hdst : o.dst with
          | none => rw [hdst] at h; exact h
          | some i => rw [hdst] at h; exact h
        · simp only [opK0, hop, htf]
          simp only [hc, cond_true]
          rw [ha τ hs hle]
          simp only [hfz, cond_true]
          try (cases o.dst <;> rfl)
      | false =>
      rw [hfz, cond_false] at h
      refine run_obj (v := .ref n [] 0) (ob := ob ++ [(n, some (.row u ds 0))]) (by simp [isY0, hop]) (hd.append Dom.new) (k := k) ?_ fun τ hs hle R' k' => ?_
      · rw [putO_append]
        cases hdst : o.dst with
        | none => rw [hdst] at h; exact h
        | some i => rw [hdst] at h; exact h
      · simp only [opK0, hop, htf]
        simp only [hc, cond_true]
        rw [ha τ hs hle, putO_append]
        simp only [hfz, cond_false]
        cases o.dst <;> rfl
    · simp at h
  · -- makeMap
    rename_i t hop
    simp [pureG, hop] at hp
  · -- lookup
    rename_i t x i ok hop
    split at h
    · rename_i a b hx hi
      obtain ⟨id, kt, vt, m, _, h, ha⟩ := mapK_run h
      obtain ⟨hc, h⟩ := cond_run h
      obtain ⟨key, h, hb⟩ := asData_run _ _ _ h
      split at h
      · rename_i z hz
        cases ok with
        | true =>
          simp only [cond_true] at h
          exact run_val h fun τ hs hle R' k' => by
            simp only [opK0, hop]
            rw [ev_same hs (x := x) (by rw [hop]; simp [Op.operands]), hx, ev_same hs (x := i) (by rw [hop]; simp [Op.operands]), hi]
            simp only
            rw [ha τ hle]
            simp only [hc, cond_true]
            rw [hb τ hle]
            simp only [hz]
        | false =>
          simp only [cond_false] at h
          exact run_val h fun τ hs hle R' k' => by
            simp only [opK0, hop]
            rw [ev_same hs (x := x) (by rw [hop]; simp [Op.operands]), hx, ev_same hs (x := i) (by rw [hop]; simp [Op.operands]), hi]
            simp only
            rw [ha τ hle]
            simp only [hc, cond_true]
            rw [hb τ hle]
            simp only [hz, cond_false]
      · simp at h
    · simp at h
  · -- mapUpdate
    rename_i t x i y hop
    simp [pureG, hop] at hp
  · -- slice
    rename_i t x lo hi hop
    split at h
    · rename_i a ow u lo' hi' hx ht hlo hhi
      obtain ⟨v, h, ha⟩ := sliceK_run h
      exact run_val h fun τ hs hle R' k' => by
        simp only [opK0, hop]
        rw [ev_same hs (x := x) (by rw [hop]; simp [Op.operands]), hx, ht, evI_same hs (x := lo) (fun y hy => by rw [hop, hy]; simp [Op.operands]), hlo, evI_same hs (x := hi) (fun y hy => by rw [hop, hy]; simp [Op.operands]), hhi]
        exact ha τ hle R' _
    · simp at h
  · -- slice, its room cut
    rename_i t x hi mx hop
    split at h
    · rename_i id ep k1 h1 k2 m ow u hx hhi hmx ht
      split at h
      · rename_i t' l e ho
        obtain ⟨hc, h⟩ := cond_run h
        obtain ⟨hb, h⟩ := chk_run h
        refine run_obj (v := .ref id [] (e + 1)) (ob := [(id, some (.row t' (sub l 0 h1) (e + 1)))]) (by simp [isY0, hop]) (Dom.old ho) (k := k) ?_ fun τ hs hle R' k' => ?_
        · cases hdst : o.dst with
          | none => rw [hdst] at h; exact h
          | some i => rw [hdst] at h; exact h
        · simp only [opK0, hop]
          rw [ev_same hs (x := x) (by rw [hop]; simp [Op.operands]), hx, ev_same hs (x := hi) (by rw [hop]; simp [Op.operands]), hhi, ev_same hs (x := mx) (by rw [hop]; simp [Op.operands]), hmx, ht]
          simp only
          rw [hle _ _ ho]
          simp only [hc, cond_true, hb, chk]
          cases o.dst <;> rfl
      · simp at h
    · simp at h
  · -- len
    rename_i args ts hop
    split at h
    · rename_i x t hargs hts
      have hx' : x ∈ o.op.operands.toList := by rw [hop]; simp [Op.operands, Call.operands, hargs]
      split at h
      · rename_i a ow u hx ht
        obtain ⟨v, h, ha⟩ := lenK_run h
        exact run_val h fun τ hs hle R' k' => by
          simp only [opK0, hop, hargs, hts]
          rw [ev_same hs hx', hx, ht]
          exact ha τ hle R' _
      · rename_i a hx ht
        obtain ⟨id, kt, vt, m, _, h, ha⟩ := mapK_run h
        obtain ⟨hb, h⟩ := chk_run h
        exact run_val h fun τ hs hle R' k' => by
          simp only [opK0, hop, hargs, hts]
          rw [ev_same hs hx', hx, ht]
          simp only
          rw [ha τ hle]
          simp only [hb, chk, cond_true]
      · simp at h
    · simp at h
  · -- max
    rename_i args ts hop
    split at h
    · rename_i kd x rest hx
      obtain ⟨v, h, ha⟩ := foldInts_run h
      exact run_val h fun τ hs hle R' k' => by
        simp only [opK0, hop]
        rw [evs_same hs (m := args.toList) (fun x hx => by rw [hop]; simp [Op.operands, Call.operands]; simpa using hx), hx]
        exact ha R' _
    · simp at h
  · -- min
    rename_i args ts hop
    split at h
    · rename_i kd x rest hx
      obtain ⟨v, h, ha⟩ := foldInts_run h
      exact run_val h fun τ hs hle R' k' => by
        simp only [opK0, hop]
        rw [evs_same hs (m := args.toList) (fun x hx => by rw [hop]; simp [Op.operands, Call.operands]; simpa using hx), hx]
        exact ha R' _
    · simp at h
  · -- append
    rename_i args ts hop
    split at h
    · rename_i x y t t' hargs hts
      split at h
      · rename_i a b ow u hx hy ht
        obtain ⟨hc, h⟩ := cond_run h
        obtain ⟨v, ob, h, hd, ha⟩ := appendK_run h
        refine run_obj (by simp [isY0, hop]) hd h fun τ hs hle R' k' => ?_
        simp only [opK0, hop, hargs, hts]
        rw [ev_same hs (x := x) (by rw [hop]; simp [Op.operands, Call.operands, hargs]), hx, ev_same hs (x := y) (by rw [hop]; simp [Op.operands, Call.operands, hargs]), hy, ht]
        simp only [hc, cond_true]
        exact ha τ hle R' _
      · simp at h
    · simp at h
  · -- clear
    rename_i args ts hop
    split at h
    · rename_i x t hargs hts
      split at h
      · rename_i id ep av bv ow u hx ht
        split at h
        · rename_i t' l e ho
          obtain ⟨hc, h⟩ := cond_run h
          split at h
          · rename_i z hz
            refine run_obj (v := .tup .un) (ob := [(id, some (.row t' (clearL z l av bv) e))]) (by simp [isY0, hop]) (Dom.old ho) (k := k) ?_ fun τ hs hle R' k' => ?_
            · cases hdst : o.dst with
              | none => rw [hdst] at h; exact h
              | some i => rw [hdst] at h; exact h
            · simp only [opK0, hop, hargs, hts]
              rw [ev_same hs (x := x) (by rw [hop]; simp [Op.operands, Call.operands, hargs]), hx, ht]
              simp only
              rw [hle _ _ ho]
              simp only [hc, cond_true, hz]
              cases o.dst <;> rfl
          · simp at h
        · simp at h
      · simp at h
    · simp at h
  · -- call
    rename_i g args ts hop
    split at h
    · rename_i gv av hg hav
      have hpc : ∀ fid all, calleeOf gv av = some (fid, all) → pureC (c.env fid) = true := by
        intro fid all hco
        simp only [pureG, hop] at hp
        rw [calleeOf_id hg hco] at hp
        exact hp
      obtain ⟨v, ob, h, hd, ha⟩ := callK_run hpc h
      refine run_obj (by simp [isY0, hop]) hd h fun τ hs hle R' k' => ?_
      simp only [opK0, hop]
      rw [ev_same hs (x := g) (by rw [hop]; simp [Op.operands, Call.operands]), hg, evs_same hs (m := args.toList) (fun x hx => by rw [hop]; simp [Op.operands, Call.operands]; right; simpa using hx), hav]
      exact ha τ hle R' _
    · simp at h
  · simp at h

end Go.Kz

/-
  Regions whose order is drawn: operations that look at different objects may be taken in any order.
-/
namespace Go.Kz
variable {R : Type}

/-- One operation of a run, and what it leaves. -/
structure Ent where
  i : Nat
  o : Oper
  F : List Nat
  e : Eff

structure Good (base : Nat) (t : Ent) : Prop where
  guard : t.o.guard = none
  junk : isJunk t.o = false
  sl : ∀ d v, t.e.sl = some (d, v) → t.o.dst = some d
  ob : ∀ x ∈ t.e.ob, inF base t.i t.F x.1 = true
  y : isY0 t.o = true → t.e.ob = []

def Loc (c : Ctx) (base : Nat) (t : Ent) (σ : St) : Prop :=
  ∀ τ, SameAt t.o.op.operands.toList σ τ → (∀ id, inF base t.i t.F id = true → τ.objs id = σ.objs id) → ∀ (R' : Type) (k' : St → Option R'), opK0 c τ (base + 8 * t.i) t.o k' = k' (t.e.app τ)

def Tr (c : Ctx) (base : Nat) : List Ent → St → St → Prop
  | [], σ, σE => σ = σE
  | t :: T, σ, σE => Loc c base t σ ∧ Tr c base T (t.e.app σ) σE

abbrev Ind (base : Nat) (dst : Nat → Option Nat) (s t : Ent) : Prop := indep base dst s.i s.o s.F t.i t.o t.F = true

theorem Loc.cong {c : Ctx} {base : Nat} {t : Ent} {σ σ' : St} (h : Loc c base t σ) (hs : SameAt t.o.op.operands.toList σ σ') (ho : ∀ id, inF base t.i t.F id = true → σ'.objs id = σ.objs id) : Loc c base t σ' :=
  fun τ h1 h2 => h τ (fun x hx => (h1 x hx).trans (hs x hx)) (fun id hid => (h2 id hid).trans (ho id hid))

theorem Eff.slot_objs (e : Eff) (σ : St) : (e.slot σ).objs = σ.objs := by unfold Eff.slot; split <;> rfl
theorem Eff.slot_next (e : Eff) (σ : St) : (e.slot σ).next = σ.next := by unfold Eff.slot; split <;> rfl
theorem Eff.app_off {e : Eff} {σ : St} {i : Nat} (h : i ∉ e.ob.map Prod.fst) : (e.app σ).objs i = σ.objs i := by
  unfold Eff.app
  rw [putO_off _ _ h, Eff.slot_objs]
theorem Eff.app_slots (e : Eff) (σ : St) : (e.app σ).slots = (e.slot σ).slots := putO_slots _ _
theorem Eff.app_next (e : Eff) (σ : St) : (e.app σ).next = σ.next := by
  unfold Eff.app
  rw [putO_next, Eff.slot_next]

theorem run_loc {c : Ctx} {base : Nat} {i : Nat} {o : Oper} {F : List Nat} {e : Eff} {σ : St} (h : Run c (σ.only (inF base i F)) (base + 8 * i) o e) : Loc c base ⟨i, o, F, e⟩ σ := by
  intro τ hs ho R' k'
  refine h.eq τ hs (fun id x hx => ?_) R' k'
  simp only [St.only] at hx
  cases hp : inF base i F id with
  | false => rw [hp] at hx; simp at hx
  | true => rw [hp] at hx; rw [ho id hp]; exact hx
theorem inF_range {base i : Nat} {F : List Nat} {x : Nat} (h : base + 8 * i ≤ x ∧ x < base + 8 * i + 8) : inF base i F x = true := by
  have h1 : Nat.ble (base + 8 * i) x = true := Nat.ble_eq_true_of_le h.1
  have h2 : Nat.blt x (base + 8 * i + 8) = true := Nat.ble_eq_true_of_le h.2
  simp only [inF, h1, h2, Bool.and_self, Bool.or_true]
theorem inF_iff {base i : Nat} {F : List Nat} {x : Nat} : inF base i F x = true ↔ x ∈ F ∨ (base + 8 * i ≤ x ∧ x < base + 8 * i + 8) := by
  simp only [inF, Bool.or_eq_true, Bool.and_eq_true, memN_iff]
  refine or_congr Iff.rfl (and_congr ⟨fun h => Nat.le_of_ble_eq_true h, fun h => Nat.ble_eq_true_of_le h⟩ ⟨fun h => Nat.le_of_ble_eq_true h, fun h => Nat.ble_eq_true_of_le h⟩)
theorem run_ob {c : Ctx} {base : Nat} {i : Nat} {o : Oper} {F : List Nat} {e : Eff} {σ : St} (h : Run c (σ.only (inF base i F)) (base + 8 * i) o e) : ∀ x ∈ e.ob, inF base i F x.1 = true := by
  intro x hx
  rcases h.ob x hx with ⟨y, hy⟩ | h2
  · simp only [St.only] at hy
    cases hp : inF base i F x.1 with
    | false => rw [hp] at hy; simp at hy
    | true => rfl
  · exact inF_range h2
theorem over_eq {p : Nat → Bool} {e : Eff} {σ : St} (h : ∀ x ∈ e.ob, p x.1 = true) : σ.over (e.app (σ.only p)) p = e.app σ := by
  refine St.ext' ?_ ?_ ?_
  · simp only [St.over, Eff.app_slots]
    unfold Eff.slot
    split <;> rfl
  · funext i
    simp only [St.over]
    cases hp : p i with
    | true =>
      simp only [cond_true]
      by_cases hm : i ∈ e.ob.map Prod.fst
      · exact putO_on _ _ _ hm
      · rw [Eff.app_off hm, Eff.app_off hm]
        simp only [St.only, hp, cond_true]
    | false =>
      simp only [cond_false]
      rw [Eff.app_off]
      intro hm
      obtain ⟨x, hx, he⟩ := List.mem_map.1 hm
      have := h x hx
      rw [he, hp] at this
      simp at this
  · exact (Eff.app_next e σ).symm

theorem pureG_only {c : Ctx} {σ : St} {p : Nat → Bool} {o : Oper} (h : pureG c σ o = true) : pureG c (σ.only p) o = true := by
  have he : ∀ x, ev (σ.only p) x = ev σ x := fun x => ev_same (l := [x]) (fun _ _ => rfl) (by simp)
  have hc : ∀ x, calleeId (σ.only p) x = calleeId σ x := fun x => by unfold calleeId; rw [he]
  unfold pureG at h ⊢
  simp only [hc]
  exact h

theorem okAcc_ok {base : Nat} {dst : Nat → Option Nat} {j : Nat} {p : Oper} {G : List Nat} : {acc : GAcc} → okAcc base dst j p G acc = true → ∀ a ∈ acc, j ∈ a.2.2 ∨ indep base dst a.1.1 a.1.2 a.2.1 j p G = true
  | [], _, a, ha => by simp at ha
  | ((i, o), F, lat) :: l, h, a, ha => by
    simp only [okAcc, Bool.and_eq_true, Bool.or_eq_true, memN_iff] at h
    rcases List.mem_cons.1 ha with rfl | ha
    · exact h.1
    · exact okAcc_ok h.2 a ha

theorem genK_tr {c : Ctx} {base : Nat} {dst : Nat → Option Nat} {all : List (Nat × Oper)} : (B : List (Nat × Oper)) → {acc : GAcc} → {σ : St} → {k : St → Option R} → {r : R} → plainG B = true → genK c base dst all B acc σ k = some r →
    ∃ T σE, T.map (fun t : Ent => (t.i, t.o)) = B ∧ Tr c base T σ σE ∧ k σE = some r ∧ (∀ t ∈ T, Good base t) ∧ (∀ t ∈ T, ∀ a ∈ acc, t.i ∈ a.2.2 ∨ indep base dst a.1.1 a.1.2 a.2.1 t.i t.o t.F = true) ∧
      T.Pairwise fun s t => t.i ∈ laterL s.i all [] ∨ Ind base dst s t
  | [], acc, σ, k, r, _, h => ⟨[], σ, rfl, rfl, h, by simp, by simp, List.Pairwise.nil⟩
  | (i, o) :: B, acc, σ, k, r, hp, h => by
    simp only [plainG, Bool.and_eq_true, Bool.not_eq_true'] at hp
    simp only [genK] at h
    obtain ⟨hc, h⟩ := cond_run h
    simp only [Bool.and_eq_true] at hc
    obtain ⟨e, h, hrun⟩ := opK0_run (pureG_only hc.1) h
    have hob := run_ob hrun
    rw [over_eq hob] at h
    obtain ⟨T, σE, h1, h2, h3, h4, h5, h6⟩ := genK_tr B hp.2 h
    refine ⟨⟨i, o, footG σ o, e⟩ :: T, σE, by simp [h1], ⟨run_loc hrun, h2⟩, h3, ?_, ?_, ?_⟩
    · intro t ht
      rcases List.mem_cons.1 ht with rfl | ht
      · refine ⟨?_, hp.1.2, hrun.sl, hob, hrun.y⟩
        have := hp.1.1
        cases hg : o.guard with
        | none => rfl
        | some g => rw [hg] at this; simp at this
      · exact h4 t ht
    · intro t ht a ha
      rcases List.mem_cons.1 ht with rfl | ht
      · exact okAcc_ok hc.2 a ha
      · exact h5 t ht a (by simp [ha])
    · refine List.pairwise_cons.2 ⟨fun t ht => ?_, h6⟩
      exact h5 t ht _ (List.mem_cons_self ..)

theorem outR_ok {base i : Nat} : {l : List Nat} → outR base i l = true → ∀ x ∈ l, ¬ (base + 8 * i ≤ x ∧ x < base + 8 * i + 8)
  | [], _, x, hx => by simp at hx
  | y :: l, h, x, hx => by
    simp only [outR, Bool.and_eq_true, Bool.not_eq_true'] at h
    rcases List.mem_cons.1 hx with rfl | hx
    · intro hr
      have h1 : Nat.ble (base + 8 * i) x = true := Nat.ble_eq_true_of_le hr.1
      have h2 : Nat.blt x (base + 8 * i + 8) = true := Nat.ble_eq_true_of_le hr.2
      rw [h1, h2] at h
      simp at h
    · exact outR_ok h.2 x hx

structure Apart (base : Nat) (dst : Nat → Option Nat) (s t : Ent) : Prop where
  ne : s.i ≠ t.i
  ap : apartL dst s.o t.o = true
  st : ∀ x ∈ s.e.ob, inF base t.i t.F x.1 = false
  ts : ∀ x ∈ t.e.ob, inF base s.i s.F x.1 = false
theorem ind_apart {base : Nat} {dst : Nat → Option Nat} {s t : Ent} (hs : Good base s) (ht : Good base t) (h : Ind base dst s t) : Apart base dst s t := by
  unfold Ind indep at h
  simp only [Bool.and_eq_true, Bool.or_eq_true, Bool.not_eq_true'] at h
  obtain ⟨⟨⟨⟨h1, h2⟩, h3⟩, h4⟩, h5⟩ := h
  have hne : s.i ≠ t.i := by
    intro he
    rw [he, Nat.beq_refl] at h1; simp at h1
  have h4' := outR_ok h4
  have h5' := outR_ok h5
  have fl : ∀ {b : Bool}, (b = true → False) → b = false := fun {b} h => by cases b; rfl; exact (h rfl).elim
  refine ⟨hne, h2, fun x hx => fl fun hin => ?_, fun x hx => fl fun hin => ?_⟩
  · rcases h3 with ⟨hy, _⟩ | hno
    · rw [hs.y hy] at hx; simp at hx
    · rw [noneIn_iff] at hno
      rcases inF_iff.1 (hs.ob x hx) with h | h <;> rcases inF_iff.1 hin with h' | h'
      · exact hno _ h h'
      · exact h5' _ h h'
      · exact h4' _ h' h
      · omega
  · rcases h3 with ⟨_, hy⟩ | hno
    · rw [ht.y hy] at hx; simp at hx
    · rw [noneIn_iff] at hno
      rcases inF_iff.1 (ht.ob x hx) with h | h <;> rcases inF_iff.1 hin with h' | h'
      · exact hno _ h' h
      · exact h4' _ h h'
      · exact h5' _ h' h
      · omega

theorem apartL_look {dst : Nat → Option Nat} {x y : Oper} (h : apartL dst x y = true) :
    (∀ d, x.dst = some d → (.tmp d) ∉ y.op.operands.toList) ∧ (∀ d, y.dst = some d → (.tmp d) ∉ x.op.operands.toList) ∧ ∀ d, x.dst = some d → y.dst ≠ some d := by
  unfold apartL at h
  simp only [Bool.and_eq_true] at h
  obtain ⟨h1, h2⟩ := h
  refine ⟨fun d hd hm => ?_, fun d hd hm => ?_, fun d hd he => ?_⟩
  · rw [hd] at h1
    simp only [Bool.and_eq_true, Bool.not_eq_true', looksL, Bool.or_eq_false_iff] at h1
    rw [memN_false] at h1
    exact h1.1.1 (tmpsL_mem.2 hm)
  · rw [hd] at h2
    simp only [Bool.not_eq_true', looksL, Bool.or_eq_false_iff] at h2
    rw [memN_false] at h2
    exact h2.1 (tmpsL_mem.2 hm)
  · rw [hd, he] at h1
    simp [Nat.beq_refl] at h1

theorem same_app {base : Nat} {s : Ent} {l : List Operand} (hs : Good base s) (h : ∀ d, s.o.dst = some d → (.tmp d) ∉ l) (σ : St) : SameAt l σ (s.e.app σ) := by
  intro x hx
  rw [Eff.app_slots]
  unfold Eff.slot
  split
  · rename_i d v hsl
    simp only [St.set, upd]
    have hb : Nat.beq x d = false := by
      cases hb : Nat.beq x d with
      | false => rfl
      | true =>
        have he := Nat.eq_of_beq_eq_true hb
        subst he
        exact absurd hx (h x (hs.sl x v hsl))
    rw [hb]; rfl
  · rfl
theorem objs_app {base i : Nat} {F : List Nat} {s : Ent} (h : ∀ x ∈ s.e.ob, inF base i F x.1 = false) (σ : St) : ∀ id, inF base i F id = true → (s.e.app σ).objs id = σ.objs id := by
  intro id hid
  refine Eff.app_off fun hm => ?_
  obtain ⟨x, hx, he⟩ := List.mem_map.1 hm
  have := h x hx
  rw [he, hid] at this; simp at this

theorem app_comm {base : Nat} {dst : Nat → Option Nat} {s t : Ent} (hs : Good base s) (ht : Good base t) (h : Apart base dst s t) (σ : St) : t.e.app (s.e.app σ) = s.e.app (t.e.app σ) := by
  have hno : ∀ i, i ∈ s.e.ob.map Prod.fst → i ∉ t.e.ob.map Prod.fst := by
    intro i h1 h2
    obtain ⟨x, hx, rfl⟩ := List.mem_map.1 h1
    obtain ⟨y, hy, he⟩ := List.mem_map.1 h2
    have q1 := h.st x hx
    have q2 := ht.ob y hy
    rw [he, q1] at q2; simp at q2
  refine St.ext' ?_ ?_ ?_
  · rw [Eff.app_slots, Eff.app_slots]
    funext i
    have e1 : ∀ (e : Eff) (a b : St), a.slots = b.slots → (e.slot a).slots = (e.slot b).slots := by
      intro e a b hab
      unfold Eff.slot
      split
      · simp only [St.set, hab]
      · exact hab
    rw [e1 t.e _ _ (Eff.app_slots s.e σ), e1 s.e _ _ (Eff.app_slots t.e σ)]
    unfold Eff.slot
    cases hsl : s.e.sl with
    | none => rfl
    | some x =>
      obtain ⟨d, v⟩ := x
      cases htl : t.e.sl with
      | none => rfl
      | some y =>
        obtain ⟨d', v'⟩ := y
        have hd := hs.sl d v hsl
        have hd' := ht.sl d' v' htl
        have hne : d ≠ d' := fun he => (apartL_look h.ap).2.2 d hd (by rw [he]; exact hd')
        simp only [St.set, upd]
        cases hb : Nat.beq i d' with
        | false => rfl
        | true =>
          have he := Nat.eq_of_beq_eq_true hb
          subst he
          have : Nat.beq i d = false := by
            cases hb2 : Nat.beq i d with
            | false => rfl
            | true => exact absurd (Nat.eq_of_beq_eq_true hb2).symm hne
          rw [this]; rfl
  · funext i
    by_cases h1 : i ∈ s.e.ob.map Prod.fst
    · rw [Eff.app_off (hno i h1)]
      exact putO_on _ _ _ h1
    · rw [Eff.app_off h1]
      by_cases h2 : i ∈ t.e.ob.map Prod.fst
      · exact putO_on _ _ _ h2
      · rw [Eff.app_off h2, Eff.app_off h2, Eff.app_off h1]
  · simp only [Eff.app_next]

/-- Any of them may be taken first. -/
theorem tr_front {c : Ctx} {base : Nat} {dst : Nat → Option Nat} {t : Ent} {post : List Ent} {σE : St} (ht : Good base t) : (pre : List Ent) → {σ : St} → (∀ s ∈ pre, Good base s ∧ Ind base dst s t) → Tr c base (pre ++ t :: post) σ σE →
    Loc c base t σ ∧ Tr c base (pre ++ post) (t.e.app σ) σE
  | [], σ, _, h => h
  | s :: pre, σ, hp, h => by
    obtain ⟨hg, hi⟩ := hp s (by simp)
    have ha := ind_apart hg ht hi
    obtain ⟨h1, h2⟩ := h
    obtain ⟨h3, h4⟩ := tr_front ht pre (fun x hx => hp x (by simp [hx])) h2
    have hl := apartL_look ha.ap
    have hsame : SameAt t.o.op.operands.toList σ (s.e.app σ) := same_app hg hl.1 σ
    refine ⟨h3.cong (fun x hx => (hsame x hx).symm) (fun id hid => (objs_app ha.st σ id hid).symm), ?_⟩
    refine ⟨h1.cong (same_app ht hl.2.1 σ) (objs_app ha.ts σ), ?_⟩
    rw [← app_comm hg ht ha]
    exact h4

/-- Each waits for those that are done or stand ahead of it. -/
def Lin : List Nat → List (Nat × Oper) → Prop
  | _, [] => True
  | d, (i, o) :: l => (∀ x ∈ edgeOns o.after.toList, x ∈ d) ∧ Lin (i :: d) l
theorem Lin.mono : {l : List (Nat × Oper)} → {d d' : List Nat} → (∀ x ∈ d, x ∈ d') → Lin d l → Lin d' l
  | [], _, _, _, _ => trivial
  | (i, o) :: l, d, d', hd, h => ⟨fun x hx => hd x (h.1 x hx), Lin.mono (fun x hx => by
      rcases List.mem_cons.1 hx with rfl | hx
      · simp
      · simp [hd x hx]) h.2⟩
theorem Lin.take {j : Nat} {p : Oper} {post : List (Nat × Oper)} : (pre : List (Nat × Oper)) → {d : List Nat} → Lin d (pre ++ (j, p) :: post) → Lin (j :: d) (pre ++ post)
  | [], d, h => h.2
  | (i, o) :: pre, d, h => ⟨fun x hx => List.mem_cons_of_mem _ (h.1 x hx), by
      refine (Lin.take pre h.2).mono fun x hx => ?_
      simp only [List.mem_cons] at hx ⊢
      rcases hx with h | h | h
      · exact .inr (.inl h)
      · exact .inl h
      · exact .inr (.inr h)⟩

section
variable {P : Program} {ops : Array Oper} {Q : Exit → Act → World → Prop}

theorem later_wait {b : Nat} : Waits .any ops b (laterL b (numbered 0 ops.toList) []) ∧ ∀ x ∈ laterL b (numbered 0 ops.toList) [], x < ops.size := by
  have := laterL_mem (i := b) (l := numbered 0 ops.toList) (acc := []) (G := fun x => x < ops.size ∧ ∀ ox, ops[x]? = some ox → ∃ e ∈ ox.after, Region.binds .any e = true ∧ (e.on = b ∨ e.on ∈ laterL b (numbered 0 ops.toList) [])) (by simp) (fun j oj hm hy => by
    have hoj := numbered_get _ hm
    refine ⟨size_of hoj, fun ox hox => ?_⟩
    simp only at hoj
    rw [hoj] at hox
    simp only [Option.some.injEq] at hox
    subst hox
    obtain ⟨y, hy1, hy2⟩ := hy
    obtain ⟨e, he, hbe, rfl⟩ := edgeOns_mem.1 hy1
    exact ⟨e, by simpa using he, hbe, hy2⟩)
  exact ⟨fun x hx => (this x hx).2, fun x hx => (this x hx).1⟩

theorem gen_ok {c : Ctx} {base : Nat} {g0 : Ghost} {w0 : World} {σ0 σE : St} {B0 : List Nat} (hc : CtxOK P c)
    (HK : ∀ g a w, StOK c.ntmps g w a σE → Ext w0 g0 w g → (∀ m, (∀ i ∈ B0, m < base + 8 * i ∨ base + 8 * i + 8 ≤ m) → Fresh g0 σ0 m → Fresh g σE m) → Q .normal a w) :
    (n : Nat) → {T : List Ent} → T.length = n → {σ : St} → {g : Ghost} → {a : Act} → {w : World} → {listed : Array Bool} → {done : List Nat} →
    Tr c base T σ σE → (∀ t ∈ T, Good base t ∧ ops[t.i]? = some t.o ∧ t.i ∈ B0) → (T.Pairwise fun s t => t.i ∈ laterL s.i (numbered 0 ops.toList) [] ∨ Ind base (dstOf ops.toList) s t) → (T.map Ent.i).Nodup →
    Lin done (T.map fun t => (t.i, t.o)) → StOK c.ntmps g w a σ → (∀ t ∈ T, ∀ m, base + 8 * t.i ≤ m → m < base + 8 * t.i + 8 → Fresh g σ m) → Rel ops listed done → (∀ x ∈ done, x < ops.size) → (∀ x, x < ops.size → (x ∈ done ↔ x ∉ T.map Ent.i)) →
    (∀ t ∈ T, ∀ x ∈ laterL t.i (numbered 0 ops.toList) [], x ∉ done) → Ext w0 g0 w g → (∀ m, (∀ i ∈ B0, m < base + 8 * i ∨ base + 8 * i + 8 ≤ m) → Fresh g0 σ0 m → Fresh g σ m) → anyG P .any ops Q n listed a w
  | 0, T, hl, σ, g, a, w, listed, done, htr, _, _, _, _, hst, _, hrel, hds, hdn, _, hext, hfo => by
    have hT : T = [] := List.eq_nil_of_length_eq_zero hl
    subst hT
    have htr' : σ = σE := htr
    subst htr'
    refine ⟨?_, HK g a w hst hext hfo⟩
    rw [List.eq_nil_iff_forall_not_mem]
    intro j hj
    obtain ⟨_, oj, hoj, _⟩ := mem_ready.1 hj
    have h1 := (readyL_iff hrel hds hoj).1 hj
    exact h1.1 ((hdn j (size_of hoj)).2 (by simp))
  | n + 1, T, hl, σ, g, a, w, listed, done, htr, hT, hpw, hnd, hlin, hst, hfr, hrel, hds, hdn, hinv, hext, hfo => by
    refine ⟨fun h0 => ?_, fun j hj => ?_⟩
    · exfalso
      cases T with
      | nil => simp at hl
      | cons t T =>
        obtain ⟨_, hto, _⟩ := hT t (by simp)
        have : t.i ∈ Region.ready .any ops listed := by
          refine (readyL_iff hrel hds hto).2 ⟨fun hd => ?_, ?_⟩
          · exact (hdn _ (size_of hto)).1 hd (by simp)
          · unfold readyL
            rw [allIn_iff]
            exact hlin.1
        rw [h0] at this; simp at this
    · obtain ⟨hjun, oj, hoj, _⟩ := mem_ready.1 hj
      have hrd := (readyL_iff hrel hds hoj).1 hj
      have hjT : j ∈ T.map Ent.i := by
        refine Classical.byContradiction fun hn => ?_
        exact hrd.1 ((hdn j (size_of hoj)).2 hn)
      obtain ⟨t, htT, hti⟩ := List.mem_map.1 hjT
      obtain ⟨pre, post, rfl⟩ := List.append_of_mem htT
      obtain ⟨hg, hto, htB⟩ := hT t htT
      have hmem : ∀ x ∈ pre ++ post, x ∈ pre ++ t :: post := by
        intro x hx
        rcases List.mem_append.1 hx with h | h
        · exact List.mem_append.2 (.inl h)
        · exact List.mem_append.2 (.inr (List.mem_cons_of_mem _ h))
      have hpre : ∀ s ∈ pre, Good base s ∧ Ind base (dstOf ops.toList) s t := by
        intro s hs
        have hsT : s ∈ pre ++ t :: post := List.mem_append.2 (.inl hs)
        obtain ⟨hgs, hso, _⟩ := hT s hsT
        refine ⟨hgs, ?_⟩
        rcases (List.pairwise_append.1 hpw).2.2 s hs t (by simp) with h | h
        · exfalso
          have hw := later_wait (ops := ops) (b := s.i)
          refine waits_not hw.1 (fun x hx => ?_) ?_ hj (hti ▸ h)
          · rw [hrel.getD (hw.2 x hx)]
            exact memN_false.2 (hinv s hsT x hx)
          · rw [hrel.getD (size_of hso)]
            refine memN_false.2 fun hd => ?_
            exact (hdn _ (size_of hso)).1 hd (List.mem_map.2 ⟨s, hsT, rfl⟩)
        · exact h
      obtain ⟨hloc, htr'⟩ := tr_front hg pre hpre htr
      have hojt : oj = t.o := by
        rw [← hti, hto] at hoj
        simpa using hoj.symm
      subst hojt
      subst hti
      have hne : ∀ x ∈ pre ++ post, x.i ≠ t.i := by
        intro x hx he
        have h1 : ((pre ++ t :: post).map Ent.i).Nodup := hnd
        rw [List.map_append, List.map_cons, List.nodup_append] at h1
        rcases List.mem_append.1 hx with hx | hx
        · exact h1.2.2 x.i (List.mem_map.2 ⟨x, hx, rfl⟩) t.i (by simp) he
        · exact (List.nodup_cons.1 h1.2.1).1 (List.mem_map.2 ⟨x, hx, he⟩)
      have hk : opK c σ (base + 8 * t.i) t.o some = some (t.e.app σ) := by
        simp only [opK, hg.junk, cond_false]
        exact hloc σ (fun _ _ => rfl) (fun _ _ => rfl) St some
      have hop : t.o.wp P a w (fun a' w' => (isM t.o = false → Agree w w') ∧ anyG P .any ops Q n (listed.setIfInBounds t.i true) a' w') Q := by
        refine op_ok (base := base + 8 * t.i) hc hst (fun m h1 h2 => hfr t htT m h1 h2) hk ?_
        intro σ1 g1 a1 w1 h1 hst1 hext1 hf1 hn1 hag
        refine ⟨hag, ?_⟩
        simp only [Option.some.injEq] at h1
        subst h1
        refine gen_ok hc HK n (T := pre ++ post) ?_ htr' (fun x hx => hT x (hmem x hx)) ?_ ?_ ?_ hst1 (fun x hx m q1 q2 => hf1 m ?_ (hfr x (hmem x hx) m q1 q2)) hrel.add (fun x hx => ?_) (fun x hx => ?_) (fun x hx y hy => ?_) (hext.trans hext1) (fun m hm hf => hf1 m (hm _ htB) (hfo m hm hf))
        · simp only [List.length_append, List.length_cons] at hl ⊢; omega
        · exact hpw.sublist (List.Sublist.append_left (List.sublist_cons_self _ _) pre)
        · exact hnd.sublist ((List.Sublist.append_left (List.sublist_cons_self _ _) pre).map _)
        · rw [List.map_append] at hlin ⊢
          exact Lin.take _ hlin
        · have := hne x hx; omega
        · rcases List.mem_cons.1 hx with rfl | hx
          · exact size_of hto
          · exact hds x hx
        · have h1 := hdn x hx
          simp only [List.mem_cons, h1, List.map_append, List.map_cons, List.mem_append, not_or]
          constructor
          · rintro (rfl | ⟨q1, q2, q3⟩)
            · refine ⟨fun hm => ?_, fun hm => ?_⟩
              · obtain ⟨y, hy, he⟩ := List.mem_map.1 hm
                exact hne y (List.mem_append.2 (.inl hy)) he
              · obtain ⟨y, hy, he⟩ := List.mem_map.1 hm
                exact hne y (List.mem_append.2 (.inr hy)) he
            · exact ⟨q1, q3⟩
          · rintro ⟨q1, q2⟩
            by_cases he : x = t.i
            · exact .inl he
            · exact .inr ⟨q1, he, q2⟩
        · intro hyd
          have hxT := hmem x hx
          obtain ⟨_, hxo, _⟩ := hT x hxT
          rcases List.mem_cons.1 hyd with rfl | hyd
          · have hw := later_wait (ops := ops) (b := x.i)
            refine waits_not hw.1 (fun z hz => ?_) ?_ hj hy
            · rw [hrel.getD (hw.2 z hz)]
              exact memN_false.2 (hinv x hxT z hz)
            · rw [hrel.getD (size_of hxo)]
              refine memN_false.2 fun hd => ?_
              exact (hdn _ (size_of hxo)).1 hd (List.mem_map.2 ⟨x, hxT, rfl⟩)
          · exact hinv x hxT y hy hyd
      unfold Go.wpOp
      simp only [hto]
      have hw : Region.wanted t.o (yielded ops a.tmps) = true := wanted_none hg.guard
      rw [if_pos hw]
      left
      refine Oper.wp_mono (fun a' w' hh => ⟨fun o' ho' hm => hh.1 (by simp only [Option.some.injEq] at ho'; rw [ho']; exact hm), hh.2⟩) hop
theorem linG_ok {all : List (Nat × Oper)} {done : List Nat} : {l : List (Nat × Oper)} → {d : List Nat} → linG all done d l = true → Lin d l ∧ ∀ x ∈ l, ∀ y ∈ laterL x.1 all [], y ∉ done
  | [], d, _ => ⟨trivial, by simp⟩
  | (i, o) :: l, d, h => by
    simp only [linG, Bool.and_eq_true] at h
    obtain ⟨h1, h2⟩ := linG_ok h.2
    refine ⟨⟨allIn_iff.1 h.1.1, h1⟩, fun x hx => ?_⟩
    rcases List.mem_cons.1 hx with rfl | hx
    · exact noneIn_iff.1 h.1.2
    · exact h2 x hx
theorem restL_mem {done : List Nat} {x : Nat × Oper} : {l : List (Nat × Oper)} → (x ∈ restL done l ↔ x ∈ l ∧ x.1 ∉ done)
  | [] => by simp [restL]
  | (i, o) :: l => by
    simp only [restL]
    cases hm : memN i done with
    | true =>
      rw [cond_true, restL_mem (l := l)]
      have := memN_iff.1 hm
      constructor
      · exact fun h => ⟨List.mem_cons_of_mem _ h.1, h.2⟩
      · rintro ⟨h1, h2⟩
        rcases List.mem_cons.1 h1 with rfl | h1
        · exact absurd this h2
        · exact ⟨h1, h2⟩
    | false =>
      rw [cond_false, List.mem_cons, restL_mem (l := l)]
      have := memN_false.1 hm
      constructor
      · rintro (rfl | h)
        · exact ⟨by simp, this⟩
        · exact ⟨List.mem_cons_of_mem _ h.1, h.2⟩
      · rintro ⟨h1, h2⟩
        rcases List.mem_cons.1 h1 with rfl | h1
        · exact .inl rfl
        · exact .inr ⟨h1, h2⟩
theorem restL_sub {done : List Nat} : (l : List (Nat × Oper)) → (restL done l).Sublist l
  | [] => List.Sublist.slnil
  | (i, o) :: l => by
    simp only [restL]
    cases memN i done with
    | true => exact (restL_sub l).cons _
    | false => exact (restL_sub l).cons_cons _
theorem lenN_eq : (l : List (Nat × Oper)) → lenN l = l.length
  | [] => rfl
  | _ :: l => by simp only [lenN, lenN_eq l, List.length_cons]
end

section
variable {P : Program} {c : Ctx}
theorem region_ok (hc : CtxOK P c) (hm : P.follows .mixedOrders = true) {id : Nat} {ops : Array Oper} {draw : Bool} {Q : Exit → Act → World → Prop} {σ : St} {g : Ghost} {a : Act} {w : World} {k : St → Option R} {r : R}
    (hQ : ∀ c a w, ¬ Q (.panic c) a w) (h : regionK c ops draw σ k = some r) (hst : StOK c.ntmps g w a σ) (hf : FreshUp g σ)
    (hK : ∀ σ' g' a' w', k σ' = some r → StOK c.ntmps g' w' a' σ' → Ext w g w' g' → FreshUp g' σ' → (∀ s, (∀ o ∈ ops.toList, o.dst ≠ some s) → a'.tmps[s]? = a.tmps[s]?) → Q .normal a' w') : (Code.region id ops draw).wp P Q a w := by
  have hQ1 : ∀ c a' w, ¬ keptQ ops a Q (.panic c) a' w := fun c a' w h => hQ c a' w (h (by simp))
  unfold regionK at h
  cases draw with
  | false =>
    simp only [cond_false] at h
    have hL := list_ok (K := fun a' w' => (∀ s, (∀ o ∈ ops.toList, o.dst ≠ some s) → a'.tmps[s]? = a.tmps[s]?) → Q .normal a' w') (Q := Q) hc (fun x hx => numbered_lt hx) (numbered_nodup _ _) h hst hf hK
    refine wp_text (wpL_mono (fun a' w' hh => hh.2 fun s hs => hh.1 s fun x hx => hs x.2 ?_) _ _ _ (wpL_slots _ _ _ hL))
    have := numbered_get x hx
    obtain ⟨hlt, he⟩ := Array.getElem?_eq_some_iff.1 this
    rw [← he]; simp
  | true =>
    simp only [cond_true] at h
    cases hok : drawOK ops.toList with
    | false =>
      rw [hok] at h
      simp only [cond_false] at h
      obtain ⟨hge, h⟩ := cond_run h
      simp only [genOK, Bool.and_eq_true] at hge
      obtain ⟨⟨⟨⟨hpl, hrun⟩, hpg⟩, hlg⟩, hlen⟩ := hge
      have hlen := Nat.eq_of_beq_eq_true hlen
      rw [lenN_eq, lenN_eq] at hlen
      unfold genRunK at h
      have hp := plain_of hpl
      have he : ({ w with drawn := w.drawn + 1 } : World).heap = w.heap := rfl
      have hmem : ∀ x ∈ drawL ops.toList, x ∈ numbered 0 ops.toList := fun x hx => orderL_mem x hx
      have hLN := okRun_new hrun
      obtain ⟨hlin, hlat⟩ := linG_ok hlg
      have hdone : ∀ x, x ∈ addDone (drawL ops.toList) [] ↔ x ∈ (drawL ops.toList).map Prod.fst := fun x => by rw [addDone_mem]; simp
      have hdsz : ∀ x ∈ addDone (drawL ops.toList) [], x < ops.size := by
        intro x hx
        obtain ⟨y, hy, rfl⟩ := List.mem_map.1 ((hdone x).1 hx)
        exact size_of (numbered_get _ (hmem y hy))
      refine wp_region_any hm (wpAny_kept (a0 := a) _ _ _ _ (fun _ _ => rfl) (wpAny_of_G _ _ _ _ ?_))
      refine anyG_cast (n := (drawL ops.toList).length + (restL (addDone (drawL ops.toList) []) (numbered 0 ops.toList)).length) (by rw [hlen]; simp) ?_
      refine order_pre hp hQ1 _ (fun x hx => numbered_get _ (hmem x hx)) Rel.start (by simp) hrun ?_
      refine opsK_ok hc dstOf_eq _ _ h (hst.heapEq he) (by intro s hs; simp at hs) hLN.1 (fun x _ m h1 _ => hf m (by omega)) (fun σ1 g1 a1 w1 h1 hst1 hext1 hf1 hn1 => ?_)
      intro listed hrel
      obtain ⟨T, σE, hT, htr, hk, hgood, _, hpw⟩ := genK_tr _ hpg h1
      have hTi : T.map Ent.i = (restL (addDone (drawL ops.toList) []) (numbered 0 ops.toList)).map Prod.fst := by
        rw [← hT, List.map_map]; rfl
      have hTm : ∀ t ∈ T, (t.i, t.o) ∈ restL (addDone (drawL ops.toList) []) (numbered 0 ops.toList) := by
        intro t ht
        rw [← hT]
        exact List.mem_map.2 ⟨t, ht, rfl⟩
      have hTl : T.length = (restL (addDone (drawL ops.toList) []) (numbered 0 ops.toList)).length := by
        rw [← hT, List.length_map]
      refine anyG_cast hTl ?_
      have hheap : ({ w with drawn := w.drawn + 1 } : World).heap = w.heap := rfl
      refine gen_ok (base := σ.next) (g0 := g1) (w0 := w1) (σ0 := σ1) (σE := σE) (B0 := T.map Ent.i) hc (fun g' a' w' hst' hext' hf' => ?_) T.length rfl htr (fun t ht => ⟨hgood t ht, numbered_get _ (restL_mem.1 (hTm t ht)).1, List.mem_map.2 ⟨t, ht, rfl⟩⟩) hpw ?_ ?_ hst1 (fun t ht m q1 q2 => ?_) hrel hdsz (fun x hx => ?_) (fun t ht => hlat _ (hTm t ht)) (Ext.refl _ _) (fun m _ hf => hf)
      · refine fun hkept => hK _ g' a' w' hk ⟨hst'.slots, hst'.heap, hst'.size, hst'.defers⟩ ((Ext.heapEq (g := g) he rfl rfl rfl (Nat.le_succ _)).trans (hext1.trans hext')) (fun m hm => ?_) (hkept rfl)
        have hm' : σ.next + 8 * ops.toList.length ≤ m := hm
        have := hf' m (fun i hi => .inr ?_) (hf1 m (fun x hx => .inr (by have := numbered_lt (hmem x hx); omega)) (hf m (by omega)))
        · exact ⟨this.objs, this.row, this.box, this.slots, this.cells⟩
        · rw [hTi] at hi
          obtain ⟨y, hy, rfl⟩ := List.mem_map.1 hi
          have := numbered_lt (restL_mem.1 hy).1
          omega
      · rw [hTi]
        exact (numbered_nodup ops.toList 0).sublist ((restL_sub _).map _)
      · rw [hT]; exact hlin
      · refine hf1 m (fun x hx => ?_) (hf m (by omega))
        have hne : x.1 ≠ t.i := by
          intro he2
          have := (restL_mem.1 (hTm t ht)).2
          simp only at this
          exact this ((hdone _).2 (List.mem_map.2 ⟨x, hx, he2⟩))
        omega
      · rw [hTi]
        constructor
        · intro hd hm2
          obtain ⟨y, hy, rfl⟩ := List.mem_map.1 hm2
          exact (restL_mem.1 hy).2 hd
        · intro hn
          refine Classical.byContradiction fun hd => hn ?_
          obtain ⟨o, ho⟩ : ∃ o, ops[x]? = some o := ⟨ops[x], by simp [hx]⟩
          exact List.mem_map.2 ⟨(x, o), restL_mem.2 ⟨numbered_of ho, hd⟩, rfl⟩
    | true =>
      rw [hok] at h
      simp only [cond_true] at h
      simp only [drawOK, Bool.and_eq_true] at hok
      have hnd := okOrder_nodup hok.2
      have hp := plain_of hok.1
      have hmem : ∀ x ∈ drawL ops.toList, x ∈ numbered 0 ops.toList := fun x hx => orderL_mem x hx
      refine wp_region_any hm (wpAny_kept (a0 := a) _ _ _ _ (fun _ _ => rfl) (wpAny_of_G _ _ _ _ (order_ok hp hQ1 _ (fun x hx => numbered_get _ (hmem x hx)) ?_ Rel.start (by simp) hok.2 ?_)))
      · have := orderL_len (dst := dstOf ops.toList) (all := numbered 0 ops.toList) ops.toList.length []
        simpa [drawL] using this
      · have he : ({ w with drawn := w.drawn + 1 } : World).heap = w.heap := rfl
        refine list_ok hc (fun x hx => numbered_lt (hmem x hx)) hnd.1 h (hst.heapEq he) hf (fun σ' g' a' w' hk hst' hext' hf' => ?_)
        exact fun hkept => hK σ' g' a' w' hk hst' ((Ext.heapEq (g := g) he rfl rfl rfl (Nat.le_succ _)).trans hext') hf' (hkept rfl)
end

end Go.Kz

/-
  Cuts: values in another form; the whole of a cut.
-/
namespace Go.Kz
variable {R : Type}

section
variable {n : Nat} {w : World} {a : Act} {g : Ghost} {σ : St} {k : St → Option R} {r : R}

theorem Shrunk.freshUp {g' : Ghost} {σ' : St} (h : Shrunk g σ.objs g' σ'.objs) (hs : σ'.slots = σ.slots) (hn : σ'.next = σ.next) (hf : FreshUp g σ) : FreshUp g' σ' :=
  fun m hm => h.fresh hs (hf m (by rw [← hn]; exact hm))

theorem FreshUp.ids {i : Nat} {av : AVal} (hf : FreshUp g σ) (h : σ.slots i = some av) : ∀ m, σ.next ≤ m → m ∉ av.ids := fun m hm => (hf m hm).slots i av h

/-- A value in another form: the same cells. -/
structure Turned (w : World) (g : Ghost) (σ : St) (x : AVal) (cs : List Value) (g' : Ghost) (σ' : St) (x' : AVal) : Prop where
  ok : AOK w g' σ'.objs x' cs
  sk : x'.sk = x.sk
  agg : x'.isAgg = x.isAgg
  val : x'.val = true
  ids : ∀ m, σ'.next ≤ m → m ∉ x'.ids
  slots : σ'.slots = σ.slots
  next : σ.next ≤ σ'.next
  cells : ∀ id z, σ'.objs id = some (.cell z) → σ.objs id = some (.cell z) ∧ g'.blk id = g.blk id

/-- A part of a row, cut to be the row. -/
theorem cutRow_ok {x : AVal} {f : AVal → St → Option R} {cs : List Value} (hst : StOK n g w a σ) (hf : FreshUp g σ) (hval : x.val = true) (hx : AOK w g σ.objs x cs) (hids : ∀ m, σ.next ≤ m → m ∉ x.ids) (h : cutRow σ x f = some r) :
    ∃ x' σ' g', f x' σ' = some r ∧ StOK n g' w a σ' ∧ Ext w g w g' ∧ FreshUp g' σ' ∧ Turned w g σ x cs g' σ' x' := by
  unfold cutRow at h
  split at h
  · rename_i id ep p q
    split at h
    · rename_i t l e hobj
      cases hb : Nat.beq e ep with
      | false => rw [hb] at h; simp at h
      | true =>
        rw [hb] at h
        have he := Nat.eq_of_beq_eq_true hb
        subst he
        simp only [cond_true] at h
        obtain ⟨u, rfl, hone, hv⟩ := hx
        obtain ⟨_, h0, hab, hbl, e1⟩ := (hv _ _ _ hobj).2 rfl
        let c : Ctx := ⟨0, fun _ => none, fun _ => none, n, fun _ => [], fun _ => none, fun _ _ => none, ⟨[], []⟩, fun _ => none, fun _ => none, fun _ => false⟩
        obtain ⟨hst1, hext1, hfr1⟩ := resize_ok (c := c) (e' := e + 1) hst hobj h0 hab hbl (Nat.lt_succ_self _)
        refine ⟨_, _, _, h, hst1, hext1, fun m hm => hfr1 m (hf m hm), ⟨u, rfl, hone, fun t' l' e' ho' => ?_⟩, rfl, rfl, rfl, fun m hm => hids m hm, rfl, Nat.le_refl _, fun i z hz => ?_⟩
        · simp only [St.setObj, upd_same, Option.some.injEq, Obj.row.injEq] at ho'
          obtain ⟨_, _, rfl⟩ := ho'
          exact ⟨Nat.le_refl _, fun _ => by simp only [svG, if_true]; exact e1⟩
        · by_cases hi : i = id
          · subst hi; simp [St.setObj, upd_same] at hz
          · simp only [St.setObj] at hz
            rw [upd_other _ _ hi] at hz
            exact ⟨hz, rfl⟩
    · simp at h
  · exact ⟨_, σ, g, h, hst, Ext.refl w g, hf, hx, rfl, rfl, hval, hids, rfl, Nat.le_refl _, fun _ _ hz => ⟨hz, rfl⟩⟩

theorem FreshUp.nil_row {t : Ty} (hst : StOK n g w a σ) (hf : FreshUp g σ) (ht : t.isRo = true) :
    StOK n (svG g σ.next (.slice none 0 0)) w a { σ.setObj σ.next (.row t [] 0) with next := σ.next + 1 } ∧ Ext w g w (svG g σ.next (.slice none 0 0)) ∧
      FreshUp (svG g σ.next (.slice none 0 0)) { σ.setObj σ.next (.row t [] 0) with next := σ.next + 1 } := by
  have hst' : StOK n (svG g σ.next (.slice none 0 0)) w a (σ.setObj σ.next (.row t [] 0)) := by
    refine hst.turn ⟨fun b hb => ⟨hb, rfl⟩⟩ (fun i hi => svG_same hi) (.inr (hf _ (Nat.le_refl _))) ?_ hst.heap.tags
    exact ⟨ht, none, 0, by simp [svG], by simp [svG], Nat.le_refl _, Nat.zero_le _, .inl ⟨rfl, rfl, rfl⟩⟩
  refine ⟨⟨hst'.slots, hst'.heap, hst'.size, hst'.defers⟩, ⟨rfl, rfl, rfl, Nat.le_refl _, Nat.le_refl _, fun b _ _ => ⟨rfl, rfl⟩⟩, fun m hm => ?_⟩
  have hm' : σ.next + 1 ≤ m := hm
  have := Fresh.turn (g := g) (g' := svG g σ.next (.slice none 0 0)) (o := .row t [] 0) (id := σ.next) (fun b => .inl rfl) (by omega) (by simp) (hf m (by omega))
  exact ⟨this.objs, this.row, this.box, this.slots, this.cells⟩

theorem convA_ok {x : AVal} {cv : Conv} {f : AVal → St → Option R} {cs : List Value} (hst : StOK n g w a σ) (hf : FreshUp g σ) (hval : x.val = true) (hx : AOK w g σ.objs x cs) (hids : ∀ m, σ.next ≤ m → m ∉ x.ids) (h : convA σ x cv f = some r) :
    ∃ x' σ' g', f x' σ' = some r ∧ StOK n g' w a σ' ∧ Ext w g w g' ∧ FreshUp g' σ' ∧ Turned w g σ x cs g' σ' x' := by
  cases cv with
  | row t =>
    simp only [convA] at h
    split at h
    · cases ht : t.isRo with
      | false => rw [ht] at h; simp at h
      | true =>
        rw [ht] at h
        simp only [cond_true] at h
        obtain ⟨h1, h2, h3⟩ := FreshUp.nil_row hst hf ht
        have hx' : cs = [.slice none 0 0] := hx
        subst hx'
        refine ⟨_, _, _, h, h1, h2, h3, ⟨_, rfl, rfl, fun t' l' e' ho' => ?_⟩, rfl, rfl, rfl, fun m hm => ?_, rfl, Nat.le_succ _, fun i z hz => ?_⟩
        · simp only [St.setObj, upd_same, Option.some.injEq, Obj.row.injEq] at ho'
          obtain ⟨_, _, rfl⟩ := ho'
          exact ⟨Nat.le_refl _, fun _ => by simp [svG]⟩
        · simp only [AVal.ids, List.mem_singleton]
          have hm' : σ.next + 1 ≤ m := hm
          omega
        · by_cases hi : i = σ.next
          · subst hi; simp [St.setObj, upd_same] at hz
          · simp only [St.setObj] at hz
            rw [upd_other _ _ hi] at hz
            exact ⟨hz, rfl⟩
    · exact cutRow_ok hst hf hval hx hids h
  | dat t =>
    simp only [convA] at h
    cases hb : (t.isRo && x.val && x.sk.same t.sk) with
    | false => rw [hb] at h; simp at h
    | true =>
      rw [hb] at h
      simp only [cond_true] at h
      simp only [Bool.and_eq_true] at hb
      have hsk := Sk.same_eq hb.2
      obtain ⟨d, σ', g', hk, hs, hn, hsh, hrep⟩ := give_ok 20 hst.heap hx hb.1.1 h
      refine ⟨_, σ', g', hk, hsh.st hs hst, hsh.ext, hsh.freshUp hs hn hf, ⟨hb.1.1, hrep⟩, hsk.symm, ?_, rfl, fun m _ => by simp [AVal.ids], hs, by rw [hn]; exact Nat.le_refl _, fun i z hz => ?_⟩
      · rw [(val_isAgg hval).1, hsk]; rfl
      · rcases hsh.objs i with e | e
        · rw [← e]; exact ⟨hz, by rw [hsh.blk]⟩
        · rw [e] at hz; simp at hz

theorem splice_self (l : List Value) (off n : Nat) (h : off + n ≤ l.length) : splice l off (seg l off n) = l := by
  have hs : (seg l off n).length = n := seg_length h
  simp only [splice, hs]
  rw [seg]
  have h1 : l.drop (off + n) = (l.drop off).drop n := by rw [List.drop_drop]
  rw [h1]
  conv => rhs; rw [← List.take_append_drop off l, ← List.take_append_drop n (l.drop off)]
  simp

theorem StOK.set {i : Nat} {x : AVal} {v : Value} (hst : StOK n g w a σ) (hv : a.tmps[i]? = some v) (hx : VOK w g σ.objs x v) : StOK n g w a (σ.set i x) := by
  refine ⟨fun j y hj => ?_, hst.heap, hst.size, hst.defers⟩
  simp only [St.set, upd] at hj
  cases hb : Nat.beq j i with
  | true =>
    rw [hb] at hj
    simp only [cond_true, Option.some.injEq] at hj
    subst hj
    have := Nat.eq_of_beq_eq_true hb
    subst this
    exact ⟨v, hv, hx⟩
  | false => rw [hb] at hj; exact hst.slots j y hj

theorem cell_set {id : Nat} {x x' : AVal} (hst : StOK n g w a σ) (hobj : σ.objs id = some (.cell x)) (hsk : x'.sk = x.sk)
    (hok : ∃ c e, w.heap[g.blk id]? = some (.cells c e (0, 0)) ∧ g.tag (g.blk id) = .box id ∧ AOK w g σ.objs x' c.toList) : StOK n g w a (σ.setObj id (.cell x')) := by
  have hk : IdKept g g id (σ.objs id) (some (.cell x')) := .inr (.inr (.inl ⟨x, x', hobj, rfl, hsk, rfl⟩))
  refine hst.turn ⟨fun b hb => ⟨hb, rfl⟩⟩ (fun i hi => ⟨⟨fun _ => rfl, fun _ b hb => ⟨hb, rfl⟩⟩, rfl, fun hb => ⟨hb, rfl⟩⟩) (.inl hk) ?_ hst.heap.tags
  obtain ⟨c, e, h1, h2, h3⟩ := hok
  refine ⟨c, e, h1, h2, ?_⟩
  refine AOK.frame ⟨fun b hb => ⟨hb, rfl⟩⟩ (fun i _ => ?_) h3
  by_cases hi : i = id
  · subst hi; simp only [St.setObj, upd_same]; exact hk
  · simp only [St.setObj]; rw [upd_other _ _ hi]; exact IdKept.refl g i _
theorem cell_fresh {id m : Nat} {x x' : AVal} (hf : Fresh g σ m) (hobj : σ.objs id = some (.cell x)) (hx : m ∉ x'.ids) : Fresh g (σ.setObj id (.cell x')) m := by
  have hm : m ≠ id := by intro he; subst he; have := hf.objs; rw [hobj] at this; simp at this
  refine ⟨by simp only [St.setObj]; rw [upd_other _ _ hm]; exact hf.objs, hf.row, hf.box, hf.slots, fun i y hi => ?_⟩
  by_cases he : i = id
  · subst he
    simp only [St.setObj, upd_same, Option.some.injEq, Obj.cell.injEq] at hi
    subst hi; exact hx
  · simp only [St.setObj] at hi
    rw [upd_other _ _ he] at hi
    exact hf.cells i y hi

theorem convK_ok : (l : List (Nat × Option Path × Conv)) → {g : Ghost} → {σ : St} → {k : St → Option R} → StOK n g w a σ → FreshUp g σ → convK l σ k = some r →
    ∃ σ' g', k σ' = some r ∧ StOK n g' w a σ' ∧ Ext w g w g' ∧ FreshUp g' σ'
  | [], g, σ, k, hst, hf, h => ⟨σ, g, h, hst, Ext.refl w g, hf⟩
  | (i, none, cv) :: l, g, σ, k, hst, hf, h => by
    simp only [convK] at h
    split at h
    · rename_i x hx
      obtain ⟨v, hv, hok⟩ := hst.slots i x hx
      cases hval : x.val with
      | false => rw [hval] at h; simp at h
      | true =>
        rw [hval] at h
        simp only [cond_true] at h
        obtain ⟨hag, hn1, hn2, hn3⟩ := val_isAgg hval
        obtain ⟨cs, hcs, hmk⟩ := VOK_cells hok hn3
        obtain ⟨x', σ1, g1, h, hst1, hext1, hf1, ht⟩ := convA_ok hst hf hval hcs (hf.ids hx) h
        obtain ⟨_, hm1, hm2, _⟩ := val_isAgg ht.val
        have hv1 : VOK w g1 σ1.objs x' v := VOK_of_cells ht.ok (by rw [ht.agg]; exact hmk) hm1 hm2
        obtain ⟨σ2, g2, h2, hst2, hext2, hf2⟩ := convK_ok l (hst1.set hv hv1) (fun m hm => (hf1 m hm).set i (ht.ids m hm)) h
        exact ⟨σ2, g2, h2, hst2, hext1.trans hext2, hf2⟩
    · simp at h
  | (i, some p, cv) :: l, g, σ, k, hst, hf, h => by
    simp only [convK] at h
    split at h
    · rename_i id q hx
      obtain ⟨y, y', off, cc, e, hobj, h, hoff, hcell, htag, hsz, hall, hpart, hids⟩ := bfetch_ok hst.heap h
      have hym : ∀ m, σ.next ≤ m → m ∉ y'.ids := fun m hm => hids m ((hf m hm).cells id y hobj)
      cases hval : y'.val with
      | false => rw [hval] at h; simp at h
      | true =>
        rw [hval] at h
        simp only [cond_true] at h
        obtain ⟨x', σ1, g1, h, hst1, hext1, hf1, ht⟩ := convA_ok hst hf hval hpart hym h
        obtain ⟨z, z', off2, cc2, e2, hobj2, h, hoff2, hcell2, htag2, hsz2, hall2, hpart2, hids2⟩ := bfetch_ok hst1.heap h
        have hcell3 := hcell2
        have htag3 := htag2
        obtain ⟨hz, hblk⟩ := ht.cells id z hobj2
        rw [hobj] at hz
        simp only [Option.some.injEq, Obj.cell.injEq] at hz
        subst hz
        rw [hblk, hcell] at hcell2
        simp only [Option.some.injEq, Go.Obj.cells.injEq] at hcell2
        obtain ⟨rfl, _, _⟩ := hcell2
        simp only [Sk.off, Option.some.injEq, Prod.mk.injEq] at hoff2
        obtain ⟨rfl, hzs⟩ := hoff2
        have hz' : AOK w g1 σ1.objs z' cc.toList := by
          have hl : z'.sk.size = cc.toList.length := by rw [← hzs, ← hall2.len]
          rw [hl, seg_all] at hpart2
          exact hpart2
        rw [hzs, ← ht.sk] at hoff
        obtain ⟨w', hk, hws, hwok, hwids⟩ := setA_rep ht.ok hz' hoff h
        rw [splice_self _ _ _ (by rw [Array.length_toList]; exact hsz)] at hwok
        obtain ⟨σ2, g2, h2, hst2, hext2, hf2⟩ := convK_ok l (cell_set hst1 hobj2 (hws.trans hzs.symm) ⟨_, _, hcell3, htag3, hwok⟩)
          (fun m hm => cell_fresh (hf1 m hm) hobj2 (hwids m (hids2 m ((hf1 m hm).cells _ _ hobj2)) (ht.ids m hm))) hk
        exact ⟨σ2, g2, h2, hst2, hext1.trans hext2, hf2⟩
    · simp at h

theorem normL_ok {cut : Cut} {k : List (Nat × AVal) → List Obj → Option R} (hst : StOK n g w a σ) (hf : FreshUp g σ) (h : normL cut σ k = some r) :
    ∃ sl os g', k sl os = some r ∧ StOK n g' w a (St.of sl os) ∧ Ext w g w g' ∧ FreshUp g' (St.of sl os) := by
  obtain ⟨σ1, g1, h, hst1, hext1, hf1⟩ := convK_ok cut.conv hst hf h
  split at h
  · rename_i l hl
    obtain ⟨sl, os, g2, h2, hst2, hext2, hf2⟩ := renum_ok (liveSlots_some hl) hst1 h
    exact ⟨sl, os, g2, h2, hst2, hext1.trans hext2, hf2⟩
  · simp at h
theorem norm_ok {cut : Cut} (hst : StOK n g w a σ) (hf : FreshUp g σ) (h : norm cut σ k = some r) :
    ∃ σ' g', k σ' = some r ∧ StOK n g' w a σ' ∧ Ext w g w g' ∧ FreshUp g' σ' := by
  obtain ⟨sl, os, g', h1, h2, h3, h4⟩ := normL_ok hst hf h
  exact ⟨_, g', h1, h2, h3, h4⟩
end

end Go.Kz

/-
  Code: what the interpreter says of it is what the model does.
-/
namespace Go.Kz
variable {R : Type}

def AExit.to : AExit → Exit
  | .normal => .normal
  | .exit i => .exit i
  | .ret => .ret

def wroteL (s : Nat) : List Oper → Bool
  | [] => false
  | o :: l => (match o.dst with
    | some d => Nat.beq d s
    | none => false) || wroteL s l
/-- Does the code write to the slot? -/
def wrote (s : Nat) : Code → Bool
  | .region _ ops _ => wroteL s ops.toList
  | .seq a b => wrote s a || wrote s b
  | .cond _ a b => wrote s a || wrote s b
  | .block _ b => wrote s b
  | .loop b => wrote s b
  | _ => false
theorem wroteL_no {s : Nat} : {l : List Oper} → wroteL s l = false → ∀ o ∈ l, o.dst ≠ some s
  | [], _, o, h => by simp at h
  | x :: l, hw, o, h => by
    simp only [wroteL, Bool.or_eq_false_iff] at hw
    rcases List.mem_cons.1 h with rfl | h
    · intro hd
      have h1 := hw.1
      rw [hd] at h1
      simp only [Nat.beq_refl] at h1
      cases h1
    · exact wroteL_no hw.2 o h
/-- The slots that some code leaves alone. -/
def Kept (b : Code) (a a' : Act) : Prop := ∀ s, wrote s b = false → a'.tmps[s]? = a.tmps[s]?

/-- What must hold wherever the code is left. -/
def Kont (n : Nat) (g : Ghost) (w : World) (k : AExit → St → Option R) (r : R) (F : Act → Prop) (Q : Exit → Act → World → Prop) : Prop :=
  ∀ e σ' g' a' w', k e σ' = some r → StOK n g' w' a' σ' → Ext w g w' g' → FreshUp g' σ' → F a' → Q e.to a' w'

theorem Kont.later {n : Nat} {g g' : Ghost} {w w' : World} {k : AExit → St → Option R} {r : R} {F F' : Act → Prop} {Q : Exit → Act → World → Prop} (h : Kont n g w k r F Q) (he : Ext w g w' g') (hF : ∀ a, F' a → F a) : Kont n g' w' k r F' Q :=
  fun e σ' g2 a' w2 hk hst hext hf hF' => h e σ' g2 a' w2 hk hst (he.trans hext) hf (hF a' hF')

section
variable {P : Program} {c : Ctx}

theorem code_ok (hc : CtxOK P c) (hm : P.follows .mixedOrders = true) : (code : Code) → (∀ b ∈ loopsOf code, LoopOK c b) → {σ : St} → {g : Ghost} → {a : Act} → {w : World} → {k : AExit → St → Option R} → {r : R} → {Q : Exit → Act → World → Prop} →
    (∀ ch a w, ¬ Q (.panic ch) a w) → codeK c code σ k = some r → StOK c.ntmps g w a σ → FreshUp g σ → Kont c.ntmps g w k r (Kept code a) Q → code.wp P Q a w
  | .skip, _, σ, g, a, w, k, r, Q, _, h, hst, hf, hk => Go.wp_skip (hk .normal σ g a w h hst (Ext.refl _ _) hf (fun _ _ => rfl))
  | .region id ops draw, _, σ, g, a, w, k, r, Q, hQ, h, hst, hf, hk => region_ok hc hm hQ h hst hf (fun σ' g' a' w' h' hst' hext' hf' hkp => hk .normal σ' g' a' w' h' hst' hext' hf' (fun s hs => hkp s (wroteL_no hs)))
  | .seq x y, hlo, σ, g, a, w, k, r, Q, hQ, h, hst, hf, hk => by
    simp only [codeK] at h
    refine wp_seq (code_ok hc hm x (fun b hb => hlo b (by simp [loopsOf, hb])) (Q := Exit.then (y.wp P Q) Q) hQ h hst hf ?_)
    intro e σ1 g1 a1 w1 h1 hst1 hext1 hf1 hkp1
    have hy : ∀ a', Kept y a1 a' → Kept (.seq x y) a a' := fun a' h s hs => by
      simp only [wrote, Bool.or_eq_false_iff] at hs
      rw [h s hs.2, hkp1 s hs.1]
    have hx : Kept (.seq x y) a a1 := fun s hs => by
      simp only [wrote, Bool.or_eq_false_iff] at hs
      exact hkp1 s hs.1
    cases e with
    | normal =>
      simp only [kSeq, kCut] at h1
      show y.wp P Q a1 w1
      split at h1
      · obtain ⟨σ2, g2, h2, hst2, hext2, hf2⟩ := norm_ok hst1 hf1 h1
        exact code_ok hc hm y (fun b hb => hlo b (by simp [loopsOf, hb])) hQ h2 hst2 hf2 (hk.later (hext1.trans hext2) hy)
      · exact code_ok hc hm y (fun b hb => hlo b (by simp [loopsOf, hb])) hQ h1 hst1 hf1 (hk.later hext1 hy)
    | exit i => exact hk (.exit i) σ1 g1 a1 w1 h1 hst1 hext1 hf1 hx
    | ret => exact hk .ret σ1 g1 a1 w1 h1 hst1 hext1 hf1 hx
  | .cond x p q, hlo, σ, g, a, w, k, r, Q, hQ, h, hst, hf, hk => by
    simp only [codeK] at h
    split at h
    · rename_i t ht
      have hv := VOK_bool (ev_ok hst ht).1
      refine wp_cond hv ?_
      cases t with
      | true => exact code_ok hc hm p (fun b hb => hlo b (by simp [loopsOf, hb])) hQ h hst hf (hk.later (Ext.refl _ _) fun a' h s hs => h s (by simp only [wrote, Bool.or_eq_false_iff] at hs; exact hs.1))
      | false => exact code_ok hc hm q (fun b hb => hlo b (by simp [loopsOf, hb])) hQ h hst hf (hk.later (Ext.refl _ _) fun a' h s hs => h s (by simp only [wrote, Bool.or_eq_false_iff] at hs; exact hs.2))
    · simp at h
  | .block id b, hlo, σ, g, a, w, k, r, Q, hQ, h, hst, hf, hk => by
    simp only [codeK] at h
    refine wp_block (code_ok hc hm b (fun b' hb => hlo b' (by simp [loopsOf, hb])) (Q := Exit.inBlock id Q) hQ h hst hf ?_)
    intro e σ1 g1 a1 w1 h1 hst1 hext1 hf1 hkp1
    have hx : Kept (.block id b) a a1 := hkp1
    cases e with
    | normal => exact hk .normal σ1 g1 a1 w1 h1 hst1 hext1 hf1 hx
    | exit i =>
      simp only [kBlock] at h1
      simp only [AExit.to, Exit.inBlock]
      cases hb : Nat.beq i id with
      | true =>
        rw [hb] at h1
        rw [if_pos (Nat.eq_of_beq_eq_true hb)]
        exact hk .normal σ1 g1 a1 w1 h1 hst1 hext1 hf1 hx
      | false =>
        rw [hb] at h1
        rw [if_neg (fun he => by subst he; rw [Nat.beq_refl] at hb; simp at hb)]
        exact hk (.exit i) σ1 g1 a1 w1 h1 hst1 hext1 hf1 hx
    | ret => exact hk .ret σ1 g1 a1 w1 h1 hst1 hext1 hf1 hx
  | .loop b, hlo, σ, g, a, w, k, r, Q, hQ, h, hst, hf, hk => by
    simp only [codeK] at h
    split at h
    · rename_i rg hrg
      split at h
      · rename_i lv hlv
        split at h
        · rename_i L hL
          obtain ⟨sl0, os0, g0, h, hst0, hext0, hf0⟩ := normL_ok hst hf h
          have h := hlo b (by simp [loopsOf]) rg lv L hrg hlv hL R sl0 os0 k r h
          refine wp_loop_rounds c.fuel ?_
          have rounds : ∀ (n : Nat) {sl : List (Nat × AVal)} {os : List Obj} {g1 : Ghost} {a1 : Act} {w1 : World}, loopN (codeK c b) lv n sl os (kExit c rg k) = some r → StOK c.ntmps g1 w1 a1 (St.of sl os) → FreshUp g1 (St.of sl os) → Ext w g w1 g1 → Kept b a a1 → Code.rounds P b Q n a1 w1 := by
            intro n
            induction n with
            | zero => intro sl os g1 a1 w1 h; simp [loopN] at h
            | succ n ih =>
            intro sl os g1 a1 w1 h hst hf hext hkp
            simp only [loopN] at h
            rw [rounds_succ]
            refine code_ok hc hm b (fun b' hb => hlo b' (by simp [loopsOf, hb])) (Q := Exit.then (Code.rounds P b Q n) Q) hQ h hst hf ?_
            intro e σ2 g2 a2 w2 h2 hst2 hext2 hf2 hkp2
            have hx : Kept (.loop b) a a2 := fun s hs => (hkp2 s hs).trans (hkp s hs)
            cases e with
            | normal =>
              obtain ⟨sl3, os3, g3, h3, hst3, hext3, hf3⟩ := normL_ok hst2 hf2 h2
              exact ih h3 hst3 hf3 ((hext.trans hext2).trans hext3) hx
            | exit i =>
              simp only [kExit] at h2
              split at h2
              · obtain ⟨σ3, g3, h3, hst3, hext3, hf3⟩ := norm_ok hst2 hf2 h2
                exact hk (.exit i) σ3 g3 a2 w2 h3 hst3 ((hext.trans hext2).trans hext3) hf3 hx
              · simp at h2
            | ret =>
              simp only [kExit] at h2
              obtain ⟨σ3, g3, h3, hst3, hext3, hf3⟩ := norm_ok hst2 hf2 h2
              exact hk .ret σ3 g3 a2 w2 h3 hst3 ((hext.trans hext2).trans hext3) hf3 hx
          exact rounds c.fuel h hst0 hf0 hext0 (fun _ _ => rfl)
        · simp at h
      · simp at h
    · simp at h
  | .exit id, _, σ, g, a, w, k, r, Q, _, h, hst, hf, hk => wp_exit (hk (.exit id) σ g a w h hst (Ext.refl _ _) hf (fun _ _ => rfl))
  | .ret, _, σ, g, a, w, k, r, Q, _, h, hst, hf, hk => wp_ret (hk .ret σ g a w h hst (Ext.refl _ _) hf (fun _ _ => rfl))
  | .goto _, _, _, _, _, _, _, _, _, _, h, _, _, _ => by simp [codeK] at h
  | .label _, _, _, _, _, _, _, _, _, _, h, _, _, _ => by simp [codeK] at h
  | .scope _, _, _, _, _, _, _, _, _, _, h, _, _, _ => by simp [codeK] at h
  | .rangeFunc _ _ _ _, _, _, _, _, _, _, _, _, _, h, _, _, _ => by simp [codeK] at h
  | .refuse _, _, _, _, _, _, _, _, _, _, h, _, _, _ => by simp [codeK] at h
end

end Go.Kz
