/-
  What an operation makes of a part of a state, it makes of the whole: every operation.
-/
import Derived.Test.YtakifbcgkbfclaaKzADD
set_option linter.unusedVariables false
set_option linter.unusedSimpArgs false
namespace Go.Kz
variable {R : Type}

/-- What an operation leaves: a value in a slot, objects. -/
structure Eff where
  sl : Option (Nat × AVal)
  ob : List (Nat × Option Obj)
def Eff.slot (e : Eff) (σ : St) : St := match e.sl with
  | some (d, v) => σ.set d v
  | none => σ
def Eff.app (e : Eff) (σ : St) : St := putO e.ob (e.slot σ)

structure Run (c : Ctx) (σ : St) (n : Nat) (o : Oper) (e : Eff) : Prop where
  sl : ∀ d v, e.sl = some (d, v) → o.dst = some d
  ob : Dom n σ e.ob
  eq : ∀ τ, SameAt o.op.operands.toList σ τ → OLe σ τ → ∀ (R' : Type) (k' : St → Option R'), opK0 c τ n o k' = k' (e.app τ)
  y : isY0 o = true → e.ob = []

theorem putO_set (d : Nat) (v : AVal) : (l : List (Nat × Option Obj)) → (σ : St) → (putO l σ).set d v = putO l (σ.set d v)
  | [], _ => rfl
  | (i, o) :: l, σ => by simp only [putO]; rw [putO_set d v l]; rfl

theorem putK_run {c : Ctx} {σ : St} {d : Option Nat} {v : AVal} {k : St → Option R} {r : R} (h : σ.putK c d v k = some r) :
    ∃ sl : Option (Nat × AVal), (∀ d' v', sl = some (d', v') → d = some d') ∧ k (Eff.slot ⟨sl, []⟩ σ) = some r ∧ ∀ (τ : St) (R' : Type) (k' : St → Option R'), τ.putK c d v k' = k' (Eff.slot ⟨sl, []⟩ τ) := by
  cases d with
  | none => exact ⟨none, by simp, h, fun _ _ _ => rfl⟩
  | some i =>
    simp only [St.putK] at h ⊢
    obtain ⟨hb, h⟩ := cond_run h
    exact ⟨some (i, v), by simp, h, fun _ _ _ => by rw [hb]; rfl⟩

/-- An operation that gives a value. -/
theorem run_val {c : Ctx} {σ : St} {n : Nat} {o : Oper} {k : St → Option R} {r : R} {v : AVal} (h : σ.putK c o.dst v k = some r)
    (ha : ∀ τ, SameAt o.op.operands.toList σ τ → OLe σ τ → ∀ (R' : Type) (k' : St → Option R'), opK0 c τ n o k' = τ.putK c o.dst v k') :
    ∃ e : Eff, k (e.app σ) = some r ∧ Run c σ n o e := by
  obtain ⟨sl, h1, h2, h3⟩ := putK_run h
  exact ⟨⟨sl, []⟩, h2, h1, Dom.nil, fun τ hs hle R' k' => by rw [ha τ hs hle, h3]; rfl, fun _ => rfl⟩

/-- An operation that makes objects and gives a value. -/
theorem run_obj {c : Ctx} {σ : St} {n : Nat} {o : Oper} {k : St → Option R} {r : R} {v : AVal} {ob : List (Nat × Option Obj)} (hy : isY0 o = false) (hd : Dom n σ ob) (h : (putO ob σ).putK c o.dst v k = some r)
    (ha : ∀ τ, SameAt o.op.operands.toList σ τ → OLe σ τ → ∀ (R' : Type) (k' : St → Option R'), opK0 c τ n o k' = (putO ob τ).putK c o.dst v k') :
    ∃ e : Eff, k (e.app σ) = some r ∧ Run c σ n o e := by
  obtain ⟨sl, h1, h2, h3⟩ := putK_run h
  have e : ∀ τ, Eff.slot ⟨sl, []⟩ (putO ob τ) = Eff.app ⟨sl, ob⟩ τ := by
    intro τ
    cases sl with
    | none => rfl
    | some x => exact putO_set _ _ ob τ
  refine ⟨⟨sl, ob⟩, by rw [← e]; exact h2, h1, hd, fun τ hs hle R' k' => by rw [ha τ hs hle, h3, e], fun h => ?_⟩
  rw [hy] at h; simp at h

theorem evI_same {l : List Operand} {σ τ : St} (h : SameAt l σ τ) {x : Option Operand} (hx : ∀ y, x = some y → y ∈ l) : evI τ x = evI σ x := by
  cases x with
  | none => rfl
  | some y => simp only [evI]; rw [ev_same h (hx y rfl)]

theorem opK0_run {c : Ctx} {σ : St} {n : Nat} {o : Oper} {k : St → Option R} {r : R} (hp : pureG c σ o = true) (h : opK0 c σ n o k = some r) : ∃ e : Eff, k (e.app σ) = some r ∧ Run c σ n o e := by
  unfold opK0 at h
  split at h
  · -- move
    rename_i x hop
    split at h
    · rename_i a hx
      exact run_val h fun τ hs _ R' k' => by simp only [opK0, hop]; rw [ev_same hs (by rw [hop]; simp [Op.operands]), hx]
    · simp at h
  · rename_i x hop
    split at h
    · rename_i a hx
      exact run_val h fun τ hs _ R' k' => by simp only [opK0, hop]; rw [ev_same hs (by rw [hop]; simp [Op.operands]), hx]
    · simp at h
  · -- pick
    rename_i t x y hop
    split at h
    · rename_i b ht
      cases b with
      | true =>
        simp only [cond_true] at h
        split at h
        · rename_i a hx
          exact run_val h fun τ hs _ R' k' => by
            simp only [opK0, hop]
            rw [ev_same hs (x := t) (by rw [hop]; simp [Op.operands]), ht, ev_same hs (x := x) (by rw [hop]; simp [Op.operands]), hx]; rfl
        · simp at h
      | false =>
        simp only [cond_false] at h
        split at h
        · rename_i a hx
          exact run_val h fun τ hs _ R' k' => by
            simp only [opK0, hop]
            rw [ev_same hs (x := t) (by rw [hop]; simp [Op.operands]), ht, ev_same hs (x := y) (by rw [hop]; simp [Op.operands]), hx]; rfl
        · simp at h
    · simp at h
  · -- binOp
    rename_i op t x y z hop
    split at h
    · rename_i a b hx hy
      obtain ⟨v, h, ha⟩ := binK_run h
      exact run_val h fun τ hs hle R' k' => by
        simp only [opK0, hop]
        rw [ev_same hs (x := x) (by rw [hop]; simp [Op.operands]), hx, ev_same hs (x := y) (by rw [hop]; simp [Op.operands]), hy]
        exact ha τ hle R' _
    · simp at h
  · -- unOp
    rename_i op t x hop
    split at h
    · rename_i a hx
      obtain ⟨v, h, ha⟩ := unK_run h
      exact run_val h fun τ hs hle R' k' => by
        simp only [opK0, hop]
        rw [ev_same hs (x := x) (by rw [hop]; simp [Op.operands]), hx]
        exact ha R' _
    · simp at h
  · -- indexAddr
    rename_i t x i hop
    split at h
    · rename_i a kd j u hx hi ht
      obtain ⟨v, h, ha⟩ := indexK_run h
      exact run_val h fun τ hs hle R' k' => by
        simp only [opK0, hop]
        rw [ev_same hs (x := x) (by rw [hop]; simp [Op.operands]), hx, ev_same hs (x := i) (by rw [hop]; simp [Op.operands]), hi, ht]
        exact ha τ hle R' _
    · simp at h
  · -- fieldAddr
    rename_i t x i hop
    split at h
    · rename_i a u hx ht
      obtain ⟨v, h, ha⟩ := fieldK_run h
      exact run_val h fun τ hs hle R' k' => by
        simp only [opK0, hop]
        rw [ev_same hs (x := x) (by rw [hop]; simp [Op.operands]), hx, ht]
        exact ha τ hle R' _
    · simp at h
  · -- index
    rename_i t x i hop
    split at h
    · rename_i nn t' l kd j m u hx hi ht
      obtain ⟨hc, h⟩ := cond_run h
      obtain ⟨d, hd, h⟩ := Option.bind_eq_some_iff.1 h
      exact run_val h fun τ hs hle R' k' => by
        simp only [opK0, hop]
        rw [ev_same hs (x := x) (by rw [hop]; simp [Op.operands]), hx, ev_same hs (x := i) (by rw [hop]; simp [Op.operands]), hi, ht]
        simp only [hc, cond_true, hd, Option.bind_some]
    · simp at h
  · -- field
    rename_i t x i hop
    split at h
    · rename_i a u hx ht
      obtain ⟨hc, h⟩ := cond_run h
      obtain ⟨v, h, ha⟩ := getA_run h
      obtain ⟨hc2, h⟩ := cond_run h
      exact run_val h fun τ hs hle R' k' => by
        simp only [opK0, hop]
        rw [ev_same hs (x := x) (by rw [hop]; simp [Op.operands]), hx, ht]
        simp only [hc, cond_true]
        rw [ha]
        simp only [hc2, cond_true]
    · simp at h
  · -- nilCheck
    rename_i x hop
    split at h
    · rename_i a hx
      obtain ⟨hc, h⟩ := cond_run h
      exact run_val h fun τ hs hle R' k' => by
        simp only [opK0, hop]
        rw [ev_same hs (x := x) (by rw [hop]; simp [Op.operands]), hx]
        simp only [holds_run hle hc, cond_true]
    · simp at h
  · -- load
    rename_i t x hop
    split at h
    · rename_i a u hx ht
      obtain ⟨v, h, ha⟩ := loadK_run h
      obtain ⟨hc, h⟩ := cond_run h
      exact run_val h fun τ hs hle R' k' => by
        simp only [opK0, hop]
        rw [ev_same hs (x := x) (by rw [hop]; simp [Op.operands]), hx, ht]
        simp only
        rw [ha τ hle]
        simp only [hc, cond_true]
    · simp at h
  · -- store
    rename_i t x y hop
    split at h
    · rename_i a b u hx hy ht hdst
      obtain ⟨hc, h⟩ := cond_run h
      obtain ⟨ob, h, hd, ha⟩ := storeK_run (n := n) h
      refine ⟨⟨none, ob⟩, h, by simp, hd, fun τ hs hle R' k' => ?_, fun hy => ?_⟩
      · simp only [opK0, hop]
        rw [ev_same hs (x := x) (by rw [hop]; simp [Op.operands]), hx, ev_same hs (x := y) (by rw [hop]; simp [Op.operands]), hy, ht, hdst]
        simp only [hc, cond_true]
        exact ha τ hle R' k'
      · simp [isY0, hop] at hy
    · simp at h
  · -- extract
    rename_i x i hop
    split at h
    · rename_i a hx
      split at h
      · rename_i v hv
        exact run_val h fun τ hs hle R' k' => by
          simp only [opK0, hop]
          rw [ev_same hs (x := x) (by rw [hop]; simp [Op.operands]), hx]
          simp only [hv]
      · simp at h
    · simp at h
  · -- alloc
    rename_i t hop
    split at h
    · rename_i z hz
      refine run_obj (v := .bptr n []) (ob := [(n, some (.cell z))]) (by simp [isY0, hop]) Dom.new (k := k) ?_ fun τ hs hle R' k' => ?_
      · cases hdst : o.dst with
        | none => rw [hdst] at h; exact h
        | some i => rw [hdst] at h; exact h
      · simp only [opK0, hop]
        rw [hz]
        cases o.dst <;> rfl
    · simp at h
  · -- box
    rename_i t x hop
    split at h
    · rename_i a hx
      obtain ⟨hc, h⟩ := cond_run h
      refine run_obj (v := .bptr n []) (ob := [(n, some (.cell a))]) (by simp [isY0, hop]) Dom.new (k := k) ?_ fun τ hs hle R' k' => ?_
      · cases hdst : o.dst with
        | none => rw [hdst] at h; exact h
        | some i => rw [hdst] at h; exact h
      · simp only [opK0, hop]
        rw [ev_same hs (x := x) (by rw [hop]; simp [Op.operands]), hx]
        simp only [hc, cond_true]
        cases o.dst <;> rfl
    · simp at h
  · -- makeFunc
    rename_i f first cap hop
    split at h
    · rename_i hf
      split at h
      · rename_i a ha
        obtain ⟨hc, h⟩ := cond_run h
        exact run_val h fun τ hs hle R' k' => by
          simp only [opK0, hop, hf]
          rw [evs_same hs (m := cap.toList) (fun x hx => by rw [hop]; simp only [Op.operands, Array.toList_append, List.mem_append]; exact .inr hx), ha]
          simp only [hc, cond_true]
      · simp at h
    · simp at h
  · -- makeSlice
    rename_i t len cap hop
    split at h
    · rename_i ow u htf
      split at h
      · rename_i z k1 l k2 m hz hl hm
        cases hu : u.isRo with
        | false =>
          rw [hu, cond_false] at h
          obtain ⟨hc, h⟩ := cond_run h
          obtain ⟨hb, h⟩ := chk_run h
          refine run_obj (v := .nv false n [] 0) (ob := [(n, some (.nest u (List.replicate l.toNat z) 0 0 none))]) (by simp [isY0, hop]) Dom.new (k := k) ?_ fun τ hs hle R' k' => ?_
          · cases hdst : o.dst with
            | none => rw [hdst] at h; exact h
            | some i => rw [hdst] at h; exact h
          · simp only [opK0, hop, htf]
            rw [hz, ev_same hs (x := len) (by rw [hop]; simp [Op.operands]), hl, ev_same hs (x := cap) (by rw [hop]; simp [Op.operands]), hm]
            simp only [hu, cond_false, hc, cond_true, hb, chk]
            cases o.dst <;> rfl
        | true =>
        rw [hu, cond_true] at h
        have hc := hu
        obtain ⟨hb, h⟩ := chk_run h
        refine run_obj (v := .ref n [] 0) (ob := [(n, some (.row u (List.replicate l.toNat z) 0))]) (by simp [isY0, hop]) Dom.new (k := k) ?_ fun τ hs hle R' k' => ?_
        · cases hdst : o.dst with
          | none => rw [hdst] at h; exact h
          | some i => rw [hdst] at h; exact h
        · simp only [opK0, hop, htf]
          rw [hz, ev_same hs (x := len) (by rw [hop]; simp [Op.operands]), hl, ev_same hs (x := cap) (by rw [hop]; simp [Op.operands]), hm]
          simp only [hc, cond_true, hb, chk]
          cases o.dst <;> rfl
      · simp at h
    · simp at h
  · -- build
    rename_i t ps hop
    split at h
    · rename_i a x y ha ht
      obtain ⟨hc, h⟩ := cond_run h
      exact run_val h fun τ hs hle R' k' => by
        simp only [opK0, hop]
        rw [evs_same hs (m := ps.toList.map (·.2)) (fun x hx => by rw [hop]; simp only [Op.operands]; exact hx), ha, ht]
        simp only [hc, cond_true]
    · simp at h
  · -- buildSlice
    rename_i t len ps hop
    split at h
    · rename_i ow u htf
      obtain ⟨hc, h⟩ := cond_run h
      obtain ⟨ds, ob, h, hd, ha⟩ := parts_run (n := n) (lo := o.op.operands.toList) (fun x hx => by rw [hop]; simp only [Op.operands]; exact List.mem_map.2 ⟨x, hx, rfl⟩) h
      cases hfz : froz c o.dst with
      | true =>
        rw [hfz, cond_true] at h
        refine run_obj (v := .data (.sl false u) ds) (ob := ob) (by simp [isY0, hop]) hd (k := k) ?_ fun τ hs hle R' k' => ?_
        · cases hdst : o.dst with
          | none => rw [hdst] at h; exact h
          | some i => rw [hdst] at h; exact h
        · simp only [opK0, hop, htf]
          simp only [hc, cond_true]
          rw [ha τ hs hle]
          simp only [hfz, cond_true]
          try (cases o.dst <;> rfl)
      | false =>
      rw [hfz, cond_false] at h
      refine run_obj (v := .ref n [] 0) (ob := ob ++ [(n, some (.row u ds 0))]) (by simp [isY0, hop]) (hd.append Dom.new) (k := k) ?_ fun τ hs hle R' k' => ?_
      · rw [putO_append]
        cases hdst : o.dst with
        | none => rw [hdst] at h; exact h
        | some i => rw [hdst] at h; exact h
      · simp only [opK0, hop, htf]
        simp only [hc, cond_true]
        rw [ha τ hs hle, putO_append]
        simp only [hfz, cond_false]
        cases o.dst <;> rfl
    · simp at h
  · -- makeMap
    rename_i t hop
    simp [pureG, hop] at hp
  · -- lookup
    rename_i t x i ok hop
    split at h
    · rename_i a b hx hi
      obtain ⟨id, kt, vt, m, _, h, ha⟩ := mapK_run h
      obtain ⟨hc, h⟩ := cond_run h
      obtain ⟨key, h, hb⟩ := asData_run _ _ _ h
      split at h
      · rename_i z hz
        cases ok with
        | true =>
          simp only [cond_true] at h
          exact run_val h fun τ hs hle R' k' => by
            simp only [opK0, hop]
            rw [ev_same hs (x := x) (by rw [hop]; simp [Op.operands]), hx, ev_same hs (x := i) (by rw [hop]; simp [Op.operands]), hi]
            simp only
            rw [ha τ hle]
            simp only [hc, cond_true]
            rw [hb τ hle]
            simp only [hz]
        | false =>
          simp only [cond_false] at h
          exact run_val h fun τ hs hle R' k' => by
            simp only [opK0, hop]
            rw [ev_same hs (x := x) (by rw [hop]; simp [Op.operands]), hx, ev_same hs (x := i) (by rw [hop]; simp [Op.operands]), hi]
            simp only
            rw [ha τ hle]
            simp only [hc, cond_true]
            rw [hb τ hle]
            simp only [hz, cond_false]
      · simp at h
    · simp at h
  · -- mapUpdate
    rename_i t x i y hop
    simp [pureG, hop] at hp
  · -- slice
    rename_i t x lo hi hop
    split at h
    · rename_i a ow u lo' hi' hx ht hlo hhi
      obtain ⟨v, h, ha⟩ := sliceK_run h
      exact run_val h fun τ hs hle R' k' => by
        simp only [opK0, hop]
        rw [ev_same hs (x := x) (by rw [hop]; simp [Op.operands]), hx, ht, evI_same hs (x := lo) (fun y hy => by rw [hop, hy]; simp [Op.operands]), hlo, evI_same hs (x := hi) (fun y hy => by rw [hop, hy]; simp [Op.operands]), hhi]
        exact ha τ hle R' _
    · simp at h
  · -- slice, its room cut
    rename_i t x hi mx hop
    split at h
    · rename_i id ep k1 h1 k2 m ow u hx hhi hmx ht
      split at h
      · rename_i t' l e ho
        obtain ⟨hc, h⟩ := cond_run h
        obtain ⟨hb, h⟩ := chk_run h
        refine run_obj (v := .ref id [] (e + 1)) (ob := [(id, some (.row t' (sub l 0 h1) (e + 1)))]) (by simp [isY0, hop]) (Dom.old ho) (k := k) ?_ fun τ hs hle R' k' => ?_
        · cases hdst : o.dst with
          | none => rw [hdst] at h; exact h
          | some i => rw [hdst] at h; exact h
        · simp only [opK0, hop]
          rw [ev_same hs (x := x) (by rw [hop]; simp [Op.operands]), hx, ev_same hs (x := hi) (by rw [hop]; simp [Op.operands]), hhi, ev_same hs (x := mx) (by rw [hop]; simp [Op.operands]), hmx, ht]
          simp only
          rw [hle _ _ ho]
          simp only [hc, cond_true, hb, chk]
          cases o.dst <;> rfl
      · simp at h
    · simp at h
  · -- len
    rename_i args ts hop
    split at h
    · rename_i x t hargs hts
      have hx' : x ∈ o.op.operands.toList := by rw [hop]; simp [Op.operands, Call.operands, hargs]
      split at h
      · rename_i a ow u hx ht
        obtain ⟨v, h, ha⟩ := lenK_run h
        exact run_val h fun τ hs hle R' k' => by
          simp only [opK0, hop, hargs, hts]
          rw [ev_same hs hx', hx, ht]
          exact ha τ hle R' _
      · rename_i a hx ht
        obtain ⟨id, kt, vt, m, _, h, ha⟩ := mapK_run h
        obtain ⟨hb, h⟩ := chk_run h
        exact run_val h fun τ hs hle R' k' => by
          simp only [opK0, hop, hargs, hts]
          rw [ev_same hs hx', hx, ht]
          simp only
          rw [ha τ hle]
          simp only [hb, chk, cond_true]
      · simp at h
    · simp at h
  · -- max
    rename_i args ts hop
    split at h
    · rename_i kd x rest hx
      obtain ⟨v, h, ha⟩ := foldInts_run h
      exact run_val h fun τ hs hle R' k' => by
        simp only [opK0, hop]
        rw [evs_same hs (m := args.toList) (fun x hx => by rw [hop]; simp [Op.operands, Call.operands]; simpa using hx), hx]
        exact ha R' _
    · simp at h
  · -- min
    rename_i args ts hop
    split at h
    · rename_i kd x rest hx
      obtain ⟨v, h, ha⟩ := foldInts_run h
      exact run_val h fun τ hs hle R' k' => by
        simp only [opK0, hop]
        rw [evs_same hs (m := args.toList) (fun x hx => by rw [hop]; simp [Op.operands, Call.operands]; simpa using hx), hx]
        exact ha R' _
    · simp at h
  · -- append
    rename_i args ts hop
    split at h
    · rename_i x y t t' hargs hts
      split at h
      · rename_i a b ow u hx hy ht
        obtain ⟨hc, h⟩ := cond_run h
        obtain ⟨v, ob, h, hd, ha⟩ := appendK_run h
        refine run_obj (by simp [isY0, hop]) hd h fun τ hs hle R' k' => ?_
        simp only [opK0, hop, hargs, hts]
        rw [ev_same hs (x := x) (by rw [hop]; simp [Op.operands, Call.operands, hargs]), hx, ev_same hs (x := y) (by rw [hop]; simp [Op.operands, Call.operands, hargs]), hy, ht]
        simp only [hc, cond_true]
        exact ha τ hle R' _
      · simp at h
    · simp at h
  · -- call
    rename_i g args ts hop
    split at h
    · rename_i gv av hg hav
      have hpc : ∀ fid all, calleeOf gv av = some (fid, all) → pureC (c.env fid) = true := by
        intro fid all hco
        simp only [pureG, hop] at hp
        rw [calleeOf_id hg hco] at hp
        exact hp
      obtain ⟨v, ob, h, hd, ha⟩ := callK_run hpc h
      refine run_obj (by simp [isY0, hop]) hd h fun τ hs hle R' k' => ?_
      simp only [opK0, hop]
      rw [ev_same hs (x := g) (by rw [hop]; simp [Op.operands, Call.operands]), hg, evs_same hs (m := args.toList) (fun x hx => by rw [hop]; simp [Op.operands, Call.operands]; right; simpa using hx), hav]
      exact ha τ hle R' _
    · simp at h
  · simp at h

end Go.Kz
