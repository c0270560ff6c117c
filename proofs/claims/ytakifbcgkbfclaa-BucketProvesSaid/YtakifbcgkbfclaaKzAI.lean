/-
  Functions: from the interpreter's equation to the contract.
-/
import Derived.Test.YtakifbcgkbfclaaKzAH
set_option linter.unusedVariables false
set_option linter.unusedSimpArgs false
namespace Go.Kz
variable {R : Type}

/-- The ghost before the caller: what was moved, in its order. -/
def indexO (x : Nat) : List (Option Nat) → Nat → Option Nat
  | [], _ => none
  | some y :: l, i => if y = x then some i else indexO x l (i + 1)
  | none :: l, i => indexO x l (i + 1)
theorem indexO_nth {x : Nat} : {l : List (Option Nat)} → {k d : Nat} → (l.filterMap id).Nodup → nthL l d = some (some x) → indexO x l k = some (k + d)
  | [], _, d, _, h => by cases d <;> simp [nthL] at h
  | none :: l, k, d, hn, h => by
    cases d with
    | zero => simp [nthL] at h
    | succ d =>
      simp only [indexO]
      rw [indexO_nth (l := l) (by simpa using hn) h]
      congr 1; omega
  | some y :: l, k, 0, _, h => by
    simp only [nthL, Option.some.injEq] at h
    simp [indexO, h]
  | some y :: l, k, d + 1, hn, h => by
    have hn' : y ∉ l.filterMap id ∧ (l.filterMap id).Nodup := by simpa using hn
    have hm : some x ∈ l := nthL_mem h
    have hne : y ≠ x := by
      intro he; subst he
      exact hn'.1 (List.mem_filterMap.2 ⟨some y, hm, rfl⟩)
    simp only [indexO, if_neg hne]
    rw [indexO_nth (l := l) hn'.2 h]
    congr 1; omega

def laidG (g : Ghost) (mv : List (Option Nat)) : Ghost where
  tag := fun b => match g.tag b with
    | .row i p => (match indexO i mv 0 with
      | some j => .row j p
      | none => .alien)
    | .box _ => .alien
    | t => t
  sv := fun j p => match nthL mv j with
    | some (some i) => g.sv i p
    | _ => .slice none 0 0
  blk := fun _ => 0

theorem laid_mk {w : World} {g : Ghost} {mv : List (Option Nat)} (hn : (mv.filterMap id).Nodup) : Laid w g mv (laidG g mv) 0 := by
  refine ⟨⟨fun b hb => ⟨by simp [laidG, hb], rfl⟩⟩, fun j i hj => ?_, fun j hj => by simp [laidG, hj]⟩
  have hx := indexO_nth (k := 0) hn hj
  rw [Nat.zero_add] at hx ⊢
  exact ⟨fun q => by simp [laidG, hj], fun q b hb => ⟨by simp [laidG, hb, hx], rfl⟩⟩
theorem laid_ext {w : World} {g : Ghost} {mv : List (Option Nat)} : Ext w g w (laidG g mv) := by
  refine ⟨rfl, rfl, rfl, Nat.le_refl _, fun b _ ht => ⟨rfl, ?_⟩⟩
  rcases ht with ht | ht <;> simp [laidG, ht]

theorem expose_isAgg : (t : Ty) → (d : t.den) → (n : Nat) → (expose t d n).1.isAgg = t.sk.isAgg
  | .sl true t, l, n => rfl
  | .sl false t, l, n => rfl
  | .int _, _, _ => rfl
  | .bool, _, _ => rfl
  | .str, _, _ => rfl
  | .unit, _, _ => rfl
  | .arr _ _, _, _ => rfl
  | .ptr _, _, _ => rfl
  | .fn _ _, _, _ => rfl
  | .pair a b, (x, y), n => by
    simp only [expose]
    cases (Ty.pair a b).isRo <;> rfl

theorem exposed_vok {w : World} {G : Ghost} {t : Ty} {d : t.den} {base : Nat} {cs : List Value} {v : Value} {agg : Bool} (h : Exposed w G (expose t d base) base cs) (hv : v = mkV agg cs) (ha : agg = t.sk.isAgg) (O : Objs) :
    VOK w G O (expose t d base).1 v :=
  VOK_of_cells (h.ok O) (by rw [expose_isAgg, hv, ha]) (expose_form t d base).1 (expose_form t d base).2.1

section
variable {n : Nat} {w : World} {a : Act} {g : Ghost} {σ : St} {r : R}

def exOKs : List Ty → Bool
  | [] => true
  | t :: ts => t.exOK && exOKs ts

/-- How a result is read. -/
def rvRun (tmps : Array Value) : ResultVar → Sem Value
  | .tmp t => pure (tmps.getD t undef)
  | .cell a t => do loadVar t (← asAddr (tmps.getD a undef))

theorem load_ok {x : AVal} {v : Value} {f : AVal → Option R} {r : R} (hh : HeapOK w g σ.objs) (ex : VOK w g σ.objs x v) (h : loadK σ x f = some r) :
    ∃ lv b off cc e fz, v = .pointer (some ⟨b, off, none⟩) ∧ w.heap[b]? = some (.cells cc e fz) ∧ off + lv.sk.size ≤ cc.size ∧ AOK w g σ.objs lv (seg cc.toList off lv.sk.size) ∧ f lv = some r := by
  unfold loadK at h
  split at h
  · rename_i t' d
    simp only [VOK] at ex
    obtain ⟨cs, ⟨hro, b, off, cc, e, fz, rfl, htag, hcell, hsz, hrep⟩, hv⟩ := ex
    exact ⟨.data t' d, b, off, cc, e, fz, hv, hcell, by simpa [AVal.sk, Ty.sk_size] using hsz, ⟨by simpa [Ty.isRo] using hro, by simpa [AVal.sk, Ty.sk_size] using hrep⟩, h⟩
  · rename_i id p ep
    split at h
    · simp at h
    · rename_i s q
      obtain ⟨t0, l0, ho0⟩ := efetch_obj h
      simp only [VOK] at ex
      obtain ⟨cs, ⟨v, rfl, hone, hv⟩, hv'⟩ := ex
      obtain ⟨hp, b0, off0, hpl, hvv⟩ := (hv _ _ _ ho0).2 rfl
      obtain ⟨t1, l1, u1, e1, b, off, cc, ee, ho1, hro, hk, hu1, hpl2, hty, htag, hcell, hsz, hrep⟩ := efetch_ok hh hp h
      rw [ho0] at ho1
      simp only [Option.some.injEq, Obj.row.injEq] at ho1
      obtain ⟨rfl, _, _⟩ := ho1
      rw [hpl] at hpl2
      simp only [Option.some.injEq, Prod.mk.injEq] at hpl2
      obtain ⟨rfl, rfl⟩ := hpl2
      exact ⟨.data u1 e1, b0, off0, cc, ee, (0, 0), by rw [hv']; exact hvv, hcell, by simpa [AVal.sk, Ty.sk_size] using hsz, ⟨hu1, by simpa [AVal.sk, Ty.sk_size] using hrep⟩, hk⟩
  · rename_i id p
    obtain ⟨xc, y, off, cc, e, hobj, h2, hoff, hcell, htag, hle, hall, hpart, hi⟩ := bfetch_ok hh h
    simp only [VOK] at ex
    obtain ⟨cs, ⟨v, rfl, hone, hv⟩, hv'⟩ := ex
    obtain ⟨off', s, hoff', hvv⟩ := hv _ hobj
    rw [hoff] at hoff'
    simp only [Option.some.injEq, Prod.mk.injEq] at hoff'
    obtain ⟨rfl, _⟩ := hoff'
    exact ⟨y, g.blk id, off, cc, e, (0, 0), by rw [hv']; exact hvv, hcell, hle, hpart, h2⟩
  · rename_i id p ep
    obtain ⟨t1, l1, e1, i1, hobj, hep, hrep, hk⟩ := nfetch_ok hh h
    simp only [VOK] at ex
    obtain ⟨cs, ⟨v, rfl, hone, hv⟩, hv'⟩ := ex
    obtain ⟨hp, b0, off0, hpl, hvv⟩ := ((hv _ _ _ _ _ hobj).2 hep).2 rfl
    cases p with
    | nil => exact absurd rfl hp
    | cons s q =>
      obtain ⟨u1, x1, bh, oh, ch, eh, ph, hk, hpl2, hty, _, htag, hcell, hsz, hr⟩ := nest_get hrep hk
      rw [hpl] at hpl2
      simp only [Option.some.injEq, Prod.mk.injEq] at hpl2
      obtain ⟨rfl, rfl⟩ := hpl2
      cases hro : u1.isRo with
      | true =>
        rw [hro] at hk
        exact ⟨.data u1 x1, b0, off0, ch, eh, (0, 0), by rw [hv']; exact hvv, hcell, by simpa [AVal.sk, Ty.sk_size] using hsz, ⟨hro, by simpa [AVal.sk, Ty.sk_size] using Rep.anyOwn (o' := none) hro hr⟩, hk⟩
      | false =>
        rw [hro] at hk
        simp only [cond_false] at hk
        split at hk
        · rename_i v1
          obtain ⟨ad, cp, hcs, hsv, _⟩ := hr
          refine ⟨.nv false id (s :: q) ep, b0, off0, ch, eh, (0, 0), by rw [hv']; exact hvv, hcell, hsz, ⟨_, hcs, rfl, fun t2 l2 e2 i2 h2 hobj' => ?_⟩, hk⟩
          rw [hobj] at hobj'
          simp only [Option.some.injEq, Obj.nest.injEq] at hobj'
          obtain ⟨rfl, _, rfl, rfl, _⟩ := hobj'
          have hi1 : i1 = ep := hep
          exact ⟨Nat.le_of_eq hi1.symm, fun _ => ⟨fun _ => hsv.symm, fun h => (by simp at h)⟩⟩
        · simp at hk
  · simp at h

/-- A result's value. -/
theorem rvK_ok {P : Program} {tt : Nat → Option Ty} (htt : TtOK P tt) {s : ResultVar} {f : AVal → Option R} {r : R} (hst : StOK n g w a σ) {t : Ty}
    (h : rvK tt σ s (fun av => cond (av.val && av.sk.same t.sk) (f av) none) = some r) :
    ∃ av v cs, f av = some r ∧ (rvRun a.tmps s).run P w = .ok v w ∧ AOK w g σ.objs av cs ∧ v = mkV t.sk.isAgg cs := by
  cases s with
  | tmp s =>
    simp only [rvK] at h
    split at h
    · rename_i av hs
      cases hb : (av.val && av.sk.same t.sk) with
      | false => rw [hb] at h; simp at h
      | true =>
        rw [hb] at h
        simp only [cond_true] at h
        simp only [Bool.and_eq_true] at hb
        obtain ⟨v, hv, hok⟩ := hst.slots s av hs
        obtain ⟨hag, _, _, hn3⟩ := val_isAgg hb.1
        obtain ⟨cs, hcs, hmk⟩ := VOK_cells hok hn3
        have hvg : a.tmps.getD s undef = v := by rw [Array.getD_eq_getD_getElem?, hv]; rfl
        exact ⟨av, v, cs, h, by simp [rvRun, hvg], hcs, by rw [hmk, hag, Sk.same_eq hb.2]⟩
    · simp at h
  | cell s T =>
    simp only [rvK] at h
    split at h
    · rename_i x u hs hu
      have hT := htt _ _ hu
      obtain ⟨v, hv, hok⟩ := hst.slots s x hs
      obtain ⟨lv, b, off, cc, e, fz, hvp, hcell, hle, hok', h⟩ := load_ok hst.heap hok h
      cases hc : u.sk.same lv.sk with
      | false => rw [hc] at h; simp at h
      | true =>
        rw [hc] at h
        simp only [cond_true] at h
        cases hb : (lv.val && lv.sk.same t.sk) with
        | false => rw [hb] at h; simp at h
        | true =>
          rw [hb] at h
          simp only [cond_true] at h
          simp only [Bool.and_eq_true] at hb
          have hsk := Sk.same_eq hc
          have hsk2 := Sk.same_eq hb.2
          have hsz : u.size = lv.sk.size := by rw [← hsk, Ty.sk_size]
          have hrun := run_loadVar (P := P) (w := w) hT hcell (by rw [hsz]; exact hle)
          have hvg : a.tmps.getD s undef = v := by rw [Array.getD_eq_getD_getElem?, hv]; rfl
          refine ⟨lv, mkV u.sk.isAgg (seg cc.toList off u.size), _, h, ?_, hok', ?_⟩
          · simp only [rvRun, hvg, hvp, asAddr, Sem.run_bind, Sem.run_pure, Result.andThen_ok]
            exact hrun
          · rw [hsz, hsk, hsk2]
    · simp at h

/-- One result. -/
theorem res1_ok {P : Program} {tt : Nat → Option Ty} (htt : TtOK P tt) {t : Ty} {s : ResultVar} {k : t.den → St → Option R} (hst : StOK n g w a σ) (ht : t.exOK = true) (h : rvK tt σ s (fun a => cond (a.val && a.sk.same t.sk) (give 20 a t σ k) none) = some r) :
    ∃ d σ' g' mv v, k d σ' = some r ∧ (rvRun a.tmps s).run P w = .ok v w ∧ StOK n g' w a σ' ∧ Shr g σ.objs g' σ'.objs mv ∧ (∀ m, (expose t d m).2.length = mv.length) ∧
      ∀ G base, Laid w g' mv G base → (∀ O, VOK w G O (expose t d base).1 v) ∧ ∀ O j o, nthL (expose t d base).2 j = some o → ObjOK w G O (base + j) o := by
  obtain ⟨av, v, cs, h, hrun, hcs, hmk⟩ := rvK_ok htt hst h
  obtain ⟨d, σ', g', mv, hk, h1, h2, h3, hl, he, _⟩ := giveM_ok 20 hst.heap hcs ht h
  have hst' : StOK n g' w a σ' := by
    refine ⟨fun i x hi => ?_, h3.heap hst.heap, hst.size, hst.defers⟩
    rw [h1] at hi
    obtain ⟨u, hu, hx⟩ := hst.slots i x hi
    exact ⟨u, hu, VOK.frame (h3.ro w) (fun id _ => h3.kept (w := w) id) hx⟩
  refine ⟨d, σ', g', mv, v, hk, hrun, hst', h3, hl, fun G base hL => ?_⟩
  have hE := he G base hL
  exact ⟨fun O => exposed_vok hE hmk rfl O, hE.objs⟩

theorem resK_one {tt : Nat → Option Ty} {t : Ty} {rs : List ResultVar} {k : resDen [t] → St → Option R} {r : R} (h : resK tt σ [t] rs k = some r) :
    ∃ s, rs = [s] ∧ rvK tt σ s (fun a => cond (a.val && a.sk.same t.sk) (give 20 a t σ k) none) = some r := by
  match rs, h with
  | [s], h => exact ⟨s, rfl, h⟩
  | [], h => simp [resK] at h
  | _ :: _ :: _, h => simp [resK] at h
theorem resK_more {tt : Nat → Option Ty} {t u : Ty} {ts : List Ty} {rs : List ResultVar} {k : resDen (t :: u :: ts) → St → Option R} {r : R} (h : resK tt σ (t :: u :: ts) rs k = some r) :
    ∃ s l, rs = s :: l ∧ rvK tt σ s (fun a => cond (a.val && a.sk.same t.sk) (give 20 a t σ fun d σ => resK tt σ (u :: ts) l fun ds σ => k (d, ds) σ) none) = some r := by
  match rs, h with
  | s :: l, h => exact ⟨s, l, rfl, h⟩
  | [], h => simp [resK] at h

/-- Readings, one after another. -/
def Reads (P : Program) (tmps : Array Value) (w : World) : List ResultVar → List Value → Prop
  | [], [] => True
  | s :: l, v :: vs => (rvRun tmps s).run P w = .ok v w ∧ Reads P tmps w l vs
  | _, _ => False

/-- Several results, one after another. -/
theorem resL_ok {P : Program} {tt : Nat → Option Ty} (htt : TtOK P tt) : (ts : List Ty) → (rs : List ResultVar) → {g : Ghost} → {σ : St} → {k : resDen ts → St → Option R} → {r : R} → ts ≠ [] → StOK n g w a σ → exOKs ts = true → resK tt σ ts rs k = some r →
    ∃ (d : resDen ts) (σ' : St) (g' : Ghost) (mv : List (Option Nat)) (vs : List Value), k d σ' = some r ∧ Reads P a.tmps w rs vs ∧ vs.length = ts.length ∧ StOK n g' w a σ' ∧ Shr g σ.objs g' σ'.objs mv ∧ (∀ m, (exposeRes.chain ts d m).2.length = mv.length) ∧
      (∀ G base, Laid w g' mv G base → (∀ O, VsOK w G O (exposeRes.chain ts d base).1 vs) ∧ ∀ O j o, nthL (exposeRes.chain ts d base).2 j = some o → ObjOK w G O (base + j) o)
  | [], _, _, _, _, _, hne, _, _, _ => absurd rfl hne
  | [t], rs, g, σ, k, r, _, hst, ht, h => by
    simp only [exOKs, Bool.and_true] at ht
    obtain ⟨s, rfl, h⟩ := resK_one h
    obtain ⟨d, σ', g', mv, v, hk, hrun, hst', hsh, hl, he⟩ := res1_ok htt hst ht h
    refine ⟨d, σ', g', mv, [v], hk, ⟨hrun, trivial⟩, rfl, hst', hsh, fun m => by simp only [exposeRes.chain]; exact hl m, fun G base hL => ?_⟩
    obtain ⟨h1, h2⟩ := he G base hL
    simp only [exposeRes.chain]
    refine ⟨fun O => ?_, h2⟩
    simp only [VsOK]
    exact ⟨_, _, rfl, h1 O, rfl⟩
  | t :: u :: ts, rs, g, σ, k, r, _, hst, ht, h => by
    simp only [exOKs, Bool.and_eq_true] at ht
    obtain ⟨s, l, rfl, h⟩ := resK_more h
    obtain ⟨d, σ1, g1, mv1, v, hk, hrun, hst1, hsh1, hl1, he1⟩ := res1_ok htt hst ht.1 h
    obtain ⟨ds, σ2, g2, mv2, vs, hk2, hss, hlen, hst2, hsh2, hl2, he2⟩ := resL_ok htt (u :: ts) l (by simp) hst1 (by simp only [exOKs, Bool.and_eq_true]; exact ht.2) hk
    refine ⟨(d, ds), σ2, g2, mv1 ++ mv2, v :: vs, hk2, ⟨hrun, hss⟩, by simp [hlen], hst2, hsh1.trans hsh2, fun m => ?_, fun G base hL => ?_⟩
    · simp only [exposeRes.chain, List.length_append, hl1, hl2]
    · obtain ⟨h1, h2⟩ := he1 G base (hL.left hsh2 (fun i hi => (hsh1.mv i hi).2))
      obtain ⟨h3, h4⟩ := he2 G (base + mv1.length) hL.right
      simp only [exposeRes.chain]
      rw [hl1 base]
      refine ⟨fun O => ?_, fun O j o hj => ?_⟩
      · simp only [VsOK]
        exact ⟨_, _, rfl, h1 O, h3 O⟩
      · rw [nthL_append] at hj
        split at hj
        · exact h2 O j o hj
        · rename_i hge
          rw [hl1 base] at hj hge
          have := h4 O _ o hj
          rw [show base + mv1.length + (j - mv1.length) = base + j from by omega] at this
          exact this

theorem run_mapM {P : Program} {tmps : Array Value} {w : World} : (rs : List ResultVar) → (vs : List Value) → Reads P tmps w rs vs → (rs.mapM (rvRun tmps)).run P w = .ok vs w
  | [], [], _ => by simp
  | s :: l, v :: vs, h => by
    have ih := run_mapM l vs h.2
    rw [List.mapM_cons]
    simp only [Sem.run_bind, h.1, Result.andThen_ok, ih, Sem.run_pure]
  | [], _ :: _, h => h.elim
  | _ :: _, [], h => h.elim
def tupV : List Value → Value
  | [v] => v
  | vs => .tuple vs.toArray
theorem run_results {P : Program} {fn : Func} (tmps : Array Value) {w : World} {vs : List Value} (h : Reads P tmps w fn.results.toList vs) : (results fn tmps).run P w = .ok (tupV vs) w := by
  have e : results fn tmps = (do let vs ← fn.results.mapM (rvRun tmps); pure (if h : vs.size = 1 then vs[0] else .tuple vs) : Sem Value) := by
    unfold results
    refine congrArg (fun f => (Array.mapM f fn.results >>= fun vs => pure (if h : vs.size = 1 then vs[0] else Value.tuple vs) : Sem Value)) (funext fun x => ?_)
    cases x <;> rfl
  have h1 := run_mapM _ _ h
  have h2 : (fn.results.mapM (rvRun tmps)).run P w = .ok vs.toArray w := by
    rw [Array.mapM_eq_mapM_toList]
    rw [Sem.run_map, h1]
    rfl
  rw [e]
  simp only [Sem.run_bind, h2, Result.andThen_ok, Sem.run_pure]
  match vs with
  | [] => simp [tupV]
  | [v] => simp [tupV]
  | _ :: _ :: _ => simp [tupV]

theorem res_heap {O : List Obj} {mv : List (Option Nat)} {g' : Ghost} (hh : ∀ b, g'.tag b ≠ .alien → b < w.heap.size) (ho : ∀ j o, nthL O j = some o → ObjOK w (laidG g' mv) (nthL O) (0 + j) o) : HeapOK w (laidG g' mv) (nthL O) := by
  refine ⟨fun j o hj => by have := ho j o hj; rw [Nat.zero_add] at this; exact this, fun b hb => hh b (fun h => hb (by simp [laidG, h]))⟩

/-- The results of a function, as the caller gets them. -/
theorem res_ok {P : Program} {tt : Nat → Option Ty} (htt : TtOK P tt) {fn : Func} {ts : List Ty} {r : resDen ts} (hst : StOK n g w a σ) (ht : exOKs ts = true) (h : resK tt σ ts fn.results.toList (fun r _ => some r) = some r) :
    ∃ v g', (results fn a.tmps).run P w = .ok v w ∧ Ext w g w g' ∧ ResOK w g' (exposeRes ts r 0) v := by
  match ts, r, ht, h with
  | [], r, _, h =>
    have hr : fn.results.toList = [] := by
      generalize fn.results.toList = rs at h
      cases rs with
      | nil => rfl
      | cons x l => simp [resK] at h
    refine ⟨.tuple #[], laidG g [], run_results a.tmps (vs := []) (by rw [hr]; trivial), laid_ext, res_heap hst.heap.tags (fun j o hj => by cases j <;> simp [exposeRes, nthL] at hj), ?_⟩
    simp only [exposeRes, VOK]
    exact ⟨[], rfl, by simp [VsOK]⟩
  | [t], r, ht, h =>
    simp only [exOKs, Bool.and_true] at ht
    obtain ⟨s, hrs, h⟩ := resK_one h
    obtain ⟨d, σ', g', mv, v, hk, hrun, hst', hsh, hlm, he⟩ := res1_ok htt hst ht h
    simp only [Option.some.injEq] at hk
    subst hk
    obtain ⟨h1, h2⟩ := he (laidG g' mv) 0 (laid_mk hsh.nodup)
    exact ⟨v, laidG g' mv, run_results a.tmps (vs := [v]) (by rw [hrs]; exact ⟨hrun, trivial⟩), hsh.ext.trans laid_ext, res_heap hst'.heap.tags (fun j o hj => h2 _ j o hj), h1 _⟩
  | t :: u :: ts, r, ht, h =>
    obtain ⟨d, σ', g', mv, vs, hk, hss, hlen, hst', hsh, hlm, he⟩ := resL_ok htt (t :: u :: ts) _ (by simp) hst ht h
    simp only [Option.some.injEq] at hk
    subst hk
    obtain ⟨h1, h2⟩ := he (laidG g' mv) 0 (laid_mk hsh.nodup)
    have hrun := run_results a.tmps hss
    refine ⟨.tuple vs.toArray, laidG g' mv, ?_, hsh.ext.trans laid_ext, res_heap hst'.heap.tags (fun j o hj => ?_), ?_⟩
    · match vs, hlen, hrun with
      | _ :: _ :: _, _, hrun => exact hrun
    · exact h2 _ j o (by simpa [exposeRes, exposeRes.chain] using hj)
    · simp only [exposeRes, VOK]
      exact ⟨_, rfl, by have := h1 (nthL (exposeRes (t :: u :: ts) d 0).2); simpa [exposeRes, exposeRes.chain] using this⟩
end

/-! ## Parameters -/

theorem argSlots_ok {w : World} {g : Ghost} {objs : Objs} : (p : APat) → (d : p.den) → (i0 : Nat) → {vals : List Value} → RoArgs w g p d vals → ∀ i av, argSlots p d i0 i = some av → i0 ≤ i ∧ ∃ v, vals[i - i0]? = some v ∧ VOK w g objs av v
  | .pr (.val t) q, (x, y), i0, v :: vs, h, i, av, hi => by
    obtain ⟨hro, ⟨cs, hr, hv⟩, hrest⟩ := h
    simp only [argSlots, upd] at hi
    cases hb : Nat.beq i i0 with
    | true =>
      rw [hb] at hi
      simp only [cond_true, Option.some.injEq] at hi
      subst hi
      have := Nat.eq_of_beq_eq_true hb
      subst this
      exact ⟨Nat.le_refl _, v, by simp, cs, ⟨hro, hr⟩, hv⟩
    | false =>
      rw [hb] at hi
      obtain ⟨h1, u, h2, h3⟩ := argSlots_ok q y (i0 + 1) hrest i av hi
      refine ⟨by omega, u, ?_, h3⟩
      have e : i - i0 = (i - (i0 + 1)) + 1 := by omega
      rw [e]; simpa using h2
  | .pr (.val t) q, (x, y), i0, [], h, i, av, hi => h.elim
  | .un, _, _, _, _, _, _, hi => by simp [argSlots] at hi
  | .val _, _, _, _, _, _, _, hi => by simp [argSlots] at hi
  | .ref _, _, _, _, _, _, _, hi => by simp [argSlots] at hi
  | .bptr _, _, _, _, _, _, _, hi => by simp [argSlots] at hi
  | .clos _ _, _, _, _, _, _, _, hi => by simp [argSlots] at hi
  | .agg _, _, _, _, _, _, _, hi => by simp [argSlots] at hi
  | .pr (.ref _) _, _, _, _, _, _, _, hi => by simp [argSlots] at hi
  | .pr (.bptr _) _, _, _, _, _, _, _, hi => by simp [argSlots] at hi
  | .pr (.clos _ _) _, _, _, _, _, _, _, hi => by simp [argSlots] at hi
  | .pr (.agg _) _, _, _, _, _, _, _, hi => by simp [argSlots] at hi
  | .pr (.pr _ _) _, _, _, _, _, _, _, hi => by simp [argSlots] at hi
  | .pr .un _, _, _, _, _, _, _, hi => by simp [argSlots] at hi

def APat.len : APat → Nat
  | .pr _ q => q.len + 1
  | _ => 0
theorem roArgs_len {w : World} {g : Ghost} : (p : APat) → (d : p.den) → {vals : List Value} → RoArgs w g p d vals → vals.length = p.len
  | .pr (.val t) q, (x, y), v :: vs, h => by simp [APat.len, roArgs_len q y h.2.2]
  | .pr (.val t) q, (x, y), [], h => h.elim
  | .un, _, [], _ => rfl
  | .un, _, _ :: _, h => h.elim
  | .val _, _, _, h => h.elim
  | .ref _, _, _, h => h.elim
  | .bptr _, _, _, h => h.elim
  | .clos _ _, _, _, h => h.elim
  | .agg _, _, _, h => h.elim
  | .pr (.ref _) _, _, _, h => h.elim
  | .pr (.bptr _) _, _, _, h => h.elim
  | .pr (.clos _ _) _, _, _, h => h.elim
  | .pr (.agg _) _, _, _, h => h.elim
  | .pr (.pr _ _) _, _, _, h => h.elim
  | .pr .un _, _, _, h => h.elim

theorem entry_ok {w : World} {g : Ghost} {p : APat} {d : p.den} {vals : List Value} {n : Nat} (ht : ∀ b, g.tag b ≠ .alien → g.tag b = .ro ∧ b < w.heap.size) (h : RoArgs w g p d vals) (hn : p.len ≤ n) :
    StOK n g w { tmps := vals.toArray ++ Array.replicate (n - vals.toArray.size) undef, defers := [] } (entry p d) ∧ FreshUp g (entry p d) := by
  have hl := roArgs_len p d h
  refine ⟨⟨fun i av hi => ?_, ⟨fun id o ho => by simp [entry] at ho, fun b hb => (ht b hb).2⟩, by simp [hl]; omega, rfl⟩, fun m _ => ⟨rfl, fun b p hb => ?_, fun b hb => ?_, fun i av hi => ?_, fun id av ho => by simp [entry] at ho⟩⟩
  · obtain ⟨_, v, h1, h2⟩ := argSlots_ok (objs := (entry p d).objs) p d 0 h i av hi
    rw [Nat.sub_zero] at h1
    refine ⟨v, ?_, h2⟩
    have hlt := (List.getElem?_eq_some_iff.1 h1).1
    rw [Array.getElem?_append_left (by simpa using hlt)]
    simpa using h1
  · have := (ht b (by rw [hb]; simp)).1; rw [hb] at this; simp at this
  · have := (ht b (by rw [hb]; simp)).1; rw [hb] at this; simp at this
  · have key : ∀ (p : APat) (d : p.den) (i0 : Nat) (i : Nat) (av : AVal), argSlots p d i0 i = some av → av.ids = [] := by
      intro p
      induction p with
      | pr a q iha ihq =>
        cases a with
        | val t =>
          intro d i0 i av hi
          obtain ⟨x, y⟩ := d
          simp only [argSlots, upd] at hi
          cases hb : Nat.beq i i0 with
          | true => rw [hb] at hi; simp only [cond_true, Option.some.injEq] at hi; subst hi; rfl
          | false => rw [hb] at hi; exact ihq y _ i av hi
        | _ => intro d i0 i av hi; simp [argSlots] at hi
      | _ => intro d i0 i av hi; simp [argSlots] at hi
    rw [key p d 0 i av hi]; simp

/-- A function's contract, from the interpreter's equation. -/
theorem fn_ok {P : Program} {f : Nat} {fn : Func} {body : Code} {c : Ctx} {p : APat} {ts : List Ty} {F : p.den → Option (resDen ts)} (hf : P.funcs[f]? = some fn) (hb : fn.body = some body) (hnm : (fn.name == "runtime.NumGoroutine") = false)
    (hc : CtxOK P c) (hm : P.follows .mixedOrders = true) (hn : c.ntmps = fn.ntmps) (hp : p.len ≤ fn.ntmps) (ht : exOKs ts = true) (hl : ts.length ≤ 6)
    (hlo : ∀ b ∈ loopsOf body, LoopOK c b) (heq : ∀ d, bodyK c ts fn.results.toList body (entry p d) = F d) : CalleeOK P f (.pure p ts F) := by
  intro w g d vals r htag hargs hF
  left
  refine ⟨?_, ?_⟩
  · have hnm' : ¬ fn.name = "runtime.NumGoroutine" := by simpa using hnm
    simp [callFunc, hf, hb, hnm']
  rw [← heq] at hF
  obtain ⟨hst, hfr⟩ := entry_ok htag hargs hp
  rw [← hn] at hst
  refine calls_of_wp hf hb ?_
  rw [← hn]
  refine code_ok hc hm body hlo (Q := bodyPost P fn _) (fun ch a w h => ?_) hF hst hfr ?_
  · obtain ⟨_, v, h, _⟩ := h
    cases h
  · intro e σ' g' a' w' hk hst' hext' hf'
    have fin : ∀ {σ' : St}, norm c.res σ' (fun σ => resK c.tt σ ts fn.results.toList fun r _ => some r) = some r → StOK c.ntmps g' w' a' σ' → FreshUp g' σ' →
        ∃ v, (results fn a'.tmps).run P w' = .ok v w' ∧ ∃ g', Ext w g w' g' ∧ ResOK w' g' (exposeRes ts r 0) v := by
      intro σ' hk hst' hf'
      obtain ⟨σ1, g1, h1, hst1, hext1, _⟩ := norm_ok hst' hf' hk
      obtain ⟨v, g2, hr, hext2, hres⟩ := res_ok (P := P) hc.tt hst1 ht h1
      exact ⟨v, hr, g2, (hext'.trans hext1).trans hext2, hres⟩
    cases e with
    | exit id => simp at hk
    | normal =>
      obtain ⟨v, h1, h2⟩ := fin hk hst' hf'
      exact ⟨hst'.defers, v, h1, v, rfl, h2⟩
    | ret =>
      obtain ⟨v, h1, h2⟩ := fin hk hst' hf'
      exact ⟨hst'.defers, v, h1, v, rfl, h2⟩

end Go.Kz
