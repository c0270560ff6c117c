/-
  Regions: what the interpreter says of a list of operations.
-/
import Derived.Test.YtakifbcgkbfclaaKzZ
set_option linter.unusedVariables false
set_option linter.unusedSimpArgs false
namespace Go.Kz

/-- No number of these operations' objects is in use. -/
def FreshL (g : Ghost) (σ : St) (base : Nat) (l : List (Nat × Oper)) : Prop := ∀ x ∈ l, ∀ m, base + 8 * x.1 ≤ m → m < base + 8 * x.1 + 8 → Fresh g σ m
def Out (base : Nat) (l : List (Nat × Oper)) (m : Nat) : Prop := ∀ x ∈ l, m < base + 8 * x.1 ∨ base + 8 * x.1 + 8 ≤ m

theorem heap_keep {n : Nat} {g : Ghost} {w w' : World} {a a' : Act} {σ : St} (hst : StOK n g w a σ) (hag : Agree w w') (hd : a'.defers = []) (hs : a'.tmps.size = n)
    (slots : ∀ i av, σ.slots i = some av → a'.tmps[i]? = a.tmps[i]?) : StOK n g w' a' σ := by
  have ht := hst.heap.tags
  have hr : RoKept w g w' g := ⟨fun b hb => ⟨hb, hag b (ht b (by rw [hb]; simp))⟩⟩
  have hsame : ∀ id, Same w g w' g id := fun id => ⟨⟨fun _ => rfl, fun _ b hb => ⟨hb, hag b (ht b (by rw [hb]; simp))⟩⟩, rfl, fun hb => ⟨hb, hag _ (ht _ (by rw [hb]; simp))⟩⟩
  have hk : ∀ id, IdKept g g id (σ.objs id) (σ.objs id) := fun id => IdKept.refl g id _
  refine ⟨fun i av hi => ?_, ⟨fun id x hx => ?_, fun b hb => ?_⟩, hs, hd⟩
  · obtain ⟨u, hu, hok⟩ := hst.slots i av hi
    exact ⟨u, by rw [slots i av hi]; exact hu, VOK.frame hr (fun id _ => hk id) hok⟩
  · exact ObjOK.frame hr (hsame id) (fun _ _ id' _ => hk id') (hst.heap.objs id x hx)
  · have := ht b hb
    have := hag.size; omega

theorem boolAt_some {σ : St} {d : Nat} {b : Bool} (h : boolAt σ d = some b) : σ.slots d = some (.data .bool b) := by
  unfold boolAt at h
  split at h
  · rename_i x hx; simp only [Option.some.injEq] at h; subst h; exact hx
  · simp at h

section
variable {P : Program} {ops : Array Oper} {Q : Exit → Act → World → Prop} {c : Ctx} {base : Nat} {dst : Nat → Option Nat}

theorem wanted_none {o : Oper} {f : Nat → Option Bool} (h : o.guard = none) : Region.wanted o f = true := by simp [Region.wanted, h]
theorem wanted_guard {o : Oper} {a : Act} {j t : Nat} {want b : Bool} (h : o.guard = some (j, want)) (hd : (ops[j]?).bind (·.dst) = some t) (hv : a.tmps[t]? = some (.bool b)) :
    Region.wanted o (yielded ops a.tmps) = (b == want) := by
  simp [Region.wanted, h, yielded, hd, hv]

theorem st_bool {n : Nat} {g : Ghost} {w : World} {a : Act} {σ : St} (hst : StOK n g w a σ) {t : Nat} {b : Bool} (h : σ.slots t = some (.data .bool b)) : a.tmps[t]? = some (.bool b) := by
  obtain ⟨v, hv, hok⟩ := hst.slots t _ h
  rw [hv, VOK_bool hok]

theorem set_same {n : Nat} {g : Ghost} {w : World} {a : Act} {σ : St} (hst : StOK n g w a σ) {t : Nat} {av : AVal} (h : σ.slots t = some av) : StOK n g w a (σ.set t av) := by
  refine ⟨fun i x hi => ?_, hst.heap, hst.size, hst.defers⟩
  simp only [St.set, upd] at hi
  cases hb : Nat.beq i t with
  | true =>
    rw [hb] at hi
    simp only [cond_true, Option.some.injEq] at hi
    subst hi
    have := Nat.eq_of_beq_eq_true hb
    subst this
    exact hst.slots _ _ h
  | false => rw [hb] at hi; exact hst.slots i x hi

theorem memN_iff' {x : Nat} : {l : List Nat} → (memN x l = true ↔ x ∈ l)
  | [] => by simp [memN]
  | y :: l => by
    simp only [memN, List.mem_cons]
    cases h : Nat.beq y x with
    | true => simp [Nat.eq_of_beq_eq_true h]
    | false =>
      have hne : x ≠ y := by intro he; subst he; rw [Nat.beq_refl] at h; simp at h
      simp [hne, memN_iff' (l := l)]
/-- Slots that hold no truth value. -/
def Und (a : Act) (und : List Nat) : Prop := ∀ s ∈ und, ∀ b, a.tmps[s]? ≠ some (.bool b)
theorem wanted_und {o : Oper} {a : Act} {j t : Nat} {want : Bool} (h : o.guard = some (j, want)) (hd : (ops[j]?).bind (·.dst) = some t) (hv : ∀ b, a.tmps[t]? ≠ some (.bool b)) :
    Region.wanted o (yielded ops a.tmps) = false := by
  have hy : yielded ops a.tmps j = none := by
    cases hx : a.tmps[t]? with
    | none => simp [yielded, hd, hx]
    | some v =>
      cases v with
      | bool b => exact absurd hx (hv b)
      | _ => simp [yielded, hd, hx]
  simp [Region.wanted, h, hy]
theorem rmN_mem {d s : Nat} : {l : List Nat} → s ∈ rmN d l → s ∈ l ∧ s ≠ d
  | [], h => by simp [rmN] at h
  | x :: l, h => by
    simp only [rmN] at h
    cases hb : Nat.beq x d with
    | true =>
      rw [hb] at h
      have := rmN_mem (l := l) h
      exact ⟨by simp [this.1], this.2⟩
    | false =>
      rw [hb] at h
      rcases List.mem_cons.1 h with rfl | h
      · exact ⟨by simp, fun he => by subst he; rw [Nat.beq_refl] at hb; simp at hb⟩
      · have := rmN_mem (l := l) h
        exact ⟨by simp [this.1], this.2⟩
theorem dropU_mem {d : Option Nat} {s : Nat} {l : List Nat} (h : s ∈ dropU d l) : s ∈ l ∧ d ≠ some s := by
  cases d with
  | none => exact ⟨h, by simp⟩
  | some d =>
    have := rmN_mem h
    exact ⟨this.1, by simp; exact fun he => this.2 he.symm⟩
theorem dropAllU_mem {s : Nat} : {l : List (Nat × Oper)} → {u : List Nat} → s ∈ dropAllU l u → s ∈ u ∧ ∀ x ∈ l, x.2.dst ≠ some s
  | [], u, h => ⟨h, by simp⟩
  | (i, o) :: l, u, h => by
    obtain ⟨h1, h2⟩ := dropAllU_mem (l := l) h
    obtain ⟨h3, h4⟩ := dropU_mem h1
    refine ⟨h3, fun x hx => ?_⟩
    rcases List.mem_cons.1 hx with rfl | hx
    · exact h4
    · exact h2 x hx
theorem Und.keep {a a' : Act} {u : List Nat} {d : Option Nat} (h : Und a u) (hs : ∀ i, d ≠ some i → a'.tmps[i]? = a.tmps[i]?) : Und a' (dropU d u) := by
  intro s hm b
  obtain ⟨h1, h2⟩ := dropU_mem hm
  rw [hs s h2]; exact h s h1 b
theorem Und.skip {a : Act} {u : List Nat} {d : Option Nat} (h : Und a u) : Und (a.put d undef) (addU d u) := by
  intro s hm b
  rw [put_get]
  split
  · intro he; cases he
  · rename_i hne
    cases d with
    | none => exact h s hm b
    | some d =>
      rcases List.mem_cons.1 hm with rfl | hm
      · have hge : a.tmps.size ≤ s := by
          by_cases hlt : s < a.tmps.size
          · exact absurd ⟨rfl, hlt⟩ hne
          · omega
        rw [Array.getElem?_eq_none hge]; simp
      · exact h s hm b

theorem opsK_ok (hc : CtxOK P c) (hdst : ∀ j, dst j = (ops[j]?).bind (·.dst)) : (n : Nat) → {R : Type} → {opened und : List Nat} → {l : List (Nat × Oper)} → {σ : St} → {g : Ghost} → {a : Act} → {w : World} → {k : St → Option R} → {r : R} →
    {K : Act → World → Prop} → opsK c base dst n R opened und l σ k = some r → StOK c.ntmps g w a σ → Und a und → (l.map Prod.fst).Nodup → FreshL g σ base l →
    (∀ σ' g' a' w', k σ' = some r → StOK c.ntmps g' w' a' σ' → Ext w g w' g' → (∀ m, Out base l m → Fresh g σ m → Fresh g' σ' m) → σ'.next = σ.next → K a' w') →
    wpL P ops Q K l a w
  | 0, _, _, _, _, _, _, _, _, _, _, _, h, _, _, _, _, _ => by simp [opsK] at h
  | n + 1, R, opened, und, [], σ, g, a, w, k, r, K, h, hst, _, _, _, hK => by
    simp only [opsK] at h
    exact hK σ g a w h hst (Ext.refl _ _) (fun m _ hf => hf) rfl
  | n + 1, R, opened, und, (i, o) :: l, σ, g, a, w, k, r, K, h, hst, hun, hnd, hfr, hK => by
    simp only [List.map_cons, List.nodup_cons] at hnd
    -- the operation, then the rest
    have one : opK c σ (base + 8 * i) o (fun σ => opsK c base dst n R opened (dropU o.dst und) l σ k) = some r → Region.wanted o (yielded ops a.tmps) = true → wpL P ops Q K ((i, o) :: l) a w := by
      intro h hw
      have hpost : ∀ σ1 g1 a1 w1, opsK c base dst n R opened (dropU o.dst und) l σ1 k = some r → StOK c.ntmps g1 w1 a1 σ1 → Ext w g w1 g1 →
          (∀ m, (m < base + 8 * i ∨ base + 8 * i + 8 ≤ m) → Fresh g σ m → Fresh g1 σ1 m) → σ1.next = σ.next → (∀ s, o.dst ≠ some s → a1.tmps[s]? = a.tmps[s]?) → wpL P ops Q K l a1 w1 := by
        intro σ1 g1 a1 w1 h1 hst1 hext1 hf1 hn1 hfrm
        refine opsK_ok hc hdst n h1 hst1 (hun.keep hfrm) hnd.2 (fun x hx m h1 h2 => hf1 m ?_ (hfr x (by simp [hx]) m h1 h2)) (fun σ2 g2 a2 w2 h2 hst2 hext2 hf2 hn2 => ?_)
        · have hne : x.1 ≠ i := fun he => hnd.1 (by rw [← he]; exact List.mem_map.2 ⟨x, hx, rfl⟩)
          omega
        · exact hK σ2 g2 a2 w2 h2 hst2 (hext1.trans hext2) (fun m hm hf => hf2 m (fun x hx => hm x (by simp [hx])) (hf1 m (hm (i, o) (by simp)) hf)) (hn2.trans hn1)
      show LStep P ops Q o (wpL P ops Q K l) a w
      refine LStep.mono (fun a1 w1 hh => hh.2 hh.1.2) (LStep.frame (K := fun a1 w1 => (∀ s, o.dst ≠ some s → a1.tmps[s]? = a.tmps[s]?) → wpL P ops Q K l a1 w1) ?_)
      unfold LStep
      rw [if_pos hw]
      cases hy : isY o with
      | true =>
        left
        obtain ⟨av, v, h1, h2, h3, h4⟩ := (op_yield hc hy hst h).out
        refine ⟨rfl, v, h1, fun hfrm => ?_⟩
        rcases putK_some h4 with ⟨hd, hk⟩ | ⟨d, hd, hlt, hk⟩
        · rw [hd] at hfrm ⊢; exact hpost σ g a w hk hst (Ext.refl _ _) (fun _ _ hm => hm) rfl (by rw [hd]; exact hfrm)
        · rw [hd] at hfrm ⊢; exact hpost _ g _ w hk (hst.put hlt h2) (Ext.refl _ _) (fun m _ hm => hm.set d (h3 m hm)) rfl (by rw [hd]; exact hfrm)
      | false =>
        right
        refine ⟨rfl, op_ok (base := base + 8 * i) hc hst (fun m h1 h2 => hfr (i, o) (by simp) m h1 h2) h ?_⟩
        intro σ1 g1 a1 w1 h1 hst1 hext1 hf1 hn1 hag
        exact ⟨hag, fun hfrm => hpost σ1 g1 a1 w1 h1 hst1 hext1 hf1 hn1 hfrm⟩
    have skip : opsK c base dst n R opened (addU o.dst und) l (σ.unset o.dst) k = some r → Region.wanted o (yielded ops a.tmps) = false → wpL P ops Q K ((i, o) :: l) a w := by
      intro h hw
      show LStep P ops Q o (wpL P ops Q K l) a w
      unfold LStep
      rw [hw]
      simp only [Bool.false_eq_true, if_false]
      refine opsK_ok hc hdst n h (hst.putU o.dst undef) hun.skip hnd.2 (fun x hx m h1 h2 => (hfr x (by simp [hx]) m h1 h2).unset o.dst) (fun σ2 g2 a2 w2 h2 hst2 hext2 hf2 hn2 => ?_)
      refine hK σ2 g2 a2 w2 h2 hst2 hext2 (fun m hm hf => hf2 m (fun x hx => hm x (by simp [hx])) (hf.unset o.dst)) (hn2.trans ?_)
      cases o.dst <;> rfl
    simp only [opsK] at h
    split at h
    · rename_i hg
      exact one h (wanted_none hg)
    · rename_i j want hg
      split at h
      · simp at h
      · rename_i t hdt
        rw [hdst] at hdt
        split at h
        · rename_i b hb
          have hw := wanted_guard (o := o) (a := a) hg hdt (st_bool hst hb)
          cases hm : memN j opened with
          | true =>
            rw [hm] at h
            simp only [cond_true] at h
            cases hbw : (b == want) with
            | true =>
              rw [hbw] at h hw
              exact one h hw
            | false =>
              rw [hbw] at h hw
              exact skip h hw
          | false =>
            rw [hm] at h
            simp only [cond_false] at h
            split at h
            · rename_i grp d rest hsp
              have hl := splitAt_eq hsp
              rw [List.nil_append] at hl
              cases hno : noM grp with
              | false => rw [hno] at h; simp at h
              | true =>
                rw [hno] at h
                simp only [cond_true, Option.bind_eq_some_iff] at h
                obtain ⟨v, hv, h⟩ := h
                have hv' : opsK c base dst n Bool (j :: opened) und grp (σ.set t (.data .bool b)) (fun σ => boolAt σ d) = some v := by
                  cases b <;> exact hv
                cases hlt : Nat.blt d c.ntmps with
                | false => rw [hlt] at h; simp at h
                | true =>
                  rw [hlt] at h
                  simp only [cond_true] at h
                  rw [hl, wpL_append]
                  have hnd2 : (grp.map Prod.fst).Nodup ∧ (rest.map Prod.fst).Nodup ∧ ∀ x ∈ grp.map Prod.fst, x ∉ rest.map Prod.fst := by
                    have : (((i, o) :: l).map Prod.fst).Nodup := by simp only [List.map_cons, List.nodup_cons]; exact hnd
                    rw [hl, List.map_append, List.nodup_append] at this
                    exact ⟨this.1, this.2.1, fun x hx hy => this.2.2 x hx x hy rfl⟩
                  have hmem : ∀ x, x ∈ grp ∨ x ∈ rest → x ∈ (i, o) :: l := by
                    intro x hx; rw [hl]; exact List.mem_append.2 hx
                  have hst0 := set_same hst hb
                  have hgrp := opsK_ok (K := fun a' w' => a'.tmps[d]? = some (.bool v) ∧ a'.defers = [] ∧ a'.tmps.size = c.ntmps ∧ w'.os = w.os ∧ w'.tape = w.tape ∧ w'.output = w.output) hc hdst n hv' hst0 hun hnd2.1
                    (fun x hx m h1 h2 => (hfr x (hmem x (.inl hx)) m h1 h2).set t (by simp [AVal.ids]))
                    (fun σ' g' a' w' h' hst' hext' _ _ => ⟨st_bool hst' (boolAt_some h'), hst'.defers, hst'.size, hext'.os, hext'.tape, hext'.output⟩)
                  refine wpL_mono (fun a1 w1 hh => ?_) grp a w (wpL_frame grp hno a w hgrp)
                  obtain ⟨⟨hag, hsl⟩, h1, h2, h3, h4, h5, h6⟩ := hh
                  have hobjs := unsetAll_objs grp σ
                  have hstU : StOK c.ntmps g w a (unsetAll grp σ) := by
                    refine ⟨fun i av hi => ?_, ?_, hst.size, hst.defers⟩
                    · rw [hobjs.1]; exact hst.slots i av (unsetAll_slots hi).1
                    · rw [hobjs.1]; exact hst.heap
                  have hst1 : StOK c.ntmps g w1 a1 (unsetAll grp σ) := heap_keep hstU hag h2 h3 (fun i av hi => hsl i (unsetAll_slots hi).2)
                  have hst2 : StOK c.ntmps g w1 a1 ((unsetAll grp σ).set d (.data .bool v)) := by
                    refine ⟨fun i x hi => ?_, hst1.heap, hst1.size, hst1.defers⟩
                    simp only [St.set, upd] at hi
                    cases hbq : Nat.beq i d with
                    | true =>
                      rw [hbq] at hi
                      simp only [cond_true, Option.some.injEq] at hi
                      subst hi
                      have := Nat.eq_of_beq_eq_true hbq
                      subst this
                      exact ⟨_, h1, VOK_bool_mk v⟩
                    | false => rw [hbq] at hi; exact hst1.slots i x hi
                  have hfrU : ∀ m, Fresh g σ m → Fresh g ((unsetAll grp σ).set d (.data .bool v)) m := by
                    intro m hf
                    have : Fresh g (unsetAll grp σ) m := ⟨by rw [hobjs.1]; exact hf.objs, hf.row, hf.box, fun i av hi => hf.slots i av (unsetAll_slots hi).1, fun id av hi => hf.cells id av (by rw [← hobjs.1]; exact hi)⟩
                    exact this.set d (by simp [AVal.ids])
                  have hext1 : Ext w g w1 g := ⟨h4, h5, h6, hag.size, fun b hb _ => ⟨hag b hb, rfl⟩⟩
                  refine opsK_ok hc hdst n h hst2 (fun s hs b => by
                    obtain ⟨q1, q2⟩ := dropAllU_mem hs
                    rw [hsl s q2]; exact hun s q1 b) hnd2.2.1 (fun x hx m q1 q2 => hfrU m (hfr x (hmem x (.inr hx)) m q1 q2)) (fun σ2 g2 a2 w2 q2 hst2 hext2 hf2 hn2 => ?_)
                  refine hK σ2 g2 a2 w2 q2 hst2 (hext1.trans hext2) (fun m hm hf => hf2 m (fun x hx => hm x (hmem x (.inr hx))) (hfrU m hf)) (hn2.trans hobjs.2)
            · simp at h
        · cases hmu : memN t und with
          | false => rw [hmu] at h; simp at h
          | true =>
            rw [hmu] at h
            simp only [cond_true] at h
            exact skip h (wanted_und hg hdt (hun t (memN_iff'.1 hmu)))
        · simp at h
end

end Go.Kz
