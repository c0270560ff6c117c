/-
  Laws: arguments that come in, as data; the call of a law.
-/
import Derived.Test.YtakifbcgkbfclaaKzAJ
import Derived.OpenShut
import Derived.ShutString
import Derived.ChangeOld
import Derived.Below
set_option linter.unusedVariables false
set_option linter.unusedSimpArgs false
namespace Go.Kz

/-- All that is there is read-only. -/
def wholeG (w : World) : Ghost := ⟨fun b => if b < w.heap.size then .ro else .alien, fun _ _ => undef, fun _ => 0⟩
theorem wholeG_tag {w : World} {b : Nat} (h : b < w.heap.size) : (wholeG w).tag b = .ro := by simp [wholeG, h]

theorem exists_list {α : Type} {p : Nat → α → Prop} : (n : Nat) → (∀ i, i < n → ∃ x, p i x) → ∃ l : List α, l.length = n ∧ ∀ (i : Nat) (h : i < l.length), p i (l.get ⟨i, h⟩)
  | 0, _ => ⟨[], rfl, fun i h => by simp at h⟩
  | n + 1, h => by
    obtain ⟨x, hx⟩ := h 0 (by omega)
    obtain ⟨l, hl, hp⟩ := exists_list (p := fun i => p (i + 1)) n (fun i hi => h (i + 1) (by omega))
    refine ⟨x :: l, by simp [hl], fun i hi => ?_⟩
    cases i with
    | zero => exact hx
    | succ i => exact hp i (by simpa using hi)

theorem InfoOK.cellsOf {P : Program} {T : TypeId} {t : Ty} (h : InfoOK P T t) : P.cellsOf T = t.size ∧ 0 < t.size := by
  obtain ⟨i, z, h1, h2, _, _, _, h3⟩ := h.info
  simp [Program.cellsOf, h1, h2]; omega

/-- Plain data: what an argument may be. -/
def Ty.plain : Ty → Bool
  | .int _ | .bool | .str | .unit => true
  | .pair a b => a.plain && b.plain
  | .arr _ t => t.plain
  | .sl false t => t.plain
  | _ => false
theorem Ty.plain_ro : {t : Ty} → t.plain = true → t.isRo = true
  | .int _, _ => rfl
  | .bool, _ => rfl
  | .str, _ => rfl
  | .unit, _ => rfl
  | .pair a b, h => by simp only [Ty.plain, Bool.and_eq_true] at h; simp [Ty.isRo, Ty.plain_ro h.1, Ty.plain_ro h.2]
  | .arr _ t, h => by simp only [Ty.plain] at h; simp only [Ty.isRo]; exact Ty.plain_ro h
  | .sl false t, h => by simp only [Ty.plain] at h; simp only [Ty.isRo]; simpa using Ty.plain_ro h
  | .sl true _, h => by simp [Ty.plain] at h
  | .ptr _, h => by simp [Ty.plain] at h
  | .fn _ _, h => by simp [Ty.plain] at h

section
variable {H : Type} {enc : TypeId × Value → H} {P : Program} {w : World} {base : Nat} {spare : Nat → Bool} {held : Bool}

theorem cells_block {b off n : Nat} {cs : List Value} {c : Array Value} {e : TypeId} {fz : Nat × Nat} (hl : cs.length = n) (hc : ∀ j, j < n → w.cell? ⟨b, off + j, none⟩ = cs[j]?) (hb : w.heap[b]? = some (.cells c e fz)) (hn : 0 < n) :
    off + n ≤ c.size ∧ seg c.toList off n = cs := by
  have hcell : ∀ j, j < n → c[off + j]? = cs[j]? := fun j hj => by
    have := hc j hj
    simpa [World.cell?, hb] using this
  have hle : off + n ≤ c.size := by
    have h1 := hcell (n - 1) (by omega)
    have h2 : cs[n - 1]? ≠ none := by simp; omega
    rw [← h1] at h2
    simp at h2; omega
  refine ⟨hle, ?_⟩
  apply List.ext_getElem?
  intro j
  by_cases hj : j < n
  · rw [← hcell j hj]
    simp [seg, List.getElem?_take, hj]
  · rw [List.getElem?_eq_none (by rw [seg_length (by simpa using hle)]; omega), List.getElem?_eq_none (by rw [hl]; omega)]

mutual
/-- An argument, as data. -/
theorem open_rep : (t : Ty) → {T : TypeId} → {fuel : Nat} → {cs : List Value} → {x : DataW H × List MemPlace} → t.plain = true → TyOK P t T → DataW.trod enc P w base spare held fuel T cs = some x → ∃ d, Rep w (wholeG w) none t d cs
  | .int k, T, fuel, cs, x, _, hT, h => by
    simp only [TyOK] at hT
    obtain ⟨m, rfl, _, hw⟩ := DataW.trod_int hT.1 h
    simp only [Lit.wf, Bool.and_eq_true, decide_eq_true_eq] at hw
    exact ⟨m, rfl, hw.1, hw.2⟩
  | .bool, T, fuel, cs, x, _, hT, h => by
    simp only [TyOK] at hT
    obtain ⟨b, rfl, _⟩ := DataW.trod_bool hT.1 h
    exact ⟨b, rfl⟩
  | .str, T, fuel, cs, x, _, hT, h => by
    simp only [TyOK] at hT
    obtain ⟨s, rfl, _, hs⟩ := DataW.trod_string hT.1 h
    exact ⟨s.data.toList, s, rfl, rfl, hs⟩
  | .unit, T, fuel, cs, x, _, hT, h => by simp only [TyOK] at hT
  | .pair a b, T, fuel, cs, x, hp, hT, h => by
    simp only [TyOK] at hT
    obtain ⟨⟨fs, hu, hfs⟩, hinf⟩ := hT
    obtain ⟨xs, n, _, _, hl, hlen, hf⟩ := DataW.trod_struct hu h
    obtain ⟨hcz, _⟩ := hinf.cellsOf
    rw [hcz] at hl
    obtain ⟨d, hd⟩ := open_fields (.pair a b) (off := 0) (cs := cs) (n := n) hp hfs (by rw [hl]; simp) (fun i f hi => by
      have hi' : fs[i]? = some f := by rw [← Array.getElem?_toList]; exact hi
      have := hf i f hi'
      have hlt : i < xs.length := by rw [hlen]; exact (Array.getElem?_eq_some_iff.1 hi').1
      exact ⟨xs[i], by rw [this]; simp [hlt]⟩)
    refine ⟨d, ?_⟩
    have : seg cs 0 (Ty.pair a b).size = cs := by rw [← hl]; exact seg_all cs
    rw [this] at hd
    exact hd
  | .arr n t, T, fuel, cs, x, hp, hT, h => by
    simp only [TyOK] at hT
    obtain ⟨⟨E, hu, hE⟩, hinf⟩ := hT
    obtain ⟨hcz, _⟩ := hinf.cellsOf
    obtain ⟨hez, _⟩ := hE.info.cellsOf
    obtain ⟨xs, m, _, _, hl, hlen, hx⟩ := DataW.trod_array hu h
    rw [hcz] at hl
    rw [hez] at hx
    have each : ∀ i, i < n → ∃ d, Rep w (wholeG w) none t d (seg cs (i * t.size) t.size) := fun i hi => by
      have h1 := hx i hi
      have h2 : xs[i]? = some xs[i] := by simp [hlen, hi]
      rw [h2] at h1
      exact open_rep t (by simpa [Ty.plain] using hp) hE h1
    obtain ⟨l, hll, hel⟩ := exists_list n each
    exact ⟨l, hll, hl, fun i hi => Rep.anyOwn (Ty.plain_ro (by simpa [Ty.plain] using hp)) (hel i hi)⟩
  | .sl false t, T, fuel, cs, x, hp, hT, h => by
    simp only [TyOK] at hT
    obtain ⟨⟨E, hu, hE⟩, _⟩ := hT
    obtain ⟨hez, hpos⟩ := hE.info.cellsOf
    rcases DataW.trod_slice hu h with ⟨rfl, _⟩ | ⟨a, len, cap, elems, rest, n, _, rfl, _, hb, hlc, hcm, hlen, hel, _⟩
    · exact ⟨([] : List t.den), none, 0, rfl, Nat.le_refl _, Nat.zero_le _, fun hn => absurd rfl hn⟩
    · rw [hez] at hel
      have each : ∀ i, i < len → ∃ d, (∃ cs', w.cells? base (a.add (i * t.size)) t.size = some cs' ∧ Rep w (wholeG w) none t d cs') := fun i hi => by
        have h1 := hel i hi
        have h2 : elems[i]? = some elems[i] := by simp [hlen, hi]
        rw [h2, Option.bind_eq_some_iff] at h1
        obtain ⟨cs', hc, hy⟩ := h1
        obtain ⟨d, hd⟩ := open_rep t (by simpa [Ty.plain] using hp) hE hy
        exact ⟨d, cs', hc, hd⟩
      obtain ⟨l, hll, hl⟩ := exists_list len each
      refine ⟨l, some a, cap, by rw [hll], by rw [hll]; exact hlc, hcm, fun hne => ?_⟩
      have hlp : 0 < len := by rw [← hll]; exact List.length_pos_iff.2 hne
      -- the block
      obtain ⟨cs0, hc0, _⟩ := hl 0 (by rw [hll]; exact hlp)
      obtain ⟨_, hl0, hcell0⟩ := World.cells?_some hc0
      have hz := hcell0 0 hpos
      simp only [Nat.zero_mul] at hz
      have ha0 : (a.add 0).add 0 = a := by simp [Addr.add]
      rw [ha0] at hz
      have hne0 : cs0[0]? ≠ none := by
        rw [List.getElem?_eq_getElem (by rw [hl0]; exact hpos)]; simp
      rw [← hz] at hne0
      obtain ⟨b, off, spot⟩ := a
      have hsp : spot = none ∧ ∃ c e fz, w.heap[b]? = some (.cells c e fz) := by
        simp only [World.cell?] at hne0
        split at hne0
        · rename_i c e fz hblk
          refine ⟨?_, c, e, fz, hblk⟩
          cases spot with
          | none => rfl
          | some s => simp at hne0
        · simp at hne0
      obtain ⟨rfl, c, e, fz, hblk⟩ := hsp
      have hlt : b < w.heap.size := (Array.getElem?_eq_some_iff.1 hblk).1
      have elt : ∀ (i : Nat) (hi : i < l.length), off + i * t.size + t.size ≤ c.size ∧ Rep w (wholeG w) none t (l.get ⟨i, hi⟩) (seg c.toList (off + i * t.size) t.size) := fun i hi => by
        obtain ⟨cs', hc', hr⟩ := hl i hi
        obtain ⟨_, hl', hcell'⟩ := World.cells?_some hc'
        have hadd : (⟨b, off, none⟩ : Addr).add (i * t.size) = ⟨b, off + i * t.size, none⟩ := Addr.add_lit ..
        rw [hadd] at hcell'
        have h2 := cells_block (b := b) (off := off + i * t.size) (n := t.size) hl' (fun j hj => by
          have := hcell' j hj
          rw [Addr.add_lit] at this
          exact this) hblk hpos
        exact ⟨h2.1, by rw [h2.2]; exact hr⟩
      refine ⟨b, off, c, e, fz, rfl, wholeG_tag hlt, hblk, ?_, fun i hi => (elt i hi).2⟩
      have := (elt (l.length - 1) (by omega)).1
      have hm : (l.length - 1 + 1) * t.size = l.length * t.size := by rw [Nat.sub_add_cancel (by omega)]
      rw [Nat.add_mul] at hm
      omega
  | .sl true _, _, _, _, _, hp, _, _ => by simp [Ty.plain] at hp
  | .ptr _, _, _, _, _, hp, _, _ => by simp [Ty.plain] at hp
  | .fn _ _, _, _, _, _, hp, _, _ => by simp [Ty.plain] at hp
theorem open_fields : (t : Ty) → {fs : List Field} → {off : Nat} → {cs : List Value} → {n : Nat} → t.plain = true → FsOK P t fs off → off + t.size ≤ cs.length →
    (∀ (i : Nat) (f : Field), fs[i]? = some f → ∃ x, DataW.trod enc P w base spare held n f.type ((cs.drop f.offset).take (P.cellsOf f.type)) = some x) → ∃ d, Rep w (wholeG w) none t d (seg cs off t.size)
  | .pair a b, f :: fs, off, cs, n, hp, hfs, hl, h => by
    simp only [FsOK] at hfs
    obtain ⟨ho, hta, htb⟩ := hfs
    simp only [Ty.plain, Bool.and_eq_true] at hp
    simp only [Ty.size] at hl
    obtain ⟨y, hy⟩ := h 0 f rfl
    rw [ho, (hta.info.cellsOf).1] at hy
    obtain ⟨d1, hd1⟩ := open_rep a hp.1 hta hy
    obtain ⟨d2, hd2⟩ := open_fields b (off := off + a.size) hp.2 htb (by omega) (fun i g hg => h (i + 1) g (by simpa using hg))
    refine ⟨(d1, d2), seg cs off a.size, seg cs (off + a.size) b.size, ?_, hd1, hd2⟩
    simp only [seg, Ty.size, List.take_add]
    rw [List.drop_drop]
  | .unit, [], off, cs, n, _, _, _, _ => ⟨(), by simp [seg, Ty.size, Rep]⟩
  | .unit, _ :: _, _, _, _, _, h, _, _ => by simp only [FsOK] at h
  | .pair _ _, [], _, _, _, _, h, _, _ => by simp only [FsOK] at h
  | .int _, _, _, _, _, _, h, _, _ => by simp only [FsOK] at h
  | .bool, _, _, _, _, _, h, _, _ => by simp only [FsOK] at h
  | .str, _, _, _, _, _, h, _, _ => by simp only [FsOK] at h
  | .arr _ _, _, _, _, _, _, h, _, _ => by simp only [FsOK] at h
  | .sl _ _, _, _, _, _, _, h, _, _ => by simp only [FsOK] at h
  | .ptr _, _, _, _, _, _, h, _, _ => by simp only [FsOK] at h
  | .fn _ _, _, _, _, _, _, h, _, _ => by simp only [FsOK] at h
end

theorem okWide_mk {t : Ty} {T : TypeId} {v : Value} {r : Reach} (hp : t.plain = true) (hT : TyOK P t T) (h : Value.okWide P w r base T v) : v = mkV t.sk.isAgg v.cells.toList := by
  cases t with
  | int k => simp only [TyOK] at hT; obtain ⟨n, rfl⟩ := Go.WideShapes.okWide_int hT.1 h; rfl
  | bool => simp only [TyOK] at hT; obtain ⟨n, rfl⟩ := Go.WideShapes.okWide_bool hT.1 h; rfl
  | str => simp only [TyOK] at hT; obtain ⟨n, rfl⟩ := Go.WideShapes.okWide_string hT.1 h; rfl
  | unit => simp only [TyOK] at hT
  | pair a b =>
    simp only [TyOK] at hT
    obtain ⟨⟨fs, hu, _⟩, _⟩ := hT
    obtain ⟨cs, rfl, _⟩ := Go.WideShapes.okWide_struct hu h
    simp [mkV, Ty.sk, Sk.isAgg, Value.cells]
  | arr n t =>
    simp only [TyOK] at hT
    obtain ⟨⟨E, hu, _⟩, _⟩ := hT
    simp only [Value.okWide, hu] at h
    obtain ⟨cs, rfl, _⟩ := h
    simp [mkV, Ty.sk, Sk.isAgg, Value.cells]
  | sl o t =>
    simp only [TyOK] at hT
    obtain ⟨⟨E, hu, _⟩, _⟩ := hT
    obtain ⟨a, l, c, rfl⟩ := Go.WideShapes.okWide_slice hu h
    rfl
  | ptr t => simp [Ty.plain] at hp
  | fn f t => simp [Ty.plain] at hp

/-- One argument, opened. -/
theorem arg_open {t : Ty} {T : TypeId} {v : Value} {r : Reach} {base' : Nat} {d : DataW H} {ps : List MemPlace} (hp : t.plain = true) (hT : TyOK P t T) (hv : Value.okWide P w r base' T v) (h : DataW.Trod enc P w base spare held T v d ps) :
    ∃ x, t.isRo = true ∧ ∃ cs, Rep w (wholeG w) none t x cs ∧ v = mkV t.sk.isAgg cs := by
  obtain ⟨fuel, h⟩ := h
  obtain ⟨x, hx⟩ := open_rep t hp hT h
  exact ⟨x, Ty.plain_ro hp, _, hx, okWide_mk hp hT hv⟩
end

/-- The call of a law that is always true. -/
theorem law_walk {P : Program} {f : Nat} {fn : Func} {body : Code} {p : APat} {F : p.den → Option Bool} {d : p.den} {vals : List Value} {w : World} (hf : P.funcs[f]? = some fn) (hb : fn.body = some body) (hnm : (fn.name == "runtime.NumGoroutine") = false)
    (hc : CalleeOK P f (.pure p [.bool] F)) (hF : F d = some true) (ha : RoArgs w (wholeG w) p d vals) :
    Calls P f vals.toArray w fun e w' => e = .returned (.bool true) ∧ Go.RowKit.Below w.heap.size w w' := by
  have hnm' : ¬ fn.name = "runtime.NumGoroutine" := by simpa using hnm
  have hent : (callFunc f vals.toArray).run P w = .ok (.enter f vals.toArray) w := by simp [callFunc, hf, hb, hnm']
  rcases hc w (wholeG w) d vals true (fun b hb => by
    simp only [wholeG] at hb ⊢
    split at hb
    · rename_i h; simp [h]
    · simp at hb) ha hF with ⟨_, h⟩ | ⟨v, w', h, _⟩
  · refine Calls.mono h fun e w' he => ?_
    obtain ⟨v, rfl, g', hext, hres⟩ := he
    have hv := VOK_bool hres.2
    refine ⟨by rw [hv], hext.os, hext.tape, hext.output, hext.size, fun k hk => (hext.keep k hk (.inr (wholeG_tag hk))).1⟩
  · rw [hent] at h; cases h

end Go.Kz
