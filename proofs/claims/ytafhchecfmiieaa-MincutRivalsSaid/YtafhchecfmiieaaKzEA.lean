/-
  Layer 07, plain: the flow of a network as paths.
-/
import Derived.Test.YtafhchecfmiieaaKzE9
set_option linter.unusedVariables false
set_option linter.unusedSimpArgs false
namespace Go.Kz
abbrev FlowD:=List Int×(Int×Unit)
section
variable {n:Nat} {E:List (Nat×Nat)} {F T:Nat→Bool} {W:Nw} {C:Nat→Int} {most:Int} {r:Nat→Nat→Int}
structure Wlk (n:Nat) (C:Nat→Int) (most:Int) (W:Nw) (r0 r:Nat→Nat→Int) (L:List (Nat×Nat)) (at_:Nat):Prop where
 flw:Flw n C most W r
 out:W.out (ldF n) r (2*n)=W.out (ldF n) r0 (2*n)
 less:∀ d,W.Laid (ldF n) d→W.sent r d≤W.sent r0 d
 chn:W.Chn (2*n) L at_
 laid:∀ d∈L,W.Laid (ldF n) d∧0 < W.sent r d
 nodup:(L.map Prod.fst++[at_]).Nodup
 lt:at_ < W.N
theorem Wlk.len {r0 r:Nat→Nat→Int} {L:List (Nat×Nat)} {v:Nat} (h:Wlk n C most W r0 r L v):L.length+1≤W.N:=by
 have:=nodup_len h.nodup (N:=W.N) fun x hx=>by
  rcases List.mem_append.1 hx with hx | hx
  ·obtain ⟨d,hd,rfl⟩:=List.mem_map.1 hx
   exact (h.laid d hd).1.1.1
  ·rw [List.mem_singleton] at hx;subst hx;exact h.lt
 simpa using this
theorem Wlk.step (hL:Lay n E F T W) {r0 r:Nat→Nat→Int} {L:List (Nat×Nat)} {v i:Nat} (h:Wlk n C most W r0 r L v) (hi:W.Laid (ldF n) (v,i)) (hs:0 < W.sent r (v,i)) (hno:W.hd v i∉L.map Prod.fst++[v]) :
  Wlk n C most W r0 r (L++[(v,i)]) (W.hd v i):=by
 refine ⟨h.flw,h.out,h.less,h.chn.app ⟨rfl,rfl⟩,fun d hd=>?_,?_,(hL.ok.is _ hi.1).1⟩
 ·rcases List.mem_append.1 hd with hd | hd
  ·exact h.laid d hd
  ·rw [List.mem_singleton] at hd;subst hd;exact ⟨hi,hs⟩
 ·rw [List.map_append]
  refine List.nodup_append.2 ⟨h.nodup,by simp,fun a ha b hb e=>?_⟩
  rw [List.mem_singleton] at hb
  subst hb;subst e
  exact hno ha
end
end Go.Kz
