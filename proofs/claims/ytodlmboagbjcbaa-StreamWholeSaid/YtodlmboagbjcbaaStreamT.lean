/-
  A row of numbers and a row of messages that the law itself has built, beside a stream.
  Conditions: none.
-/
import Derived.Test.YtodlmboagbjcbaaStreamU
namespace Go.Proofs.Ytodlmboagbjcbaa
set_option linter.unusedVariables false
open Go.RowKit
def numsV (L : List Nat) : List Value := L.map fun q : Nat => .int .u32 (q : Int)
structure OL (B D M : Nat) (L : List Nat) (A : List Msg) (u v : Value) (w : World) : Prop where
  f : w.ownsRow B 23 1 u L.length (numsV L)
  a : w.ownsRow B 37 6 v A.length (rowsM A)
  fd : ∀ b, u.ownBlock = some b → ¬ Two D M b
  ad : ∀ b, v.ownBlock = some b → ¬ Two D M b
  ne : ∀ b, u.ownBlock = some b → v.ownBlock ≠ some b
variable {B D M : Nat} {L : List Nat} {A : List Msg} {u v : Value} {w w' : World}
theorem OL.two (h : OL B D M L A u v w) (hk : Kept (Two D M) w w') : OL B D M L A u v w' := ⟨own_keptS h.f hk h.fd, own_keptS h.a hk h.ad, h.fd, h.ad, h.ne⟩
theorem OL.below (h : OL B D M L A u v w) (hb : Below w.heap.size w w') : OL B D M L A u v w' := h.two (.of_below hb)
/-- the row of numbers is made anew -/
theorem OL.anew (h : OL B D M L A u v w) (hb : Below w.heap.size w w') {K : List Nat} {u' : Value} (ho : w'.ownsRow w.heap.size 23 1 u' K.length (numsV K)) (hB : B ≤ w.heap.size) (hD : D < w.heap.size) (hM : M < w.heap.size) : OL B D M K A u' v w' := by
  refine ⟨⟨ho.1, ho.2.imp id fun ⟨g, cap, cur, h1, h2, h3⟩ => ⟨g, cap, cur, h1, Nat.le_trans hB h2, h3⟩⟩, (h.below hb).a, ?_, h.ad, ?_⟩
  · intro b hb'
    have := (ho.lt b hb').1
    unfold Two
    omega
  · intro b hb' hv
    have := (ho.lt b hb').1
    have := (h.a.lt b hv).2
    omega
theorem OL.pushA {w0 : World} {z : Int} {c : Nat} {H : Hel} (h : OL B D M L A u v w) (hS : StrAt w D M z c H) (hb : Below B w0 w) (hB : B ≤ w.heap.size) {O : List Msg} {v' : Value} (hg : w.grownBy w' v.ownBlock)
    (ho : w'.ownsRow B 37 6 v' (A.length + O.length) (rowsM A ++ rowsM O)) (hu : v'.ownBlock = v.ownBlock ∨ v'.ownBlock = some w.heap.size) :
    OL B D M L (A ++ O) u v' w' ∧ StrAt w' D M z c H ∧ Below B w0 w' := by
  rw [← rowsM_append] at ho
  have hD := hS.lt.1
  have hM := hS.lt.2
  refine ⟨⟨own_keptS h.f (Kept.of_grown' hg) ?_, by simpa using ho, h.fd, ?_, ?_⟩, hS.kept (Kept.of_grown' hg) ?_ ?_, grown_below hb hB hg fun b hb => (h.a.lt b hb).1⟩
  · intro b hb ⟨c, hc, e⟩
    subst e
    exact h.ne b hb hc
  · intro b hb
    rcases hu with e | e
    · exact h.ad b (e ▸ hb)
    · rw [e] at hb
      injection hb with hb
      unfold Two
      omega
  · intro b hb hv
    rcases hu with e | e
    · exact h.ne b hb (e ▸ hv)
    · rw [e] at hv
      injection hv with hv
      have := (h.f.lt b hb).2
      omega
  · rintro ⟨b, hb, e⟩; exact h.ad b hb (.inl e.symm)
  · rintro ⟨b, hb, e⟩; exact h.ad b hb (.inr e.symm)
end Go.Proofs.Ytodlmboagbjcbaa
