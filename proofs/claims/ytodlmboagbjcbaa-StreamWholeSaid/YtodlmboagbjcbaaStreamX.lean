/-
  The plain law of StreamWhole: all numbers come, each once; in the end nothing is held.
  Conditions: none.
-/
import Derived.Test.YtodlmboagbjcbaaStreamN
namespace Go.Proofs.Ytodlmboagbjcbaa
set_option linter.unusedVariables false
open Go.RowKit
theorem drainF_sub : ∀ (f c : Nat) (H : Hel) (O : List Msg), (∀ x ∈ (drainF f c H O).2.1, x ∈ H) ∧ ∀ q, c < q → q ≤ (drainF f c H O).1 → hasH H q = true := by
  intro f
  induction f with
  | zero => intro c H O; exact ⟨fun x h => h, fun q h1 h2 => by rw [drainF] at h2; simp at h2; omega⟩
  | succ f ih =>
    intro c H O
    by_cases hx : hasH H (c + 1) = true
    · have hd : drainF (f + 1) c H O = drainF f (c + 1) (delH H (c + 1)) (O ++ [getH H (c + 1)]) := by rw [drainF, if_pos hx]
      rw [hd]
      obtain ⟨h1, h2⟩ := ih (c + 1) (delH H (c + 1)) (O ++ [getH H (c + 1)])
      refine ⟨fun x h => (mem_delH (h1 x h)).1, fun q h3 h4 => ?_⟩
      by_cases e : q = c + 1
      · rw [e]; exact hx
      · have h5 := h2 q (by omega) h4
        obtain ⟨x, hx1, hx2⟩ := List.mem_map.1 ((hasH_iff _ _).1 h5)
        exact (hasH_iff _ _).2 (List.mem_map.2 ⟨x, (mem_delH hx1).1, hx2⟩)
    · have hd : drainF (f + 1) c H O = (c, H, O) := by rw [drainF, if_neg hx]
      rw [hd]
      exact ⟨fun x h => h, fun q h1 h2 => by simp at h2; omega⟩
/-- what is left, what is held and what was counted are all numbers to n -/
structure InvL (n : Nat) (L : List Nat) (c : Nat) (H : Hel) : Prop where
  nodup : L.Nodup
  left : ∀ q ∈ L, c < q ∧ q ≤ n ∧ hasH H q = false
  held : ∀ x ∈ H, x.1 ≤ n
  sum : L.length + c + H.length = n
theorem invL_zero (n : Nat) : InvL n ((List.range n).map (· + 1)) 0 [] := by
  refine ⟨?_, ?_, (by intro x h; cases h), by simp⟩
  · rw [List.nodup_iff_pairwise_ne, List.pairwise_map]
    exact (List.nodup_iff_pairwise_ne.1 List.nodup_range).imp (by intro a b h e; omega)
  · intro q hq
    obtain ⟨a, ha, rfl⟩ := List.mem_map.1 hq
    simp at ha
    exact ⟨by omega, by omega, rfl⟩
theorem invL_code {n : Nat} {L : List Nat} {c : Nat} {H : Hel} (h : InvL n L c H) (hn : n ≤ 64) {m : Msg} (hm : m.seq ∈ L) : codeS 64 c H m = 0 := by
  obtain ⟨h1, h2, h3⟩ := h.left _ hm
  unfold codeS
  rw [if_neg (by omega), if_neg (fun h' => h'.elim (fun e => by omega) (fun e => by rw [h3] at e; cases e)), if_neg (by omega)]
theorem invL_step {n : Nat} {L : List Nat} {c : Nat} {H : Hel} (h : InvL n L c H) (hn : n ≤ 64) (hk : Keys H) {m : Msg} {k : Nat} (hkL : k < L.length) (hm : m.seq = L[k]) :
    InvL n (L.take k ++ L.drop (k + 1)) (takeS 64 c H m).1 (takeS 64 c H m).2.1 := by
  have hmem : m.seq ∈ L := by rw [hm]; exact List.getElem_mem _
  have hc := invL_code h hn hmem
  obtain ⟨m1, m2, m3⟩ := h.left _ hmem
  have hsplit : L = L.take k ++ L[k] :: L.drop (k + 1) := by rw [← List.drop_eq_getElem_cons hkL, List.take_append_drop]
  have hnd := h.nodup
  rw [hsplit] at hnd
  have hnd2 := List.nodup_append.1 hnd
  have hnd3 := List.nodup_cons.1 hnd2.2.1
  have hsub : ∀ q ∈ L.take k ++ L.drop (k + 1), q ∈ L ∧ q ≠ m.seq := by
    intro q hq
    rcases List.mem_append.1 hq with h' | h'
    · exact ⟨List.mem_of_mem_take h', by rw [hm]; exact hnd2.2.2 q h' _ List.mem_cons_self⟩
    · exact ⟨List.mem_of_mem_drop h', by rw [hm]; intro e; exact hnd3.1 (e ▸ h')⟩
  unfold takeS
  rw [if_pos hc]
  obtain ⟨d1, d2⟩ := drainF_sub (H.length + 1) c (H ++ [(m.seq, m)]) []
  obtain ⟨i1, i2, i3⟩ := drainF_inv (H.length + 1) c (H ++ [(m.seq, m)]) [] (hk.add m3 m)
  generalize drainF (H.length + 1) c (H ++ [(m.seq, m)]) [] = p at *
  have hhas : ∀ q, hasH (H ++ [(m.seq, m)]) q = true → hasH H q = true ∨ q = m.seq := by
    intro q hq
    unfold hasH at hq ⊢
    rw [List.any_append] at hq
    simp at hq
    rcases hq with h' | h'
    · left; simpa using h'
    · right; exact h'.symm
  refine ⟨?_, ?_, ?_, ?_⟩
  · rw [List.nodup_append]
    exact ⟨hnd2.1, hnd3.2, fun a ha b hb => hnd2.2.2 a ha b (List.mem_cons_of_mem _ hb)⟩
  · intro q hq
    obtain ⟨q1, q2⟩ := hsub q hq
    obtain ⟨q3, q4, q5⟩ := h.left q q1
    have q6 : ¬ hasH (H ++ [(m.seq, m)]) q = true := by
      intro e
      rcases hhas q e with e | e
      · rw [q5] at e; cases e
      · exact q2 e
    refine ⟨?_, q4, ?_⟩
    · rcases Nat.lt_or_ge p.1 q with e | e
      · exact e
      · exact absurd (d2 q q3 e) q6
    · cases e : hasH p.2.1 q
      · rfl
      · obtain ⟨x, hx1, hx2⟩ := List.mem_map.1 ((hasH_iff _ _).1 e)
        exact absurd ((hasH_iff _ _).2 (List.mem_map.2 ⟨x, d1 x hx1, hx2⟩)) q6
  · intro x hx
    rcases List.mem_append.1 (d1 x hx) with h' | h'
    · exact h.held x h'
    · simp at h'
      subst h'
      exact m2
  · have := h.sum
    simp at i2
    simp
    omega
theorem invL_end {n c : Nat} {H : Hel} (h : InvL n [] c H) (hk : Keys H) (hh : ∀ x ∈ H, c < x.1) (hg : hasH H (c + 1) = false) : c = n ∧ H.length = 0 := by
  have hs := h.sum
  simp at hs
  by_cases e : c = n
  · omega
  · have := few_keys (c + 1) (n - (c + 1)) H hk (by
      intro x hx
      have h1 := hh x hx
      have h2 := h.held x hx
      have h3 : x.1 ≠ c + 1 := by
        intro e
        have := (hasH_iff H x.1).2 (List.mem_map.2 ⟨x, hx, rfl⟩)
        rw [e, hg] at this
        cases this
      omega)
    omega
end Go.Proofs.Ytodlmboagbjcbaa
