/-
  The plain law of stream's orders: what was answered, in which order, and how much is held.
  Conditions: none.
-/
import Derived.Test.YtodlmboagbjcbaaStreamO
namespace Go.Proofs.Ytodlmboagbjcbaa
set_option linter.unusedVariables false
open Go.RowKit
theorem getH_mem {H : Hel} {q : Nat} (h : hasH H q = true) : (q, getH H q) ∈ H := by
  unfold hasH at h
  obtain ⟨x, hx, hq⟩ := List.any_eq_true.1 h
  unfold getH
  cases hf : H.find? fun x => x.1 == q
  · have := List.find?_eq_none.1 hf x hx
    exact absurd hq this
  · rename_i y
    have h1 := List.mem_of_find?_eq_some hf
    have h2 := List.find?_some hf
    simp at h2
    obtain ⟨y1, y2⟩ := y
    simp at h2
    subst h2
    simpa using h1
theorem drainF_more : ∀ (n c : Nat) (H : Hel) (O : List Msg), H.length = n → Keys H → drainF n c H O = drainF (n + 1) c H O := by
  intro n
  induction n with
  | zero =>
    intro c H O hl hk
    obtain rfl := List.length_eq_zero_iff.1 hl
    rfl
  | succ n ih =>
    intro c H O hl hk
    by_cases hx : hasH H (c + 1) = true
    · have h1 := delH_length hk hx
      rw [drainF, if_pos hx, drainF, if_pos hx]
      exact ih _ _ _ (by omega) (hk.del _)
    · rw [drainF, if_neg hx, drainF, if_neg hx]
/-- what is held: keys above the count, within the size, each with its own number, and P -/
def HeldOk (z : Int) (P : Msg → Prop) (c : Nat) (H : Hel) : Prop := ∀ x ∈ H, x.2.seq = x.1 ∧ c < x.1 ∧ (x.1 : Int) ≤ c + z ∧ P x.2
theorem mem_delH {H : Hel} {q : Nat} {x : Nat × Msg} (h : x ∈ delH H q) : x ∈ H ∧ x.1 ≠ q := by
  unfold delH at h
  obtain ⟨h1, h2⟩ := List.mem_filter.1 h
  exact ⟨h1, by simpa using h2⟩
theorem drainF_ok (z : Int) (P : Msg → Prop) (s : Nat) : ∀ (f c : Nat) (H : Hel) (O : List Msg), H.length < f → Keys H → HeldOk z P c H → c = s + O.length → (∀ i (h : i < O.length), O[i].seq = s + i + 1) → (∀ m ∈ O, P m) →
    HeldOk z P (drainF f c H O).1 (drainF f c H O).2.1 ∧ hasH (drainF f c H O).2.1 ((drainF f c H O).1 + 1) = false ∧ (drainF f c H O).1 = s + (drainF f c H O).2.2.length ∧ (∀ i (h : i < (drainF f c H O).2.2.length), (drainF f c H O).2.2[i].seq = s + i + 1) ∧ ∀ m ∈ (drainF f c H O).2.2, P m := by
  intro f
  induction f with
  | zero => intro c H O h; omega
  | succ f ih =>
    intro c H O hf hk hh hc hs hp
    by_cases hx : hasH H (c + 1) = true
    · have hd : drainF (f + 1) c H O = drainF f (c + 1) (delH H (c + 1)) (O ++ [getH H (c + 1)]) := by rw [drainF, if_pos hx]
      rw [hd]
      have h1 := delH_length hk hx
      have h2 := hh _ (getH_mem hx)
      refine ih _ _ _ (by omega) (hk.del _) ?_ (by simp; omega) ?_ ?_
      · intro x hx'
        obtain ⟨h3, h4⟩ := mem_delH hx'
        obtain ⟨h5, h6, h7, h8⟩ := hh x h3
        exact ⟨h5, by omega, by omega, h8⟩
      · intro i hi
        rw [List.getElem_append]
        split
        · rename_i h9; exact hs i h9
        · have : i = O.length := by simp at hi; omega
          simp
          have := h2.1
          simp at this
          omega
      · intro m hm
        rcases List.mem_append.1 hm with h | h
        · exact hp m h
        · simp at h
          subst h
          exact h2.2.2.2
    · have hx' : hasH H (c + 1) = false := by simpa using hx
      have hd : drainF (f + 1) c H O = (c, H, O) := by rw [drainF, if_neg hx]
      rw [hd]
      exact ⟨hh, hx', hc, hs, hp⟩
/-- count, held, accepted, answered -/
def stepO (z : Int) (p : Nat × Hel × List Msg × List Msg) (m : Msg) : Nat × Hel × List Msg × List Msg :=
  ((takeS z p.1 p.2.1 m).1, (takeS z p.1 p.2.1 m).2.1, if codeS z p.1 p.2.1 m = 0 then p.2.2.1 ++ [m] else p.2.2.1, p.2.2.2 ++ (takeS z p.1 p.2.1 m).2.2)
structure InvO (z : Int) (p : Nat × Hel × List Msg × List Msg) : Prop where
  keys : Keys p.2.1
  held : HeldOk z (· ∈ p.2.2.1) p.1 p.2.1
  gap : hasH p.2.1 (p.1 + 1) = false
  len : p.2.2.2.length = p.1
  seq : ∀ i (h : i < p.2.2.2.length), p.2.2.2[i].seq = i + 1
  sub : ∀ m ∈ p.2.2.2, m ∈ p.2.2.1
  cnt : p.2.2.1.length = p.1 + p.2.1.length
theorem invO_zero (z : Int) : InvO z (0, [], [], []) := ⟨List.nodup_nil, (by intro x hx; cases hx), rfl, rfl, (by intro i h; cases h), (by intro m h; cases h), rfl⟩
theorem codeS_zero {z : Int} {c : Nat} {H : Hel} {m : Msg} (hc : codeS z c H m = 0) : c < m.seq ∧ hasH H m.seq = false ∧ (m.seq : Int) ≤ c + z := by
  unfold codeS at hc
  by_cases h1 : m.seq = 0
  · rw [if_pos h1] at hc; cases hc
  · rw [if_neg h1] at hc
    by_cases h2 : m.seq ≤ c ∨ hasH H m.seq = true
    · rw [if_pos h2] at hc; cases hc
    · rw [if_neg h2] at hc
      by_cases h3 : (c : Int) + z < (m.seq : Int)
      · rw [if_pos h3] at hc; cases hc
      · refine ⟨by omega, ?_, by omega⟩
        cases hx : hasH H m.seq
        · rfl
        · exact absurd (.inr hx) h2
theorem invO_step {z : Int} {p : Nat × Hel × List Msg × List Msg} (h : InvO z p) (m : Msg) : InvO z (stepO z p m) := by
  obtain ⟨c, H, F, A⟩ := p
  obtain ⟨k1, k2, k3, k4, k5, k6, k7⟩ := h
  unfold stepO takeS
  simp only at *
  by_cases hc : codeS z c H m = 0
  · rw [if_pos hc, if_pos hc]
    obtain ⟨g1, g2, g3⟩ := codeS_zero hc
    have hK := k1.add g2 m
    have hlenA : (H ++ [(m.seq, m)]).length = H.length + 1 := by simp
    have hH : HeldOk z (· ∈ F ++ [m]) c (H ++ [(m.seq, m)]) := by
      intro x hx
      rcases List.mem_append.1 hx with h | h
      · obtain ⟨a, b, d, e⟩ := k2 x h
        exact ⟨a, b, d, List.mem_append.2 (.inl e)⟩
      · simp at h
        subst h
        exact ⟨rfl, g1, g3, by simp⟩
    have hI := drainF_inv (H.length + 1) c (H ++ [(m.seq, m)]) [] hK
    have hf : drainF (H.length + 1) c (H ++ [(m.seq, m)]) [] = drainF (H.length + 2) c (H ++ [(m.seq, m)]) [] := by
      exact drainF_more _ _ _ _ (by simp) hK
    have hD := drainF_ok z (· ∈ F ++ [m]) c (H.length + 2) c (H ++ [(m.seq, m)]) [] (by omega) hK hH (by simp) (by intro i h; cases h) (by intro m h; cases h)
    rw [← hf] at hD
    generalize drainF (H.length + 1) c (H ++ [(m.seq, m)]) [] = q at *
    obtain ⟨c', H', O⟩ := q
    simp only at *
    obtain ⟨d1, d2, d3, d4, d5⟩ := hD
    obtain ⟨i1, i2, i3⟩ := hI
    refine ⟨i1, d1, d2, by simp; omega, ?_, ?_, by simp; simp at i2; omega⟩
    · intro i hi
      rw [List.getElem_append]
      split
      · rename_i h9; exact k5 i h9
      · rename_i h9
        rw [d4]
        simp at hi
        omega
    · intro x hx
      rcases List.mem_append.1 hx with h | h
      · exact List.mem_append.2 (.inl (k6 x h))
      · exact d5 x h
  · rw [if_neg hc, if_neg hc]
    simp only [List.append_nil]
    exact ⟨k1, k2, k3, k4, k5, k6, k7⟩
def stO (z : Int) (l : List Msg) (k : Nat) : Nat × Hel × List Msg × List Msg := (l.take k).foldl (stepO z) (0, [], [], [])
theorem stO_succ (z : Int) (l : List Msg) (k : Nat) (h : k < l.length) : stO z l (k + 1) = stepO z (stO z l k) l[k] := by
  unfold stO
  rw [List.take_succ_eq_append_getElem h, List.foldl_append]
  rfl
theorem stO_inv (z : Int) (l : List Msg) : ∀ k, k ≤ l.length → InvO z (stO z l k) := by
  intro k
  induction k with
  | zero => intro _; exact invO_zero z
  | succ k ih =>
    intro hk
    rw [stO_succ z l k (by omega)]
    exact invO_step (ih (by omega)) _
/-- distinct numbers of a range are no more than the range is long -/
theorem few_keys (a : Nat) : ∀ (n : Nat) (H : Hel), Keys H → (∀ x ∈ H, a < x.1 ∧ x.1 ≤ a + n) → H.length ≤ n := by
  intro n
  induction n with
  | zero =>
    intro H hk h
    cases H with
    | nil => simp
    | cons x H => have := h x (by simp); omega
  | succ n ih =>
    intro H hk h
    by_cases hx : hasH H (a + n + 1) = true
    · have h1 := delH_length hk hx
      have h2 := ih (delH H (a + n + 1)) (hk.del _) (by
        intro x hx'
        obtain ⟨h3, h4⟩ := mem_delH hx'
        have := h x h3
        omega)
      omega
    · have h2 := ih H hk (by
        intro x hx'
        have h3 : x.1 ≠ a + n + 1 := by
          intro e
          exact hx ((hasH_iff H _).2 (List.mem_map.2 ⟨x, hx', e⟩))
        have := h x hx'
        omega)
      omega
theorem held_le {z : Int} {p : Nat × Hel × List Msg × List Msg} (h : InvO z p) (hz : 1 ≤ z ∧ z ≤ 64) : p.2.1.length ≤ 63 := by
  have h1 := few_keys (p.1 + 1) (z.toNat - 1) p.2.1 h.keys (by
    intro x hx
    obtain ⟨_, h3, h4, _⟩ := h.held x hx
    have h5 : x.1 ≠ p.1 + 1 := by
      intro e
      have h6 := (hasH_iff p.2.1 x.1).2 (List.mem_map.2 ⟨x, hx, rfl⟩)
      rw [e, h.gap] at h6
      cases h6
    omega)
  omega
end Go.Proofs.Ytodlmboagbjcbaa
