/-
  The plain laws of keys: their order, the greatest of some.
  Conditions: none.
-/
import Derived.Test.YtodlmboagbjcbaaKeyF
namespace Go.Proofs.Ytodlmboagbjcbaa
set_option linter.unusedVariables false
set_option linter.unusedSimpArgs false
open Go.RowKit
def keyLt (p q : Int × Int) : Prop := p.1 < q.1 ∨ (p.1 = q.1 ∧ p.2 < q.2)
theorem cmpZ_vals (a b : Int) : (cmpZ a b = -1 ∧ a < b) ∨ (cmpZ a b = 0 ∧ a = b) ∨ (cmpZ a b = 1 ∧ b < a) := by
  unfold cmpZ
  by_cases h1 : a < b
  · exact .inl ⟨if_pos h1, h1⟩
  · by_cases h2 : b < a
    · exact .inr (.inr ⟨by rw [if_neg h1, if_pos h2], h2⟩)
    · exact .inr (.inl ⟨by rw [if_neg h1, if_neg h2], by omega⟩)
theorem keyZ_vals (a1 a2 b1 b2 : Int) : (keyZ a1 a2 b1 b2 = -1 ∧ keyLt (a1, a2) (b1, b2)) ∨ (keyZ a1 a2 b1 b2 = 0 ∧ a1 = b1 ∧ a2 = b2) ∨ (keyZ a1 a2 b1 b2 = 1 ∧ keyLt (b1, b2) (a1, a2)) := by
  unfold keyZ keyLt
  rcases cmpZ_vals a1 b1 with ⟨e, h⟩ | ⟨e, h⟩ | ⟨e, h⟩
  · rw [e]; exact .inl ⟨rfl, .inl h⟩
  · rw [e, if_pos rfl]
    rcases cmpZ_vals a2 b2 with ⟨e2, h2⟩ | ⟨e2, h2⟩ | ⟨e2, h2⟩
    · exact .inl ⟨e2, .inr ⟨h, h2⟩⟩
    · exact .inr (.inl ⟨e2, h, h2⟩)
    · exact .inr (.inr ⟨e2, .inr ⟨h.symm, h2⟩⟩)
  · rw [e]; exact .inr (.inr ⟨rfl, .inl h⟩)
theorem keyZ_pos (p q : Int × Int) : 0 < keyZ p.1 p.2 q.1 q.2 ↔ keyLt q p := by
  rcases keyZ_vals p.1 p.2 q.1 q.2 with ⟨e, h⟩ | ⟨e, h1, h2⟩ | ⟨e, h⟩
  · unfold keyLt at *; rw [e]; simp only at h; constructor
    · intro h; omega
    · intro h; omega
  · unfold keyLt; rw [e]; constructor
    · intro h; omega
    · intro h; omega
  · unfold keyLt at *; rw [e]; simp only at h; constructor
    · intro _; exact h
    · intro _; omega
theorem bestK_max (l : List (Int × Int)) : ∀ k, k ≤ l.length → (∀ i (h : i < l.length), i < k → ¬ keyLt (bestK l k) l[i]) ∧ (0 < k → ∃ (i : Nat) (h : i < l.length), i < k ∧ l[i] = bestK l k) := by
  intro k
  induction k with
  | zero => intro _; exact ⟨fun i h hi => by omega, fun h => by omega⟩
  | succ k ih =>
    intro hk
    obtain ⟨h1, h2⟩ := ih (by omega)
    rw [bestK_succ l k (by omega)]
    by_cases hc : k = 0 ∨ 0 < keyZ l[k].1 l[k].2 (bestK l k).1 (bestK l k).2
    · rw [if_pos hc]
      refine ⟨fun i h hi hlt => ?_, fun _ => ⟨k, by omega, by omega, rfl⟩⟩
      by_cases hik : i = k
      · subst hik
        unfold keyLt at hlt
        omega
      · rcases hc with hc | hc
        · omega
        · have e1 := (keyZ_pos _ _).1 hc
          have e2 := h1 i h (by omega)
          unfold keyLt at *
          omega
    · rw [if_neg hc]
      have hk0 : ¬ k = 0 := fun e => hc (.inl e)
      have hle : ¬ keyLt (bestK l k) l[k] := fun e => hc (.inr ((keyZ_pos _ _).2 e))
      refine ⟨fun i h hi => ?_, fun _ => ?_⟩
      · by_cases hik : i = k
        · subst hik; exact hle
        · exact h1 i h (by omega)
      · obtain ⟨i, hi, hik, e⟩ := h2 (by omega)
        exact ⟨i, hi, by omega, e⟩
/-- the greatest is the only one that none is above -/
theorem bestK_uniq (l : List (Int × Int)) {x : Int × Int} (h0 : 0 < l.length) (hm : ∃ (i : Nat) (h : i < l.length), l[i] = x) (hx : ∀ i (h : i < l.length), ¬ keyLt x l[i]) : bestK l l.length = x := by
  obtain ⟨m1, m2⟩ := bestK_max l l.length (Nat.le_refl _)
  obtain ⟨i, hi, _, e⟩ := m2 h0
  obtain ⟨j, hj, e2⟩ := hm
  have h1 := m1 j hj hj
  have h2 := hx i hi
  rw [e2] at h1
  rw [e] at h2
  generalize bestK l l.length = y at *
  obtain ⟨y1, y2⟩ := y
  obtain ⟨x1, x2⟩ := x
  unfold keyLt at *
  simp only at *
  have : y1 = x1 := by omega
  have : y2 = x2 := by omega
  subst_vars
  rfl
/-- lists with the same members have the same greatest -/
theorem bestK_same (l x : List (Int × Int)) (h0 : l.length = 0 ↔ x.length = 0) (h1 : ∀ i (h : i < l.length), ∃ (j : Nat) (h : j < x.length), x[j] = l[i]) (h2 : ∀ i (h : i < x.length), ∃ (j : Nat) (h : j < l.length), l[j] = x[i]) : bestK x x.length = bestK l l.length := by
  rcases Nat.eq_zero_or_pos l.length with e | e
  · have e2 := h0.1 e
    rw [e, e2]
    rfl
  · obtain ⟨m1, m2⟩ := bestK_max l l.length (Nat.le_refl _)
    obtain ⟨i, hi, _, e3⟩ := m2 e
    refine bestK_uniq x (by omega) ?_ ?_
    · obtain ⟨j, hj, e4⟩ := h1 i hi
      exact ⟨j, hj, by rw [e4, e3]⟩
    · intro j hj
      obtain ⟨q, hq, e4⟩ := h2 j hj
      rw [← e4]
      exact m1 q hq hq
end Go.Proofs.Ytodlmboagbjcbaa
