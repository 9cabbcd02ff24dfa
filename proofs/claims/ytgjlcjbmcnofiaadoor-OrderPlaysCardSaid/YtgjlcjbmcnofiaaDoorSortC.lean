/-
  The plain law of merging: where two sorted rows part, and rows that are sorted in blocks.
  Conditions: none.
-/
import Derived.Test.YtgjlcjbmcnofiaaDoorSortB
namespace Go.Proofs.YtgjlcjbmcnofiaaDoor
set_option linter.unusedVariables false
set_option linter.unusedSimpArgs false
open Go.RowKit
/-- one of some messages -/
def gm (H : List Msg) (i : Nat) : Msg := H.getD i default
theorem gm_get {H : List Msg} {i : Nat} (h : i < H.length) : gm H i = H[i] := by simp [gm, h]
theorem gm_l (X L Z : List Msg) (k : Nat) (h : k < L.length) : gm (X ++ (L ++ Z)) (X.length + k) = gm L k := by
  rw [gm_get (by simp; omega), gm_get h, List.getElem_append_right (by omega)]
  simp only [Nat.add_sub_cancel_left]
  rw [List.getElem_append_left h]
theorem gm_r (X L R Z : List Msg) (k : Nat) (h : k < R.length) : gm (X ++ (L ++ (R ++ Z))) (X.length + L.length + k) = gm R k := by
  have := gm_l (X ++ L) R Z k h
  simpa [Nat.add_assoc] using this
theorem srt_gm {l : List Msg} (h : Srt l) {i j : Nat} (hi : i ≤ j) (hj : j < l.length) : leM (gm l i) (gm l j) := by
  rw [gm_get hj, gm_get (by omega)]
  exact srt_get h hi hj
theorem mem_take_gm {l : List Msg} {s : Nat} {x : Msg} (h : x ∈ l.take s) : ∃ i, i < s ∧ i < l.length ∧ x = gm l i := by
  obtain ⟨i, hi, e⟩ := List.mem_iff_getElem.1 h
  rw [List.length_take] at hi
  refine ⟨i, by omega, by omega, ?_⟩
  rw [← e, gm_get (by omega), List.getElem_take]
theorem mem_drop_gm {l : List Msg} {s : Nat} {x : Msg} (h : x ∈ l.drop s) : ∃ i, s ≤ i ∧ i < l.length ∧ x = gm l i := by
  obtain ⟨i, hi, e⟩ := List.mem_iff_getElem.1 h
  rw [List.length_drop] at hi
  refine ⟨s + i, by omega, by omega, ?_⟩
  rw [← e, gm_get (by omega), List.getElem_drop]
theorem srt_take {l : List Msg} (h : Srt l) (s : Nat) : Srt (l.take s) := List.Pairwise.sublist (List.take_sublist _ _) h
theorem srt_drop {l : List Msg} (h : Srt l) (s : Nat) : Srt (l.drop s) := List.Pairwise.sublist (List.drop_sublist _ _) h
theorem sortM_of {l : List Msg} (h : Srt l) : sortM l = l := (sortM_uniq h (.refl l)).symm
theorem split_all {L R : List Msg} (hL : Srt L) (hR : Srt R) (s t : Nat) (hs : s ≤ L.length) (ht : t ≤ R.length)
    (huv : s < L.length → 0 < t → ltM (gm R (t - 1)) (gm L s) = true) (hab : 0 < s → t < R.length → ltM (gm R t) (gm L (s - 1)) = false) :
    sortM (L ++ R) = sortM (L.take s ++ R.take t) ++ sortM (L.drop s ++ R.drop t) := by
  have e1 : L = L.take s ++ L.drop s := (List.take_append_drop s L).symm
  have e2 : R = R.take t ++ R.drop t := (List.take_append_drop t R).symm
  have hm := merge_ok (A := L.take s) (U := L.drop s) (V := R.take t) (B := R.drop t) (M1 := sortM (L.take s ++ R.take t)) (M2 := sortM (L.drop s ++ R.drop t))
    (by rw [← e1]; exact hL) (by rw [← e2]; exact hR) ?_ ?_ (sortM_srt _) (sortM_same _) (sortM_srt _) (sortM_same _)
  · rw [← e1, ← e2] at hm
    exact (sortM_uniq hm.1 hm.2).symm
  · intro u hu v hv
    obtain ⟨i, hi1, hi2, rfl⟩ := mem_drop_gm hu
    obtain ⟨j, hj1, hj2, rfl⟩ := mem_take_gm hv
    have h := (ltM_iff _ _).1 (huv (by omega) (by omega))
    exact lt_le (le_lt (srt_gm hR (i := j) (j := t - 1) (by omega) (by omega)) h) (srt_gm hL hi1 hi2)
  · intro a ha b hb
    obtain ⟨i, hi1, hi2, rfl⟩ := mem_take_gm ha
    obtain ⟨j, hj1, hj2, rfl⟩ := mem_drop_gm hb
    have h := (ltM_not _ _).1 (hab (by omega) (by omega))
    exact leM_trans (srt_gm hL (i := i) (j := s - 1) (by omega) (by omega)) (leM_trans h (srt_gm hR hj1 hj2))
theorem split_left {x : Msg} {R : List Msg} (hR : Srt R) (i : Nat) (hi : i ≤ R.length)
    (h1 : 0 < i → ltM (gm R (i - 1)) x = true) (h2 : i < R.length → ltM (gm R i) x = false) : sortM ([x] ++ R) = R.take i ++ x :: R.drop i := by
  have hs : Srt (R.take i ++ x :: R.drop i) := by
    refine srt_app (srt_take hR i) (List.pairwise_cons.2 ⟨fun b hb => ?_, srt_drop hR i⟩) fun a ha b hb => ?_
    · obtain ⟨j, hj1, hj2, rfl⟩ := mem_drop_gm hb
      exact leM_trans ((ltM_not _ _).1 (h2 (by omega))) (srt_gm hR hj1 hj2)
    · obtain ⟨k, hk1, hk2, rfl⟩ := mem_take_gm ha
      have hx := leM_trans (srt_gm hR (i := k) (j := i - 1) (by omega) (by omega)) (leM_of_lt ((ltM_iff _ _).1 (h1 (by omega))))
      rcases List.mem_cons.1 hb with e | e
      · rw [e]; exact hx
      · obtain ⟨j, hj1, hj2, rfl⟩ := mem_drop_gm e
        exact srt_gm hR (by omega) hj2
  refine (sortM_uniq hs ?_).symm
  have e : [x] ++ R = ([x] ++ R.take i) ++ R.drop i := by simp
  have e' : R.take i ++ x :: R.drop i = (R.take i ++ [x]) ++ R.drop i := by simp
  rw [e, e']
  refine SameK.app (SameK.swapLt fun u hu v hv => ?_) (.refl _)
  simp at hu
  subst hu
  obtain ⟨k, hk1, hk2, rfl⟩ := mem_take_gm hv
  exact le_lt (srt_gm hR (i := k) (j := i - 1) (by omega) (by omega)) ((ltM_iff _ _).1 (h1 (by omega)))
theorem split_right {x : Msg} {L : List Msg} (hL : Srt L) (i : Nat) (hi : i ≤ L.length)
    (h1 : 0 < i → ltM x (gm L (i - 1)) = false) (h2 : i < L.length → ltM x (gm L i) = true) : sortM (L ++ [x]) = L.take i ++ x :: L.drop i := by
  have hs : Srt (L.take i ++ x :: L.drop i) := by
    refine srt_app (srt_take hL i) (List.pairwise_cons.2 ⟨fun b hb => ?_, srt_drop hL i⟩) fun a ha b hb => ?_
    · obtain ⟨j, hj1, hj2, rfl⟩ := mem_drop_gm hb
      exact leM_trans (leM_of_lt ((ltM_iff _ _).1 (h2 (by omega)))) (srt_gm hL hj1 hj2)
    · obtain ⟨k, hk1, hk2, rfl⟩ := mem_take_gm ha
      have hx := leM_trans (srt_gm hL (i := k) (j := i - 1) (by omega) (by omega)) ((ltM_not _ _).1 (h1 (by omega)))
      rcases List.mem_cons.1 hb with e | e
      · rw [e]; exact hx
      · obtain ⟨j, hj1, hj2, rfl⟩ := mem_drop_gm e
        exact srt_gm hL (by omega) hj2
  refine (sortM_uniq hs ?_).symm
  have e : L ++ [x] = L.take i ++ (L.drop i ++ [x]) := by rw [← List.append_assoc, List.take_append_drop]
  have e' : L.take i ++ x :: L.drop i = L.take i ++ ([x] ++ L.drop i) := by simp
  rw [e, e']
  refine SameK.app (.refl _) (SameK.swapLt fun u hu v hv => ?_)
  simp at hv
  subst hv
  obtain ⟨k, hk1, hk2, rfl⟩ := mem_drop_gm hu
  exact lt_le ((ltM_iff _ _).1 (h2 (by omega))) (srt_gm hL hk1 hk2)
/-- rows of whole blocks, each sorted -/
inductive Full (s : Nat) : List Msg → Prop
  | nil : Full s []
  | cons {A M : List Msg} : A.length = s → Srt A → Full s M → Full s (A ++ M)
/-- rows of blocks, each sorted, the last one shorter or not -/
inductive Blks (s : Nat) : List Msg → Prop
  | last {M : List Msg} : M.length ≤ s → Srt M → Blks s M
  | cons {A M : List Msg} : A.length = s → Srt A → Blks s M → Blks s (A ++ M)
theorem Full.snoc {s : Nat} {P A : List Msg} (h : Full s P) (hl : A.length = s) (hA : Srt A) : Full s (P ++ A) := by
  induction h with
  | nil => have := Full.cons hl hA .nil; simpa using this
  | cons h1 h2 h3 ih => rw [List.append_assoc]; exact .cons h1 h2 ih
theorem Full.blk {s : Nat} {P Q : List Msg} (h : Full s P) (k : Blks s Q) : Blks s (P ++ Q) := by
  induction h with
  | nil => exact k
  | cons h1 h2 h3 ih => rw [List.append_assoc]; exact .cons h1 h2 ih
theorem Blks.small {s : Nat} {Q : List Msg} (h : Blks s Q) (hl : Q.length ≤ s) : Srt Q := by
  cases h with
  | last _ h => exact h
  | cons h1 h2 h3 =>
    rename_i A M
    have : M = [] := List.eq_nil_of_length_eq_zero (by rw [List.length_append] at hl; omega)
    subst this
    simpa using h2
theorem Blks.two {s : Nat} {Q : List Msg} (h : Blks s Q) (hs : 0 < s) (hl : 2 * s ≤ Q.length) : ∃ A B R, Q = A ++ (B ++ R) ∧ A.length = s ∧ B.length = s ∧ Srt A ∧ Srt B ∧ Blks s R := by
  cases h with
  | last h _ => omega
  | cons h1 h2 h3 =>
    rename_i A M
    rw [List.length_append] at hl
    cases h3 with
    | last h4 h5 => exact ⟨A, M, [], by simp, h1, by omega, h2, h5, .last (by simp) List.Pairwise.nil⟩
    | cons h4 h5 h6 => exact ⟨A, _, _, rfl, h1, h4, h2, h5, h6⟩
theorem Blks.few {s : Nat} {Q : List Msg} (h : Blks s Q) (hl : Q.length < 2 * s) (hl' : s < Q.length) : ∃ A B, Q = A ++ B ∧ A.length = s ∧ 0 < B.length ∧ Srt A ∧ Srt B := by
  cases h with
  | last h _ => omega
  | cons h1 h2 h3 =>
    rename_i A M
    rw [List.length_append] at hl hl'
    refine ⟨A, M, rfl, h1, by omega, h2, h3.small (by omega)⟩
theorem insM_split {x : Msg} : ∀ {P Q : List Msg}, Srt P → (∀ q ∈ Q, ltM x q = true) → (∀ p ∈ P, ltM x p = false) → insM x (P ++ Q) = P ++ x :: Q
  | [], [], _, _, _ => rfl
  | [], q :: Q, _, hq, _ => by simp [insM, hq q (by simp)]
  | p :: P, Q, hs, hq, hp => by
    have := insM_split (List.pairwise_cons.1 hs).2 hq (fun y hy => hp y (by simp [hy]))
    simp [insM, hp p (by simp), this]
theorem sortM_snoc (l : List Msg) (x : Msg) : sortM (l ++ [x]) = insM x (sortM l) := by simp [sortM]
end Go.Proofs.YtgjlcjbmcnofiaaDoor
