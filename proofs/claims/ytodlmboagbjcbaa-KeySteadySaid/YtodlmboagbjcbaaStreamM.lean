/-
  The plain side of a stream: what is held, what comes in its order.
  Conditions: none.
-/
import Derived.Test.YtodlmboagbjcbaaStreamA
namespace Go.Proofs.Ytodlmboagbjcbaa
set_option linter.unusedVariables false
open Go.RowKit IM
def delH (H : Hel) (q : Nat) : Hel := H.filter fun x => !(x.1 == q)
def Keys (H : Hel) : Prop := (H.map (·.1)).Nodup
theorem heldL_del (H : Hel) (q : Nat) : IM.del (heldL H) (q : Int) = heldL (delH H q) := by
  unfold IM.del heldL delH
  rw [List.filter_map]
  congr 1
  apply List.filter_congr
  intro x _
  simp only [Function.comp]
  by_cases h : x.1 = q
  · simp [h]
  · have h1 : ((x.1 : Int) == (q : Int)) = false := by simp; omega
    have h2 : (x.1 == q) = false := by simpa using h
    simp only [h1, h2]
theorem heldL_put (H : Hel) (q : Nat) (m : Msg) (h : hasH H q = false) : IM.put (heldL H) (q : Int) (.agg (msgA m)) = heldL (H ++ [(q, m)]) := by
  unfold IM.put
  rw [heldL_has, h, if_neg (by simp)]
  unfold heldL
  simp
theorem hasH_iff (H : Hel) (q : Nat) : hasH H q = true ↔ q ∈ H.map (·.1) := by
  unfold hasH
  simp [List.any_eq_true]
theorem Keys.del {H : Hel} (h : Keys H) (q : Nat) : Keys (delH H q) := h.sublist ((List.filter_sublist).map _)
theorem Keys.add {H : Hel} (h : Keys H) {q : Nat} (hq : hasH H q = false) (m : Msg) : Keys (H ++ [(q, m)]) := by
  unfold Keys
  rw [List.map_append, List.nodup_append]
  refine ⟨h, by simp, ?_⟩
  intro a ha b hb e
  simp at hb
  subst hb e
  rw [(hasH_iff H _).2 ha] at hq
  cases hq
theorem delH_length {H : Hel} (h : Keys H) {q : Nat} (hq : hasH H q = true) : (delH H q).length + 1 = H.length := by
  induction H with
  | nil => cases hq
  | cons x H ih =>
    have hx : x.1 ∉ H.map (·.1) ∧ (H.map (·.1)).Nodup := by
      have := h
      unfold Keys at this
      simpa using this
    by_cases e : x.1 = q
    · have h1 : (x.1 == q) = true := by simpa using e
      have h2 : delH H q = H := by
        unfold delH
        rw [List.filter_eq_self]
        intro y hy
        have : y.1 ≠ q := fun e2 => hx.1 (by rw [e, ← e2]; exact List.mem_map.2 ⟨y, hy, rfl⟩)
        simpa using this
      unfold delH at h2 ⊢
      rw [List.filter_cons_of_neg (by simp [h1]), h2]
      rfl
    · have h1 : (x.1 == q) = false := by simpa using e
      have h2 : hasH H q = true := by
        unfold hasH at hq ⊢
        rw [List.any_cons, h1] at hq
        simpa using hq
      have := ih hx.2 h2
      unfold delH at this ⊢
      rw [List.filter_cons_of_pos (by simp [h1])]
      simp
      omega
def drainF : Nat → Nat → Hel → List Msg → Nat × Hel × List Msg
  | 0, c, H, O => (c, H, O)
  | f + 1, c, H, O => if hasH H (c + 1) = true then drainF f (c + 1) (delH H (c + 1)) (O ++ [getH H (c + 1)]) else (c, H, O)
theorem drainF_step {c : Nat} {H : Hel} {O : List Msg} (hk : Keys H) (h : hasH H (c + 1) = true) : drainF H.length c H O = drainF (delH H (c + 1)).length (c + 1) (delH H (c + 1)) (O ++ [getH H (c + 1)]) := by
  rw [← delH_length hk h, drainF, if_pos h]
theorem drainF_stop {c : Nat} {H : Hel} {O : List Msg} (h : hasH H (c + 1) = false) : drainF H.length c H O = (c, H, O) := by
  cases hl : H.length with
  | zero => rfl
  | succ n => rw [drainF, if_neg (by simp [h])]
/-- the error's number -/
def codeS (z : Int) (c : Nat) (H : Hel) (m : Msg) : Int := if m.seq = 0 then 1 else if m.seq ≤ c ∨ hasH H m.seq = true then 12 else if (c : Int) + z < (m.seq : Int) then 6 else 0
def takeS (z : Int) (c : Nat) (H : Hel) (m : Msg) : Nat × Hel × List Msg := if codeS z c H m = 0 then drainF (H.length + 1) c (H ++ [(m.seq, m)]) [] else (c, H, [])
def rowsM (O : List Msg) : List Value := O.flatMap fun m => (msgA m).toList
theorem rowsM_snoc (O : List Msg) (m : Msg) : rowsM (O ++ [m]) = rowsM O ++ (msgA m).toList := by unfold rowsM; simp
theorem msgA_one (m : Msg) : ∀ u ∈ (msgA m).toList, u.oneCell' = true := by
  intro u hu
  simp [msgA] at hu
  rcases hu with rfl | rfl | rfl | rfl | rfl | rfl <;> rfl
theorem info37 : (Try.prog.info? 37).map (fun i => (i.zero, i.size, i.bytes)) = some (some (.agg (msgA zeroM)), 6, 72) := by kernel_rfl
end Go.Proofs.Ytodlmboagbjcbaa
