/-
  The plain law of ChunkPlays: the document's state, item by item; its texts' sizes.
  Conditions: none.
-/
import Derived.Test.YtilijegipjpdlaaChunkS
namespace Go.Proofs.Ytilijegipjpdlaa
set_option linter.unusedVariables false
open Go.RowKit IM
def sumC (L : Chs) : Nat := (L.map fun x => x.2.size).sum
theorem catC_one (x : Int × ByteArray) (L : Chs) : ∀ k, (catC (x :: L) k).size ≤ (catC L k).size + (if 0 ≤ x.1 ∧ x.1 < (k : Int) then x.2.size else 0) := by
  intro k
  induction k with
  | zero => show 0 ≤ _; omega
  | succ k ih =>
    rw [catC, catC, ByteArray.size_append, ByteArray.size_append]
    rw [List.find?_cons]
    by_cases h : x.1 = (k : Int)
    · have hb : (x.1 == (k : Int)) = true := by simpa using h
      rw [hb]
      rw [if_neg (by omega)] at ih
      rw [if_pos (by omega)]
      show _ + x.2.size ≤ _
      omega
    · have hb : (x.1 == (k : Int)) = false := by simpa using h
      rw [hb]
      simp only
      split at ih
      · rw [if_pos (by omega)]
        omega
      · rw [if_neg (by omega)]
        omega
theorem catC_nil : ∀ k, (catC [] k).size = 0 := by
  intro k
  induction k with
  | zero => rfl
  | succ k ih => rw [catC, ByteArray.size_append, ih]; rfl
theorem catC_sum : ∀ (L : Chs) (k : Nat), (catC L k).size ≤ sumC L := by
  intro L
  induction L with
  | nil => intro k; rw [catC_nil]; omega
  | cons x L ih =>
    intro k
    have h1 := catC_one x L k
    have h2 := ih k
    have h3 : sumC (x :: L) = x.2.size + sumC L := by unfold sumC; simp
    split at h1 <;> omega
theorem sumC_take (n : Nat) (t : Int) (L : Chs) (x : ItemV) : sumC (takeL n t L x) ≤ sumC L + x.data.size := by
  unfold takeL
  split
  · unfold sumC; simp
  · omega
/-- the document's state behind k items: its number of chunks, its chunks -/
def stI (n : Nat) (l : List ItemV) : Nat → Int × List ItemV
  | 0 => (0, [])
  | k + 1 => (takeT n (stI n l k).1 (pairsI (stI n l k).2) l[k]!, takeI n (stI n l k).1 (stI n l k).2 l[k]!)
def sumD (l : List ItemV) : Nat := (l.map fun x => x.data.size).sum
def sumM (l : List ItemV) : Nat := (l.map fun x => min x.data.size 50000).sum
theorem sum_small : ∀ l : List ItemV, (∀ x ∈ l, x.data.size ≤ 9223372036854775807) → sumM l ≤ 50000 → sumD l ≤ 9223372036854775807 ∧ (sumM l < 50000 → sumD l = sumM l) := by
  intro l
  induction l with
  | nil => intro _ _; exact ⟨by unfold sumD; simp, fun _ => rfl⟩
  | cons x l ih =>
    intro h hs
    have e1 : sumM (x :: l) = min x.data.size 50000 + sumM l := by unfold sumM; simp
    have e2 : sumD (x :: l) = x.data.size + sumD l := by unfold sumD; simp
    obtain ⟨i1, i2⟩ := ih (fun y hy => h y (List.mem_cons_of_mem _ hy)) (by omega)
    have hx := h x List.mem_cons_self
    rw [e1, e2]
    rw [e1] at hs
    constructor
    · by_cases hlt : sumM l < 50000
      · have := i2 hlt
        omega
      · omega
    · intro hlt
      have := i2 (by omega)
      omega
structure InvP (n : Nat) (l : List ItemV) (k : Nat) : Prop where
  good : GoodC (stI n l k).1 (pairsI (stI n l k).2)
  first : ∀ hI : 0 < (stI n l k).2.length, (stI n l k).2[0].total = (stI n l k).1
  sum : sumC (pairsI (stI n l k).2) ≤ sumD (l.take k)
theorem invP (n : Nat) (l : List ItemV) : ∀ k, k ≤ l.length → InvP n l k := by
  intro k
  induction k with
  | zero => intro _; exact ⟨GoodC.nil, fun h => absurd h (by simp [stI]), by simp [stI, pairsI, sumC]⟩
  | succ k ih =>
    intro hk
    obtain ⟨h1, h2, h3⟩ := ih (by omega)
    have hx : l[k]! = l[k] := by rw [getElem!_pos l k (by omega)]
    have hp := pairs_take n (stI n l k).1 (stI n l k).2 l[k]!
    refine ⟨?_, ?_, ?_⟩
    · show GoodC (takeT n (stI n l k).1 (pairsI (stI n l k).2) l[k]!) (pairsI (takeI n (stI n l k).1 (stI n l k).2 l[k]!))
      rw [hp]
      exact h1.take _
    · show ∀ hI : 0 < (takeI n (stI n l k).1 (stI n l k).2 l[k]!).length, (takeI n (stI n l k).1 (stI n l k).2 l[k]!)[0].total = takeT n (stI n l k).1 (pairsI (stI n l k).2) l[k]!
      generalize l[k]! = x
      generalize stI n l k = p at *
      obtain ⟨t, I⟩ := p
      simp only at *
      unfold takeI takeT
      by_cases hc : countC n t (pairsI I) x = true
      · simp only [hc, if_true]
        intro hI
        cases I with
        | nil => rfl
        | cons y I =>
          have := h2 (by simp)
          simp only [List.cons_append, List.getElem_cons_zero] at this ⊢
          unfold countC at hc
          rw [Bool.and_eq_true] at hc
          have hok : okC n t (pairsI (y :: I)) x := of_decide_eq_true hc.1
          rcases hok.2.2.2.2.2.2 with h | h
          · simp [pairsI] at h
          · rw [this, h]
      · simp only [hc, if_false]
        exact h2
    · show sumC (pairsI (takeI n (stI n l k).1 (stI n l k).2 l[k]!)) ≤ _
      rw [hp]
      have := sumC_take n (stI n l k).1 (pairsI (stI n l k).2) l[k]!
      have e : sumD (l.take (k + 1)) = sumD (l.take k) + l[k].data.size := by unfold sumD; rw [List.take_succ_eq_append_getElem (by omega), List.map_append, List.sum_append]; simp
      have hx2 : l[k]!.data.size = l[k].data.size := by rw [hx]
      omega
theorem sumD_take (l : List ItemV) (k : Nat) : sumD (l.take k) ≤ sumD l := by
  have : sumD l = sumD (l.take k) + sumD (l.drop k) := by
    unfold sumD
    rw [← List.sum_append, ← List.map_append, List.take_append_drop]
  omega
theorem invP_small {n : Nat} {l : List ItemV} {k : Nat} (h : InvP n l k) (hl : sumD l ≤ 9223372036854775807) : SmallC (pairsI (stI n l k).2) := fun q _ => by
  have := catC_sum (pairsI (stI n l k).2) q
  have := h.sum
  have := sumD_take l k
  omega
end Go.Proofs.Ytilijegipjpdlaa
