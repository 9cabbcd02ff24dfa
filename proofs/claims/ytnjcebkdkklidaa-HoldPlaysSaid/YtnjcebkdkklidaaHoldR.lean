/-
  The reference's hold in plain lists; how it goes with the hold's.
  Conditions: none.
-/
import Derived.Test.YtnjcebkdkklidaaHoldO
namespace Go.Proofs.Ytnjcebkdkklidaa
set_option linter.unusedVariables false
set_option linter.unusedSimpArgs false
open Go.RowKit
/-- those of a sender -/
def ofP (A : List Msg) (p : Int) : List Msg := A.filter fun m => decide (m.frm = p)
def cntA (A : List Msg) (p : Int) : Nat := (ofP A p).length
def getA (A : List Msg) (lo : Nat → Nat) (p : Int) (seq : Nat) : Option Msg := A.find? fun m => decide (m.frm = p) && (decide (m.seq = seq) && decide (lo p.toNat < seq))
def fromA (A : List Msg) (lo : Nat → Nat) (p : Int) (seq n : Nat) : List Msg := (List.range n).flatMap fun i => if seq ≤ i + 1 then (getA A lo p (i + 1)).toList else []
def aboveA (A : List Msg) (lo : Nat → Nat) (a b : Int) (t : Nat) : List Msg := (List.range t).flatMap fun p : Nat => (fromA A lo (p : Int) 0 (cntA A (p : Int))).filter (keyAh a b)
theorem fromA_succ (A : List Msg) (lo : Nat → Nat) (p : Int) (seq n : Nat) : fromA A lo p seq (n + 1) = fromA A lo p seq n ++ if seq ≤ n + 1 then (getA A lo p (n + 1)).toList else [] := by
  unfold fromA; rw [List.range_succ, List.flatMap_append, List.flatMap_singleton]
theorem aboveA_succ (A : List Msg) (lo : Nat → Nat) (a b : Int) (t : Nat) : aboveA A lo a b (t + 1) = aboveA A lo a b t ++ (fromA A lo (t : Int) 0 (cntA A (t : Int))).filter (keyAh a b) := by
  unfold aboveA; rw [List.range_succ, List.flatMap_append, List.flatMap_singleton]
theorem ofP_len (A : List Msg) (p : Int) : (ofP A p).length ≤ A.length := List.length_filter_le _ _
theorem cntA_take_succ {A : List Msg} {k : Nat} (hk : k < A.length) (p : Int) : cntA (A.take (k + 1)) p = cntA (A.take k) p + if A[k].frm = p then 1 else 0 := by
  unfold cntA ofP
  rw [List.take_succ_eq_append_getElem hk, List.filter_append, List.length_append, List.filter_cons]
  by_cases h : A[k].frm = p <;> simp [h]
theorem getA_mem {A : List Msg} {lo : Nat → Nat} {p : Int} {seq : Nat} {m : Msg} (h : getA A lo p seq = some m) : m ∈ A := List.mem_of_find?_eq_some h
theorem fromA_mem {A : List Msg} {lo : Nat → Nat} {p : Int} {seq n : Nat} {m : Msg} (h : m ∈ fromA A lo p seq n) : m ∈ A := by
  unfold fromA at h
  obtain ⟨i, _, h⟩ := List.mem_flatMap.1 h
  split at h
  · exact getA_mem (Option.mem_toList.1 h)
  · cases h
theorem fromA_len (A : List Msg) (lo : Nat → Nat) (p : Int) (seq : Nat) : ∀ n, (fromA A lo p seq n).length ≤ n
  | 0 => by simp [fromA]
  | n + 1 => by
    have := fromA_len A lo p seq n
    rw [fromA_succ, List.length_append]
    split
    · cases getA A lo p (n + 1) <;> simp <;> omega
    · simp; omega
/-- the reference's list goes with the hold's rows -/
structure RefH (A : List Msg) (lo : Nat → Nat) (R : Nat → List Msg) : Prop where
  num : ∀ p : Nat, p < 64 → ∀ j (h : j < (ofP A (p : Int)).length), (ofP A (p : Int))[j].seq = j + 1
  rows : ∀ p, p < 64 → (R p).map core = ((ofP A (p : Int)).drop (lo p)).map core
  le : ∀ p, p < 64 → lo p ≤ (ofP A (p : Int)).length
  frm : ∀ m ∈ A, procB m.frm = true
theorem RefH.zero : RefH [] lo0 R0 := ⟨fun p _ j h => by simp [ofP] at h, fun p _ => rfl, fun p _ => Nat.zero_le _, fun m hm => by cases hm⟩
theorem RefH.len {A : List Msg} {lo : Nat → Nat} {R : Nat → List Msg} (h : RefH A lo R) {p : Nat} (hp : p < 64) : lo p + (R p).length = (ofP A (p : Int)).length := by
  have h1 := congrArg List.length (h.rows p hp)
  have h2 := h.le p hp
  rw [List.length_map, List.length_map, List.length_drop] at h1
  omega
theorem procB_iff {p : Int} : procB p = true ↔ 0 ≤ p ∧ p < 64 := by simp [procB]
theorem ofP_out {A : List Msg} (h : ∀ m ∈ A, procB m.frm = true) {p : Int} (hp : procB p = false) : ofP A p = [] := by
  unfold ofP
  rw [List.filter_eq_nil_iff]
  intro m hm he
  simp at he
  have := h m hm
  rw [he, hp] at this
  cases this
theorem RefH.cnt {A : List Msg} {lo : Nat → Nat} {R : Nat → List Msg} (h : RefH A lo R) (p : Int) : cntA A p = cntZ lo R p := by
  unfold cntA cntZ
  by_cases hp : procB p = true
  · rw [if_pos hp]
    obtain ⟨h1, h2⟩ := procB_iff.1 hp
    obtain ⟨q, rfl⟩ := Int.eq_ofNat_of_zero_le h1
    rw [Int.toNat_natCast, h.len (by omega)]
  · rw [if_neg hp, ofP_out h.frm (by simpa using hp)]
    rfl
theorem RefH.getF {A : List Msg} {lo : Nat → Nat} {R : Nat → List Msg} (h : RefH A lo R) {p : Nat} (hp : p < 64) (seq : Nat) : getA A lo (p : Int) seq = if lo p < seq ∧ seq ≤ (ofP A (p : Int)).length then (ofP A (p : Int))[seq - 1]? else none := by
  have e : getA A lo (p : Int) seq = (ofP A (p : Int)).find? fun m => decide (m.seq = seq) && decide (lo p < seq) := by
    unfold getA ofP
    rw [List.find?_filter]
    congr 1
    funext m
    rw [Int.toNat_natCast]
    by_cases h1 : m.frm = (p : Int) <;> by_cases h2 : m.seq = seq <;> by_cases h3 : lo p < seq <;> simp [h1, h2, h3]
  rw [e]
  by_cases hc : lo p < seq ∧ seq ≤ (ofP A (p : Int)).length
  · rw [if_pos hc]
    have hj : seq - 1 < (ofP A (p : Int)).length := by omega
    rw [List.getElem?_eq_getElem hj]
    refine List.find?_eq_some_iff_getElem.2 ⟨?_, seq - 1, hj, rfl, fun j hjlt => ?_⟩
    · simp [h.num p hp _ hj, hc.1]; omega
    · simp [h.num p hp j (by omega)]; omega
  · rw [if_neg hc]
    refine List.find?_eq_none.2 fun m hm => ?_
    obtain ⟨j, hj, rfl⟩ := List.mem_iff_getElem.1 hm
    simp [h.num p hp j hj]
    omega
theorem RefH.at_ {A : List Msg} {lo : Nat → Nat} {R : Nat → List Msg} (h : RefH A lo R) {p : Nat} (hp : p < 64) {j : Nat} (hj : j < (R p).length) : ∃ hf : lo p + j < (ofP A (p : Int)).length, core (gm (R p) j) = core (ofP A (p : Int))[lo p + j] := by
  have hl := h.len hp
  refine ⟨by omega, ?_⟩
  have h1 := congrArg (fun z => z[j]?) (h.rows p hp)
  simp only [List.getElem?_map, List.getElem?_drop] at h1
  rw [List.getElem?_eq_getElem hj, List.getElem?_eq_getElem (by omega)] at h1
  simp only [Option.map_some, Option.some.injEq] at h1
  rw [gm_get hj]; exact h1
theorem RefH.get {A : List Msg} {lo : Nat → Nat} {R : Nat → List Msg} (h : RefH A lo R) (p : Int) (seq : Nat) : (getA A lo p seq).map core = (getZ lo R p seq).map core := by
  unfold getZ
  by_cases hp : procB p = true
  · obtain ⟨h1, h2⟩ := procB_iff.1 hp
    obtain ⟨q, rfl⟩ := Int.eq_ofNat_of_zero_le h1
    have hq : q < 64 := by omega
    rw [Int.toNat_natCast, h.getF hq]
    have hl := h.len hq
    by_cases hc : lo q < seq ∧ seq ≤ (ofP A (q : Int)).length
    · rw [if_pos hc, if_pos ⟨hp, hc.1, by omega⟩]
      obtain ⟨hf, he⟩ := h.at_ hq (j := seq - lo q - 1) (by omega)
      rw [List.getElem?_eq_getElem (by omega)]
      simp only [Option.map_some, he]
      first | done | (congr 3; omega)
    · rw [if_neg hc, if_neg (fun hc' => hc ⟨hc'.2.1, by omega⟩)]
  · rw [if_neg (fun hc => hp hc.1)]
    have : getA A lo p seq = none := by
      refine List.find?_eq_none.2 fun m hm he => ?_
      simp at he
      have := h.frm m hm
      rw [he.1] at this
      exact hp this
    rw [this]
theorem RefH.fromF {A : List Msg} {lo : Nat → Nat} {R : Nat → List Msg} (h : RefH A lo R) {p : Nat} (hp : p < 64) (seq : Nat) : ∀ n, n ≤ (ofP A (p : Int)).length → fromA A lo (p : Int) seq n = ((ofP A (p : Int)).take n).drop (max seq (lo p + 1) - 1)
  | 0, _ => by simp [fromA]
  | n + 1, hn => by
    rw [fromA_succ, h.fromF hp seq n (by omega), List.take_succ_eq_append_getElem (by omega)]
    have hl : ((ofP A (p : Int)).take n).length = n := by rw [List.length_take]; omega
    by_cases hc : max seq (lo p + 1) - 1 ≤ n
    · rw [List.drop_append_of_le_length (by omega), h.getF hp, if_pos (show seq ≤ n + 1 by omega), if_pos ⟨by omega, hn⟩, List.getElem?_eq_getElem (by omega)]
      rfl
    · rw [List.drop_eq_nil_of_le (by omega), List.drop_eq_nil_of_le (by simp; omega), List.nil_append]
      split
      · rw [h.getF hp, if_neg (by omega)]; rfl
      · rfl
theorem RefH.from {A : List Msg} {lo : Nat → Nat} {R : Nat → List Msg} (h : RefH A lo R) (p : Int) (seq : Nat) (most : Int) : ((fromA A lo p seq (cntA A p)).take most.toNat).map core = (fromZ lo R p seq most).map core := by
  unfold fromZ
  by_cases hp : procB p = true
  · obtain ⟨h1, h2⟩ := procB_iff.1 hp
    obtain ⟨q, rfl⟩ := Int.eq_ofNat_of_zero_le h1
    have hq : q < 64 := by omega
    have hl := h.len hq
    unfold cntA
    rw [Int.toNat_natCast, h.fromF hq seq _ (Nat.le_refl _), List.take_length]
    by_cases hm : 1 ≤ most
    · by_cases hs : seq ≤ lo q + (R q).length
      · rw [if_pos ⟨hp, hm, hs⟩]
        unfold fromL fromAt
        rw [List.map_take, List.map_drop, List.map_take, List.map_drop, h.rows q hq, List.map_drop, List.drop_drop]
        congr 2
        omega
      · rw [if_neg (fun hc => hs hc.2.2), List.drop_eq_nil_of_le (by omega)]; simp
    · rw [if_neg (fun hc => hm hc.2.1), show most.toNat = 0 by omega]; simp
  · rw [if_neg (fun hc => hp hc.1)]
    have : cntA A p = 0 := by unfold cntA; rw [ofP_out h.frm (by simpa using hp)]; rfl
    rw [this]; simp [fromA]
theorem RefH.all {A : List Msg} {lo : Nat → Nat} {R : Nat → List Msg} (h : RefH A lo R) {p : Nat} (hp : p < 64) : (fromA A lo (p : Int) 0 (cntA A (p : Int))).map core = (R p).map core := by
  unfold cntA
  rw [h.fromF hp 0 _ (Nat.le_refl _), List.take_length, h.rows p hp, show max 0 (lo p + 1) - 1 = lo p by omega]
theorem RefH.above {A : List Msg} {lo : Nat → Nat} {R : Nat → List Msg} (h : RefH A lo R) (a b : Int) : ∀ t, t ≤ 64 → (aboveA A lo a b t).map core = (aboveN R a b t).map core
  | 0, _ => rfl
  | t + 1, ht => by rw [aboveA_succ, aboveN_succ, List.map_append, List.map_append, h.above a b t (by omega), filter_core' (h.all (by omega))]
theorem RefH.sorted {A : List Msg} {lo : Nat → Nat} {R : Nat → List Msg} (h : RefH A lo R) (a b : Int) : (sortM (aboveA A lo a b 64)).map core = (sortM (aboveN R a b 64)).map core := sortM_core (h.above a b 64 (by omega))
theorem RefH.put {A : List Msg} {lo : Nat → Nat} {R : Nat → List Msg} {m m' : Msg} (h : RefH A lo R) (hz : putK lo R m = 0) (hc : core m' = core m) : RefH (A ++ [m]) lo (upd R m.frm.toNat (R m.frm.toNat ++ [m'])) := by
  unfold putK at hz
  split at hz
  · cases hz
  · rename_i hp
    have hp' : procB m.frm = true := by simpa using hp
    obtain ⟨h1, h2⟩ := procB_iff.1 hp'
    obtain ⟨q, hq⟩ := Int.eq_ofNat_of_zero_le h1
    have hq' : m.frm = (q : Int) := hq
    split at hz
    · rename_i hs
      rw [hq', Int.toNat_natCast] at hs ⊢
      have hq64 : q < 64 := by omega
      have hl := h.len hq64
      have hof : ∀ p : Nat, ofP (A ++ [m]) (p : Int) = if p = q then ofP A (p : Int) ++ [m] else ofP A (p : Int) := fun p => by
        unfold ofP
        rw [List.filter_append, List.filter_cons]
        by_cases e : p = q
        · subst e; simp [hq']
        · have : ¬ m.frm = (p : Int) := by omega
          simp [this, e]
      refine ⟨fun p hp j hj => ?_, fun p hp => ?_, fun p hp => ?_, fun x hx => ?_⟩
      · by_cases e : p = q
        · subst e
          simp only [hof, if_true] at hj ⊢
          rw [List.length_append] at hj
          by_cases hlt : j < (ofP A (p : Int)).length
          · rw [List.getElem_append_left hlt]; exact h.num p hp j hlt
          · have : j = (ofP A (p : Int)).length := by simp at hj; omega
            subst this
            rw [List.getElem_append_right (Nat.le_refl _)]
            simp only [Nat.sub_self, List.getElem_cons_zero]
            omega
        · simp only [hof, if_neg e] at hj ⊢
          exact h.num p hp j hj
      · by_cases e : p = q
        · subst e
          rw [upd_same, hof, if_pos rfl, List.drop_append_of_le_length (h.le p hp), List.map_append, List.map_append, h.rows p hp, List.map_singleton, List.map_singleton, hc]
        · rw [upd_ne _ _ e, hof, if_neg e]; exact h.rows p hp
      · rw [hof]
        have := h.le p hp
        split
        · rw [List.length_append]; omega
        · exact this
      · rcases List.mem_append.1 hx with h3 | h3
        · exact h.frm x h3
        · simp at h3; rw [h3]; exact hp'
    · cases hz
theorem RefH.drop {A : List Msg} {lo : Nat → Nat} {R : Nat → List Msg} (h : RefH A lo R) (p : Int) (u : Nat) : RefH A (dropLo lo R p u) (dropR lo R p u) := by
  unfold dropLo dropR
  by_cases hc : dropC lo R p u = true
  · rw [if_pos hc, if_pos hc]
    unfold dropC at hc
    simp only [Bool.and_eq_true, decide_eq_true_eq] at hc
    obtain ⟨h1, h2⟩ := procB_iff.1 hc.1
    obtain ⟨q, rfl⟩ := Int.eq_ofNat_of_zero_le h1
    rw [Int.toNat_natCast] at hc ⊢
    have hq : q < 64 := by omega
    have hl := h.len hq
    refine ⟨h.num, fun r hr => ?_, fun r hr => ?_, h.frm⟩
    · by_cases e : r = q
      · subst e
        rw [upd_same, upd_same, List.map_drop, h.rows r hr, ← List.map_drop, List.drop_drop]
        congr 2
        omega
      · rw [upd_ne _ _ e, upd_ne _ _ e]; exact h.rows r hr
    · by_cases e : r = q
      · subst e; rw [upd_same]; omega
      · rw [upd_ne _ _ e]; exact h.le r hr
  · rw [if_neg hc, if_neg hc]; exact h
end Go.Proofs.Ytnjcebkdkklidaa
