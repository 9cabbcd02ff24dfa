/-
  The plain side of the law ChunkBack: which chunks came, what they come to.
  Conditions: none.
-/
import Derived.Test.YtilijegipjpdlaaChunkE
namespace Go.Proofs.Ytilijegipjpdlaa
set_option linter.unusedVariables false
open Go.RowKit IM
def asmK (s : ByteArray) (K : List Nat) : Chs := K.map fun k : Nat => ((k : Int), partB s k)
def GoodK (T : Nat) (K : List Nat) : Prop := K.Nodup ∧ ∀ k ∈ K, k < T
def addK (K : List Nat) (k : Nat) : List Nat := if k ∈ K then K else K ++ [k]
def tK (T : Nat) (K : List Nat) : Int := if K = [] then 0 else (T : Int)
def seenK (K : List Nat) : List (Int × Value) := K.map fun k : Nat => ((k : Int), .bool true)
theorem GoodK.add {T : Nat} {K : List Nat} (h : GoodK T K) {k : Nat} (hk : k < T) : GoodK T (addK K k) := by
  unfold addK
  split
  · exact h
  · rename_i hn
    refine ⟨?_, ?_⟩
    · rw [List.nodup_append]
      refine ⟨h.1, by simp, ?_⟩
      intro a ha b hb e
      simp at hb
      subst hb e
      exact hn ha
    · intro a ha
      rcases List.mem_append.1 ha with ha | ha
      · exact h.2 a ha
      · simp at ha
        omega
theorem asmK_has (s : ByteArray) (K : List Nat) (k : Nat) : hasC (asmK s K) (k : Int) = decide (k ∈ K) := by
  rw [Bool.eq_iff_iff, hasC_mem, decide_eq_true_eq]
  unfold asmK
  simp only [List.map_map, List.mem_map, Function.comp]
  constructor
  · rintro ⟨a, ha, h⟩
    have : a = k := by omega
    exact this ▸ ha
  · intro h
    exact ⟨k, h, rfl⟩
theorem asmK_length (s : ByteArray) (K : List Nat) : (asmK s K).length = K.length := by unfold asmK; simp
theorem asmK_nil (s : ByteArray) (K : List Nat) : asmK s K = [] ↔ K = [] := by unfold asmK; simp
theorem asmK_good (s : ByteArray) {T : Nat} {K : List Nat} (h : GoodK T K) (hT : T ≤ 16) : GoodC (tK T K) (asmK s K) := by
  refine ⟨?_, ?_, ?_, ?_⟩
  · unfold asmK
    rw [List.map_map, List.Nodup, List.pairwise_map]
    refine h.1.imp ?_
    intro a b hne e
    simp at e
    exact hne (by omega)
  · intro x hx
    unfold asmK at hx
    obtain ⟨k, hk, rfl⟩ := List.mem_map.1 hx
    have := h.2 k hk
    unfold tK
    rw [if_neg (List.ne_nil_of_mem hk)]
    simp
    omega
  · unfold tK
    split <;> omega
  · intro e
    rw [asmK_nil] at e
    unfold tK
    rw [if_pos e]
theorem asmK_sizes (s : ByteArray) (K : List Nat) : ∀ x ∈ asmK s K, x.2.size ≤ 100000 := by
  intro x hx
  unfold asmK at hx
  obtain ⟨k, hk, rfl⟩ := List.mem_map.1 hx
  show (partB s k).size ≤ _
  unfold partB
  rw [ByteArray.size_extract]
  omega
theorem count_other (n : Nat) (t : Int) (L : Chs) (x : ItemV) (h : ¬ (x.kind = 4 ∧ x.number = n)) : countC n t L x = false := by
  unfold countC
  rw [decide_eq_false (fun hk => h ⟨hk.1, hk.2.1⟩)]
  rfl
theorem count_item (s : ByteArray) (n T : Nat) (K : List Nat) (k : Nat) (hk : k < T) (hT : T ≤ 16) : countC n (tK T K) (asmK s K) (itemX (partB s k) n (k : Int) (T : Int)) = !decide (k ∈ K) := by
  unfold countC
  rw [show (itemX (partB s k) n (k : Int) (T : Int)).index = (k : Int) from rfl, asmK_has]
  rw [decide_eq_true (show okC n (tK T K) (asmK s K) (itemX (partB s k) n (k : Int) (T : Int)) from ?_)]
  · rfl
  · refine ⟨rfl, rfl, by show (1 : Int) ≤ (T : Int); omega, by show (T : Int) ≤ 16; omega, by show (0 : Int) ≤ (k : Int); omega, by show (k : Int) < (T : Int); omega, ?_⟩
    by_cases h : K = []
    · exact .inl ((asmK_nil s K).2 h)
    · refine .inr ?_
      show (T : Int) = tK T K
      unfold tK
      rw [if_neg h]
theorem take_item (s : ByteArray) (n T : Nat) (K : List Nat) (k : Nat) (hk : k < T) (hT : T ≤ 16) :
    takeT n (tK T K) (asmK s K) (itemX (partB s k) n (k : Int) (T : Int)) = tK T (addK K k) ∧ takeL n (tK T K) (asmK s K) (itemX (partB s k) n (k : Int) (T : Int)) = asmK s (addK K k) ∧
      takeB n (tK T K) (asmK s K) (itemX (partB s k) n (k : Int) (T : Int)) = (!decide (k ∈ K) && decide (K.length + 1 = T)) := by
  have hc := count_item s n T K k hk hT
  unfold takeT takeL takeB addK
  rw [hc]
  by_cases h : k ∈ K
  · simp [h]
  · simp only [h, decide_false, Bool.not_false, if_true, if_false]
    refine ⟨?_, ?_, ?_⟩
    · show (T : Int) = _
      unfold tK
      simp
    · unfold asmK
      simp [itemX]
    · rw [asmK_length]
      show (true && decide ((K.length : Int) + 1 = (T : Int))) = _
      simp
      omega
theorem full_K (s : ByteArray) (T : Nat) (K : List Nat) (hT : 1 ≤ T) : fullC (tK T K) (asmK s K) = decide (K.length = T) := by
  unfold fullC tK
  rw [asmK_length]
  by_cases h : K = []
  · subst h
    simp [asmK]
    omega
  · have h2 : (asmK s K).isEmpty = false := by
      cases K with
      | nil => exact absurd rfl h
      | cons a K => rfl
    rw [if_neg h, h2]
    simp
    omega
theorem all_of_len {T : Nat} {K : List Nat} (h : GoodK T K) (hl : K.length = T) : ∀ k, k < T → k ∈ K := by
  intro k hk
  refine Classical.byContradiction fun hn => ?_
  have := nodup_le T (l := k :: K) (List.nodup_cons.2 ⟨hn, h.1⟩) (by
    intro x hx
    rcases List.mem_cons.1 hx with hx | hx
    · omega
    · exact h.2 x hx)
  simp at this
  omega
theorem len_of_all : ∀ (T : Nat) {K : List Nat}, K.Nodup → (∀ k, k < T → k ∈ K) → T ≤ K.length := by
  intro T
  induction T with
  | zero => intro K _ _; omega
  | succ T ih =>
    intro K hn h
    have hm := h T (by omega)
    have := ih (hn.erase T) (fun k hk => (hn.mem_erase_iff).2 ⟨by omega, h k (by omega)⟩)
    rw [List.length_erase_of_mem hm] at this
    have := List.length_pos_of_mem hm
    omega
theorem asmK_find (s : ByteArray) (K : List Nat) (k : Nat) (h : k ∈ K) : (asmK s K).find? (fun x => x.1 == (k : Int)) = some ((k : Int), partB s k) := by
  unfold asmK
  induction K with
  | nil => cases h
  | cons a K ih =>
    rw [List.map_cons, List.find?_cons]
    by_cases e : a = k
    · subst e; simp
    · have : ((a : Int) == (k : Int)) = false := by simp; omega
      rw [this]
      exact ih (by
        rcases List.mem_cons.1 h with h | h
        · omega
        · exact h)
theorem cat_all (s : ByteArray) (K : List Nat) (T : Nat) (hlo : ∀ k, k < T → k * 256 ≤ s.size) (h : ∀ k, k < T → k ∈ K) : ∀ k, k ≤ T → catC (asmK s K) k = s.extract 0 (min s.size (k * 256)) := by
  intro k
  induction k with
  | zero =>
    intro _
    apply bax
    rw [ext_list]
    simp [catC]
  | succ k ih =>
    intro hk
    have hl := hlo k (by omega)
    rw [catC, ih (by omega), asmK_find s K k (h k (by omega))]
    apply bax
    rw [ByteArray.data_append, Array.toList_append, ext_list]
    show _ ++ (partB s k).data.toList = _
    unfold partB
    rw [ext_list, ext_list, Nat.sub_zero, Nat.sub_zero, List.drop_zero]
    have e1 : min s.size (k * 256) = k * 256 := by omega
    have h3 : k * 256 ≤ min s.size ((k + 1) * 256) := Nat.le_min.2 ⟨hl, Nat.mul_le_mul_right _ (Nat.le_succ k)⟩
    obtain ⟨m, e2⟩ := Nat.exists_eq_add_of_le h3
    rw [e1, e2, List.take_add, Nat.add_sub_cancel_left]
theorem whole_K (s : ByteArray) (T : Nat) (K : List Nat) (hT : T = totalN s) (h : GoodK T K) (hl : K.length = T) : wholeC (tK T K) (asmK s K) = s := by
  have hT1 : 1 ≤ T := by rw [hT]; unfold totalN; omega
  unfold wholeC
  rw [full_K s T K hT1, decide_eq_true hl, if_pos rfl]
  have h1 : (tK T K).toNat = T := by
    unfold tK
    rw [if_neg (fun e => by subst e; simp at hl; omega)]
    simp
  rw [h1, cat_all s K T (by subst hT; unfold totalN; intro k hk; omega) (all_of_len h hl) T (Nat.le_refl _)]
  apply bax
  rw [ext_list, Nat.sub_zero, List.drop_zero, List.take_of_length_le]
  show s.size ≤ _
  subst hT
  unfold totalN
  omega
theorem seen_get (K : List Nat) (k : Nat) : (IM.get (seenK K) (k : Int)).getD (.bool false) = .bool (decide (k ∈ K)) := by
  unfold IM.get seenK
  induction K with
  | nil => simp
  | cons a K ih =>
    rw [List.map_cons, List.find?_cons]
    by_cases e : a = k
    · subst e; simp
    · have h1 : ((a : Int) == (k : Int)) = false := by simp; omega
      have h2 : decide (k ∈ a :: K) = decide (k ∈ K) := by
        rw [decide_eq_decide, List.mem_cons]
        constructor
        · rintro (h | h)
          · omega
          · exact h
        · exact .inr
      rw [h1, h2]
      exact ih
theorem seen_put (K : List Nat) (k : Nat) : IM.put (seenK K) (k : Int) (.bool true) = seenK (addK K k) := by
  have hh : IM.has (seenK K) (k : Int) = decide (k ∈ K) := by
    rw [Bool.eq_iff_iff, decide_eq_true_eq]
    unfold IM.has seenK
    simp only [List.find?_isSome, List.mem_map, beq_iff_eq]
    constructor
    · rintro ⟨x, ⟨a, ha, rfl⟩, h⟩
      simp at h
      exact (show a = k by omega) ▸ ha
    · intro h
      exact ⟨_, ⟨k, h, rfl⟩, rfl⟩
  unfold IM.put addK
  rw [hh]
  by_cases h : k ∈ K
  · rw [decide_eq_true h, if_pos rfl, if_pos h]
    unfold seenK
    rw [List.map_map]
    apply List.map_congr_left
    intro a _
    by_cases e : a = k
    · subst e; simp
    · have : ((a : Int) == (k : Int)) = false := by simp; omega
      simp [this]
      omega
  · rw [decide_eq_false h, if_neg (by simp), if_neg h]
    unfold seenK
    simp
theorem seenK_length (K : List Nat) : (seenK K).length = K.length := by unfold seenK; simp
end Go.Proofs.Ytilijegipjpdlaa
