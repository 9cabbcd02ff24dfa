/-
  What chunk.Whole returns; what is kept of the chunks that came.
  Conditions: none.
-/
import Derived.Test.YtilijegipjpdlaaChunkC
namespace Go.Proofs.Ytilijegipjpdlaa
set_option linter.unusedVariables false
open Go.RowKit IM
/-- what chunks that count are like: their indexes are apart, and below the total -/
def GoodC (t : Int) (L : Chs) : Prop := (L.map (·.1)).Nodup ∧ (∀ x ∈ L, 0 ≤ x.1 ∧ x.1 < t) ∧ t ≤ 16 ∧ (L = [] → t = 0)
theorem GoodC.nil : GoodC 0 [] := ⟨List.nodup_nil, by simp, by omega, fun _ => rfl⟩
theorem hasC_mem (L : Chs) (i : Int) : hasC L i = true ↔ i ∈ L.map (·.1) := by
  unfold hasC
  simp [List.any_eq_true]
theorem GoodC.take {n : Nat} {t : Int} {L : Chs} (h : GoodC t L) (x : ItemV) : GoodC (takeT n t L x) (takeL n t L x) := by
  unfold takeT takeL
  by_cases hc : countC n t L x = true
  · rw [if_pos hc, if_pos hc]
    unfold countC at hc
    simp only [Bool.and_eq_true, decide_eq_true_eq, Bool.not_eq_true'] at hc
    obtain ⟨⟨_, _, h1, h2, h3, h4, h5⟩, h6⟩ := hc
    obtain ⟨g1, g2, g3, g4⟩ := h
    refine ⟨?_, ?_, h2, by simp⟩
    · rw [List.map_append, List.nodup_append]
      refine ⟨g1, by simp, ?_⟩
      intro a ha b hb e
      simp at hb
      subst hb e
      have := (hasC_mem L _).2 ha
      rw [this] at h6
      cases h6
    · intro y hy
      rcases List.mem_append.1 hy with hy | hy
      · rcases h5 with h5 | h5
        · rw [h5] at hy
          cases hy
        · rw [h5]
          exact g2 y hy
      · simp at hy
        subst hy
        exact ⟨h3, h4⟩
  · rw [if_neg hc, if_neg hc]
    exact h
theorem nodup_le (n : Nat) : ∀ {l : List Nat} (h : l.Nodup) (hl : ∀ x ∈ l, x < n), l.length ≤ n := by
  induction n with
  | zero =>
    intro l h hl
    cases l with
    | nil => simp
    | cons a l => exact absurd (hl a (by simp)) (by omega)
  | succ n ih =>
    intro l h hl
    by_cases hm : n ∈ l
    · have h1 := ih (h.erase n) (fun x hx => by
        have h2 := (h.mem_erase_iff).1 hx
        have := hl x h2.2
        have := h2.1
        omega)
      rw [List.length_erase_of_mem hm] at h1
      omega
    · have h1 := ih h (fun x hx => by
        have := hl x hx
        have : x ≠ n := fun e => hm (e ▸ hx)
        omega)
      omega
theorem GoodC.len {t : Int} {L : Chs} (h : GoodC t L) : (L.length : Int) ≤ t ∧ L.length ≤ 16 := by
  obtain ⟨g1, g2, g3, g4⟩ := h
  have h1 : (L.map fun x => x.1.toNat).length ≤ t.toNat := by
    refine nodup_le _ ?_ ?_
    · rw [List.Nodup, List.pairwise_map]
      rw [List.Nodup, List.pairwise_map] at g1
      refine g1.imp_of_mem ?_
      intro a b ha hb hne e
      have := g2 a ha
      have := g2 b hb
      exact hne (by omega)
    · intro y hy
      obtain ⟨z, hz, rfl⟩ := List.mem_map.1 hy
      have := g2 z hz
      omega
  simp at h1
  by_cases ht : t < 0
  · cases L with
    | nil => rw [g4 rfl] at ht; omega
    | cons a L => have := g2 a (by simp); omega
  · omega
/-- the state, as far as its first chunks -/
def catC (L : Chs) : Nat → ByteArray
  | 0 => ⟨#[]⟩
  | k + 1 => catC L k ++ ((L.find? (fun x => x.1 == (k : Int))).map (·.2)).getD ⟨#[]⟩
def fullC (t : Int) (L : Chs) : Bool := !L.isEmpty && decide ((L.length : Int) = t)
def wholeC (t : Int) (L : Chs) : ByteArray := if fullC t L = true then catC L t.toNat else ⟨#[]⟩
theorem strs_get (L : Chs) (i : Int) : (IM.get (strs L) i).getD (.string ⟨#[]⟩) = .string (((L.find? (fun x => x.1 == i)).map (·.2)).getD ⟨#[]⟩) := by
  unfold IM.get strs
  induction L with
  | nil => rfl
  | cons x L ih =>
    simp only [List.map_cons, List.find?_cons]
    cases h : x.1 == i
    · simpa using ih
    · simp
theorem getC_size (L : Chs) (hb : ∀ x ∈ L, x.2.size ≤ 100000) (i : Int) : (((L.find? (fun x => x.1 == i)).map (·.2)).getD (⟨#[]⟩ : ByteArray)).size ≤ 100000 := by
  cases h : L.find? (fun x => x.1 == i) with
  | none => show 0 ≤ _; omega
  | some x => exact hb x (List.mem_of_find?_eq_some h)
theorem catC_size (L : Chs) (hb : ∀ x ∈ L, x.2.size ≤ 100000) : ∀ k, (catC L k).size ≤ k * 100000 := by
  intro k
  induction k with
  | zero => show 0 ≤ _; omega
  | succ k ih =>
    rw [catC, ByteArray.size_append]
    have := getC_size L hb (k : Int)
    omega
/-- the state's texts are no longer together than a text can be -/
def SmallC (L : Chs) : Prop := ∀ k, k ≤ 16 → (catC L k).size ≤ 9223372036854775807
theorem small_of (L : Chs) (hb : ∀ x ∈ L, x.2.size ≤ 100000) : SmallC L := fun k hk => by have := catC_size L hb k; omega
theorem SmallC.step {L : Chs} (h : SmallC L) (k : Nat) (hk : k < 16) : (catC L k).size + (((L.find? (fun x => x.1 == (k : Int))).map (·.2)).getD (⟨#[]⟩ : ByteArray)).size ≤ 9223372036854775807 := by
  have := h (k + 1) hk
  rwa [catC, ByteArray.size_append] at this
set_option maxHeartbeats 1000000 in
theorem Whole_any (D M n : Nat) (t : Int) (L : Chs) (w : World) (h : AsmAt w D M n t L) (hg : GoodC t L) (hb : SmallC L) :
    Calls Try.prog 13 #[.pointer (some ⟨D, 0, none⟩)] w fun e w' => e = .returned (.tuple #[.string (wholeC t L), .bool (fullC t L)]) ∧ Below w.heap.size w w' := by
  obtain ⟨hz1, hz2⟩ := hg.len
  have ht16 := hg.2.2.1
  have hA := Lib.hid h
  have a1 : w.cell? ⟨D, 1, none⟩ = some (.int .i64 t) := cell_of_row _ _ 1 _ _ _ h.1
  have a2 : w.cell? ⟨D, 2, none⟩ = some (.map (some M)) := cell_of_row _ _ 2 _ _ _ h.1
  have hl1 : ∀ k, (Builtin.len_ #[63] 3 #[.map (some M)]).run Try.prog (w.drewN k) = .ok (.int .i64 (L.length : Int)) (w.drewN k) := by
    intro k
    have := (h.below (bn (br _) k)).2.len Try.underlying63 3
    rwa [strs_length] at this
  have hk1 : ∀ (k : Nat) (i : Int), (Instr.lookup 63 (.map (some M)) (.int .i64 i) false).run Try.prog (w.drewN k) = .ok (.string (((L.find? (fun x => x.1 == i)).map (·.2)).getD ⟨#[]⟩)) (w.drewN k) := by
    intro k i
    have := (h.below (bn (br _) k)).2.lookup Try.underlying63 Try.underlying3 (z := .string ⟨#[]⟩) (by kernel_rfl) i
    rwa [strs_get] at this
  have HK := Lib.hid hk1
  clear hg h hk1
  by_cases h0 : L.length = 0
  · have hf : fullC t L = false := by
      have : L = [] := List.eq_nil_of_length_eq_zero h0
      subst this
      rfl
    have d0 : ((L.length : Int) == 0) = true := by rw [h0]; rfl
    have hw : wholeC t L = ⟨#[]⟩ := by unfold wholeC; rw [hf]; rfl
    rw [hf, hw]
    clear hf hw h0
    go_enter Try.func13, Try.ntmps13
    go_wp2
    go_quiet (fail)
    go_wp2
    go_ret2
    exact ⟨rfl, bn (br _) _⟩
  · have d0 : ((L.length : Int) == 0) = false := by simp; exact fun e => h0 (by rw [e]; rfl)
    by_cases h1 : (L.length : Int) = t
    · subst h1
      have hf : fullC L.length L = true := by
        unfold fullC
        cases L with
        | nil => exact absurd rfl h0
        | cons a L => simp
      have hw : wholeC L.length L = catC L L.length := by unfold wholeC; rw [if_pos hf]; simp
      have hstep : ∀ k, catC L (k + 1) = catC L k ++ ((L.find? (fun x => x.1 == (k : Int))).map (·.2)).getD ⟨#[]⟩ := fun _ => rfl
      have hstart : catC L 0 = ⟨#[]⟩ := rfl
      have HS := Lib.hid (And.intro hstart hstep)
      have HZ := Lib.hid hb.step
      rw [hf, hw]
      clear hf hw hstep hstart
      go_enter Try.func13, Try.ntmps13
      go_wp2
      go_quiet (fail)
      rename_i nq
      have hk1 := HK.out nq
      have HC := Lib.hid hk1
      clear hl1 hk1
      go_wp2
      go_loop [4, 28] (fun s i => ∃ k : Nat, k ≤ L.length ∧ i = .int .i64 (k : Int) ∧ s = .string (catC L k)) (fun _ i => L.length - (intOf i).toNat)
      case atStart => exact ⟨0, by omega, rfl, by rw [HS.out.1]⟩
      case round =>
        obtain ⟨k, hk, rfl, rfl⟩ := hrel
        by_cases hlt : k < L.length
        · have hd : decide ((k : Int) < (L.length : Int)) = true := by simp; omega
          have hc := HC.out (k : Int)
          have hs := Lib.hid (HS.out.2 k)
          have hq3 := HZ.out k (by omega)
          generalize ((L.find? (fun x => x.1 == (k : Int))).map (·.2)).getD ⟨#[]⟩ = X at *
          generalize hC : catC L k = C at *
          have HCC := Lib.hid hC
          clear hC
          go_wp2
          exact ⟨⟨k + 1, by omega, by go_num, by rw [hs.out]⟩, by simp [intOf]; omega⟩
        · have hd : decide ((k : Int) < (L.length : Int)) = false := by simp; omega
          obtain rfl : k = L.length := by omega
          go_wp2
          go_ret2
          exact ⟨rfl, bn (br _) _⟩
    · have hf : fullC t L = false := by unfold fullC; rw [decide_eq_false h1]; simp
      have hw : wholeC t L = ⟨#[]⟩ := by unfold wholeC; rw [hf]; rfl
      have d1 : ((L.length : Int) == t) = false := by simpa using h1
      have d1' : ((L.length : Int) != t) = true := by simpa using h1
      rw [hf, hw]
      clear hf hw h0
      go_enter Try.func13, Try.ntmps13
      go_wp2
      go_quiet (fail)
      go_wp2
      go_ret2
      exact ⟨rfl, bn (br _) _⟩
end Go.Proofs.Ytilijegipjpdlaa
