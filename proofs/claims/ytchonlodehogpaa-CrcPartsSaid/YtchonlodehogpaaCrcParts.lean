/-
  The walk of the law CrcParts: it returns true.
  Conditions: none but that the texts' lengths are ints.
-/
import Derived.Test.YtchonlodehogpaaCrcC
namespace Go.Proofs.Ytchonlodehogpaa
open Go.RowKit
theorem Sum3 (B : Nat) (a b c : ByteArray) (w : World) (ha : a.size ≤ 1000000000) (hb : b.size ≤ 1000000000) (hc : c.size ≤ 1000000000)
    (h0 : w.cell? ⟨B, 0, none⟩ = some (.string a)) (h1 : w.cell? ⟨B, 1, none⟩ = some (.string b)) (h2 : w.cell? ⟨B, 2, none⟩ = some (.string c)) :
    Calls Try.prog 20 #[.slice (some ⟨B, 0, none⟩) 3 3] w fun e w' => e = .returned (.int .u32 ((sumB [a, b, c]).toNat : Int)) ∧ w = w' :=
  Sum_any _ 3 3 [a, b, c] _ rfl (by omega) (by intro i h; match i, h with
                                            | 0, _ => exact ha
                                            | 1, _ => exact hb
                                            | 2, _ => exact hc) (by intro i h; match i, h with
                                                                    | 0, _ => exact h0
                                                                    | 1, _ => exact h1
                                                                    | 2, _ => exact h2)
theorem Sum2 (B : Nat) (a b : ByteArray) (w : World) (ha : a.size ≤ 1000000000) (hb : b.size ≤ 1000000000)
    (h0 : w.cell? ⟨B, 0, none⟩ = some (.string a)) (h1 : w.cell? ⟨B, 1, none⟩ = some (.string b)) :
    Calls Try.prog 20 #[.slice (some ⟨B, 0, none⟩) 2 2] w fun e w' => e = .returned (.int .u32 ((sumB [a, b]).toNat : Int)) ∧ w = w' :=
  Sum_any _ 2 2 [a, b] _ rfl (by omega) (by intro i h; match i, h with
                                            | 0, _ => exact ha
                                            | 1, _ => exact hb) (by intro i h; match i, h with
                                                                    | 0, _ => exact h0
                                                                    | 1, _ => exact h1)
theorem sumB_three (a b c : ByteArray) : sumB [a, b, c] = sumB [a ++ b ++ c] := by
  unfold sumB regs
  simp only [List.take_length]
  show regB (regB (regB ones a) b) c ^^^ ones = regB ones (a ++ b ++ c) ^^^ ones
  unfold regB
  rw [ByteArray.data_append, ByteArray.data_append]
  simp [CrcM.reg_append]
theorem sumB_mid (a b c : ByteArray) : sumB [a ++ b, ⟨#[]⟩, c] = sumB [a ++ b ++ c] := by
  rw [sumB_three]
  congr 2
  simp [ByteArray.ext_iff]
theorem sumB_end (a b c : ByteArray) : sumB [a, b ++ c] = sumB [a ++ b ++ c] := by
  rw [sumB_two]
  congr 2
  simp [ByteArray.ext_iff, Array.append_assoc]
set_option maxHeartbeats 1000000 in
theorem law_parts (a b c : ByteArray) (w : World) (ha : a.size ≤ 9223372036854775807) (hb : b.size ≤ 9223372036854775807) (hc : c.size ≤ 9223372036854775807) :
    Calls Try.prog 6 #[.string a, .string b, .string c] w fun e w' => e = .returned (.bool true) ∧ Below w.heap.size w w' := by
  by_cases g1 : 3000 < a.size
  · have d1 : decide ((3000 : Int) < (a.size : Int)) = true := by simp; omega
    go_enter Try.func6, Try.ntmps6
    go_wp2_with (go_at_call 17; refine (awake_any _).mono ?_; rintro e w1 ⟨rfl, hb1⟩)
    go_ret
    exact ⟨rfl, hb1⟩
  have d1 : decide ((3000 : Int) < (a.size : Int)) = false := by simp; omega
  by_cases g2 : 3000 < b.size
  · have d2 : decide ((3000 : Int) < (b.size : Int)) = true := by simp; omega
    go_enter Try.func6, Try.ntmps6
    go_wp2_with (go_at_call 17; refine (awake_any _).mono ?_; rintro e w1 ⟨rfl, hb1⟩)
    go_ret
    exact ⟨rfl, hb1⟩
  have d2 : decide ((3000 : Int) < (b.size : Int)) = false := by simp; omega
  by_cases g3 : 3000 < c.size
  · have d3 : decide ((3000 : Int) < (c.size : Int)) = true := by simp; omega
    go_enter Try.func6, Try.ntmps6
    go_wp2_with (go_at_call 17; refine (awake_any _).mono ?_; rintro e w1 ⟨rfl, hb1⟩)
    go_ret
    exact ⟨rfl, hb1⟩
  have d3 : decide ((3000 : Int) < (c.size : Int)) = false := by simp; omega
  clear ha hb hc
  have ha : a.size ≤ 3000 := by omega
  have hb : b.size ≤ 3000 := by omega
  have hc : c.size ≤ 3000 := by omega
  clear g1 g2 g3
  have e1 := sumB_three a b c
  have e2 := sumB_mid a b c
  have e3 := sumB_end a b c
  go_enter Try.func6, Try.ntmps6
  go_wp2_with fail
  refine (awake_any _).mono ?_
  rintro e w1 ⟨rfl, hb1⟩
  go_wp2_with fail
  refine (Sum_one _ (a ++ b ++ c) _ (by rw [ByteArray.size_append, ByteArray.size_append]; omega) (by simp [go_sem])).mono ?_
  rintro e w2 ⟨rfl, rfl⟩
  go_wp2_with fail
  refine (Sum3 _ a b c _ (by omega) (by omega) (by omega) (by simp [go_sem]) (by simp [go_sem]) (by simp [go_sem])).mono ?_
  rintro e w3 ⟨rfl, rfl⟩
  go_wp2_with fail
  refine (Sum3 _ (a ++ b) ⟨#[]⟩ c _ (by rw [ByteArray.size_append]; omega) (by decide) (by omega) (by simp [go_sem]) (by simp [go_sem]) (by simp [go_sem])).mono ?_
  rintro e w3 ⟨rfl, rfl⟩
  go_wp2_with fail
  refine (Sum2 _ a (b ++ c) _ (by omega) (by rw [ByteArray.size_append]; omega) (by simp [go_sem]) (by simp [go_sem])).mono ?_
  rintro e w3 ⟨rfl, rfl⟩
  go_wp2
  go_ret
  exact ⟨rfl, ba (ba (ba (ba hb1 _) _) _) _⟩
end Go.Proofs.Ytchonlodehogpaa
