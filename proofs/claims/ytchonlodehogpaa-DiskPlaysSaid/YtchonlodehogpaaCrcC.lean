/-
  The statements' function awake returns true.
  Conditions: none.
-/
import Derived.Test.YtchonlodehogpaaCrcB
namespace Go.Proofs.Ytchonlodehogpaa
open Go.RowKit
theorem good_sealB (s : ByteArray) : goodB (sealB s) = true := by
  unfold goodB; rw [sealB_list]; exact CrcM.good_seal4 _
theorem extract_sealB (s : ByteArray) : (sealB s).extract 0 s.size = s := by
  unfold sealB
  apply ByteArray.ext
  rw [ByteArray.data_extract, ByteArray.data_append]
  apply Array.ext'
  simp
  rw [show s.size = s.data.toList.length from rfl, List.take_length]
theorem open_sealB (s : ByteArray) : openS (sealB s) = s := by
  unfold openS; rw [if_pos (good_sealB s), sealB_size, Nat.add_sub_cancel, extract_sealB]
theorem sum_check : ((sumB [⟨#[49, 50, 51, 52]⟩, ⟨#[53, 54, 55, 56, 57]⟩]).toNat : Int) = 3421780262 := by decide +kernel
theorem sum_none : ((sumB []).toNat : Int) = 0 := by decide +kernel
theorem cell2_0 (w : World) (u v : Value) (t : TypeId) : (w.alloc (.cells #[u, v] t)).cell? ⟨w.heap.size, 0, none⟩ = some u := by simp [go_sem]
theorem cell2_1 (w : World) (u v : Value) (t : TypeId) : (w.alloc (.cells #[u, v] t)).cell? ⟨w.heap.size, 1, none⟩ = some v := by simp [go_sem]
theorem cell3_0 (w : World) (u v x : Value) (t : TypeId) : (w.alloc (.cells #[u, v, x] t)).cell? ⟨w.heap.size, 0, none⟩ = some u := by simp [go_sem]
theorem cell3_1 (w : World) (u v x : Value) (t : TypeId) : (w.alloc (.cells #[u, v, x] t)).cell? ⟨w.heap.size, 1, none⟩ = some v := by simp [go_sem]
theorem cell3_2 (w : World) (u v x : Value) (t : TypeId) : (w.alloc (.cells #[u, v, x] t)).cell? ⟨w.heap.size, 2, none⟩ = some x := by simp [go_sem]
theorem Sum_two (a b : ByteArray) (w : World) (ha : a.size ≤ 1000000000) (hb : b.size ≤ 1000000000) :
    Calls Try.prog 20 #[.slice (some ⟨w.heap.size, 0, none⟩) 2 2] (w.alloc (.cells #[.string a, .string b] 9)) fun e w' => e = .returned (.int .u32 ((sumB [a, b]).toNat : Int)) ∧ (w.alloc (.cells #[.string a, .string b] 9)) = w' :=
  Sum_any _ 2 2 [a, b] _ rfl (by omega) (by intro i h; match i, h with
                                            | 0, _ => exact ha
                                            | 1, _ => exact hb) (by intro i h; match i, h with
                                                                    | 0, _ => exact cell2_0 _ _ _ _
                                                                    | 1, _ => exact cell2_1 _ _ _ _)
set_option maxHeartbeats 1000000 in
theorem awake_any (w : World) : Calls Try.prog 17 #[] w fun e w' => e = .returned (.bool true) ∧ Below w.heap.size w w' := by
  have h1 := sum_check
  have h2 := sum_none
  have h3 := good_sealB ⟨#[97, 98]⟩
  have h4 := open_sealB ⟨#[97, 98]⟩
  have h5 : goodB ⟨#[97, 98, 99]⟩ = false := good_short _ (by decide)
  go_enter Try.func17, Try.ntmps17
  go_wp2_with fail
  refine (Seal_any _ _ (by decide)).mono ?_
  rintro e w1 ⟨rfl, hb1⟩
  go_wp2_with fail
  refine (Open_any _ _ (by rw [sealB_size]; decide)).mono ?_
  rintro e w2 ⟨rfl, hb2⟩
  go_wp2_with fail
  refine (Open_any _ _ (by decide)).mono ?_
  rintro e w3 ⟨rfl, hb3⟩
  go_wp2_with fail
  refine (Sum_two _ _ _ (by decide) (by decide)).mono ?_
  rintro e w4 ⟨rfl, rfl⟩
  go_wp2_with fail
  refine (Sum_nil _).mono ?_
  rintro e w5 ⟨rfl, rfl⟩
  go_wp2
  go_ret
  exact ⟨rfl, ba (bt (bt hb1 hb2) hb3) _⟩
theorem sumB_two (a b : ByteArray) : sumB [a, b] = sumB [a ++ b] := by
  unfold sumB regs
  simp only [List.take_length]
  show regB (regB ones a) b ^^^ ones = regB ones (a ++ b) ^^^ ones
  unfold regB
  rw [ByteArray.data_append]
  simp [CrcM.reg_append]
end Go.Proofs.Ytchonlodehogpaa
