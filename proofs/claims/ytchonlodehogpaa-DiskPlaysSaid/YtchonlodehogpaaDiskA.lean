/-
  What disk's whole and the reference's whole return.
  Conditions: a slot has at most 1000000 bytes.
-/
import Derived.Test.YtchonlodehogpaaDiskMath
import Derived.Test.YtchonlodehogpaaFrameB
namespace Go.Proofs.Ytchonlodehogpaa
set_option linter.unusedVariables false
open Go.RowKit
def wN (s : ByteArray) : Nat := if wTop s = true then wNum s else 0
def wT (s : ByteArray) : ByteArray := if wTop s = true then wTxt s else ⟨#[]⟩
theorem valB_two (s : ByteArray) (h : s.size ≤ 2) : valB s < 65536 := by
  unfold valB valL
  have hl : s.data.toList.length ≤ 2 := h
  match h : s.data.toList with
  | [] => decide
  | [a] => have := a.toNat_lt; simp [valStep]; omega
  | [a, b] => have := a.toNat_lt; have := b.toNat_lt; simp [valStep]; omega
  | a :: b :: c :: l => rw [h] at hl; simp at hl
theorem wOk_top {s : ByteArray} (h : wOk s = true) : wTop s = true := by
  unfold wOk at h; simp at h; exact h.1
theorem wN_ok {s : ByteArray} (h : wOk s = true) : wN s = wNum s := if_pos (wOk_top h)
theorem wT_ok {s : ByteArray} (h : wOk s = true) : wT s = wTxt s := if_pos (wOk_top h)
theorem wNum_lt (s : ByteArray) : wNum s < 18446744073709551616 := valL_lt _
theorem wN_lt (s : ByteArray) : wN s < 18446744073709551616 := by
  unfold wN; split
  · exact wNum_lt s
  · omega
theorem openS_size (s : ByteArray) (n : Nat) (h : s.size ≤ n) : (openS s).size ≤ n := by
  unfold openS
  split
  · rw [ByteArray.size_extract]; omega
  · exact Nat.zero_le _
theorem wT_size (s : ByteArray) (n : Nat) (h : s.size ≤ n) : (wT s).size ≤ n := by
  have := openS_size s n h
  unfold wT wTxt
  split
  · rw [ByteArray.size_extract]; omega
  · exact Nat.zero_le _
set_option maxHeartbeats 1000000 in
theorem whole_any (s : ByteArray) (w : World) (hs : s.size ≤ 1000000) :
    Calls Try.prog 60 #[.string s] w fun e w' => e = .returned (.tuple #[.int .u64 (wN s : Int), .string (wT s), .bool (wOk s)]) ∧ Below w.heap.size w w' := by
  have hoz := openS_size s 1000000 hs
  cases hg : goodB s
  · have e1 : wOk s = false := by simp [wOk, wTop, hg]
    have e2 : wN s = 0 := by simp [wN, wTop, hg]
    have e3 : wT s = ⟨#[]⟩ := by simp [wT, wTop, hg]
    rw [e1, e2, e3]
    clear e1 e2 e3
    go_enter Try.func60, Try.ntmps60
    go_wp2_with fail
    refine (Open_any _ _ (by omega)).mono ?_
    rintro e w1 ⟨rfl, hb1⟩
    go_wp2
    refine bodyPost_ret (v := .tuple #[.int .u64 0, .string ⟨#[]⟩, .bool false]) (by simp [results, Try.results60, go_sem]) rfl ⟨rfl, hb1⟩
  by_cases h10 : (openS s).size < 10
  · have ht : wTop s = false := by simp [wTop, hg]; omega
    have e1 : wOk s = false := by simp [wOk, ht]
    have e2 : wN s = 0 := by simp [wN, ht]
    have e3 : wT s = ⟨#[]⟩ := by simp [wT, ht]
    rw [e1, e2, e3]
    clear e1 e2 e3 ht
    have d1 : decide (((openS s).size : Int) < 10) = true := by simp; omega
    go_enter Try.func60, Try.ntmps60
    go_wp2_with fail
    refine (Open_any _ _ (by omega)).mono ?_
    rintro e w1 ⟨rfl, hb1⟩
    go_wp2
    refine bodyPost_ret (v := .tuple #[.int .u64 0, .string ⟨#[]⟩, .bool false]) (by simp [results, Try.results60, go_sem]) rfl ⟨rfl, hb1⟩
  have ht : wTop s = true := by simp [wTop, hg]; omega
  have e1 : wOk s = decide ((openS s).size = 10 + valB ((openS s).extract 8 10)) := by simp [wOk, ht]
  have e2 : wN s = valB ((openS s).extract 0 8) := by simp [wN, ht]; rfl
  have e3 : wT s = (openS s).extract 10 (openS s).size := by simp [wT, ht]; rfl
  rw [e1, e2, e3]
  clear e1 e2 e3 ht
  have d1 : decide (((openS s).size : Int) < 10) = false := by simp; omega
  have hO := (Open_any s w (by omega))
  rw [hg] at hO
  generalize openS s = t at *
  obtain ⟨m, hm⟩ : ∃ m, t.size = 10 + m := ⟨t.size - 10, by omega⟩
  have hl : valB (t.extract 8 10) < 65536 := valB_two _ (by rw [ByteArray.size_extract]; omega)
  obtain ⟨L, hL⟩ : ∃ L, valB (t.extract 8 10) = L := ⟨_, rfl⟩
  obtain ⟨X, hX⟩ : ∃ X, valB (t.extract 0 8) = X := ⟨_, rfl⟩
  obtain ⟨B, hB⟩ : ∃ B, t.extract 10 t.size = B := ⟨_, rfl⟩
  rw [hL, hX, hB]
  rw [hL] at hl
  have HO := Lib.hid hO
  have HL := Lib.hid hL
  have HX := Lib.hid hX
  have HB := Lib.hid hB
  have hm' : (t.size : Int) = 10 + (m : Int) := by omega
  have hdec : ((10 : Int) + (m : Int) == 10 + (L : Int)) = decide (t.size = 10 + L) := by
    rw [hm, Bool.eq_iff_iff]
    simp
    omega
  have HD := Lib.hid hdec
  have HM := Lib.hid hm
  clear hO hL hX hB hdec hm
  go_enter Try.func60, Try.ntmps60
  go_wp2_with fail
  refine HO.out.mono ?_
  rintro e w1 ⟨rfl, hb1⟩
  go_wp2_with fail
  refine (New_any _ _).mono ?_
  rintro e w2 ⟨rfl, hw2⟩
  have hR0 : RdAt w2 w1.heap.size t 0 := by rw [← hw2]; exact RdAt.new _ _ _
  have hb2 : Below w.heap.size w w2 := by rw [← hw2]; exact ba hb1 _
  have hRb : w.heap.size ≤ w1.heap.size := hb1.size
  clear hw2
  go_wp2_with fail
  refine (Num_val w1.heap.size t 0 8 X 8 _ hR0 (by have := HM.out; omega) (by have := HM.out; omega) (by omega) (by omega) HX.out rfl).mono ?_
  rintro e w3 ⟨rfl, hs3⟩
  have hb3 := hs3.out hb2 hRb hb2.size
  go_wp2_with fail
  refine (Num_val w1.heap.size t 8 2 L 10 _ hs3.1 (by have := HM.out; omega) (by have := HM.out; omega) (by omega) (by omega) HL.out rfl).mono ?_
  rintro e w4 ⟨rfl, hs4⟩
  have hb4 := hs4.out hb3 hRb hb3.size
  go_wp2_with fail
  refine (Left_val w1.heap.size t 10 m _ hs4.1 (by have := HM.out; omega) HM.out).mono ?_
  rintro e w5 ⟨rfl, n5, rfl⟩
  go_wp2_with fail
  refine (Text_val w1.heap.size t 10 m t.size B _ (hs4.1.drewN n5) (by have := HM.out; omega) (by have := HM.out; omega) (by rw [← HB.out, ← HM.out]) HM.out.symm).mono ?_
  rintro e w6 ⟨rfl, hs6⟩
  have hb6 := hs6.out (bn hb4 n5) hRb hb4.size
  go_wp2
  refine bodyPost_ret (v := .tuple #[.int .u64 X, .string B, .bool (decide (t.size = 10 + L))]) (by simp [results, Try.results60, go_sem, HD.out]) rfl ⟨rfl, hb6⟩
end Go.Proofs.Ytchonlodehogpaa
