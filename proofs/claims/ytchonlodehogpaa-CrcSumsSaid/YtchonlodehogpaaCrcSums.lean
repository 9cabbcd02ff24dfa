/-
  The walk of the law CrcSums: it returns true.
  Conditions: none but that the texts' lengths are ints.
-/
import Derived.Test.YtchonlodehogpaaCrcC
namespace Go.Proofs.Ytchonlodehogpaa
open Go.RowKit
set_option maxHeartbeats 1000000 in
theorem law_sums (a b : ByteArray) (w : World) (ha : a.size ≤ 9223372036854775807) (hb : b.size ≤ 9223372036854775807) : Calls Try.prog 3 #[.string a, .string b] w fun e w' => e = .returned (.bool true) ∧ Below w.heap.size w w' := by
  by_cases g1 : 5000 < a.size
  · have d1 : decide ((5000 : Int) < (a.size : Int)) = true := by simp; omega
    go_enter Try.func3, Try.ntmps3
    go_wp2_with (go_at_call 17; refine (awake_any _).mono ?_; rintro e w1 ⟨rfl, hb1⟩)
    go_ret
    exact ⟨rfl, hb1⟩
  have d1 : decide ((5000 : Int) < (a.size : Int)) = false := by simp; omega
  by_cases g2 : 5000 < b.size
  · have d2 : decide ((5000 : Int) < (b.size : Int)) = true := by simp; omega
    go_enter Try.func3, Try.ntmps3
    go_wp2_with (go_at_call 17; refine (awake_any _).mono ?_; rintro e w1 ⟨rfl, hb1⟩)
    go_ret
    exact ⟨rfl, hb1⟩
  have d2 : decide ((5000 : Int) < (b.size : Int)) = false := by simp; omega
  clear ha hb
  have ha : a.size ≤ 5000 := by omega
  have hb : b.size ≤ 5000 := by omega
  clear g1 g2
  have e2 := sumB_two a b
  go_enter Try.func3, Try.ntmps3
  go_wp2_with fail
  refine (awake_any _).mono ?_
  rintro e w1 ⟨rfl, hb1⟩
  go_wp2_with fail
  refine (Open_any _ _ (by omega)).mono ?_
  rintro e w2 ⟨rfl, hb2⟩
  go_wp2_with fail
  refine (refOpen_any _ _ (by omega)).mono ?_
  rintro e w3 ⟨rfl, hb3⟩
  go_wp2_with fail
  refine (Sum_two _ _ _ (by omega) (by omega)).mono ?_
  rintro e w4 ⟨rfl, rfl⟩
  go_wp2_with fail
  refine (refSum_any _ _ (by rw [ByteArray.size_append]; omega)).mono ?_
  rintro e w5 ⟨rfl, rfl⟩
  go_wp2_with fail
  refine (Seal_any _ _ (by omega)).mono ?_
  rintro e w6 ⟨rfl, hb6⟩
  go_wp2_with fail
  refine (refSeal_any _ _ (by omega)).mono ?_
  rintro e w7 ⟨rfl, hb7⟩
  go_wp2
  go_ret
  exact ⟨rfl, bt (bt (ba (bt (bt hb1 hb2) hb3) _) hb6) hb7⟩
end Go.Proofs.Ytchonlodehogpaa
