/-
  What the reference's Write and Tear return.
  Conditions: slots of at most 1000000 bytes.
-/
import Derived.Test.YtchonlodehogpaaDiskF
namespace Go.Proofs.Ytchonlodehogpaa
set_option linter.unusedVariables false
open Go.RowKit
set_option maxHeartbeats 1000000 in
theorem refWrite_any (a b s : ByteArray) (k : Int) (w : World) (ha : a.size ≤ 1000000) (hb : b.size ≤ 1000000) (hs : s.size ≤ 9223372036854775807) :
    Calls Try.prog 34 #[twoV a b, .string s] w fun e w' => e = .returned (.tuple #[twoV (actD (a, b) ⟨s, false, k⟩).1 (actD (a, b) ⟨s, false, k⟩).2, .int .i64 (codeD ⟨s, false, k⟩)]) ∧ Below w.heap.size w w' := by
  by_cases h8 : 8192 < s.size
  · have d1 : decide ((8192 : Int) < (s.size : Int)) = true := by simp; omega
    have d2 : decide (8192 < s.size) = true := by simp; omega
    have e1 : codeD ⟨s, false, k⟩ = 3 := if_pos h8
    have e2 := act_long (a, b) ⟨s, false, k⟩ h8
    rw [e1, e2]
    clear e1 e2 h8
    unfold twoV
    go_enter Try.func34, Try.ntmps34
    go_wp2
    refine bodyPost_ret (v := .tuple #[.agg #[.string a, .string b], .int .i64 3]) (by simp [results, Try.results34, go_sem]) rfl ⟨rfl, ?_⟩
    exact ba (ba (br _) _) _
  have hs8 : s.size ≤ 8192 := by omega
  have d1 : decide ((8192 : Int) < (s.size : Int)) = false := by simp; omega
  have d2 : decide (8192 < s.size) = false := by simp; omega
  have e1 : codeD ⟨s, false, k⟩ = 0 := if_neg h8
  have e2 : actD (a, b) ⟨s, false, k⟩ = putD a b (newB a b s) := if_neg h8
  have hP := fun W : World => refput_any a b s (-1) W ha hb hs8 (newB a b s) (by simp)
  rw [e1, e2]
  generalize putD a b (newB a b s) = p at *
  obtain ⟨p1, p2⟩ := p
  have HP := Lib.hid hP
  clear e1 e2 h8 hP
  unfold twoV at *
  go_enter Try.func34, Try.ntmps34
  go_wp2_with fail
  refine (HP.out _).mono ?_
  rintro e w1 ⟨rfl, hb1⟩
  have hM := DkAt.new ⟨#[]⟩ ⟨#[]⟩ (w.alloc (.cells #[.string a, .string b] 54)) 54
  rw [show (w.alloc (.cells #[.string a, .string b] 54)).heap.size = w.heap.size + 1 from by simp] at hM
  obtain ⟨m0, m1, mf0, mf1⟩ := hM.below hb1 (by simp)
  have hb6 := bt (ba (ba (br w) _) _) hb1
  go_wp2
  refine bodyPost_ret (v := .tuple #[.agg #[.string p1, .string p2], .int .i64 0]) (by simp [results, Try.results34, go_sem, m0, m1]) rfl ⟨rfl, ?_⟩
  exact bs (bs hb6 (Nat.le_succ _) _) (Nat.le_succ _) _
set_option maxHeartbeats 1000000 in
theorem refTear_any (a b s : ByteArray) (k : Int) (w : World) (ha : a.size ≤ 1000000) (hb : b.size ≤ 1000000) (hs : s.size ≤ 9223372036854775807) :
    Calls Try.prog 33 #[twoV a b, .string s, .int .i64 k] w fun e w' => e = .returned (.tuple #[twoV (actD (a, b) ⟨s, true, k⟩).1 (actD (a, b) ⟨s, true, k⟩).2, .int .i64 (codeD ⟨s, true, k⟩)]) ∧ Below w.heap.size w w' := by
  by_cases h8 : 8192 < s.size
  · have d1 : decide ((8192 : Int) < (s.size : Int)) = true := by simp; omega
    have d2 : decide (8192 < s.size) = true := by simp; omega
    have e1 : codeD ⟨s, true, k⟩ = 3 := if_pos h8
    have e2 := act_long (a, b) ⟨s, true, k⟩ h8
    rw [e1, e2]
    clear e1 e2 h8
    unfold twoV
    go_enter Try.func33, Try.ntmps33
    go_wp2
    refine bodyPost_ret (v := .tuple #[.agg #[.string a, .string b], .int .i64 3]) (by simp [results, Try.results33, go_sem]) rfl ⟨rfl, ?_⟩
    exact ba (ba (br _) _) _
  have hs8 : s.size ≤ 8192 := by omega
  have d1 : decide ((8192 : Int) < (s.size : Int)) = false := by simp; omega
  have d2 : decide (8192 < s.size) = false := by simp; omega
  have e1 : codeD ⟨s, true, k⟩ = 0 := if_neg h8
  have e2 : actD (a, b) ⟨s, true, k⟩ = putD a b ((newB a b s).extract 0 (keepN (newB a b s) k)) := if_neg h8
  rw [e1, e2]
  clear e1 e2 h8
  have hz : (newB a b s).size = s.size + 14 := recB_size _ _
  obtain ⟨R0, hR0⟩ : ∃ R0, newB a b s = R0 := ⟨_, rfl⟩
  rw [hR0] at hz ⊢
  by_cases hneg : k < 0
  · have d3 : decide (k < 0) = true := by simpa using hneg
    have hk : keepN R0 0 = keepN R0 k := by unfold keepN; omega
    have hP := fun W : World => refput_any a b s 0 W ha hb hs8 (R0.extract 0 (keepN R0 k)) (by rw [if_pos (by omega), hR0, hk])
    generalize putD a b (R0.extract 0 (keepN R0 k)) = p at *
    obtain ⟨p1, p2⟩ := p
    have HP := Lib.hid hP
    clear hP hR0 hz
    unfold twoV at *
    go_enter Try.func33, Try.ntmps33
    go_wp2_with fail
    refine (HP.out _).mono ?_
    rintro e w1 ⟨rfl, hb1⟩
    have hM := DkAt.new ⟨#[]⟩ ⟨#[]⟩ (w.alloc (.cells #[.string a, .string b] 54)) 54
    rw [show (w.alloc (.cells #[.string a, .string b] 54)).heap.size = w.heap.size + 1 from by simp] at hM
    obtain ⟨m0, m1, mf0, mf1⟩ := hM.below hb1 (by simp)
    have hb6 := bt (ba (ba (br w) _) _) hb1
    go_wp2
    refine bodyPost_ret (v := .tuple #[.agg #[.string p1, .string p2], .int .i64 0]) (by simp [results, Try.results33, go_sem, m0, m1]) rfl ⟨rfl, ?_⟩
    exact bs (bs hb6 (Nat.le_succ _) _) (Nat.le_succ _) _
  · have d3 : decide (k < 0) = false := by simpa using hneg
    have hP := fun W : World => refput_any a b s k W ha hb hs8 (R0.extract 0 (keepN R0 k)) (by rw [if_pos (by omega), hR0])
    generalize putD a b (R0.extract 0 (keepN R0 k)) = p at *
    obtain ⟨p1, p2⟩ := p
    have HP := Lib.hid hP
    clear hP hR0 hz
    unfold twoV at *
    go_enter Try.func33, Try.ntmps33
    go_wp2_with fail
    refine (HP.out _).mono ?_
    rintro e w1 ⟨rfl, hb1⟩
    have hM := DkAt.new ⟨#[]⟩ ⟨#[]⟩ (w.alloc (.cells #[.string a, .string b] 54)) 54
    rw [show (w.alloc (.cells #[.string a, .string b] 54)).heap.size = w.heap.size + 1 from by simp] at hM
    obtain ⟨m0, m1, mf0, mf1⟩ := hM.below hb1 (by simp)
    have hb6 := bt (ba (ba (br w) _) _) hb1
    go_wp2
    refine bodyPost_ret (v := .tuple #[.agg #[.string p1, .string p2], .int .i64 0]) (by simp [results, Try.results33, go_sem, m0, m1]) rfl ⟨rfl, ?_⟩
    exact bs (bs hb6 (Nat.le_succ _) _) (Nat.le_succ _) _
end Go.Proofs.Ytchonlodehogpaa
