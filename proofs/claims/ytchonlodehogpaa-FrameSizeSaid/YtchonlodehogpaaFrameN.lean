/-
  The walk of the law FrameSize: it returns true.
  Conditions: none but the arguments' kinds.
-/
import Derived.Test.YtchonlodehogpaaFrameD
namespace Go.Proofs.Ytchonlodehogpaa
set_option linter.unusedVariables false
open Go.RowKit
theorem byte_get (s : ByteArray) (i : Nat) (h : i < s.size) : (s[i]).toNat = byteN s i := by
  unfold byteN
  have h2 : i < s.data.toList.length := by simpa using h
  rw [List.getD_eq_getElem?_getD, List.getElem?_eq_getElem h2, Option.getD_some]
  rfl
theorem framed_body (k f t : Nat) (b : ByteArray) : (framed k f t b).extract 7 (7 + b.size) = b := by
  apply ba_ext
  have h := framed_list k f t b
  rw [cut_list, framed_size, show b.size + 11 - 4 = 7 + b.size by omega] at h
  rw [extract_list, h, put_two]
  rfl
theorem not_may (k f t : Int) (b : ByteArray) (h : ¬ (kindB k = true ∧ procB f = true ∧ procB t = true ∧ b.size ≤ 32768)) : (printE k f t b != 0) = true ∧ printS k f t b = ⟨#[]⟩ := by
  have hE : printE k f t b ≠ 0 := fun e => h ((may_iff k f t b).1 e)
  exact ⟨by rw [bne_iff_ne]; exact hE, by unfold printS; rw [if_neg hE]⟩
set_option maxRecDepth 100000 in
set_option maxHeartbeats 4000000 in
theorem law_frameSize (k f t : Int) (b : ByteArray) (w : World) (hb : b.size ≤ 9223372036854775807) :
    Calls Try.prog 12 #[frameV k f t b] w fun e w' => e = .returned (.bool true) ∧ Below w.heap.size w w' := by
  unfold frameV
  by_cases g1 : 40000 < b.size
  · have d0 : decide ((40000 : Int) < (b.size : Int)) = true := by simp; omega
    go_enter Try.func12, Try.ntmps12
    go_wp2_with fail
    refine (awake5_any _).mono ?_
    rintro e w1 ⟨rfl, hb1⟩
    obtain ⟨_, c0, c1, c2, c3, _, _, _, _⟩ := (FrameAt.new w k f t b 37).below hb1 (by simp)
    go_wp2
    go_ret
    exact ⟨rfl, bt (ba (br _) _) hb1⟩
  have d0 : decide ((40000 : Int) < (b.size : Int)) = false := by simp; omega
  clear hb
  have hb : b.size ≤ 40000 := by omega
  by_cases q1 : 1 ≤ k
  rotate_left
  · have d1 : decide (1 ≤ k) = false := by simp; omega
    obtain ⟨hE, hS⟩ := not_may k f t b (by simp only [kindB, procB, Bool.and_eq_true, decide_eq_true_iff]; omega)
    clear q1
    go_enter Try.func12, Try.ntmps12
    go_wp2_with fail
    refine (awake5_any _).mono ?_
    rintro e w1 ⟨rfl, hb1⟩
    obtain ⟨l1, c0, c1, c2, c3, _, _, _, _⟩ := (FrameAt.new w k f t b 37).below hb1 (by simp)
    go_wp2_with fail
    refine (Print_any _ _ _ _ _ (by omega)).mono ?_
    rintro e w2 ⟨rfl, hb2⟩
    obtain ⟨_, e0, e1, e2, e3, _, _, _, _⟩ := ((FrameAt.new w k f t b 37).below hb1 (by simp)).below hb2 l1
    go_wp2
    go_ret
    exact ⟨rfl, bt (bt (ba (br _) _) hb1) hb2⟩
  have d1 : decide (1 ≤ k) = true := by simp; omega
  by_cases q2 : k ≤ 11
  rotate_left
  · have d2 : decide (k ≤ 11) = false := by simp; omega
    obtain ⟨hE, hS⟩ := not_may k f t b (by simp only [kindB, procB, Bool.and_eq_true, decide_eq_true_iff]; omega)
    clear q2
    go_enter Try.func12, Try.ntmps12
    go_wp2_with fail
    refine (awake5_any _).mono ?_
    rintro e w1 ⟨rfl, hb1⟩
    obtain ⟨l1, c0, c1, c2, c3, _, _, _, _⟩ := (FrameAt.new w k f t b 37).below hb1 (by simp)
    go_wp2_with fail
    refine (Print_any _ _ _ _ _ (by omega)).mono ?_
    rintro e w2 ⟨rfl, hb2⟩
    obtain ⟨_, e0, e1, e2, e3, _, _, _, _⟩ := ((FrameAt.new w k f t b 37).below hb1 (by simp)).below hb2 l1
    go_wp2
    go_ret
    exact ⟨rfl, bt (bt (ba (br _) _) hb1) hb2⟩
  have d2 : decide (k ≤ 11) = true := by simp; omega
  by_cases q3 : 0 ≤ f
  rotate_left
  · have d3 : decide (0 ≤ f) = false := by simp; omega
    obtain ⟨hE, hS⟩ := not_may k f t b (by simp only [kindB, procB, Bool.and_eq_true, decide_eq_true_iff]; omega)
    clear q3
    go_enter Try.func12, Try.ntmps12
    go_wp2_with fail
    refine (awake5_any _).mono ?_
    rintro e w1 ⟨rfl, hb1⟩
    obtain ⟨l1, c0, c1, c2, c3, _, _, _, _⟩ := (FrameAt.new w k f t b 37).below hb1 (by simp)
    go_wp2_with fail
    refine (Print_any _ _ _ _ _ (by omega)).mono ?_
    rintro e w2 ⟨rfl, hb2⟩
    obtain ⟨_, e0, e1, e2, e3, _, _, _, _⟩ := ((FrameAt.new w k f t b 37).below hb1 (by simp)).below hb2 l1
    go_wp2
    go_ret
    exact ⟨rfl, bt (bt (ba (br _) _) hb1) hb2⟩
  have d3 : decide (0 ≤ f) = true := by simp; omega
  by_cases q4 : f ≤ 63
  rotate_left
  · have d4 : decide (f ≤ 63) = false := by simp; omega
    obtain ⟨hE, hS⟩ := not_may k f t b (by simp only [kindB, procB, Bool.and_eq_true, decide_eq_true_iff]; omega)
    clear q4
    go_enter Try.func12, Try.ntmps12
    go_wp2_with fail
    refine (awake5_any _).mono ?_
    rintro e w1 ⟨rfl, hb1⟩
    obtain ⟨l1, c0, c1, c2, c3, _, _, _, _⟩ := (FrameAt.new w k f t b 37).below hb1 (by simp)
    go_wp2_with fail
    refine (Print_any _ _ _ _ _ (by omega)).mono ?_
    rintro e w2 ⟨rfl, hb2⟩
    obtain ⟨_, e0, e1, e2, e3, _, _, _, _⟩ := ((FrameAt.new w k f t b 37).below hb1 (by simp)).below hb2 l1
    go_wp2
    go_ret
    exact ⟨rfl, bt (bt (ba (br _) _) hb1) hb2⟩
  have d4 : decide (f ≤ 63) = true := by simp; omega
  by_cases q5 : 0 ≤ t
  rotate_left
  · have d5 : decide (0 ≤ t) = false := by simp; omega
    obtain ⟨hE, hS⟩ := not_may k f t b (by simp only [kindB, procB, Bool.and_eq_true, decide_eq_true_iff]; omega)
    clear q5
    go_enter Try.func12, Try.ntmps12
    go_wp2_with fail
    refine (awake5_any _).mono ?_
    rintro e w1 ⟨rfl, hb1⟩
    obtain ⟨l1, c0, c1, c2, c3, _, _, _, _⟩ := (FrameAt.new w k f t b 37).below hb1 (by simp)
    go_wp2_with fail
    refine (Print_any _ _ _ _ _ (by omega)).mono ?_
    rintro e w2 ⟨rfl, hb2⟩
    obtain ⟨_, e0, e1, e2, e3, _, _, _, _⟩ := ((FrameAt.new w k f t b 37).below hb1 (by simp)).below hb2 l1
    go_wp2
    go_ret
    exact ⟨rfl, bt (bt (ba (br _) _) hb1) hb2⟩
  have d5 : decide (0 ≤ t) = true := by simp; omega
  by_cases q6 : t ≤ 63
  rotate_left
  · have d6 : decide (t ≤ 63) = false := by simp; omega
    obtain ⟨hE, hS⟩ := not_may k f t b (by simp only [kindB, procB, Bool.and_eq_true, decide_eq_true_iff]; omega)
    clear q6
    go_enter Try.func12, Try.ntmps12
    go_wp2_with fail
    refine (awake5_any _).mono ?_
    rintro e w1 ⟨rfl, hb1⟩
    obtain ⟨l1, c0, c1, c2, c3, _, _, _, _⟩ := (FrameAt.new w k f t b 37).below hb1 (by simp)
    go_wp2_with fail
    refine (Print_any _ _ _ _ _ (by omega)).mono ?_
    rintro e w2 ⟨rfl, hb2⟩
    obtain ⟨_, e0, e1, e2, e3, _, _, _, _⟩ := ((FrameAt.new w k f t b 37).below hb1 (by simp)).below hb2 l1
    go_wp2
    go_ret
    exact ⟨rfl, bt (bt (ba (br _) _) hb1) hb2⟩
  have d6 : decide (t ≤ 63) = true := by simp; omega
  by_cases q7 : b.size ≤ 32768
  rotate_left
  · have d7 : decide ((b.size : Int) ≤ 32768) = false := by simp; omega
    obtain ⟨hE, hS⟩ := not_may k f t b (by simp only [kindB, procB, Bool.and_eq_true, decide_eq_true_iff]; omega)
    clear q7
    go_enter Try.func12, Try.ntmps12
    go_wp2_with fail
    refine (awake5_any _).mono ?_
    rintro e w1 ⟨rfl, hb1⟩
    obtain ⟨l1, c0, c1, c2, c3, _, _, _, _⟩ := (FrameAt.new w k f t b 37).below hb1 (by simp)
    go_wp2_with fail
    refine (Print_any _ _ _ _ _ (by omega)).mono ?_
    rintro e w2 ⟨rfl, hb2⟩
    obtain ⟨_, e0, e1, e2, e3, _, _, _, _⟩ := ((FrameAt.new w k f t b 37).below hb1 (by simp)).below hb2 l1
    go_wp2
    go_ret
    exact ⟨rfl, bt (bt (ba (br _) _) hb1) hb2⟩
  have d7 : decide ((b.size : Int) ≤ 32768) = true := by simp; omega
  have hk : kindB k = true := by simp [kindB, q1, q2]
  have hf : procB f = true := by simp [procB, q3, q4]
  have ht : procB t = true := by simp [procB, q5, q6]
  have hE := (may_iff k f t b).2 ⟨hk, hf, ht, q7⟩
  have hS : printS k f t b = framed k.toNat f.toNat t.toNat b := by simp [printS, hE]
  obtain ⟨kn, rfl⟩ := Int.eq_ofNat_of_zero_le (by omega : 0 ≤ k)
  obtain ⟨fn, rfl⟩ := Int.eq_ofNat_of_zero_le q3
  obtain ⟨tn, rfl⟩ := Int.eq_ofNat_of_zero_le q5
  rw [Int.toNat_natCast, Int.toNat_natCast, Int.toNat_natCast] at hS
  obtain ⟨p0, p1, p2, p3, p4⟩ := parse_framed kn fn tn b hk hf ht q7
  have hz := framed_size kn fn tn b
  have b2 : ∀ h : 2 < (framed kn fn tn b).size, ((framed kn fn tn b)[2]'h).toNat = kn := fun h => (byte_get _ _ h).trans p1
  have b3 : ∀ h : 3 < (framed kn fn tn b).size, ((framed kn fn tn b)[3]'h).toNat = fn := fun h => (byte_get _ _ h).trans p2
  have b4 : ∀ h : 4 < (framed kn fn tn b).size, ((framed kn fn tn b)[4]'h).toNat = tn := fun h => (byte_get _ _ h).trans p3
  have hx := framed_body kn fn tn b
  generalize framed kn fn tn b = S at *
  have z0 : (0 : Int) ≤ (b.size : Int) := by omega
  have z1 : (2 : Int) < (b.size : Int) + 11 := by omega
  have z2 : (3 : Int) < (b.size : Int) + 11 := by omega
  have z3 : (4 : Int) < (b.size : Int) + 11 := by omega
  have z4 : (7 : Int) ≤ 7 + (b.size : Int) := by omega
  have z5 : (7 : Int) + (b.size : Int) ≤ (b.size : Int) + 11 := by omega
  have z6 : IntKind.i64.wrap (11 + (b.size : Int)) = (b.size : Int) + 11 := by rw [IntKind.wrap_i64]; omega
  have z7 : IntKind.i64.wrap (7 + (b.size : Int)) = 7 + (b.size : Int) := by rw [IntKind.wrap_i64]; omega
  have z8 : (7 + (b.size : Int)).toNat = 7 + b.size := by omega
  have z9 : (0 : Int) ≤ 7 + (b.size : Int) := by omega
  have k8 : kn ≤ 11 := by omega
  have f8 : fn ≤ 63 := by omega
  have t8 : tn ≤ 63 := by omega
  clear p0 p1 p2 p3 p4 hk hf ht q1 q2 q3 q4 q5 q6
  · go_enter Try.func12, Try.ntmps12
    go_wp2_with fail
    refine (awake5_any _).mono ?_
    rintro e w1 ⟨rfl, hb1⟩
    obtain ⟨l1, c0, c1, c2, c3, _, _, _, _⟩ := (FrameAt.new w kn fn tn b 37).below hb1 (by simp)
    go_wp2_with fail
    refine (Print_any _ _ _ _ _ (by omega)).mono ?_
    rintro e w2 ⟨rfl, hb2⟩
    obtain ⟨_, e0, e1, e2, e3, _, _, _, _⟩ := ((FrameAt.new w kn fn tn b 37).below hb1 (by simp)).below hb2 l1
    go_wp2
    go_quiet (fail)
    go_wp2
    go_ret
    exact ⟨rfl, bn (bt (bt (ba (br _) _) hb1) hb2) _⟩
end Go.Proofs.Ytchonlodehogpaa
