/-
  The walks of the laws FramePrints, FrameSize, FrameBack: each returns true.
  Conditions: none but the arguments' kinds.
-/
import Derived.Test.YtchonlodehogpaaFrameD
import Derived.Test.YtchonlodehogpaaCrcBack
namespace Go.Proofs.Ytchonlodehogpaa
set_option linter.unusedVariables false
open Go.RowKit
set_option maxHeartbeats 2000000 in
theorem law_framePrints (k f t : Int) (b : ByteArray) (w : World) (hb : b.size ≤ 9223372036854775807) :
    Calls Try.prog 8 #[frameV k f t b] w fun e w' => e = .returned (.bool true) ∧ Below w.heap.size w w' := by
  unfold frameV
  by_cases g1 : 40000 < b.size
  · have d1 : decide ((40000 : Int) < (b.size : Int)) = true := by simp; omega
    go_enter Try.func8, Try.ntmps8
    go_wp2_with fail
    refine (awake5_any _).mono ?_
    rintro e w1 ⟨rfl, hb1⟩
    obtain ⟨_, c0, c1, c2, c3, _, _, _, _⟩ := (FrameAt.new w k f t b 37).below hb1 (by simp)
    go_wp2
    go_ret
    exact ⟨rfl, bt (ba (br _) _) hb1⟩
  have d1 : decide ((40000 : Int) < (b.size : Int)) = false := by simp; omega
  clear hb
  have hb : b.size ≤ 40000 := by omega
  go_enter Try.func8, Try.ntmps8
  go_wp2_with fail
  refine (awake5_any _).mono ?_
  rintro e w1 ⟨rfl, hb1⟩
  have hF1 := (FrameAt.new w k f t b 37).below hb1 (by simp)
  obtain ⟨l1, c0, c1, c2, c3, _, _, _, _⟩ := hF1
  go_wp2_with fail
  refine (Print_any _ _ _ _ _ (by omega)).mono ?_
  rintro e w2 ⟨rfl, hb2⟩
  obtain ⟨_, e0, e1, e2, e3, _, _, _, _⟩ := ((FrameAt.new w k f t b 37).below hb1 (by simp)).below hb2 l1
  go_wp2_with fail
  refine (refPrint_any _ _ _ _ _ (by omega)).mono ?_
  rintro e w3 ⟨rfl, hb3⟩
  go_wp2
  go_ret
  exact ⟨by simp, bt (bt (bt (ba (br _) _) hb1) hb2) hb3⟩

theorem printE_code (k f t : Int) (b : ByteArray) : printE k f t b = 0 ∨ printE k f t b = 1 ∨ printE k f t b = 3 ∨ printE k f t b = 10 := by
  unfold printE
  split
  · simp
  · split
    · simp
    · split <;> simp
theorem conv1d (c : UInt8) (W : World) : (convert 30 9 (.slice (some ⟨W.heap.size, 0, none⟩) 1 1)).run Try.prog (W.alloc (.cells #[.int .u8 (c.toNat : Int)] 5)).drew = .ok (.string ⟨#[c]⟩) (W.alloc (.cells #[.int .u8 (c.toNat : Int)] 5)).drew :=
  conv_cells [c] _ W.heap.size 1 1 rfl (by intro j hj; cases j with
    | zero => simp [go_sem]
    | succ j => simp at hj)
set_option maxHeartbeats 4000000 in
theorem law_frameBack (k f t : Int) (b : ByteArray) (at_ mask : Int) (w : World) (hb : b.size ≤ 9223372036854775807) (ha : -9223372036854775808 ≤ at_ ∧ at_ ≤ 9223372036854775807) (hm : 0 ≤ mask ∧ mask ≤ 255) :
    Calls Try.prog 10 #[frameV k f t b, .int .i64 at_, .int .u8 mask] w fun e w' => e = .returned (.bool true) ∧ Below w.heap.size w w' := by
  unfold frameV
  obtain ⟨ha1, ha2⟩ := ha
  obtain ⟨hm1, hm2⟩ := hm
  by_cases g1 : 40000 < b.size
  · have d1 : decide ((40000 : Int) < (b.size : Int)) = true := by simp; omega
    go_enter Try.func10, Try.ntmps10
    go_wp2_with fail
    refine (awake5_any _).mono ?_
    rintro e w1 ⟨rfl, hb1⟩
    obtain ⟨_, c0, c1, c2, c3, _, _, _, _⟩ := (FrameAt.new w k f t b 37).below hb1 (by simp)
    go_wp2
    go_ret
    exact ⟨rfl, bt (ba (br _) _) hb1⟩
  have d1 : decide ((40000 : Int) < (b.size : Int)) = false := by simp; omega
  clear hb
  have hb : b.size ≤ 40000 := by omega
  by_cases hE : printE k f t b = 0
  rotate_left
  · have hS : printS k f t b = ⟨#[]⟩ := by simp [printS, hE]
    have hE1 : (printE k f t b != 0) = true := by rw [bne_iff_ne]; exact hE
    have HE := Lib.hid hE
    clear hE
    go_enter Try.func10, Try.ntmps10
    go_wp2_with fail
    refine (awake5_any _).mono ?_
    rintro e w1 ⟨rfl, hb1⟩
    obtain ⟨_, c0, c1, c2, c3, _, _, _, _⟩ := (FrameAt.new w k f t b 37).below hb1 (by simp)
    go_wp2_with fail
    refine (Print_any _ _ _ _ _ (by omega)).mono ?_
    rintro e w2 ⟨rfl, hb2⟩
    go_wp2
    go_ret
    exact ⟨rfl, bt (bt (ba (br _) _) hb1) hb2⟩
  obtain ⟨hk, hf, ht, hb3⟩ := (may_iff k f t b).1 hE
  have hS : printS k f t b = framed k.toNat f.toNat t.toNat b := by simp [printS, hE]
  have hk2 := hk
  have hf2 := hf
  have ht2 := ht
  simp only [kindB, procB, Bool.and_eq_true, decide_eq_true_iff] at hk2 hf2 ht2
  obtain ⟨kn, rfl⟩ := Int.eq_ofNat_of_zero_le (by omega : 0 ≤ k)
  obtain ⟨fn, rfl⟩ := Int.eq_ofNat_of_zero_le hf2.1
  obtain ⟨tn, rfl⟩ := Int.eq_ofNat_of_zero_le ht2.1
  rw [Int.toNat_natCast, Int.toNat_natCast, Int.toNat_natCast] at hS
  obtain ⟨p0, p1, p2, p3, p4⟩ := parse_framed kn fn tn b hk hf ht hb3
  have q2 : parseN (framed kn fn tn b) 2 = kn := by simp [parseN, p0, p1]
  have q3 : parseN (framed kn fn tn b) 3 = fn := by simp [parseN, p0, p2]
  have q4 : parseN (framed kn fn tn b) 4 = tn := by simp [parseN, p0, p3]
  have q5 : parseB (framed kn fn tn b) = b := by simp [parseB, p0, p4]
  have hz := framed_size kn fn tn b
  have hgood : goodB (framed kn fn tn b) = true := good_sealB _
  have hturn := fun (i : Nat) (m : UInt8) (hi : i < (framed kn fn tn b).size) (hm : m ≠ 0) => turn_bad (framed kn fn tn b) i m hi hm hgood
  generalize framed kn fn tn b = S at hS p0 q2 q3 q4 q5 hz hturn
  have HT := Lib.hid hturn
  clear hturn hk hf ht hk2 hf2 ht2 p1 p2 p3 p4 hgood
  have HP := Lib.hid p0
  have hz2 : S.size ≤ 1000000 := by omega
  by_cases g2 : at_ < 0
  · have d2 : decide (at_ < 0) = true := by simpa using g2
    go_enter Try.func10, Try.ntmps10
    go_wp2_with fail
    refine (awake5_any _).mono ?_
    rintro e w1 ⟨rfl, hb1⟩
    obtain ⟨l1, c0, c1, c2, c3, _, _, _, _⟩ := (FrameAt.new w kn fn tn b 37).below hb1 (by simp)
    go_wp2_with fail
    refine (Print_any _ _ _ _ _ (by omega)).mono ?_
    rintro e w2 ⟨rfl, hb2⟩
    have hF2 := ((FrameAt.new w kn fn tn b 37).below hb1 (by simp)).below hb2 l1
    go_wp2_with fail
    refine (Parse_any _ _ hz2).mono ?_
    rintro e w3 ⟨rfl, hb3⟩
    unfold frameV
    obtain ⟨l3, e0, e1, e2, e3, _, _, _, _⟩ := hF2.below hb3 hF2.lt
    go_wp2
    go_ret
    exact ⟨rfl, ba (bt (bt (bt (ba (br _) _) hb1) hb2) hb3) _⟩
  have d2 : decide (at_ < 0) = false := by simpa using g2
  obtain ⟨i, rfl⟩ := Int.eq_ofNat_of_zero_le (by omega : 0 ≤ at_)
  by_cases g3 : b.size + 11 ≤ i
  · have d3 : decide ((b.size : Int) + 11 ≤ (i : Int)) = true := by simp; omega
    go_enter Try.func10, Try.ntmps10
    go_wp2_with fail
    refine (awake5_any _).mono ?_
    rintro e w1 ⟨rfl, hb1⟩
    obtain ⟨l1, c0, c1, c2, c3, _, _, _, _⟩ := (FrameAt.new w kn fn tn b 37).below hb1 (by simp)
    go_wp2_with fail
    refine (Print_any _ _ _ _ _ (by omega)).mono ?_
    rintro e w2 ⟨rfl, hb2⟩
    have hF2 := ((FrameAt.new w kn fn tn b 37).below hb1 (by simp)).below hb2 l1
    go_wp2_with fail
    refine (Parse_any _ _ hz2).mono ?_
    rintro e w3 ⟨rfl, hb3⟩
    unfold frameV
    obtain ⟨l3, e0, e1, e2, e3, _, _, _, _⟩ := hF2.below hb3 hF2.lt
    go_wp2
    go_ret
    exact ⟨rfl, ba (bt (bt (bt (ba (br _) _) hb1) hb2) hb3) _⟩
  have d3 : decide ((b.size : Int) + 11 ≤ (i : Int)) = false := by simp; omega
  obtain ⟨mn, rfl⟩ := Int.eq_ofNat_of_zero_le hm1
  by_cases g4 : mn = 0
  · subst g4
    go_enter Try.func10, Try.ntmps10
    go_wp2_with fail
    refine (awake5_any _).mono ?_
    rintro e w1 ⟨rfl, hb1⟩
    obtain ⟨l1, c0, c1, c2, c3, _, _, _, _⟩ := (FrameAt.new w kn fn tn b 37).below hb1 (by simp)
    go_wp2_with fail
    refine (Print_any _ _ _ _ _ (by omega)).mono ?_
    rintro e w2 ⟨rfl, hb2⟩
    have hF2 := ((FrameAt.new w kn fn tn b 37).below hb1 (by simp)).below hb2 l1
    go_wp2_with fail
    refine (Parse_any _ _ hz2).mono ?_
    rintro e w3 ⟨rfl, hb3⟩
    unfold frameV
    obtain ⟨l3, e0, e1, e2, e3, _, _, _, _⟩ := hF2.below hb3 hF2.lt
    go_wp2
    go_ret
    exact ⟨rfl, ba (bt (bt (bt (ba (br _) _) hb1) hb2) hb3) _⟩
  have d4 : ((mn : Int) == 0) = false := by rw [beq_eq_false_iff_ne]; omega
  obtain ⟨m, hmm⟩ : ∃ m : UInt8, m.toNat = mn := ⟨UInt8.ofNat mn, by simp; omega⟩
  subst hmm
  have hmne : m ≠ 0 := fun e => g4 (by rw [e]; rfl)
  have hi : i < S.size := by omega
  have h5 : goodB (S.extract 0 i ++ ⟨#[S[i] ^^^ m]⟩ ++ S.extract (i + 1) (b.size + 11)) = false := by
    have := HT.out i m hi hmne
    rw [hz] at this
    exact this
  have hsz : (S.extract 0 i ++ ⟨#[S[i] ^^^ m]⟩ ++ S.extract (i + 1) (b.size + 11)).size = S.size := by
    rw [ByteArray.size_append, ByteArray.size_append, ByteArray.size_extract, ByteArray.size_extract, show (ByteArray.mk #[S[i] ^^^ m]).size = 1 from rfl]
    omega
  have h6 := parse_turned S i HP.out _ hsz h5
  have hx : bits .xor .u8 ((S[i]).toNat : Int) (m.toNat : Int) = ((S[i] ^^^ m).toNat : Int) := by
    rw [u8_xor_nat _ _ (UInt8.toNat_lt _) (UInt8.toNat_lt _), UInt8.toNat_xor]
  have hsz2 : (S.extract 0 i ++ ⟨#[S[i] ^^^ m]⟩ ++ S.extract (i + 1) (b.size + 11)).size ≤ 1000000 := by rw [hsz]; exact hz2
  generalize hbb : S[i] ^^^ m = y at h6 hx hsz2
  clear hbb h5 hsz
  · go_enter Try.func10, Try.ntmps10
    go_wp2_with fail
    refine (awake5_any _).mono ?_
    rintro e w1 ⟨rfl, hb1⟩
    obtain ⟨l1, c0, c1, c2, c3, _, _, _, _⟩ := (FrameAt.new w kn fn tn b 37).below hb1 (by simp)
    go_wp2_with fail
    refine (Print_any _ _ _ _ _ (by omega)).mono ?_
    rintro e w2 ⟨rfl, hb2⟩
    have hF2 := ((FrameAt.new w kn fn tn b 37).below hb1 (by simp)).below hb2 l1
    go_wp2_with fail
    refine (Parse_any _ _ hz2).mono ?_
    rintro e w3 ⟨rfl, hb3⟩
    unfold frameV
    obtain ⟨l3, e0, e1, e2, e3, _, _, _, _⟩ := hF2.below hb3 hF2.lt
    have k0 : (0 : Int) ≤ (i : Int) := by omega
    have k1 : (i : Int) < (b.size : Int) + 11 := by omega
    have k2 : (i : Int) ≤ (b.size : Int) + 11 := by omega
    have k3 : (i : Int) + 1 ≤ (b.size : Int) + 11 := by omega
    have k4 : (0 : Int) ≤ (i : Int) + 1 := by omega
    have k5 : IntKind.i64.wrap ((i : Int) + 1) = (i : Int) + 1 := by rw [IntKind.wrap_i64]; omega
    have k6 : ((i : Int) + 1).toNat = i + 1 := by omega
    have hc := conv1d y (w3.alloc (.cells #[.int .i64 kn, .int .i64 fn, .int .i64 tn, .string b] 37))
    rw [show (w3.alloc (.cells #[.int .i64 kn, .int .i64 fn, .int .i64 tn, .string b] 37)).heap.size = w3.heap.size + 1 by simp] at hc
    go_wp2_with fail
    go_region
    clear hc k5 k6
    go_wp2_with fail
    refine (Parse_any _ _ hsz2).mono ?_
    rintro e w4 ⟨rfl, hb4⟩
    unfold frameV
    go_wp2
    go_ret
    exact ⟨rfl, ba (bt (ba (ba (bt (bt (bt (ba (br _) _) hb1) hb2) hb3) _) _).drew hb4) _⟩
end Go.Proofs.Ytchonlodehogpaa
