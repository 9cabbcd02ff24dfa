/-
  The walk of the law CrcBack: it returns true.
  Conditions: none but the arguments' kinds.
-/
import Derived.Test.YtchonlodehogpaaCrcC
namespace Go.Proofs.Ytchonlodehogpaa
open Go.RowKit
theorem turn_list (t : ByteArray) (k : Nat) (m : UInt8) (hk : k < t.size) : (t.extract 0 k ++ ⟨#[t[k] ^^^ m]⟩ ++ t.extract (k + 1) t.size).data.toList = CrcM.turn t.data.toList k m := by
  unfold CrcM.turn
  rw [ByteArray.data_append, ByteArray.data_append, ByteArray.data_extract, ByteArray.data_extract]
  have h2 : k < t.data.size := hk
  have e : t[k] = t.data.toList.getD k 0 := by
    rw [List.getD_eq_getElem?_getD, List.getElem?_eq_getElem (by simpa using h2)]
    rfl
  rw [e]
  have e2 : (t.data.toList.drop (k + 1)).take (t.size - (k + 1)) = t.data.toList.drop (k + 1) := List.take_of_length_le (by rw [List.length_drop]; exact Nat.le_refl _)
  simp at e2 ⊢
  rw [e2]
theorem turn_bad (t : ByteArray) (k : Nat) (m : UInt8) (hk : k < t.size) (hm : m ≠ 0) (hg : goodB t = true) : goodB (t.extract 0 k ++ ⟨#[t[k] ^^^ m]⟩ ++ t.extract (k + 1) t.size) = false := by
  unfold goodB at *
  rw [turn_list _ _ _ hk]
  exact CrcM.turn_bad _ _ _ (by simpa using hk) hm hg
theorem conv1 (b : UInt8) (W : World) : (convert 30 9 (.slice (some ⟨W.heap.size, 0, none⟩) 1 1)).run Try.prog (W.alloc (.cells #[.int .u8 (b.toNat : Int)] 5)).drew = .ok (.string ⟨#[b]⟩) (W.alloc (.cells #[.int .u8 (b.toNat : Int)] 5)).drew := by
  have hconv := run_convert_bytes_arg (P := Try.prog) (W.alloc (.cells #[.int .u8 (b.toNat : Int)] 5)).drew 30 5 (by kernel_rfl) (by kernel_rfl) W.heap.size 0 1 1
        [(b.toNat : Int)] rfl
        (by intro i hi
            obtain rfl : i = 0 := by omega
            simp [go_sem]) 9 (by kernel_rfl)
  rw [hconv]
  simp [strOfNums]
set_option maxHeartbeats 2000000 in
theorem law_back (s : ByteArray) (at_ mask : Int) (w : World) (hs : s.size ≤ 9223372036854775807) (ha : -9223372036854775808 ≤ at_ ∧ at_ ≤ 9223372036854775807) (hm : 0 ≤ mask ∧ mask ≤ 255) :
    Calls Try.prog 4 #[.string s, .int .i64 at_, .int .u8 mask] w fun e w' => e = .returned (.bool true) ∧ Below w.heap.size w w' := by
  obtain ⟨ha1, ha2⟩ := ha
  obtain ⟨hm1, hm2⟩ := hm
  by_cases g1 : 5000 < s.size
  · have d1 : decide ((5000 : Int) < (s.size : Int)) = true := by simp; omega
    go_enter Try.func4, Try.ntmps4
    go_wp2_with (go_at_call 17; refine (awake_any _).mono ?_; rintro e w1 ⟨rfl, hb1⟩)
    go_ret
    exact ⟨rfl, hb1⟩
  have d1 : decide ((5000 : Int) < (s.size : Int)) = false := by simp; omega
  clear hs
  have hs : s.size ≤ 5000 := by omega
  clear g1
  have h1 := good_sealB s
  have h2 := open_sealB s
  have h3 := sealB_size s
  have h4 : (sealB s).size ≤ 1000000000 := by omega
  by_cases g2 : at_ < 0
  · have d2 : decide (at_ < 0) = true := by simpa using g2
    go_enter Try.func4, Try.ntmps4
    go_wp2_with fail
    refine (awake_any _).mono ?_
    rintro e w1 ⟨rfl, hb1⟩
    go_wp2_with fail
    refine (Seal_any _ _ (by omega)).mono ?_
    rintro e w2 ⟨rfl, hb2⟩
    go_wp2_with fail
    refine (Open_any _ _ (by omega)).mono ?_
    rintro e w3 ⟨rfl, hb3⟩
    go_wp2_with fail
    go_ret
    exact ⟨rfl, bt (bt hb1 hb2) hb3⟩
  have d2 : decide (at_ < 0) = false := by simpa using g2
  obtain ⟨k, rfl⟩ := Int.eq_ofNat_of_zero_le (by omega : 0 ≤ at_)
  by_cases g3 : s.size + 4 ≤ k
  · have d3 : decide ((s.size : Int) + 4 ≤ (k : Int)) = true := by simp; omega
    go_enter Try.func4, Try.ntmps4
    go_wp2_with fail
    refine (awake_any _).mono ?_
    rintro e w1 ⟨rfl, hb1⟩
    go_wp2_with fail
    refine (Seal_any _ _ (by omega)).mono ?_
    rintro e w2 ⟨rfl, hb2⟩
    go_wp2_with fail
    refine (Open_any _ _ (by omega)).mono ?_
    rintro e w3 ⟨rfl, hb3⟩
    go_wp2_with fail
    go_ret
    exact ⟨rfl, bt (bt hb1 hb2) hb3⟩
  have d3 : decide ((s.size : Int) + 4 ≤ (k : Int)) = false := by simp; omega
  obtain ⟨mn, rfl⟩ := Int.eq_ofNat_of_zero_le hm1
  by_cases g4 : mn = 0
  · subst g4
    go_enter Try.func4, Try.ntmps4
    go_wp2_with fail
    refine (awake_any _).mono ?_
    rintro e w1 ⟨rfl, hb1⟩
    go_wp2_with fail
    refine (Seal_any _ _ (by omega)).mono ?_
    rintro e w2 ⟨rfl, hb2⟩
    go_wp2_with fail
    refine (Open_any _ _ (by omega)).mono ?_
    rintro e w3 ⟨rfl, hb3⟩
    go_wp2_with fail
    go_ret
    exact ⟨rfl, bt (bt hb1 hb2) hb3⟩
  have d4 : ((mn : Int) == 0) = false := by rw [beq_eq_false_iff_ne]; omega
  obtain ⟨m, hmm⟩ : ∃ m : UInt8, m.toNat = mn := ⟨UInt8.ofNat mn, by simp; omega⟩
  subst hmm
  have hmne : m ≠ 0 := fun e => g4 (by rw [e]; rfl)
  have hk : k < (sealB s).size := by omega
  have h5 : goodB ((sealB s).extract 0 k ++ ⟨#[(sealB s)[k] ^^^ m]⟩ ++ (sealB s).extract (k + 1) (s.size + 4)) = false := by
    have := turn_bad (sealB s) k m hk hmne h1
    rw [h3] at this
    exact this
  have h6 : openS ((sealB s).extract 0 k ++ ⟨#[(sealB s)[k] ^^^ m]⟩ ++ (sealB s).extract (k + 1) (s.size + 4)) = ⟨#[]⟩ := by unfold openS; rw [h5]; rfl
  have hx : bits .xor .u8 (((sealB s)[k]).toNat : Int) (m.toNat : Int) = (((sealB s)[k] ^^^ m).toNat : Int) := by
    rw [u8_xor_nat _ _ (UInt8.toNat_lt _) (UInt8.toNat_lt _), UInt8.toNat_xor]
  have hz : ((sealB s).extract 0 k ++ ⟨#[(sealB s)[k] ^^^ m]⟩ ++ (sealB s).extract (k + 1) (s.size + 4)).size ≤ 1000000000 := by
    rw [ByteArray.size_append, ByteArray.size_append, ByteArray.size_extract, ByteArray.size_extract, show (ByteArray.mk #[(sealB s)[k] ^^^ m]).size = 1 from rfl]
    omega
  generalize hbb : (sealB s)[k] ^^^ m = b at h5 h6 hx hz
  clear hbb
  go_enter Try.func4, Try.ntmps4
  go_wp2_with fail
  refine (awake_any _).mono ?_
  rintro e w1 ⟨rfl, hb1⟩
  go_wp2_with fail
  refine (Seal_any _ _ (by omega)).mono ?_
  rintro e w2 ⟨rfl, hb2⟩
  go_wp2_with fail
  refine (Open_any _ _ (by omega)).mono ?_
  rintro e w3 ⟨rfl, hb3⟩
  go_wp2_with fail
  have hc := conv1
  have k0 : (0 : Int) ≤ (k : Int) := by omega
  have k1 : (k : Int) < (s.size : Int) + 4 := by omega
  have k2 : (k : Int) ≤ (s.size : Int) + 4 := by omega
  have k3 : (k : Int) + 1 ≤ (s.size : Int) + 4 := by omega
  have k4 : (0 : Int) ≤ (k : Int) + 1 := by omega
  have k5 : IntKind.i64.wrap ((k : Int) + 1) = (k : Int) + 1 := by rw [IntKind.wrap_i64]; omega
  have k6 : ((k : Int) + 1).toNat = k + 1 := by omega
  go_region
  go_wp2_with fail
  refine (Open_any _ _ hz).mono ?_
  rintro e w4 ⟨rfl, hb4⟩
  go_wp2
  go_ret
  exact ⟨rfl, bt ((ba (bt (bt hb1 hb2) hb3) _).drew) hb4⟩
end Go.Proofs.Ytchonlodehogpaa
