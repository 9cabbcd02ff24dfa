/-
  What crc.step, crc.bytes and the reference's half return.
  Conditions: none but the arguments' kinds.
-/
import Derived.Test.YtgpojbmloielmaaProg
import Derived.Test.YtgpojbmloielmaaCrcMath
import Derived.Test.YtgpojbmloielmaaBase
namespace Go.Proofs.Ytgpojbmloielmaa
open Go.RowKit
theorem wlt (a : CrcM.W) : a.toNat < 4294967296 := a.isLt
theorem halfN_snoc (n : Nat) : ∀ c : CrcM.W, CrcM.halfN (n + 1) c = CrcM.half (CrcM.halfN n c) := by
  induction n with
  | zero => intro c; rfl
  | succ n ih => intro c; show CrcM.halfN (n + 1) (CrcM.half c) = _; rw [ih]; rfl
theorem xor_byte (c : CrcM.W) (b : UInt8) : bits .xor .u32 (c.toNat : Int) (b.toNat : Int) = ((c ^^^ b.toBitVec.setWidth 32).toNat : Int) := by
  have hb := b.toNat_lt
  rw [u32_xor_nat _ _ (wlt c) (by omega), BitVec.toNat_xor, BitVec.toNat_setWidth]
  congr 2
  exact (Nat.mod_eq_of_lt (by show b.toNat < _; omega)).symm
theorem half_nat (c : CrcM.W) : (CrcM.half c).toNat = if c.toNat % 2 = 1 then c.toNat / 2 ^^^ 3988292384 else c.toNat / 2 := by
  unfold CrcM.half
  have h0 : c.getLsbD 0 = decide (c.toNat % 2 = 1) := by
    rw [BitVec.getLsbD, Nat.testBit_zero]
  rw [h0, BitVec.toNat_xor, BitVec.toNat_ushiftRight, Nat.shiftRight_eq_div_pow]
  by_cases h : c.toNat % 2 = 1 <;> simp [h]
theorem half_int (c : CrcM.W) : bits .xor .u32 ((c.toNat : Int) / 2) (3988292384 * bits .and .u32 (c.toNat : Int) 1 % 4294967296) = ((CrcM.half c).toNat : Int) := by
  have hc := wlt c
  rw [half_nat, show (1 : Int) = ((1 : Nat) : Int) from rfl, u32_and_nat _ _ hc (by omega), nat_mask1]
  rw [show ((c.toNat : Int) / 2) = ((c.toNat / 2 : Nat) : Int) by omega]
  by_cases h : c.toNat % 2 = 1
  · rw [if_pos h, h, show (3988292384 * ((1 : Nat) : Int) % 4294967296) = ((3988292384 : Nat) : Int) by decide, u32_xor_nat _ _ (by omega) (by omega)]
  · have h' : c.toNat % 2 = 0 := by omega
    rw [if_neg h, h', show (3988292384 * ((0 : Nat) : Int) % 4294967296) = ((0 : Nat) : Int) by decide, u32_xor_nat _ _ (by omega) (by omega), Nat.xor_zero]

set_option maxHeartbeats 400000 in
theorem step_any (c : CrcM.W) (b : UInt8) (w : World) :
    Calls Try.prog 82 #[.int .u32 (c.toNat : Int), .int .u8 (b.toNat : Int)] w fun e w' => e = .returned (.int .u32 ((CrcM.step c b).toNat : Int)) ∧ w = w' := by
  have hb := b.toNat_lt
  have hx := xor_byte c b
  go_enter Try.func82, Try.ntmps82
  go_wp2
  go_loop [0, 10] (fun v i => ∃ k : Nat, k ≤ 8 ∧ i = .int .i64 k ∧ v = .int .u32 ((CrcM.halfN k (c ^^^ b.toBitVec.setWidth 32)).toNat : Int)) (fun _ i => 8 - (intOf i).toNat)
  case atStart => exact ⟨0, by omega, rfl, rfl⟩
  case round =>
    obtain ⟨k, hk, rfl, rfl⟩ := hrel
    by_cases hlt : k < 8
    · go_wp2
      go_round
      case rel => exact ⟨k + 1, by omega, by go_num, by rw [half_int, halfN_snoc]⟩
      case measure => simp [intOf]; omega
    · go_wp2
      go_ret
      exact ⟨ret_int (by have : k = 8 := by omega
                         subst this; rfl), rfl⟩

theorem half_any (c : CrcM.W) (w : World) :
    Calls Try.prog 74 #[.int .u32 (c.toNat : Int)] w fun e w' => e = .returned (.int .u32 ((CrcM.half c).toNat : Int)) ∧ w = w' := by
  have hn := half_nat c
  have hc := wlt c
  by_cases h : c.toNat % 2 = 1
  · have h1 : ((c.toNat : Int) % 2 == 1) = true := by rw [beq_iff_eq]; omega
    rw [if_pos h] at hn
    have H := Lib.hid hn
    clear hn
    go_enter Try.func74, Try.ntmps74
    go_wp2
    go_ret
    refine ⟨ret_int ?_, rfl⟩
    rw [H.out, show ((c.toNat : Int) / 2) = ((c.toNat / 2 : Nat) : Int) by omega, show (3988292384 : Int) = ((3988292384 : Nat) : Int) from rfl, u32_xor_nat _ _ (by omega) (by omega)]
  · have h1 : ((c.toNat : Int) % 2 == 1) = false := by rw [beq_eq_false_iff_ne]; omega
    rw [if_neg h] at hn
    have H := Lib.hid hn
    clear hn
    go_enter Try.func74, Try.ntmps74
    go_wp2
    go_ret
    refine ⟨ret_int ?_, rfl⟩
    rw [H.out]; omega


theorem byte_nat (c : CrcM.W) (j : Nat) : (CrcM.byteAt c j).toNat = c.toNat / 2 ^ (8 * j) % 256 := by
  unfold CrcM.byteAt
  show (c.extractLsb' (8 * j) 8).toNat = _
  rw [BitVec.extractLsb'_toNat, Nat.shiftRight_eq_div_pow]
theorem byte0 (c : CrcM.W) : (c.toNat : Int) % 256 = ((CrcM.byteAt c 0).toNat : Int) := by rw [byte_nat]; simp
theorem byte1 (c : CrcM.W) : (c.toNat : Int) / 256 % 256 = ((CrcM.byteAt c 1).toNat : Int) := by rw [byte_nat]; simp
theorem byte2 (c : CrcM.W) : (c.toNat : Int) / 65536 % 256 = ((CrcM.byteAt c 2).toNat : Int) := by rw [byte_nat]; simp
theorem byte3 (c : CrcM.W) : (c.toNat : Int) / 16777216 = ((CrcM.byteAt c 3).toNat : Int) := by
  have := wlt c
  rw [byte_nat, show 2 ^ (8 * 3) = 16777216 from rfl]
  omega
def bx (c : CrcM.W) (j k : Nat) : Value := .int .u8 (if j < k then ((CrcM.byteAt c j).toNat : Int) else 0)
set_option maxHeartbeats 400000 in
/-- the four bytes of a sum -/
theorem bytes_any (c : CrcM.W) (w : World) :
    Calls Try.prog 75 #[.int .u32 (c.toNat : Int)] w fun e w' => e = .returned (.string ⟨(CrcM.le4 c).toArray⟩) ∧ Below w.heap.size w w' := by
  go_enter Try.func75, Try.ntmps75
  go_wp2
  go_loopw [4, 5] (fun v i wr => ∃ k : Nat, k ≤ 4 ∧ i = .int .i64 k ∧ wr = w.alloc (.cells #[bx c 0 k, bx c 1 k, bx c 2 k, bx c 3 k] 119)) (fun _ i _ => 4 - (intOf i).toNat)
  case atStart => exact ⟨0, by omega, rfl, rfl⟩
  case round =>
    obtain ⟨k, hk, rfl, rfl⟩ := hrel
    obtain h0 | h0 | h0 | h0 | h0 : k = 0 ∨ k = 1 ∨ k = 2 ∨ k = 3 ∨ k = 4 := by omega
    all_goals subst h0
    · go_wp2
      exact ⟨⟨1, by omega, rfl, by rw [byte0]; rfl⟩, by simp [intOf]⟩
    · go_wp2
      exact ⟨⟨2, by omega, rfl, by rw [byte1]; rfl⟩, by simp [intOf]⟩
    · go_wp2
      exact ⟨⟨3, by omega, rfl, by rw [byte2]; rfl⟩, by simp [intOf]⟩
    · go_wp2
      exact ⟨⟨4, by omega, rfl, by rw [byte3]; rfl⟩, by simp [intOf]⟩
    · have hconv := run_convert_bytes_arg (P := Try.prog) (w.alloc (.cells #[bx c 0 4, bx c 1 4, bx c 2 4, bx c 3 4] 119)) 52 5 (by kernel_rfl) (by kernel_rfl) w.heap.size 0 4 4
        [((CrcM.byteAt c 0).toNat : Int), ((CrcM.byteAt c 1).toNat : Int), ((CrcM.byteAt c 2).toNat : Int), ((CrcM.byteAt c 3).toNat : Int)] rfl
        (by intro i hi
            obtain h0 | h0 | h0 | h0 : i = 0 ∨ i = 1 ∨ i = 2 ∨ i = 3 := by omega
            all_goals (subst h0; simp [go_sem, bx])) 9 (by kernel_rfl)
      go_wp2
      go_ret
      refine ⟨?_, (Below.refl _ _).alloc (Nat.le_refl _) _⟩
      simp [strOfNums, CrcM.le4]
end Go.Proofs.Ytgpojbmloielmaa
