/-
  Numbers as bytes, and back.
  Conditions: those that each theorem names; no program is named.
-/
import Derived.Test.YtgpojbmloielmaaNum
namespace Go.Proofs.Ytgpojbmloielmaa
set_option linter.unusedVariables false
open Go.RowKit
theorem valL_snoc (l : List UInt8) (x : UInt8) : valL (l ++ [x]) = valStep (valL l) x := by unfold valL; rw [List.foldl_append]; rfl
theorem pow_le64 {n : Nat} (h : n ≤ 8) : 256 ^ n ≤ 18446744073709551616 := by
  have := Nat.pow_le_pow_right (n := 256) (by omega) h
  simpa using this
theorem valL_small : ∀ (n : Nat) (l : List UInt8), l.length = n → n ≤ 8 → valL l < 256 ^ n
  | 0, l, h, _ => by rw [List.length_eq_zero_iff.1 h]; decide
  | n + 1, l, h, h8 => by
    rcases List.eq_nil_or_concat l with e | ⟨l', x, e⟩
    · subst e; simp at h
    · subst e
      rw [List.concat_eq_append] at h ⊢
      have hl : l'.length = n := by simpa using h
      have ih := valL_small n l' hl (by omega)
      have hp := pow_le64 h8
      have hx := x.toNat_lt
      rw [valL_snoc]
      unfold valStep
      rw [Nat.pow_succ] at hp ⊢
      rw [Nat.mod_eq_of_lt (by omega)]
      omega
theorem valL_put : ∀ (n v : Nat), n ≤ 8 → valL (putL v n) = v % 256 ^ n
  | 0, v, _ => by simp [putL, valL, Nat.mod_one]
  | n + 1, v, h8 => by
    have ih := valL_put n (v / 256) (by omega)
    have hp := pow_le64 h8
    show valL (putL (v / 256) n ++ [UInt8.ofNat (v % 256)]) = _
    rw [valL_snoc, ih]
    unfold valStep
    have hx : (UInt8.ofNat (v % 256)).toNat = v % 256 := by simp
    rw [hx, Nat.pow_succ]
    have h1 : v / 256 % 256 ^ n < 256 ^ n := Nat.mod_lt _ (Nat.pow_pos (by omega))
    rw [Nat.pow_succ] at hp
    have h2 : v / 256 % 256 ^ n * 256 + v % 256 < 18446744073709551616 := by omega
    rw [Nat.mod_eq_of_lt h2, Nat.mul_comm (256 ^ n) 256, Nat.mod_mul]
    omega
theorem put_valL : ∀ (n : Nat) (l : List UInt8), l.length = n → n ≤ 8 → putL (valL l) n = l
  | 0, l, h, _ => by rw [List.length_eq_zero_iff.1 h]; rfl
  | n + 1, l, h, h8 => by
    rcases List.eq_nil_or_concat l with e | ⟨l', x, e⟩
    · subst e; simp at h
    · subst e
      rw [List.concat_eq_append] at h ⊢
      have hl : l'.length = n := by simpa using h
      have ih := put_valL n l' hl (by omega)
      have hs := valL_small n l' hl (by omega)
      have hp := pow_le64 h8
      have hx := x.toNat_lt
      rw [valL_snoc]
      rw [Nat.pow_succ] at hp
      have hv : valStep (valL l') x = valL l' * 256 + x.toNat := by unfold valStep; exact Nat.mod_eq_of_lt (by omega)
      rw [hv]
      show putL ((valL l' * 256 + x.toNat) / 256) n ++ [UInt8.ofNat ((valL l' * 256 + x.toNat) % 256)] = _
      rw [show (valL l' * 256 + x.toNat) / 256 = valL l' by omega, show (valL l' * 256 + x.toNat) % 256 = x.toNat by omega, ih]
      simp
end Go.Proofs.Ytgpojbmloielmaa
