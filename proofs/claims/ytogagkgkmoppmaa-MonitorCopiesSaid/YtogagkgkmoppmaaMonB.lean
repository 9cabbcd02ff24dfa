/-
  Sets of processes: what bit, Has, But, In return; two rows of numbers.
  Conditions: those that each theorem names.
-/
import Derived.Test.YtogagkgkmoppmaaMonA
namespace Go.Proofs.Ytogagkgkmoppmaa
set_option linter.unusedVariables false
set_option linter.unusedSimpArgs false
open Go.RowKit
/-- the set of one process -/
def bitN (p : Int) : Nat := if 0 ≤ p ∧ p < 64 then 2 ^ p.toNat else 0
theorem setBit_any (p : Int) (w : World) : Calls Try.prog 49 #[.int .i64 p] w fun e w' => e = .returned (.int .u64 (bitN p : Int)) ∧ w = w' := by
  unfold bitN
  by_cases h1 : p < 0
  · have d1 : decide (p < 0) = true := by simpa using h1
    rw [if_neg (by omega)]
    go_enter Try.func49, Try.ntmps49
    go_wp2
    go_ret
    exact ⟨rfl, rfl⟩
  · by_cases h2 : p < 64
    · have d1 : decide (p < 0) = false := by simpa using h1
      have d2 : decide (64 ≤ p) = false := by simpa using h2
      rw [if_pos (by omega)]
      obtain ⟨n, rfl⟩ : ∃ n : Nat, p = (n : Int) := ⟨p.toNat, by omega⟩
      have hn : n < 64 := by omega
      have hp : 2 ^ n ≤ 2 ^ 63 := Nat.pow_le_pow_right (by omega) (by omega)
      have hw : IntKind.u64.wrap (2 ^ n) = ((2 ^ n : Nat) : Int) := by
        rw [IntKind.wrap_u64]
        have e1 : ((2 : Int) ^ n) = ((2 ^ n : Nat) : Int) := by simp
        rw [e1]
        generalize 2 ^ n = m at *
        omega
      show Calls Try.prog 49 #[.int .i64 (n : Int)] w fun e w' => e = .returned (.int .u64 ((2 ^ n : Nat) : Int)) ∧ w = w'
      generalize hm : ((2 ^ n : Nat) : Int) = m at hw ⊢
      clear hp hm
      go_enter Try.func49, Try.ntmps49
      go_wp2
      go_ret
      exact ⟨rfl, rfl⟩
    · have d1 : decide (p < 0) = false := by simpa using h1
      have d2 : decide (64 ≤ p) = true := by simp; omega
      rw [if_neg (by omega)]
      go_enter Try.func49, Try.ntmps49
      go_wp2
      go_ret
      exact ⟨rfl, rfl⟩
/-- does a set have a process? is it within another one? -/
def hasB (s : Nat) (p : Int) : Bool := bits .and .u64 (s : Int) (bitN p : Int) != 0
def inB (s t : Nat) : Bool := bits .andNot .u64 (s : Int) (t : Int) == 0
theorem setHas_any (s : Nat) (p : Int) (w : World) : Calls Try.prog 30 #[.int .u64 (s : Int), .int .i64 p] w fun e w' => e = .returned (.bool (hasB s p)) ∧ w = w' := by
  go_enter Try.func30, Try.ntmps30
  go_wp2_with fail
  refine (setBit_any p w).mono ?_
  rintro e w' ⟨rfl, rfl⟩
  go_wp2_with fail
  go_ret
  exact ⟨rfl, rfl⟩
theorem setIn_any (s t : Nat) (w : World) : Calls Try.prog 32 #[.int .u64 (s : Int), .int .u64 (t : Int)] w fun e w' => e = .returned (.bool (inB s t)) ∧ w = w' := by
  go_enter Try.func32, Try.ntmps32
  go_wp2
  go_ret
  exact ⟨rfl, rfl⟩
/-- a row of numbers that can be read -/
def RdU (w : World) (ad : Option Addr) (ds : List Nat) : Prop := ∀ i (h : i < ds.length), ∃ B O, ad = some ⟨B, O, none⟩ ∧ B < w.heap.size ∧ w.cell? ⟨B, O + i, none⟩ = some (.int .u32 (ds[i] : Int))
theorem RdU.below {w w' : World} {ad : Option Addr} {ds : List Nat} (h : RdU w ad ds) (hb : Below w.heap.size w w') : RdU w' ad ds := fun i hi => by
  obtain ⟨B, O, e, hB, hc⟩ := h i hi
  exact ⟨B, O, e, Nat.lt_of_lt_of_le hB hb.size, (hb.cell (p := ⟨B, O + i, none⟩) hB).trans hc⟩
set_option maxHeartbeats 4000000 in
theorem eqU_any (aa bb : Option Addr) (ac bc : Nat) (xs ys : List Nat) (w : World) (hx : RdU w aa xs) (hy : RdU w bb ys) (hxl : xs.length ≤ 9223372036854775807) (hyl : ys.length ≤ 9223372036854775807) :
    Calls Try.prog 54 #[.slice aa xs.length ac, .slice bb ys.length bc] w fun e w' => e = .returned (.bool (decide (xs = ys))) ∧ Below w.heap.size w w' := by
  obtain ⟨R, hR⟩ : ∃ R, R = decide (xs = ys) := ⟨_, rfl⟩
  rw [← hR]
  have HA := Lib.hid hx
  have HB := Lib.hid hy
  have HR := Lib.hid hR
  clear hx hy hR
  by_cases e4 : xs.length = ys.length
  · have d4 : ((xs.length : Int) == (ys.length : Int)) = true := by simp; omega
    have d4' : ((xs.length : Int) != (ys.length : Int)) = false := by simp; omega
    have f4 : xs.length ≤ ys.length := by omega
    have f4' : ys.length ≤ xs.length := by omega
    clear e4
    go_enter Try.func54, Try.ntmps54
    go_wp2
    go_loopw [13] (fun i wr => ∃ k : Nat, k ≤ xs.length ∧ i = .int .i64 (k : Int) ∧ Hid (xs.take k = ys.take k) ∧ Below w.heap.size w wr) (fun i _ => xs.length - (intOf i).toNat)
    case atStart => exact ⟨0, by omega, rfl, rfl, br _⟩
    case round =>
      obtain ⟨k, hk, rfl, HT, hbr⟩ := hrel
      have HBW := Lib.hid hbr
      by_cases hlt : k < xs.length
      · have hd : decide ((k : Int) < (xs.length : Int)) = true := by simpa using hlt
        have hlt2 : k < ys.length := by omega
        have hi1 : (k : Int) < (xs.length : Int) := by omega
        have hi2 : (k : Int) < (ys.length : Int) := by omega
        obtain ⟨B, O, rfl, hB, hc⟩ := HA.out k hlt
        obtain ⟨B', O', rfl, hB', hc'⟩ := HB.out k hlt2
        have y0 := (hbr.cell (p := ⟨B, O + k, none⟩) hB).trans hc
        have y1 := (hbr.cell (p := ⟨B', O' + k, none⟩) hB').trans hc'
        have ht := Lib.hid (And.intro (List.take_succ_eq_append_getElem hlt) (List.take_succ_eq_append_getElem hlt2))
        clear hc hc' hbr
        by_cases he : xs[k] = ys[k]
        · have g1 : ((xs[k] : Int) == (ys[k] : Int)) = true := by simp; omega
          have g2 : ((xs[k] : Int) != (ys[k] : Int)) = false := by simp; omega
          have HE := Lib.hid he
          clear he
          go_wp2
          go_quiet (fail)
          go_wp2
          exact ⟨⟨k + 1, by omega, by go_num, (show xs.take (k + 1) = ys.take (k + 1) from by rw [ht.out.1, ht.out.2, HT.out, HE.out]), bn HBW.out _⟩, by simp [intOf]; omega⟩
        · have g1 : ((xs[k] : Int) == (ys[k] : Int)) = false := by simp; omega
          have g2 : ((xs[k] : Int) != (ys[k] : Int)) = true := by simp; omega
          have hRf : R = false := by
            rw [HR.out]
            refine decide_eq_false fun h => he ?_
            subst h
            rfl
          subst hRf
          clear he
          go_wp2
          go_quiet (fail)
          go_wp2
          go_ret
          exact ⟨rfl, bn HBW.out _⟩
      · have hd : decide ((k : Int) < (xs.length : Int)) = false := by simpa using hlt
        have hRt : R = true := by
          have hds := HT.out
          rw [List.take_of_length_le (by omega), List.take_of_length_le (by omega)] at hds
          rw [HR.out]
          simp [hds]
        subst hRt
        go_wp2
        go_ret
        exact ⟨rfl, HBW.out⟩
  · have d4 : ((xs.length : Int) == (ys.length : Int)) = false := by simp; omega
    have d4' : ((xs.length : Int) != (ys.length : Int)) = true := by simp; omega
    have hRf : R = false := by rw [HR.out]; exact decide_eq_false fun h => e4 (by rw [h])
    subst hRf
    go_enter Try.func54, Try.ntmps54
    go_wp2
    go_ret
    exact ⟨rfl, br _⟩
end Go.Proofs.Ytogagkgkmoppmaa
