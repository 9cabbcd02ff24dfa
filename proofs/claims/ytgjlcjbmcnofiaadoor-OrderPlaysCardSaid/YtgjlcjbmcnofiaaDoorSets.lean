/-
  Sets of processes: plain; package set; TrailingZeros64 at its table.
  Conditions: those that each theorem names.
-/
import Derived.Lib.TrailingZeros
import Derived.Laws.BitsAllLaws
import Derived.Laws.Bits64b
import Derived.Test.YtgjlcjbmcnofiaaDoorRowM
import Derived.Test.YtgjlcjbmcnofiaaDoorMaskM
import Derived.Shelf.Spec.TrailingZeros
namespace Go.Proofs.YtgjlcjbmcnofiaaDoor
set_option linter.unusedVariables false
/-- the set of one process -/
def oneS (p : Int) : Nat := if 0 ≤ p ∧ p < 64 then 2 ^ p.toNat else 0
/-- has a set a process? -/
def hasS (s : Nat) (p : Int) : Bool := decide (0 ≤ p ∧ p < 64) && s.testBit p.toNat
/-- all of a set, rising -/
def listS (s : Nat) : List Nat := (List.range 64).filter fun p => s.testBit p
theorem oneS_lt (p : Int) : oneS p < 18446744073709551616 := by
  unfold oneS
  split
  · next h => exact Nat.lt_of_le_of_lt (Nat.pow_le_pow_right (n := 2) (by decide) (show p.toNat ≤ 63 by omega)) (by decide)
  · decide
theorem and_one (s : Nat) (p : Int) : (s &&& oneS p ≠ 0) ↔ hasS s p = true := by
  unfold oneS hasS
  split
  · next h =>
    simp only [h, and_self, decide_true, Bool.true_and]
    cases hb : s.testBit p.toNat with
    | false =>
      have : s &&& 2 ^ p.toNat = 0 := by
        apply Nat.eq_of_testBit_eq
        intro j
        rw [Nat.testBit_and, Nat.testBit_two_pow]
        by_cases hj : p.toNat = j
        · subst hj; simp [hb]
        · simp [hj]
      simp [this]
    | true =>
      have : s &&& 2 ^ p.toNat ≠ 0 := fun e => by
        have h1 : (s &&& 2 ^ p.toNat).testBit p.toNat = true := by rw [Nat.testBit_and, hb, Nat.testBit_two_pow]; simp
        rw [e] at h1
        simp at h1
      simp [this]
  · next h => simp [h]
theorem mem_listS {s p : Nat} : p ∈ listS s ↔ p < 64 ∧ s.testBit p = true := by simp [listS]
theorem mem_hasS {s p : Nat} : p ∈ listS s ↔ hasS s (p : Int) = true := by
  rw [mem_listS]
  unfold hasS
  simp
  omega
theorem listS_len (s : Nat) : (listS s).length ≤ 64 := by
  have := List.length_filter_le (fun p => s.testBit p) (List.range 64)
  simpa [listS] using this
theorem listS_rises (s : Nat) : (listS s).Pairwise (· < ·) := List.Pairwise.filter _ List.pairwise_lt_range
/-- the lowest one, and the rest -/
theorem bits_low {x k m : Nat} (hx : x = 2 ^ k * (2 * m + 1)) (j : Nat) : x.testBit j = if j < k + 1 then decide (k = j) else m.testBit (j - (k + 1)) := by
  have e : x = 2 ^ (k + 1) * m + 2 ^ k := by rw [hx, Nat.pow_succ, Nat.mul_add, Nat.mul_one, Nat.mul_assoc]
  rw [e, Nat.testBit_two_pow_mul_add m (Nat.pow_lt_pow_right (by decide) (by omega)), Nat.testBit_two_pow]
theorem bits_less {x k m : Nat} (hx : x = 2 ^ k * (2 * m + 1)) (j : Nat) : (x - 1).testBit j = if j < k + 1 then decide (j < k) else m.testBit (j - (k + 1)) := by
  have h0 : 0 < 2 ^ k := Nat.pow_pos (by decide)
  have e : x - 1 = 2 ^ (k + 1) * m + (2 ^ k - 1) := by
    have : x = 2 ^ (k + 1) * m + 2 ^ k := by rw [hx, Nat.pow_succ, Nat.mul_add, Nat.mul_one, Nat.mul_assoc]
    omega
  have h1 : 2 ^ k < 2 ^ (k + 1) := Nat.pow_lt_pow_right (by decide) (by omega)
  rw [e, Nat.testBit_two_pow_mul_add m (by omega), Nat.testBit_two_pow_sub_one]
theorem filter_first {P Q : Nat → Bool} {n k : Nat} (hk : k < n) (h1 : P k = true) (h2 : ∀ j, j < k → P j = false) (h3 : ∀ j, Q j = (P j && decide (j ≠ k))) : (List.range n).filter P = k :: (List.range n).filter Q := by
  obtain ⟨d, rfl⟩ : ∃ d, n = k + (d + 1) := ⟨n - k - 1, by omega⟩
  have e1 : (List.range k).filter P = [] := List.filter_eq_nil_iff.2 fun j hj => by rw [h2 j (List.mem_range.1 hj)]; simp
  have e2 : (List.range k).filter Q = [] := List.filter_eq_nil_iff.2 fun j hj => by rw [h3, h2 j (List.mem_range.1 hj)]; simp
  have e3 : Q k = false := by rw [h3]; simp
  rw [List.range_add, List.filter_append, List.filter_append, e1, e2, List.nil_append, List.nil_append, List.range_succ_eq_map, List.map_cons, Nat.add_zero, List.filter_cons_of_pos h1, List.filter_cons_of_neg (by rw [e3]; simp)]
  congr 1
  refine List.filter_congr fun j hj => ?_
  obtain ⟨i, hi, rfl⟩ := List.mem_map.1 hj
  obtain ⟨q, hq, rfl⟩ := List.mem_map.1 hi
  rw [h3, decide_eq_true (by omega : k + (q + 1) ≠ k), Bool.and_true]
theorem listS_step {x : Nat} (h0 : x ≠ 0) (hx : x < 18446744073709551616) : listS x = Lib.ctz 64 x :: listS (x &&& (x - 1)) ∧ Lib.ctz 64 x < 64 := by
  obtain ⟨m, hm, hk⟩ := Lib.ctzFrom_spec 64 x (by omega) hx
  have e : Lib.ctz 64 x = Lib.ctzFrom 64 x := by simp [Lib.ctz, h0]
  rw [e]
  refine ⟨?_, hk⟩
  generalize Lib.ctzFrom 64 x = k at *
  unfold listS
  refine filter_first hk ?_ ?_ ?_
  · rw [bits_low hm, if_pos (by omega)]; simp
  · intro j hj
    rw [bits_low hm, if_pos (by omega)]
    simp; omega
  · intro j
    rw [Nat.testBit_and, bits_less hm, bits_low hm]
    by_cases hj : j < k + 1
    · rw [if_pos hj, if_pos hj]
      by_cases hjk : k = j
      · subst hjk; simp
      · simp [hjk]
    · rw [if_neg hj, if_neg hj, decide_eq_true (by omega : j ≠ k)]
      simp
theorem listS_zero : listS 0 = [] := by simp [listS]
theorem and_lt {x y : Nat} (hx : x < 18446744073709551616) : x &&& y < 18446744073709551616 := Nat.lt_of_le_of_lt Nat.and_le_left hx
/-- one process more; without one -/
def withS (s : Nat) (p : Int) : Nat := s ||| oneS p
def butS (s t : Nat) : Nat := s &&& (18446744073709551615 - t)
theorem withS_lt {s : Nat} (h : s < 18446744073709551616) (p : Int) : withS s p < 18446744073709551616 := Nat.or_lt_two_pow (n := 64) h (oneS_lt p)
theorem butS_lt {s : Nat} (h : s < 18446744073709551616) (t : Nat) : butS s t < 18446744073709551616 := and_lt h
theorem hasS_with (s : Nat) (p q : Int) : hasS (withS s p) q = (hasS s q || (decide (q = p) && decide (0 ≤ p ∧ p < 64))) := by
  unfold hasS withS oneS
  by_cases hq : 0 ≤ q ∧ q < 64
  · simp only [hq, and_self, decide_true, Bool.true_and, Nat.testBit_or]
    congr 1
    by_cases hp : 0 ≤ p ∧ p < 64
    · rw [if_pos hp, Nat.testBit_two_pow]
      simp only [hp, and_self, decide_true, Bool.and_true]
      rw [Bool.eq_iff_iff]
      simp
      omega
    · rw [if_neg hp]
      simp [hp]
  · rw [decide_eq_false hq, Bool.false_and, Bool.false_and, Bool.false_or]
    by_cases hp : 0 ≤ p ∧ p < 64
    · have : q ≠ p := fun e => hq (e ▸ hp)
      simp [this]
    · simp [hp]
theorem hasS_less (s : Nat) (p q : Int) : hasS (butS s (oneS p)) q = (hasS s q && decide (q ≠ p)) := by
  unfold hasS butS
  by_cases hq : 0 ≤ q ∧ q < 64
  · simp only [hq, and_self, decide_true, Bool.true_and, Nat.testBit_and]
    congr 1
    have h := oneS_lt p
    rw [show 18446744073709551615 - oneS p = 2 ^ 64 - (oneS p + 1) by omega, Nat.testBit_two_pow_sub_succ (by omega)]
    have : q.toNat < 64 := by omega
    unfold oneS
    by_cases hp : 0 ≤ p ∧ p < 64
    · rw [if_pos hp, Nat.testBit_two_pow, Bool.eq_iff_iff]
      simp [this]
      omega
    · rw [if_neg hp, Bool.eq_iff_iff]
      simp [this]
      exact fun e => hp (e ▸ hq)
  · rw [decide_eq_false hq, Bool.false_and, Bool.false_and, Bool.false_and]
end Go.Proofs.YtgjlcjbmcnofiaaDoor
namespace Go.Proofs.YtgjlcjbmcnofiaaDoor
set_option linter.unusedVariables false
set_option linter.unusedSimpArgs false
open Go.RowKit
/-- the table of math/bits, as its initialiser lays it -/
def Tab (w : World) : Prop := TabAt 0 Lib.deBruijn64tab w
theorem Tab.below {w w' : World} {B : Nat} (h : Tab w) (hb : Below B w w') (hB : 0 < B) : Tab w' := fun j hj => (hb.cell (p := ⟨_, j, none⟩) hB).trans (h j hj)
theorem cell_lt {w : World} {p : Addr} {v : Value} (h : w.cell? p = some v) : p.block < w.heap.size := by
  rcases Nat.lt_or_ge p.block w.heap.size with h' | h'
  · exact h'
  · unfold World.cell? at h
    rw [Array.getElem?_eq_none h'] at h
    cases h
theorem Tab.lt {w : World} (h : Tab w) : 0 < w.heap.size := cell_lt (h 0 (by decide))
theorem Tab.kept {w w' : World} {S : Nat → Prop} (h : Tab w) (hk : Kept S w w') (hs : ¬ S 0) : Tab w' := fun j hj => (hk.cell (p := ⟨_, j, none⟩) h.lt hs).trans (h j hj)
theorem setBit_any (p : Int) (w : World) : Calls Tryd.prog 71 #[.int .i64 p] w fun e w' => e = .returned (.int .u64 (oneS p : Int)) ∧ w = w' := by
  unfold oneS
  by_cases h1 : p < 0
  · have d1 : decide (p < 0) = true := by simpa using h1
    rw [if_neg (by omega)]
    go_enter Tryd.func71, Tryd.ntmps71
    go_wp2
    go_ret
    exact ⟨rfl, rfl⟩
  · by_cases h2 : p < 64
    · have d1 : decide (p < 0) = false := by simpa using h1
      have d2 : decide (64 ≤ p) = false := by simpa using h2
      rw [if_pos (by omega)]
      obtain ⟨n, rfl⟩ : ∃ n : Nat, p = (n : Int) := ⟨p.toNat, by omega⟩
      have hn : n < 64 := by omega
      have hp : 2 ^ n ≤ 2 ^ 63 := Nat.pow_le_pow_right (by omega) (by omega)
      have hw : IntKind.u64.wrap (2 ^ n) = ((2 ^ n : Nat) : Int) := by
        rw [IntKind.wrap_u64]
        have e1 : ((2 : Int) ^ n) = ((2 ^ n : Nat) : Int) := by simp
        rw [e1]
        generalize 2 ^ n = m at *
        omega
      show Calls Tryd.prog 71 #[.int .i64 (n : Int)] w fun e w' => e = .returned (.int .u64 ((2 ^ n : Nat) : Int)) ∧ w = w'
      generalize hm : ((2 ^ n : Nat) : Int) = m at hw ⊢
      clear hp hm
      go_enter Tryd.func71, Tryd.ntmps71
      go_wp2
      go_ret
      exact ⟨rfl, rfl⟩
    · have d1 : decide (p < 0) = false := by simpa using h1
      have d2 : decide (64 ≤ p) = true := by simp; omega
      rw [if_neg (by omega)]
      go_enter Tryd.func71, Tryd.ntmps71
      go_wp2
      go_ret
      exact ⟨rfl, rfl⟩
theorem setHas_any (s : Nat) (p : Int) (hs : s < 18446744073709551616) (w : World) : Calls Tryd.prog 47 #[.int .u64 (s : Int), .int .i64 p] w fun e w' => e = .returned (.bool (hasS s p)) ∧ w = w' := by
  have hb : (bits .and .u64 (s : Int) (oneS p : Int) != 0) = hasS s p := by
    rw [bits_and_u64_nat s _ hs (oneS_lt p), Bool.eq_iff_iff, ← and_one s p]
    simp [bne_iff_ne]
  rw [← hb]
  clear hb
  go_enter Tryd.func47, Tryd.ntmps47
  go_wp2_with fail
  refine (setBit_any p w).mono ?_
  rintro e w' ⟨rfl, rfl⟩
  go_wp2_with fail
  go_ret
  exact ⟨rfl, rfl⟩
theorem setBut_any (s t : Nat) (hs : s < 18446744073709551616) (ht : t < 18446744073709551616) (w : World) : Calls Tryd.prog 91 #[.int .u64 (s : Int), .int .u64 (t : Int)] w fun e w' => e = .returned (.int .u64 (butS s t : Int)) ∧ w = w' := by
  have hb : bits .andNot .u64 (s : Int) (t : Int) = (butS s t : Int) := u64_andNot_nat s t hs ht
  rw [← hb]
  clear hb
  go_enter Tryd.func91, Tryd.ntmps91
  go_wp2
  go_ret
  exact ⟨rfl, rfl⟩
/-- a row of numbers -/
def intsL (l : List Int) : List Value := l.map fun i => .int .i64 i
theorem intsL_len (l : List Int) : (intsL l).length = l.length := by simp [intsL]
def withAll (s : Nat) (l : List Int) : Nat := l.foldl withS s
theorem withAll_lt : ∀ (l : List Int) {s : Nat}, s < 18446744073709551616 → withAll s l < 18446744073709551616
  | [], s, h => h
  | p :: l, s, h => withAll_lt l (withS_lt h p)
set_option maxHeartbeats 1000000 in
theorem setWith_any (s : Nat) (l : List Int) (ad : Option Addr) (cap : Nat) (hs : s < 18446744073709551616) (w : World) (hl : l.length ≤ 1000) (h : Reads w w.heap.size 1 ad l.length (intsL l)) :
    Calls Tryd.prog 46 #[.int .u64 (s : Int), .slice ad l.length cap] w fun e w' => e = .returned (.int .u64 (withAll s l : Int)) ∧ w = w' := by
  have HH := Lib.hid h
  have HS := Lib.hid hs
  obtain ⟨n, hn⟩ : ∃ n, n = l.length := ⟨_, rfl⟩
  rw [← hn] at hl ⊢
  have HN := Lib.hid hn
  clear h hs hn
  go_enter Tryd.func46, Tryd.ntmps46
  go_wp2_with fail
  go_loopw [0, 9] (fun t i wr => ∃ k : Nat, k ≤ n ∧ i = .int .i64 (k : Int) ∧ t = .int .u64 (withAll s (l.take k) : Int) ∧ Hid (w = wr)) (fun _ i _ => n - (intOf i).toNat)
  case atStart => exact ⟨0, by omega, rfl, rfl, Lib.hid rfl⟩
  case round =>
    obtain ⟨k, hk, rfl, rfl, HW⟩ := hrel
    obtain rfl := HW.out
    by_cases hlt : k < n
    · have hd : decide ((k : Int) < (n : Int)) = true := by simpa using hlt
      have hi1 : (k : Int) < (n : Int) := by omega
      have hkl : k < l.length := by rw [← HN.out]; exact hlt
      obtain ⟨q, hq, hB, hr⟩ := HH.out.2 (by omega)
      obtain ⟨B, O, sp⟩ := q
      have h0 := hr 0 _ (by unfold intsL; rw [List.getElem?_map, List.getElem?_eq_getElem (show 0 < l.length by omega)]; rfl)
      have hsp : sp = none := by simpa [Addr.add] using World.cell?_spot h0
      subst hsp
      have hc : w.cell? ⟨B, O + k, none⟩ = some (.int .i64 l[k]) := by
        have := hr k _ (by unfold intsL; rw [List.getElem?_map, List.getElem?_eq_getElem hkl]; rfl)
        rw [← this]
        congr 1
        unfold Addr.add
        split <;> simp_all
      have hstep : withAll s (l.take (k + 1)) = withAll s (l.take k) ||| oneS l[k] := by
        rw [List.take_succ_eq_append_getElem hkl]
        unfold withAll
        rw [List.foldl_append]
        rfl
      have hor : bits .or .u64 (withAll s (l.take k) : Int) (oneS l[k] : Int) = (withAll s (l.take (k + 1)) : Int) := by
        rw [hstep]
        exact bits_or_u64_nat _ _ (withAll_lt _ HS.out) (oneS_lt _)
      have HB := Lib.hid (setBit_any l[k] w)
      generalize l[k] = x at *
      clear hr h0 hstep
      subst hq
      generalize (withAll s (l.take k) : Int) = a at *
      obtain ⟨b, hb⟩ : ∃ b, b = (withAll s (l.take (k + 1)) : Int) := ⟨_, rfl⟩
      rw [← hb] at hor
      have HBB := Lib.hid hb
      clear hb
      go_wp2_with fail
      refine HB.out.mono ?_
      rintro e w' ⟨rfl, rfl⟩
      go_wp2_with fail
      exact ⟨⟨k + 1, by omega, by go_num, by rw [HBB.out], Lib.hid trivial⟩, by simp [intOf]; omega⟩
    · have hd : decide ((k : Int) < (n : Int)) = false := by simpa using hlt
      obtain rfl : k = n := by omega
      have HE := Lib.hid (show withAll s (l.take k) = withAll s l from by rw [HN.out, List.take_length])
      go_wp2_with fail
      go_ret
      exact ⟨by rw [HE.out]; rfl, rfl⟩
theorem setOf_any (l : List Int) (ad : Option Addr) (cap : Nat) (w : World) (hl : l.length ≤ 1000) (h : Reads w w.heap.size 1 ad l.length (intsL l)) :
    Calls Tryd.prog 33 #[.slice ad l.length cap] w fun e w' => e = .returned (.int .u64 (withAll 0 l : Int)) ∧ w = w' := by
  have HC := Lib.hid (setWith_any 0 l ad cap (by decide) w hl h)
  clear h
  generalize l.length = n at *
  go_enter Tryd.func33, Tryd.ntmps33
  go_wp2_with fail
  refine HC.out.mono ?_
  rintro e w' ⟨rfl, rfl⟩
  go_wp2_with fail
  go_ret
  exact ⟨rfl, rfl⟩
theorem setLess_any (s : Nat) (l : List Int) (ad : Option Addr) (cap : Nat) (hs : s < 18446744073709551616) (w : World) (hl : l.length ≤ 1000) (h : Reads w w.heap.size 1 ad l.length (intsL l)) :
    Calls Tryd.prog 70 #[.int .u64 (s : Int), .slice ad l.length cap] w fun e w' => e = .returned (.int .u64 (butS s (withAll 0 l) : Int)) ∧ w = w' := by
  have HC := Lib.hid (setOf_any l ad cap w hl h)
  have HB := Lib.hid (setBut_any s (withAll 0 l) hs (withAll_lt l (by decide)) w)
  clear h hs
  generalize l.length = n at *
  generalize withAll 0 l = t at *
  go_enter Tryd.func70, Tryd.ntmps70
  go_wp2_with fail
  refine HC.out.mono ?_
  rintro e w' ⟨rfl, rfl⟩
  go_wp2_with fail
  refine HB.out.mono ?_
  rintro e w' ⟨rfl, rfl⟩
  go_wp2_with fail
  go_ret
  exact ⟨rfl, rfl⟩
set_option maxHeartbeats 1000000 in
theorem tz64_core (x k idx : Nat) (w : World) (hx0 : ((x : Int) == 0) = false)
    (key : IntKind.u64.wrap (bits BinOp.and IntKind.u64 (x : Int) (IntKind.u64.wrap (-(x : Int))) * 285870213051353865) / 288230376151711744 = (idx : Int))
    (hi : idx < 64) (hk : k < 64) (hcell : w.cell? ⟨0, idx, none⟩ = some (.int .u8 (k : Int))) :
    Calls Tryd.prog 101 #[.int .u64 (x : Int)] w fun e w' => e = .returned (.int .i64 (k : Int)) ∧ w = w' := by
  go_enter Tryd.func101, Tryd.ntmps101
  go_wp2_with (simp only [key])
  go_ret
  exact ⟨rfl, rfl⟩
theorem tz64_any (x : Nat) (hx : x < 18446744073709551616) (hx0 : x ≠ 0) (w : World) (hT : Tab w) :
    Calls Tryd.prog 101 #[.int .u64 (x : Int)] w fun e w' => e = .returned (.int .i64 (Lib.ctz 64 x : Int)) ∧ w = w' := by
  obtain ⟨hlow, hk⟩ := Lib.lowest_bit 64 x hx0 hx
  obtain ⟨hi, htab⟩ := Lib.deBruijn64_at _ hk
  have hcell := hT _ hi
  rw [htab] at hcell
  exact tz64_core x _ _ w (by simp; omega) (tz64_key x _ hx hx0 hlow) hi hk hcell
theorem setMin_any (x : Nat) (hx : x < 18446744073709551616) (hx0 : x ≠ 0) (w : World) (hT : Tab w) :
    Calls Tryd.prog 97 #[.int .u64 (x : Int)] w fun e w' => e = .returned (.int .i64 (Lib.ctz 64 x : Int)) ∧ w = w' := by
  have HC := Lib.hid (tz64_any x hx hx0 w hT)
  have h0 : ((x : Int) == 0) = false := by simp; omega
  clear hT hx hx0
  generalize (Lib.ctz 64 x : Int) = k at *
  generalize (x : Int) = z at *
  go_enter Tryd.func97, Tryd.ntmps97
  go_wp2_with fail
  refine HC.out.mono ?_
  rintro e w' ⟨rfl, rfl⟩
  go_wp2_with fail
  go_ret
  exact ⟨rfl, rfl⟩
theorem reads_one (w : World) (v : Value) (t : TypeId) : Reads (w.alloc (.cells #[v] t)) (w.heap.size + 1) 1 (some ⟨w.heap.size, 0, none⟩) 1 [v] :=
  ⟨rfl, fun _ => ⟨_, rfl, by show w.heap.size < w.heap.size + 1; omega, fun j u hu => new_cells w [v] t j u hu⟩⟩
def natsL (l : List Nat) : List Value := l.map fun i : Nat => .int .i64 (i : Int)
theorem natsL_len (l : List Nat) : (natsL l).length = l.length := by simp [natsL]
/-- what List leaves -/
def ListEnd (w : World) (s : Nat) (e : Ending) (w' : World) : Prop := ∃ ad cap, e = .returned (.slice ad (listS s).length cap) ∧ w'.ownsRow w.heap.size 3 1 (.slice ad (listS s).length cap) (listS s).length (natsL (listS s)) ∧ Below w.heap.size w w'
theorem info3 : (Tryd.prog.info? 3).map (fun i => (i.zero, i.size, i.bytes)) = some (some (.int .i64 0), 1, 8) := by kernel_rfl
set_option maxRecDepth 100000 in
set_option maxHeartbeats 2000000 in
theorem setList_any (s : Nat) (hs : s < 18446744073709551616) (w : World) (hT : Tab w) : Calls Tryd.prog 89 #[.int .u64 (s : Int)] w (ListEnd w s) := by
  obtain ⟨i0, hi, hz0, hz1, hz2⟩ := info_parts info3
  have HT := Lib.hid hT
  have HS := Lib.hid hs
  clear hT hs
  go_enter Tryd.func89, Tryd.ntmps89
  go_wp2_with fail
  go_loopw [3, 4] (fun v t wr => ∃ (x : Nat) (L : List Nat), Hid (x < 18446744073709551616 ∧ L ++ listS x = listS s ∧ L.length + (listS x).length = (listS s).length ∧ L.length ≤ 64) ∧ t = .int .u64 (x : Int) ∧ wr.ownsRow w.heap.size 3 1 v L.length (natsL L) ∧ Below w.heap.size w wr) (fun _ t _ => (listS (intOf t).toNat).length)
  case atStart => exact ⟨s, [], ⟨HS.out, rfl, by simp, by simp⟩, rfl, ⟨rfl, .inl ⟨rfl, rfl⟩⟩, br _⟩
  case round =>
    obtain ⟨x, L, HX, rfl, ho, hb⟩ := hrel
    by_cases h0 : x = 0
    · subst h0
      have e := HX.out.2.1
      rw [listS_zero, List.append_nil] at e
      subst e
      obtain ⟨ad, cap, rfl⟩ := ownForm ho
      have HE := Lib.hid (show ListEnd w s (.returned (.slice ad (listS s).length cap)) wr from ⟨ad, cap, rfl, ho, hb⟩)
      clear ho hb
      go_wp2_with fail
      go_ret
      exact HE.out
    · obtain ⟨hst, hk⟩ := listS_step h0 HX.out.1
      have hne : ((x : Int) != 0) = true := by simp; omega
      have HM := Lib.hid (setMin_any x HX.out.1 h0 wr (HT.out.below hb HT.out.lt))
      have hsub : IntKind.u64.wrap ((x : Int) - 1) = ((x - 1 : Nat) : Int) := by
        have := HX.out.1
        rw [IntKind.wrap_u64]
        omega
      have hand : bits .and .u64 (x : Int) ((x - 1 : Nat) : Int) = ((x &&& (x - 1) : Nat) : Int) := bits_and_u64_nat x _ HX.out.1 (by have := HX.out.1; omega)
      obtain ⟨ad, cap, rfl⟩ := ownForm ho
      obtain ⟨k, hk1⟩ : ∃ k, k = Lib.ctz 64 x := ⟨_, rfl⟩
      rw [← hk1] at hst hk HM
      obtain ⟨y, hy⟩ : ∃ y, y = x &&& (x - 1) := ⟨_, rfl⟩
      have HY := Lib.hid (show y < 18446744073709551616 ∧ listS x = k :: listS y from ⟨by rw [hy]; exact and_lt HX.out.1, by rw [hy]; exact hst⟩)
      rw [← hy] at hand
      clear hst hk1 hy
      have HO := Lib.hid (ho.alloc (.cells #[.int .i64 (k : Int)] 3))
      have HR1 := Lib.hid (reads_one wr (.int .i64 (k : Int)) 3)
      have HB := Lib.hid hb
      have hL : L.length < 64 := by
        have h1 := HX.out.2.2.1
        rw [HY.out.2] at h1
        have := listS_len s
        simp at h1
        omega
      clear ho hb
      go_wp2_with fail
      refine HM.out.mono ?_
      rintro e w2 ⟨rfl, rfl⟩
      obtain ⟨n, hn⟩ : ∃ n, n = L.length := ⟨_, rfl⟩
      rw [← hn] at HO hL ⊢
      have HN := Lib.hid hn
      clear hn HM
      go_wp2_with (at_builtin; refine wpList_append_any _ rfl (.tmp 12) (.tmp 15) 129 rfl w.heap.size 3 i0 _ 1 8 Tryd.underlying129 hi hz0 hz1 hz2 rfl (by decide) _ n _ rfl HO.out _ _ 1 _ _ rfl HR1.out (by simp [Value.oneCell']) (by unfold maxLen; omega) (by omega) (by have := HB.out.size; simp; omega) ?_)
      intro v' wg ho hg hu
      have hbg : Below w.heap.size w wg := grownB (ba HB.out _) (by have := HB.out.size; simp; omega) hg (fun b hb => (HO.out.lt b hb).1)
      have ho' : wg.ownsRow w.heap.size 3 1 v' (L ++ [k]).length (natsL (L ++ [k])) := by
        have e : natsL (L ++ [k]) = natsL L ++ [.int .i64 (k : Int)] := by simp [natsL]
        rw [e, List.length_append, ← HN.out]
        exact ho
      have HE := Lib.hid (show (∃ (x' : Nat) (L' : List Nat), Hid (x' < 18446744073709551616 ∧ L' ++ listS x' = listS s ∧ L'.length + (listS x').length = (listS s).length ∧ L'.length ≤ 64) ∧ Value.int .u64 (y : Int) = .int .u64 (x' : Int) ∧ wg.ownsRow w.heap.size 3 1 v' L'.length (natsL L') ∧ Below w.heap.size w wg) ∧ (listS y).length < (listS x).length from
        ⟨⟨y, L ++ [k], ⟨HY.out.1, by rw [List.append_assoc, ← HX.out.2.1, HY.out.2]; rfl, by rw [← HX.out.2.2.1, HY.out.2]; simp; omega, by rw [List.length_append, ← HN.out]; simp; omega⟩, rfl, ho', hbg⟩, by rw [HY.out.2]; simp⟩)
      clear ho hg hu ho' hbg HO HR1 HB
      go_wp2_with fail
      exact HE.out
end Go.Proofs.YtgjlcjbmcnofiaaDoor
