/-
  What the key's functions return: comparisons.
  Conditions: none.
-/
import Derived.Test.YtodlmboagbjcbaaStreamC
namespace Go.Proofs.Ytodlmboagbjcbaa
set_option linter.unusedVariables false
set_option linter.unusedSimpArgs false
open Go.RowKit
def cmpZ (a b : Int) : Int := if a < b then -1 else if b < a then 1 else 0
set_option maxRecDepth 100000 in
set_option maxHeartbeats 1000000 in
theorem nanU_any (a : Int) (w : World) : Calls Try.prog 58 #[.int .u64 a] w fun e w' => e = .returned (.bool false) ∧ w = w' := by
  go_enter Try.func58, Try.ntmps58
  go_wp2
  go_ret
  exact ⟨rfl, rfl⟩
set_option maxRecDepth 100000 in
set_option maxHeartbeats 1000000 in
theorem nanI_any (a : Int) (w : World) : Calls Try.prog 59 #[.int .i64 a] w fun e w' => e = .returned (.bool false) ∧ w = w' := by
  go_enter Try.func59, Try.ntmps59
  go_wp2
  go_ret
  exact ⟨rfl, rfl⟩
set_option maxRecDepth 100000 in
set_option maxHeartbeats 1000000 in
theorem cmpU_any (a b : Int) (w : World) : Calls Try.prog 48 #[.int .u64 a, .int .u64 b] w fun e w' => e = .returned (.int .i64 (cmpZ a b)) ∧ w = w' := by
  obtain ⟨v, hv⟩ : ∃ v, v = cmpZ a b := ⟨_, rfl⟩
  rw [← hv]
  go_enter Try.func48, Try.ntmps48
  go_wp2_with fail
  refine (nanU_any _ _).mono ?_
  rintro e w1 ⟨rfl, rfl⟩
  go_wp2_with fail
  refine (nanU_any _ _).mono ?_
  rintro e w1 ⟨rfl, rfl⟩
  by_cases h1 : a < b
  · obtain rfl : v = -1 := by rw [hv]; unfold cmpZ; rw [if_pos h1]
    have d1 : decide (a < b) = true := by simpa using h1
    clear hv h1
    go_wp2
    go_ret
    exact ⟨rfl, rfl⟩
  by_cases h2 : b < a
  · obtain rfl : v = 1 := by rw [hv]; unfold cmpZ; rw [if_neg h1, if_pos h2]
    have d1 : decide (a < b) = false := by simpa using h1
    have d2 : decide (b < a) = true := by simpa using h2
    clear hv h1 h2
    go_wp2
    go_ret
    exact ⟨rfl, rfl⟩
  obtain rfl : v = 0 := by rw [hv]; unfold cmpZ; rw [if_neg h1, if_neg h2]
  have d1 : decide (a < b) = false := by simpa using h1
  have d2 : decide (b < a) = false := by simpa using h2
  clear hv h1 h2
  go_wp2
  go_ret
  exact ⟨rfl, rfl⟩
set_option maxRecDepth 100000 in
set_option maxHeartbeats 1000000 in
theorem cmpI_any (a b : Int) (w : World) : Calls Try.prog 49 #[.int .i64 a, .int .i64 b] w fun e w' => e = .returned (.int .i64 (cmpZ a b)) ∧ w = w' := by
  obtain ⟨v, hv⟩ : ∃ v, v = cmpZ a b := ⟨_, rfl⟩
  rw [← hv]
  go_enter Try.func49, Try.ntmps49
  go_wp2_with fail
  refine (nanI_any _ _).mono ?_
  rintro e w1 ⟨rfl, rfl⟩
  go_wp2_with fail
  refine (nanI_any _ _).mono ?_
  rintro e w1 ⟨rfl, rfl⟩
  by_cases h1 : a < b
  · obtain rfl : v = -1 := by rw [hv]; unfold cmpZ; rw [if_pos h1]
    have d1 : decide (a < b) = true := by simpa using h1
    clear hv h1
    go_wp2
    go_ret
    exact ⟨rfl, rfl⟩
  by_cases h2 : b < a
  · obtain rfl : v = 1 := by rw [hv]; unfold cmpZ; rw [if_neg h1, if_pos h2]
    have d1 : decide (a < b) = false := by simpa using h1
    have d2 : decide (b < a) = true := by simpa using h2
    clear hv h1 h2
    go_wp2
    go_ret
    exact ⟨rfl, rfl⟩
  obtain rfl : v = 0 := by rw [hv]; unfold cmpZ; rw [if_neg h1, if_neg h2]
  have d1 : decide (a < b) = false := by simpa using h1
  have d2 : decide (b < a) = false := by simpa using h2
  clear hv h1 h2
  go_wp2
  go_ret
  exact ⟨rfl, rfl⟩
set_option maxRecDepth 100000 in
set_option maxHeartbeats 1000000 in
theorem or2_any (g : Nat) (a b : Int) (w : World) (h : w.heap[g]? = some (.cells #[.int .i64 a, .int .i64 b] 3)) : Calls Try.prog 47 #[.slice (some ⟨g, 0, none⟩) 2 2] w fun e w' => e = .returned (.int .i64 (if a = 0 then b else a)) ∧ w = w' := by
  have c0 : w.cell? ⟨g, 0, none⟩ = some (.int .i64 a) := cell_of_row _ _ 0 _ _ _ h
  have c1 : w.cell? ⟨g, 1, none⟩ = some (.int .i64 b) := cell_of_row _ _ 1 _ _ _ h
  obtain ⟨v, hv⟩ : ∃ v, v = if a = 0 then b else a := ⟨_, rfl⟩
  rw [← hv]
  have HV := Lib.hid hv
  clear hv h
  go_enter Try.func47, Try.ntmps47
  go_wp2
  go_loop [5, 8] (fun _ i => ∃ k : Nat, k ≤ 2 ∧ i = .int .i64 (k : Int) ∧ (0 < k → a = 0) ∧ (1 < k → b = 0)) (fun _ i => 2 - (intOf i).toNat)
  case atStart => exact ⟨0, by omega, rfl, by omega, by omega⟩
  case round =>
    obtain ⟨k, hk, rfl, h0, h1⟩ := hrel
    by_cases k0 : k = 0
    · subst k0
      by_cases ha : a = 0
      · subst ha
        go_wp2
        exact ⟨⟨1, by omega, by go_num, by simp, by simp⟩, by simp [intOf]⟩
      · have d1 : (a == 0) = false := by simpa using ha
        have d1' : (a != 0) = true := by simpa using ha
        obtain rfl : v = a := by rw [HV.out, if_neg ha]
        clear h0 h1
        go_wp2
        go_ret
        exact ⟨rfl, rfl⟩
    by_cases k1 : k = 1
    · subst k1
      have ha := h0 (by omega)
      subst ha
      by_cases hb : b = 0
      · subst hb
        go_wp2
        exact ⟨⟨2, by omega, by go_num, by simp, by simp⟩, by simp [intOf]⟩
      · have d1 : (b == 0) = false := by simpa using hb
        have d1' : (b != 0) = true := by simpa using hb
        obtain rfl : v = b := by rw [HV.out, if_pos rfl]
        clear h0 h1
        go_wp2
        go_ret
        exact ⟨rfl, rfl⟩
    · obtain rfl : k = 2 := by omega
      have ha := h0 (by omega)
      have hb := h1 (by omega)
      subst ha
      subst hb
      obtain rfl : v = 0 := by rw [HV.out, if_pos rfl]
      clear h0 h1
      go_wp2
      go_ret
      exact ⟨rfl, rfl⟩
def keyZ (a1 a2 b1 b2 : Int) : Int := if cmpZ a1 b1 = 0 then cmpZ a2 b2 else cmpZ a1 b1
set_option maxRecDepth 100000 in
set_option maxHeartbeats 1000000 in
theorem kCmp_any (a1 a2 b1 b2 : Int) (w : World) : Calls Try.prog 29 #[.agg #[.int .u64 a1, .int .i64 a2], .agg #[.int .u64 b1, .int .i64 b2]] w fun e w' => e = .returned (.int .i64 (keyZ a1 a2 b1 b2)) ∧ Below w.heap.size w w' := by
  have hA := heap_alloc2_old w (.cells #[.int .u64 a1, .int .i64 a2] 56) (.cells #[.int .u64 b1, .int .i64 b2] 56)
  have hB := heap_alloc2_new w (.cells #[.int .u64 a1, .int .i64 a2] 56) (.cells #[.int .u64 b1, .int .i64 b2] 56)
  have hb := ba (ba (br w) (.cells #[.int .u64 a1, .int .i64 a2] 56)) (.cells #[.int .u64 b1, .int .i64 b2] 56)
  have HU := Lib.hid (fun (W : World) => cmpU_any a1 b1 W)
  have HI := Lib.hid (fun (W : World) => cmpI_any a2 b2 W)
  have HO := Lib.hid (fun (g : Nat) (W : World) (h : W.heap[g]? = some (.cells #[.int .i64 (cmpZ a1 b1), .int .i64 (cmpZ a2 b2)] 3)) => or2_any g (cmpZ a1 b1) (cmpZ a2 b2) W h)
  unfold keyZ
  generalize cmpZ a1 b1 = x at *
  generalize cmpZ a2 b2 = y at *
  obtain ⟨v, hv⟩ : ∃ v, v = if x = 0 then y else x := ⟨_, rfl⟩
  rw [← hv] at HO ⊢
  clear hv
  go_enter Try.func29, Try.ntmps29
  go_wp2_with fail
  generalize (w.alloc (.cells #[.int .u64 a1, .int .i64 a2] 56)).alloc (.cells #[.int .u64 b1, .int .i64 b2] 56) = W at *
  have a0 := Bel.cell (cell_of_row _ _ 0 _ _ _ hA : W.cell? ⟨w.heap.size, 0, none⟩ = some (.int .u64 a1)) (Array.getElem?_eq_some_iff.1 hA).1
  have a1' := Bel.cell (cell_of_row _ _ 1 _ _ _ hA : W.cell? ⟨w.heap.size, 1, none⟩ = some (.int .i64 a2)) (Array.getElem?_eq_some_iff.1 hA).1
  have b0 := Bel.cell (cell_of_row _ _ 0 _ _ _ hB : W.cell? ⟨w.heap.size + 1, 0, none⟩ = some (.int .u64 b1)) (Array.getElem?_eq_some_iff.1 hB).1
  have b1' := Bel.cell (cell_of_row _ _ 1 _ _ _ hB : W.cell? ⟨w.heap.size + 1, 1, none⟩ = some (.int .i64 b2)) (Array.getElem?_eq_some_iff.1 hB).1
  refine wp_region_bel_tail 10 (by kernel_rfl) (by kernel_rfl) ?_
  simp only [List.take_succ_cons, List.take_zero, List.drop_succ_cons, List.drop_zero]
  repeat (go_big_quiet_step ((first | (go_at_call 48; exact bel_same (HU.out _)) | (go_at_call 49; exact bel_same (HI.out _)))))
  refine wpQuiet_nil ?_
  intro w5 hw5
  obtain ⟨x5, rfl⟩ := hw5
  have hb5 := bt hb x5.prop
  generalize x5.val = w5 at *
  clear a0 a1' b0 b1' hA hB hb
  have hn := heap_alloc_new w5 (.cells #[.int .i64 x, .int .i64 y] 3)
  have hb6 := ba hb5 (.cells #[.int .i64 x, .int .i64 y] 3)
  go_wp2_with fail
  refine (HO.out _ _ hn).mono ?_
  rintro e w6 ⟨rfl, rfl⟩
  go_wp2
  go_ret
  exact ⟨rfl, hb6⟩
set_option maxRecDepth 100000 in
set_option maxHeartbeats 1000000 in
theorem kConf_any (a1 a2 b1 b2 : Int) (w : World) : Calls Try.prog 30 #[.agg #[.int .u64 a1, .int .i64 a2], .agg #[.int .u64 b1, .int .i64 b2]] w fun e w' => e = .returned (.int .i64 (keyZ a1 a2 b1 b2)) ∧ Below w.heap.size w w' := by
  have hA := heap_alloc2_old w (.cells #[.int .u64 a1, .int .i64 a2] 58) (.cells #[.int .u64 b1, .int .i64 b2] 58)
  have hB := heap_alloc2_new w (.cells #[.int .u64 a1, .int .i64 a2] 58) (.cells #[.int .u64 b1, .int .i64 b2] 58)
  have hb := ba (ba (br w) (.cells #[.int .u64 a1, .int .i64 a2] 58)) (.cells #[.int .u64 b1, .int .i64 b2] 58)
  have HU := Lib.hid (fun (W : World) => cmpU_any a1 b1 W)
  have HI := Lib.hid (fun (W : World) => cmpI_any a2 b2 W)
  have HO := Lib.hid (fun (g : Nat) (W : World) (h : W.heap[g]? = some (.cells #[.int .i64 (cmpZ a1 b1), .int .i64 (cmpZ a2 b2)] 3)) => or2_any g (cmpZ a1 b1) (cmpZ a2 b2) W h)
  unfold keyZ
  generalize cmpZ a1 b1 = x at *
  generalize cmpZ a2 b2 = y at *
  obtain ⟨v, hv⟩ : ∃ v, v = if x = 0 then y else x := ⟨_, rfl⟩
  rw [← hv] at HO ⊢
  clear hv
  go_enter Try.func30, Try.ntmps30
  go_wp2_with fail
  generalize (w.alloc (.cells #[.int .u64 a1, .int .i64 a2] 58)).alloc (.cells #[.int .u64 b1, .int .i64 b2] 58) = W at *
  have a0 := Bel.cell (cell_of_row _ _ 0 _ _ _ hA : W.cell? ⟨w.heap.size, 0, none⟩ = some (.int .u64 a1)) (Array.getElem?_eq_some_iff.1 hA).1
  have a1' := Bel.cell (cell_of_row _ _ 1 _ _ _ hA : W.cell? ⟨w.heap.size, 1, none⟩ = some (.int .i64 a2)) (Array.getElem?_eq_some_iff.1 hA).1
  have b0 := Bel.cell (cell_of_row _ _ 0 _ _ _ hB : W.cell? ⟨w.heap.size + 1, 0, none⟩ = some (.int .u64 b1)) (Array.getElem?_eq_some_iff.1 hB).1
  have b1' := Bel.cell (cell_of_row _ _ 1 _ _ _ hB : W.cell? ⟨w.heap.size + 1, 1, none⟩ = some (.int .i64 b2)) (Array.getElem?_eq_some_iff.1 hB).1
  refine wp_region_bel_tail 10 (by kernel_rfl) (by kernel_rfl) ?_
  simp only [List.take_succ_cons, List.take_zero, List.drop_succ_cons, List.drop_zero]
  repeat (go_big_quiet_step ((first | (go_at_call 48; exact bel_same (HU.out _)) | (go_at_call 49; exact bel_same (HI.out _)))))
  refine wpQuiet_nil ?_
  intro w5 hw5
  obtain ⟨x5, rfl⟩ := hw5
  have hb5 := bt hb x5.prop
  generalize x5.val = w5 at *
  clear a0 a1' b0 b1' hA hB hb
  have hn := heap_alloc_new w5 (.cells #[.int .i64 x, .int .i64 y] 3)
  have hb6 := ba hb5 (.cells #[.int .i64 x, .int .i64 y] 3)
  go_wp2_with fail
  refine (HO.out _ _ hn).mono ?_
  rintro e w6 ⟨rfl, rfl⟩
  go_wp2
  go_ret
  exact ⟨rfl, hb6⟩
end Go.Proofs.Ytodlmboagbjcbaa
