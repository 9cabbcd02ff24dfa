/-
  What the reference's comparisons of keys return.
  Conditions: none.
-/
import Derived.Test.YtodlmboagbjcbaaKeyI
import Derived.Outline
namespace Go.Proofs.Ytodlmboagbjcbaa
set_option linter.unusedVariables false
set_option linter.unusedSimpArgs false
open Go.RowKit
def ltB (a1 a2 b1 b2 : Int) : Bool := decide (a1 < b1) || (a1 == b1 && decide (a2 < b2))
def signZ (x y : Bool) : Int := if x then -1 else if y then 1 else 0
theorem ltB_iff (a1 a2 b1 b2 : Int) : ltB a1 a2 b1 b2 = true ↔ keyLt (a1, a2) (b1, b2) := by
  unfold ltB keyLt
  simp
theorem sign_lt (a1 a2 b1 b2 : Int) : signZ (ltB a1 a2 b1 b2) (ltB b1 b2 a1 a2) = keyZ a1 a2 b1 b2 := by
  rcases keyZ_vals a1 a2 b1 b2 with ⟨e, h⟩ | ⟨e, h, h'⟩ | ⟨e, h⟩
  · rw [(ltB_iff _ _ _ _).2 h, e]; rfl
  · subst h
    subst h'
    have hn : ltB a1 a2 a1 a2 = false := by unfold ltB; simp
    rw [hn, e]; rfl
  · have hn : ltB a1 a2 b1 b2 = false := by
      cases hh : ltB a1 a2 b1 b2
      · rfl
      · have := (ltB_iff _ _ _ _).1 hh
        unfold keyLt at this h
        simp only at this h
        omega
    rw [hn, (ltB_iff _ _ _ _).2 h, e]; rfl
set_option maxRecDepth 100000 in
set_option maxHeartbeats 1000000 in
theorem rSign_any (x y : Bool) (w : World) : Calls Try.prog 53 #[.bool x, .bool y] w fun e w' => e = .returned (.int .i64 (signZ x y)) ∧ w = w' := by
  cases x <;> cases y
  all_goals
    go_enter Try.func53, Try.ntmps53
    go_wp2
    go_ret
    exact ⟨rfl, rfl⟩
set_option maxRecDepth 100000 in
set_option maxHeartbeats 2000000 in
theorem rLess_any (a1 a2 b1 b2 : Int) (w : World) : Calls Try.prog 45 #[.agg #[.int .u64 a1, .int .i64 a2], .agg #[.int .u64 b1, .int .i64 b2]] w fun e w' => e = .returned (.bool (ltB a1 a2 b1 b2)) ∧ Below w.heap.size w w' := by
  have hb := ba (ba (br w) (.cells #[.int .u64 a1, .int .i64 a2] 56)) (.cells #[.int .u64 b1, .int .i64 b2] 56)
  have HB := Lib.hid hb
  clear hb
  obtain ⟨v, hv⟩ : ∃ v, v = ltB a1 a2 b1 b2 := ⟨_, rfl⟩
  rw [← hv]
  unfold ltB at hv
  by_cases h1 : a1 < b1
  · have k1 : decide (a1 < b1) = true := by simpa using h1
    obtain rfl : v = true := by rw [hv, k1]; rfl
    clear h1 hv
    go_enter Try.func45, Try.ntmps45
    go_wp2
    go_ret
    exact ⟨rfl, HB.out⟩
  · have k1 : decide (a1 < b1) = false := by simpa using h1
    by_cases h2 : a1 = b1
    · have k2 : (a1 == b1) = true := by simpa using h2
      by_cases h3 : a2 < b2
      · have k3 : decide (a2 < b2) = true := by simpa using h3
        obtain rfl : v = true := by rw [hv, k1, k2, k3]; rfl
        clear h1 h2 h3 hv
        go_enter Try.func45, Try.ntmps45
        go_wp2
        go_ret
        exact ⟨rfl, HB.out⟩
      · have k3 : decide (a2 < b2) = false := by simpa using h3
        obtain rfl : v = false := by rw [hv, k1, k2, k3]; rfl
        clear h1 h2 h3 hv
        go_enter Try.func45, Try.ntmps45
        go_wp2
        go_ret
        exact ⟨rfl, HB.out⟩
    · have k2 : (a1 == b1) = false := by simpa using h2
      obtain rfl : v = false := by rw [hv, k1, k2]; rfl
      clear h1 h2 hv
      go_enter Try.func45, Try.ntmps45
      go_wp2
      go_ret
      exact ⟨rfl, HB.out⟩
set_option maxRecDepth 100000 in
set_option maxHeartbeats 2000000 in
theorem rCLess_any (a1 a2 b1 b2 : Int) (w : World) : Calls Try.prog 54 #[.agg #[.int .u64 a1, .int .i64 a2], .agg #[.int .u64 b1, .int .i64 b2]] w fun e w' => e = .returned (.bool (ltB a1 a2 b1 b2)) ∧ Below w.heap.size w w' := by
  have hb := ba (ba (br w) (.cells #[.int .u64 a1, .int .i64 a2] 58)) (.cells #[.int .u64 b1, .int .i64 b2] 58)
  have HB := Lib.hid hb
  clear hb
  obtain ⟨v, hv⟩ : ∃ v, v = ltB a1 a2 b1 b2 := ⟨_, rfl⟩
  rw [← hv]
  unfold ltB at hv
  by_cases h1 : a1 < b1
  · have k1 : decide (a1 < b1) = true := by simpa using h1
    obtain rfl : v = true := by rw [hv, k1]; rfl
    clear h1 hv
    go_enter Try.func54, Try.ntmps54
    go_wp2
    go_ret
    exact ⟨rfl, HB.out⟩
  · have k1 : decide (a1 < b1) = false := by simpa using h1
    by_cases h2 : a1 = b1
    · have k2 : (a1 == b1) = true := by simpa using h2
      by_cases h3 : a2 < b2
      · have k3 : decide (a2 < b2) = true := by simpa using h3
        obtain rfl : v = true := by rw [hv, k1, k2, k3]; rfl
        clear h1 h2 h3 hv
        go_enter Try.func54, Try.ntmps54
        go_wp2
        go_ret
        exact ⟨rfl, HB.out⟩
      · have k3 : decide (a2 < b2) = false := by simpa using h3
        obtain rfl : v = false := by rw [hv, k1, k2, k3]; rfl
        clear h1 h2 h3 hv
        go_enter Try.func54, Try.ntmps54
        go_wp2
        go_ret
        exact ⟨rfl, HB.out⟩
    · have k2 : (a1 == b1) = false := by simpa using h2
      obtain rfl : v = false := by rw [hv, k1, k2]; rfl
      clear h1 h2 hv
      go_enter Try.func54, Try.ntmps54
      go_wp2
      go_ret
      exact ⟨rfl, HB.out⟩
set_option maxRecDepth 100000 in
set_option maxHeartbeats 2000000 in
theorem rCmp_any (a1 a2 b1 b2 : Int) (w : World) : Calls Try.prog 34 #[.agg #[.int .u64 a1, .int .i64 a2], .agg #[.int .u64 b1, .int .i64 b2]] w fun e w' => e = .returned (.int .i64 (keyZ a1 a2 b1 b2)) ∧ Below w.heap.size w w' := by
  have hA := heap_alloc2_old w (.cells #[.int .u64 a1, .int .i64 a2] 56) (.cells #[.int .u64 b1, .int .i64 b2] 56)
  have hB := heap_alloc2_new w (.cells #[.int .u64 a1, .int .i64 a2] 56) (.cells #[.int .u64 b1, .int .i64 b2] 56)
  have hb := ba (ba (br w) (.cells #[.int .u64 a1, .int .i64 a2] 56)) (.cells #[.int .u64 b1, .int .i64 b2] 56)
  rw [← sign_lt]
  go_enter Try.func34, Try.ntmps34
  go_wp2_with fail
  generalize (w.alloc (.cells #[.int .u64 a1, .int .i64 a2] 56)).alloc (.cells #[.int .u64 b1, .int .i64 b2] 56) = W at *
  have a0 := Bel.cell (cell_of_row _ _ 0 _ _ _ hA : W.cell? ⟨w.heap.size, 0, none⟩ = some (.int .u64 a1)) (Array.getElem?_eq_some_iff.1 hA).1
  have a1' := Bel.cell (cell_of_row _ _ 1 _ _ _ hA : W.cell? ⟨w.heap.size, 1, none⟩ = some (.int .i64 a2)) (Array.getElem?_eq_some_iff.1 hA).1
  have b0 := Bel.cell (cell_of_row _ _ 0 _ _ _ hB : W.cell? ⟨w.heap.size + 1, 0, none⟩ = some (.int .u64 b1)) (Array.getElem?_eq_some_iff.1 hB).1
  have b1' := Bel.cell (cell_of_row _ _ 1 _ _ _ hB : W.cell? ⟨w.heap.size + 1, 1, none⟩ = some (.int .i64 b2)) (Array.getElem?_eq_some_iff.1 hB).1
  refine wp_region_bel (by kernel_rfl) (by kernel_rfl) ?_
  repeat (go_big_quiet_step ((first | (go_at_call 45; exact bel_call (rLess_any _ _ _ _ _)) | (go_at_call 53; exact bel_same (rSign_any _ _ _)))))
  refine wpQuiet_nil ?_
  intro w5 hw5
  obtain ⟨x5, rfl⟩ := hw5
  have hb5 := bt hb x5.prop
  generalize x5.val = w5 at *
  clear a0 a1' b0 b1' hA hB hb
  go_wp2
  go_ret
  exact ⟨rfl, hb5⟩
set_option maxRecDepth 100000 in
set_option maxHeartbeats 2000000 in
theorem rConf_any (a1 a2 b1 b2 : Int) (w : World) : Calls Try.prog 35 #[.agg #[.int .u64 a1, .int .i64 a2], .agg #[.int .u64 b1, .int .i64 b2]] w fun e w' => e = .returned (.int .i64 (keyZ a1 a2 b1 b2)) ∧ Below w.heap.size w w' := by
  have hA := heap_alloc2_old w (.cells #[.int .u64 a1, .int .i64 a2] 58) (.cells #[.int .u64 b1, .int .i64 b2] 58)
  have hB := heap_alloc2_new w (.cells #[.int .u64 a1, .int .i64 a2] 58) (.cells #[.int .u64 b1, .int .i64 b2] 58)
  have hb := ba (ba (br w) (.cells #[.int .u64 a1, .int .i64 a2] 58)) (.cells #[.int .u64 b1, .int .i64 b2] 58)
  rw [← sign_lt]
  go_enter Try.func35, Try.ntmps35
  go_wp2_with fail
  generalize (w.alloc (.cells #[.int .u64 a1, .int .i64 a2] 58)).alloc (.cells #[.int .u64 b1, .int .i64 b2] 58) = W at *
  have a0 := Bel.cell (cell_of_row _ _ 0 _ _ _ hA : W.cell? ⟨w.heap.size, 0, none⟩ = some (.int .u64 a1)) (Array.getElem?_eq_some_iff.1 hA).1
  have a1' := Bel.cell (cell_of_row _ _ 1 _ _ _ hA : W.cell? ⟨w.heap.size, 1, none⟩ = some (.int .i64 a2)) (Array.getElem?_eq_some_iff.1 hA).1
  have b0 := Bel.cell (cell_of_row _ _ 0 _ _ _ hB : W.cell? ⟨w.heap.size + 1, 0, none⟩ = some (.int .u64 b1)) (Array.getElem?_eq_some_iff.1 hB).1
  have b1' := Bel.cell (cell_of_row _ _ 1 _ _ _ hB : W.cell? ⟨w.heap.size + 1, 1, none⟩ = some (.int .i64 b2)) (Array.getElem?_eq_some_iff.1 hB).1
  refine wp_region_bel (by kernel_rfl) (by kernel_rfl) ?_
  repeat (go_big_quiet_step ((first | (go_at_call 54; exact bel_call (rCLess_any _ _ _ _ _)) | (go_at_call 53; exact bel_same (rSign_any _ _ _)))))
  refine wpQuiet_nil ?_
  intro w5 hw5
  obtain ⟨x5, rfl⟩ := hw5
  have hb5 := bt hb x5.prop
  generalize x5.val = w5 at *
  clear a0 a1' b0 b1' hA hB hb
  go_wp2
  go_ret
  exact ⟨rfl, hb5⟩
end Go.Proofs.Ytodlmboagbjcbaa
