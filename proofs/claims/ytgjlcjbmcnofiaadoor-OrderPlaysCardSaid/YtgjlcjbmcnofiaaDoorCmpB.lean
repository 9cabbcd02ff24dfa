/-
  What the reference's Less and Of return.
  Conditions: none.
-/
import Derived.Test.YtgjlcjbmcnofiaaDoorSortB
namespace Go.Proofs.YtgjlcjbmcnofiaaDoor
set_option linter.unusedVariables false
set_option linter.unusedSimpArgs false
open Go.RowKit
def ltB (a1 a2 b1 b2 : Int) : Bool := decide (a1 < b1) || (a1 == b1 && decide (a2 < b2))
theorem ltB_iff (a1 a2 b1 b2 : Int) : ltB a1 a2 b1 b2 = true ↔ keyLt (a1, a2) (b1, b2) := by
  unfold ltB keyLt
  simp
set_option maxRecDepth 100000 in
set_option maxHeartbeats 2000000 in
theorem rLess_any (a1 a2 b1 b2 : Int) (w : World) : Calls Tryd.prog 38 #[.agg #[.int .u64 a1, .int .i64 a2], .agg #[.int .u64 b1, .int .i64 b2]] w fun e w' => e = .returned (.bool (ltB a1 a2 b1 b2)) ∧ Below w.heap.size w w' := by
  have hb := ba (ba (br w) (.cells #[.int .u64 a1, .int .i64 a2] 38)) (.cells #[.int .u64 b1, .int .i64 b2] 38)
  have HB := Lib.hid hb
  clear hb
  obtain ⟨v, hv⟩ : ∃ v, v = ltB a1 a2 b1 b2 := ⟨_, rfl⟩
  rw [← hv]
  unfold ltB at hv
  by_cases h1 : a1 < b1
  · have k1 : decide (a1 < b1) = true := by simpa using h1
    obtain rfl : v = true := by rw [hv, k1]; rfl
    clear h1 hv
    go_enter Tryd.func38, Tryd.ntmps38
    go_wp2
    go_ret
    exact ⟨rfl, HB.out⟩
  · have k1 : decide (a1 < b1) = false := by simpa using h1
    by_cases h2 : a1 = b1
    · have k2 : (a1 == b1) = true := by simpa using h2
      by_cases h3 : a2 < b2
      · have k3 : decide (a2 < b2) = true := by simpa using h3
        obtain rfl : v = true := by rw [hv, k1, k2, k3]; rfl
        clear h1 h2 h3 hv
        go_enter Tryd.func38, Tryd.ntmps38
        go_wp2
        go_ret
        exact ⟨rfl, HB.out⟩
      · have k3 : decide (a2 < b2) = false := by simpa using h3
        obtain rfl : v = false := by rw [hv, k1, k2, k3]; rfl
        clear h1 h2 h3 hv
        go_enter Tryd.func38, Tryd.ntmps38
        go_wp2
        go_ret
        exact ⟨rfl, HB.out⟩
    · have k2 : (a1 == b1) = false := by simpa using h2
      obtain rfl : v = false := by rw [hv, k1, k2]; rfl
      clear h1 h2 hv
      go_enter Tryd.func38, Tryd.ntmps38
      go_wp2
      go_ret
      exact ⟨rfl, HB.out⟩
theorem ltB_ltM (a b : Msg) : ltB a.stamp a.frm b.stamp b.frm = ltM a b := by
  rw [Bool.eq_iff_iff, ltB_iff, ltM_iff]; rfl
set_option maxRecDepth 100000 in
set_option maxHeartbeats 2000000 in
theorem rOf_any (m : Msg) (w : World) : Calls Tryd.prog 39 #[.agg (msgA m)] w fun e w' => e = .returned (.agg #[.int .u64 (m.stamp : Int), .int .i64 m.frm]) ∧ Below w.heap.size w w' := by
  obtain ⟨a, b, c, d, e, f, g, h⟩ := m
  have hb := ba (ba (br w) (.cells #[.int .i64 a, .int .u32 (b : Int), .int .u64 (c : Int), .int .i64 d, .slice g e.length h, .string f] 42)) (.cells #[.int .u64 (c : Int), .int .i64 a] 38)
  show Calls Tryd.prog 39 #[.agg #[.int .i64 a, .int .u32 (b : Int), .int .u64 (c : Int), .int .i64 d, .slice g e.length h, .string f]] w _
  go_enter Tryd.func39, Tryd.ntmps39
  go_wp2
  refine bodyPost_ret (v := .agg #[.int .u64 (c : Int), .int .i64 a]) (by simp [results, Tryd.results39, go_sem]) rfl ⟨rfl, ?_⟩
  exact hb
end Go.Proofs.YtgjlcjbmcnofiaaDoor
