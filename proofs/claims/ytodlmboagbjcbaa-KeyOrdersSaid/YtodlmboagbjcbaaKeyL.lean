/-
  Two keys compared by their fields.
  Conditions: none.
-/
import Derived.Test.YtodlmboagbjcbaaKeyI
namespace Go.Proofs.Ytodlmboagbjcbaa
set_option linter.unusedVariables false
set_option linter.unusedSimpArgs false
open Go.RowKit
set_option maxRecDepth 100000 in
theorem eqKey_run (a1 a2 b1 b2 : Int) (W : World) : (Go.binOp .eql 56 (.agg #[.int .u64 a1, .int .i64 a2]) (.agg #[.int .u64 b1, .int .i64 b2])).run Try.prog W = .ok (.bool (a1 == b1 && a2 == b2)) W := by
  by_cases h1 : a1 = b1
  · by_cases h2 : a2 = b2
    · have d1 : (a1 == b1) = true := by simpa using h1
      have d2 : (a2 == b2) = true := by simpa using h2
      rw [d1, d2]
      go_simp
    · have d1 : (a1 == b1) = true := by simpa using h1
      have d2 : (a2 == b2) = false := by simpa using h2
      rw [d1, d2]
      go_simp
  · have d1 : (a1 == b1) = false := by simpa using h1
    rw [d1]
    go_simp
end Go.Proofs.Ytodlmboagbjcbaa
