/-
  The law StreamOrders, ready for its row.
  Conditions: none.
-/
import Derived.Test.YtodlmboagbjcbaaStreamV
namespace Go.Proofs.Ytodlmboagbjcbaa
set_option linter.unusedVariables false
open Go.RowKit Go.ChangeShapes Go.WideShapes Go.Deep
theorem row_streamOrders {H : Type} {enc : TypeId × Value → H} {r : Reach} {b0 base : Nat} {spare : Nat → Bool} {held : Bool} {d : DataW H} {p : List MemPlace} (size : Int) (v : Value) (W : World)
    (hv : Value.okWide Try.prog W r b0 22 v) (h : DataW.Trod enc Try.prog W base spare held 22 v d p) :
    Calls Try.prog 4 #[.int .i64 size, v] W fun e w' => e = .returned (.bool true) ∧ Below W.heap.size W w' := by
  obtain ⟨l, hl⟩ := msgs_arg hv h
  exact law_streamOrders size v l W hl
end Go.Proofs.Ytodlmboagbjcbaa
