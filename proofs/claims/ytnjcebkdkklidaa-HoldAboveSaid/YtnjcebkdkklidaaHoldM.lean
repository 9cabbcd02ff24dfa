/-
  The law HoldAbove, ready for its row.
  Conditions: none.
-/
import Derived.Test.YtnjcebkdkklidaaHoldL
namespace Go.Proofs.Ytnjcebkdkklidaa
set_option linter.unusedVariables false
set_option linter.unusedSimpArgs false
open Go.RowKit Go.ChangeShapes Go.WideShapes Go.Deep
theorem row_holdAbove {H : Type} {enc : TypeId × Value → H} {r : Reach} {b0 base : Nat} {spare : Nat → Bool} {held : Bool} {d : DataW H} {p : List MemPlace} (v : Value) (a b : Int) (W : World)
    (hv : Value.okWide Try.prog W r b0 22 v) (h : DataW.Trod enc Try.prog W base spare held 22 v d p) :
    Calls Try.prog 5 #[v, .agg #[.int .u64 a, .int .i64 b]] W fun e w' => e = .returned (.bool true) ∧ Below W.heap.size W w' := by
  obtain ⟨l, hl⟩ := acts_arg hv h
  exact law_holdAbove v l a b W hl
end Go.Proofs.Ytnjcebkdkklidaa
