/-
  The law HoldCopies, ready for its row.
  Conditions: none.
-/
import Derived.Test.YtnjcebkdkklidaaHoldP
namespace Go.Proofs.Ytnjcebkdkklidaa
set_option linter.unusedVariables false
set_option linter.unusedSimpArgs false
open Go.RowKit Go.ChangeShapes Go.WideShapes Go.Deep
theorem row_holdCopies {H : Type} {enc : TypeId × Value → H} {r : Reach} {b0 base : Nat} {spare : Nat → Bool} {held : Bool} {d : DataW H} {p : List MemPlace} (v : Value) (at0 : Int) (W : World)
    (hv : Value.okWide Try.prog W r b0 22 v) (h : DataW.Trod enc Try.prog W base spare held 22 v d p) (hb : -9223372036854775808 ≤ at0 ∧ at0 ≤ 9223372036854775807) :
    Calls Try.prog 6 #[v, .int .i64 at0] W fun e w' => e = .returned (.bool true) ∧ Below W.heap.size W w' := by
  obtain ⟨l, hl⟩ := acts_arg hv h
  exact law_holdCopies v l at0 W hl
end Go.Proofs.Ytnjcebkdkklidaa
