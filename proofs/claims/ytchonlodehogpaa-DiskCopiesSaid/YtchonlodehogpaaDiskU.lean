/-
  The law DiskCopies, ready for its row.
  Conditions: none.
-/
import Derived.Test.YtchonlodehogpaaDiskR
import Derived.Test.YtchonlodehogpaaDiskP
namespace Go.Proofs.Ytchonlodehogpaa
set_option linter.unusedVariables false
open Go.RowKit Go.ChangeShapes Go.WideShapes Go.Deep
theorem row_diskCopies {H : Type} {enc : TypeId × Value → H} {r : Reach} {b0 base : Nat} {spare : Nat → Bool} {held : Bool} {d : DataW H} {p : List MemPlace} (v : Value) (at0 : Int) (W : World)
    (hv : Value.okWide Try.prog W r b0 49 v) (h : DataW.Trod enc Try.prog W base spare held 49 v d p) :
    Calls Try.prog 16 #[v, .int .i64 at0] W fun e w' => e = .returned (.bool true) ∧ Below W.heap.size W w' := by
  obtain ⟨l, hl⟩ := acts_of W hv h
  exact law_diskCopies v l at0 W hl
end Go.Proofs.Ytchonlodehogpaa
