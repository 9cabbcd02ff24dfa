/-
  The law DiskPlays, ready for its row.
  Conditions: none.
-/
import Derived.Test.YtchonlodehogpaaDiskR
import Derived.Test.YtchonlodehogpaaDiskQ
namespace Go.Proofs.Ytchonlodehogpaa
set_option linter.unusedVariables false
open Go.RowKit Go.ChangeShapes Go.WideShapes Go.Deep
theorem row_diskPlays {H : Type} {enc : TypeId × Value → H} {r : Reach} {b0 base : Nat} {spare : Nat → Bool} {held : Bool} {d : DataW H} {p : List MemPlace} (v : Value) (W : World)
    (hv : Value.okWide Try.prog W r b0 49 v) (h : DataW.Trod enc Try.prog W base spare held 49 v d p) :
    Calls Try.prog 13 #[v] W fun e w' => e = .returned (.bool true) ∧ Below W.heap.size W w' := by
  obtain ⟨l, hl⟩ := acts_of W hv h
  exact law_diskPlays v l W hl
end Go.Proofs.Ytchonlodehogpaa
