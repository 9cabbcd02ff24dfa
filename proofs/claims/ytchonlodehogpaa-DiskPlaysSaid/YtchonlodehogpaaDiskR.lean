/-
  An argument that is a slice of acts, opened for the laws' walks.
  Conditions: none.
-/
import Derived.Test.YtchonlodehogpaaDiskL
import Derived.Test.YtchonlodehogpaaChecked
namespace Go.Proofs.Ytchonlodehogpaa
set_option linter.unusedVariables false
open Go.RowKit Go.ChangeShapes Go.WideShapes Go.Deep
theorem acts_of {H : Type} {enc : TypeId × Value → H} {r : Reach} {b0 base : Nat} {spare : Nat → Bool} {held : Bool} {v : Value} {d : DataW H} {p : List MemPlace} (W : World)
    (hv : Value.okWide Try.prog W r b0 49 v) (h : DataW.Trod enc Try.prog W base spare held 49 v d p) : ∃ l, ActsAt W v l :=
  acts_open Try.underlying49 Try.underlying56 (by kernel_rfl) rfl rfl rfl (by kernel_rfl) (by kernel_rfl) (by kernel_rfl) Try.underlying9 Try.underlying4 Try.underlying3 hv h
theorem row_diskLast {H : Type} {enc : TypeId × Value → H} {r : Reach} {b0 base : Nat} {spare : Nat → Bool} {held : Bool} {d : DataW H} {p : List MemPlace} (v : Value) (W : World)
    (hv : Value.okWide Try.prog W r b0 49 v) (h : DataW.Trod enc Try.prog W base spare held 49 v d p) :
    Calls Try.prog 14 #[v] W fun e w' => e = .returned (.bool true) ∧ Below W.heap.size W w' := by
  obtain ⟨l, hl⟩ := acts_of W hv h
  exact law_diskLast v l W hl
end Go.Proofs.Ytchonlodehogpaa
