/-
  The law StreamPlays, ready for its row.
  Conditions: none.
-/
import Derived.Test.YtodlmboagbjcbaaStreamI
namespace Go.Proofs.Ytodlmboagbjcbaa
set_option linter.unusedVariables false
open Go.RowKit Go.ChangeShapes Go.WideShapes Go.Deep
theorem row_streamPlays {H : Type} {enc : TypeId × Value → H} {r : Reach} {b0 base : Nat} {spare : Nat → Bool} {held : Bool} {d : DataW H} {p : List MemPlace} (size : Int) (v : Value) (a : Int) (W : World)
    (hv : Value.okWide Try.prog W r b0 22 v) (h : DataW.Trod enc Try.prog W base spare held 22 v d p) (ha : 0 ≤ a ∧ a ≤ 4294967295) :
    Calls Try.prog 3 #[.int .i64 size, v, .int .u32 a] W fun e w' => e = .returned (.bool true) ∧ Below W.heap.size W w' := by
  obtain ⟨u, rfl⟩ := Int.eq_ofNat_of_zero_le ha.1
  obtain ⟨l, hl⟩ := msgs_arg hv h
  exact law_streamPlays size v l u W hl (by omega)
end Go.Proofs.Ytodlmboagbjcbaa
