/-
  The law HoldPlays, ready for its row.
  Conditions: none.
-/
import Derived.Test.YtnjcebkdkklidaaHoldX
namespace Go.Proofs.Ytnjcebkdkklidaa
set_option linter.unusedVariables false
set_option linter.unusedSimpArgs false
open Go.RowKit Go.ChangeShapes Go.WideShapes Go.Deep
theorem row_holdPlays {H : Type} {enc : TypeId × Value → H} {r : Reach} {b0 base : Nat} {spare : Nat → Bool} {held : Bool} {d : DataW H} {q : List MemPlace} (v : Value) (p sq most a b : Int) (W : World)
    (hv : Value.okWide Try.prog W r b0 22 v) (h : DataW.Trod enc Try.prog W base spare held 22 v d q) (hp : -9223372036854775808 ≤ p ∧ p ≤ 9223372036854775807) (hs : 0 ≤ sq ∧ sq ≤ 4294967295) (hm : -9223372036854775808 ≤ most ∧ most ≤ 9223372036854775807) :
    Calls Try.prog 3 #[v, .int .i64 p, .int .u32 sq, .int .i64 most, .agg #[.int .u64 a, .int .i64 b]] W fun e w' => e = .returned (.bool true) ∧ Below W.heap.size W w' := by
  obtain ⟨l, hl⟩ := acts_arg hv h
  have h1 := law_holdPlays v l p sq.toNat most a b W hl hm
  rw [show ((sq.toNat : Nat) : Int) = sq from by omega] at h1
  exact h1
end Go.Proofs.Ytnjcebkdkklidaa
