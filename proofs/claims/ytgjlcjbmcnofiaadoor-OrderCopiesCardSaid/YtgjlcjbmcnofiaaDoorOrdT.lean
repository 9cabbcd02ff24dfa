/-
  OrderCopies, ready for its row.
  Conditions: the table of math/bits, as the row lists it.
-/
import Derived.Test.YtgjlcjbmcnofiaaDoorOrdS
import Derived.Test.YtgjlcjbmcnofiaaDoorOrdN
namespace Go.Proofs.YtgjlcjbmcnofiaaDoor
open Go.ChangeShapes Go.WideShapes Go.ChangeAt Go.WideMaps Go.WideElems Go.RowKit
set_option linter.unusedVariables false
set_option linter.unusedSimpArgs false
section
variable {H : Type} {enc : TypeId × Value → H} {base : Nat} {spare : Nat → Bool} {held : Bool}
set_option maxRecDepth 100000 in
theorem orderCopies_row (a0 : Int) (v1 : Value) (a2 : Int) (W : World) {r : Reach} {b0 : Nat} {d : DataW H} {p : List MemPlace} (h0 : 0 ≤ a0 ∧ a0 ≤ 18446744073709551615)
    (hv : Value.okWide Tryd.prog W r b0 44 v1) (h1 : DataW.Trod enc Tryd.prog W base spare held 44 v1 d p) (h2 : -9223372036854775808 ≤ a2 ∧ a2 ≤ 9223372036854775807) (hL : laidMetH Tryd.prog laidB W) :
    Calls Tryd.prog 7 #[.int .u64 a0, v1, .int .i64 a2] W fun e w' => e = .returned (.bool true) ∧ Below W.heap.size W w' := by
  obtain ⟨n, rfl⟩ := Int.eq_ofNat_of_zero_le h0.1
  obtain ⟨l, hl⟩ := acts_arg hv h1
  exact law_orderCopies n v1 l a2 W (by omega) (tab_of_laid hL) hl
end
end Go.Proofs.YtgjlcjbmcnofiaaDoor
