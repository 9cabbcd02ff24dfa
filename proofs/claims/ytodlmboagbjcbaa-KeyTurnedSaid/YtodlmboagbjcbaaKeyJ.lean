/-
  The law KeyTurned, ready for its row.
  Conditions: none.
-/
import Derived.Test.YtodlmboagbjcbaaKeyI
namespace Go.Proofs.Ytodlmboagbjcbaa
set_option linter.unusedVariables false
open Go.RowKit Go.ChangeShapes Go.WideShapes Go.Deep
theorem row_keyTurned {H : Type} {enc : TypeId × Value → H} {r : Reach} {b0 b1 base base1 : Nat} {spare spare1 : Nat → Bool} {held held1 : Bool} {d d1 : DataW H} {p p1 : List MemPlace} (v v1 : Value) (t : Int) (W : World)
    (hv : Value.okWide Try.prog W r b0 67 v) (h : DataW.Trod enc Try.prog W base spare held 67 v d p) (hv1 : Value.okWide Try.prog W r b1 68 v1) (h1 : DataW.Trod enc Try.prog W base1 spare1 held1 68 v1 d1 p1) (ht : -9223372036854775808 ≤ t ∧ t ≤ 9223372036854775807) :
    Calls Try.prog 12 #[v, v1, .int .i64 t] W fun e w' => e = .returned (.bool true) ∧ Below W.heap.size W w' := by
  obtain ⟨ad, cap, l, rfl, hr⟩ := keys_arg hv h
  obtain ⟨md, mcap, m, rfl, hm⟩ := confs_arg hv1 h1
  exact law_keyTurned l m ad md cap mcap t W hr hm ht.2
end Go.Proofs.Ytodlmboagbjcbaa
