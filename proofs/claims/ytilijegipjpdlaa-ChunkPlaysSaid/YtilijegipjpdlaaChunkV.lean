/-
  The law ChunkPlays, ready for its row.
  Conditions: none.
-/
import Derived.Test.YtilijegipjpdlaaChunkU
namespace Go.Proofs.Ytilijegipjpdlaa
set_option linter.unusedVariables false
open Go.RowKit Go.ChangeShapes Go.WideShapes Go.Deep
theorem row_chunkPlays {H : Type} {enc : TypeId × Value → H} {r : Reach} {b0 base : Nat} {spare : Nat → Bool} {held : Bool} {d : DataW H} {p : List MemPlace} (a : Int) (v : Value) (W : World) (ha : 0 ≤ a ∧ a ≤ 18446744073709551615)
    (hv : Value.okWide Try.prog W r b0 24 v) (h : DataW.Trod enc Try.prog W base spare held 24 v d p) :
    Calls Try.prog 5 #[.int .u64 a, v] W fun e w' => e = .returned (.bool true) ∧ Below W.heap.size W w' := by
  obtain ⟨n, rfl⟩ := Int.eq_ofNat_of_zero_le ha.1
  obtain ⟨l, hl⟩ := logs_arg hv h
  exact law_chunkPlays n v l W (by omega) hl
end Go.Proofs.Ytilijegipjpdlaa
