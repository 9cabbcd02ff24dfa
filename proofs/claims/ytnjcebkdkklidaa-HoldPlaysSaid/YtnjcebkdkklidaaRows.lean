/-
  No cell of these rows narrows 'for every input' (looked for: loops, veiled, ifaces, maps, wideKeys, modest, calm, conditions, laid).
  DERIVED. THE GIVEN ROWS OF THIS SEAT. 4 by the template 'for every input the law returns true; each argument reads behind the call as it read before'; 0 by the template 'total and deterministic' (their statements: YtnjcebkdkklidaaTotals.lean).
  GIVEN WITH THE SEED: the statements are not yours to turn. If you find one false, say at which input.
  Laid BY PROGRAM, IN A SANDBOX (cutbox-rows.mjs): the forced cells as the released guide's own fill.sh prints them over the translation a3f80bf09ed83eda… (all of the seat's roots in one cut). By AI agents, Wed Nov 11 2026. No macro, syntax, notation, axiom, sorry.
-/
import Derived.Test.YtnjcebkdkklidaaChecked
import GoSem.Claim
import GoSem.ClaimJoined
import GoSem.ClaimMapViews
import Derived.JoinedTies
import Derived.KernelRfl
namespace Go.Proofs.Ytnjcebkdkklidaa
/- THE CELL 'sum', in the pinned program and in every row, IS THE sha256 OF THE DUMP (.gsa) THAT YtnjcebkdkklidaaProg.lean LOADS. Nothing in Lean hashes anything: it is a label: what it is worth is what the hold of that sum in a sandbox is worth. -/
noncomputable def Try.pinned : Pinned := { name := "ytnjcebkdkklidaa", sum := "a3f80bf09ed83edab9cc21963f20b2347d4c03fd9ed91b2cd7e03af9a82e57c6", checked := Try.checked }
namespace Rows
def none {H : Type} : Left H := { results := [], args := [] }

/-- 'consortlaw12.HoldPlays': WHATEVER THE INPUT: true; the input reads as it did. -/
def holdPlaysSpec : ChangeSpec := { name := "holdPlays", fn := fun _ => fun
  | [d1, d2, d3, d4, d5] => { results := [.lit (.bool true)], args := [d1, d2, d3, d4, d5] }
  | _ => none }
def holdPlaysRow : OpenClaim := { program := "ytnjcebkdkklidaa", sum := "a3f80bf09ed83edab9cc21963f20b2347d4c03fd9ed91b2cd7e03af9a82e57c6", func := "consort/consortlaw12.HoldPlays", spec := "holdPlays", unfollowed := true, recurses := true, apart := false }
def HoldPlaysSaid : Prop := holdPlaysRow.holds Try.pinned (OpenSpec.ofChange holdPlaysSpec)

/-- ITS FALSE NEIGHBOUR: 'it returns false'. Refute it at one input. -/
def holdPlaysWrong : ChangeSpec := { name := "holdPlays", fn := fun _ => fun
  | [d1, d2, d3, d4, d5] => { results := [.lit (.bool false)], args := [d1, d2, d3, d4, d5] }
  | _ => none }
def HoldPlaysWrongFalsely : Prop := holdPlaysRow.holds Try.pinned (OpenSpec.ofChange holdPlaysWrong)

/-- 'consortlaw12.HoldBack': WHATEVER THE INPUT: true; the input reads as it did. -/
def holdBackSpec : ChangeSpec := { name := "holdBack", fn := fun _ => fun
  | [d1, d2] => { results := [.lit (.bool true)], args := [d1, d2] }
  | _ => none }
def holdBackRow : OpenClaim := { program := "ytnjcebkdkklidaa", sum := "a3f80bf09ed83edab9cc21963f20b2347d4c03fd9ed91b2cd7e03af9a82e57c6", func := "consort/consortlaw12.HoldBack", spec := "holdBack", unfollowed := true, recurses := true, apart := false }
def HoldBackSaid : Prop := holdBackRow.holds Try.pinned (OpenSpec.ofChange holdBackSpec)

/-- ITS FALSE NEIGHBOUR: 'it returns false'. Refute it at one input. -/
def holdBackWrong : ChangeSpec := { name := "holdBack", fn := fun _ => fun
  | [d1, d2] => { results := [.lit (.bool false)], args := [d1, d2] }
  | _ => none }
def HoldBackWrongFalsely : Prop := holdBackRow.holds Try.pinned (OpenSpec.ofChange holdBackWrong)

/-- 'consortlaw12.HoldAbove': WHATEVER THE INPUT: true; the input reads as it did. -/
def holdAboveSpec : ChangeSpec := { name := "holdAbove", fn := fun _ => fun
  | [d1, d2] => { results := [.lit (.bool true)], args := [d1, d2] }
  | _ => none }
def holdAboveRow : OpenClaim := { program := "ytnjcebkdkklidaa", sum := "a3f80bf09ed83edab9cc21963f20b2347d4c03fd9ed91b2cd7e03af9a82e57c6", func := "consort/consortlaw12.HoldAbove", spec := "holdAbove", unfollowed := true, recurses := true, apart := false }
def HoldAboveSaid : Prop := holdAboveRow.holds Try.pinned (OpenSpec.ofChange holdAboveSpec)

/-- ITS FALSE NEIGHBOUR: 'it returns false'. Refute it at one input. -/
def holdAboveWrong : ChangeSpec := { name := "holdAbove", fn := fun _ => fun
  | [d1, d2] => { results := [.lit (.bool false)], args := [d1, d2] }
  | _ => none }
def HoldAboveWrongFalsely : Prop := holdAboveRow.holds Try.pinned (OpenSpec.ofChange holdAboveWrong)

/-- 'consortlaw12.HoldCopies': WHATEVER THE INPUT: true; the input reads as it did. -/
def holdCopiesSpec : ChangeSpec := { name := "holdCopies", fn := fun _ => fun
  | [d1, d2] => { results := [.lit (.bool true)], args := [d1, d2] }
  | _ => none }
def holdCopiesRow : OpenClaim := { program := "ytnjcebkdkklidaa", sum := "a3f80bf09ed83edab9cc21963f20b2347d4c03fd9ed91b2cd7e03af9a82e57c6", func := "consort/consortlaw12.HoldCopies", spec := "holdCopies", unfollowed := true, recurses := true, apart := false }
def HoldCopiesSaid : Prop := holdCopiesRow.holds Try.pinned (OpenSpec.ofChange holdCopiesSpec)

/-- ITS FALSE NEIGHBOUR: 'it returns false'. Refute it at one input. -/
def holdCopiesWrong : ChangeSpec := { name := "holdCopies", fn := fun _ => fun
  | [d1, d2] => { results := [.lit (.bool false)], args := [d1, d2] }
  | _ => none }
def HoldCopiesWrongFalsely : Prop := holdCopiesRow.holds Try.pinned (OpenSpec.ofChange holdCopiesWrong)

/- THE SECOND FORM. 'bulk': how many values and letters a reading holds, each counted each time it is reached (what is shared counts as often as it is met; a slice's spare places count too). A statement '..UptoSaid' is the law's where the arguments, and the package variables that the reading takes, are together of bulk at most 1048576: NARROWER than '..Said'. Prove '..Said' where nothing that the law and all that it calls make is longer than what came in: it says more and counts as full. Else prove '..UptoSaid'. A law counts once. -/
mutual
def uptoBulk {H : Type} : DataW H → Nat
  | .lit (.string bytes) => bytes.length + 1
  | .lit _ => 1
  | .nil => 1
  | .ptr d => uptoBulk d + 1
  | .slice elems spare => uptoBulkAll elems + uptoBulkAll spare + 1
  | .agg parts => uptoBulkAll parts + 1
  | .iface _ d => uptoBulk d + 1
  | .map entries => uptoBulkEntries entries + 1
  | .held _ => 1
def uptoBulkAll {H : Type} : List (DataW H) → Nat
  | [] => 0
  | d :: r => uptoBulk d + uptoBulkAll r
def uptoBulkEntries {H : Type} : List (Lit × DataW H) → Nat
  | [] => 0
  | x :: r => uptoBulkEntry x + uptoBulkEntries r
def uptoBulkEntry {H : Type} : Lit × DataW H → Nat
  | (.string bytes, d) => bytes.length + uptoBulk d + 1
  | (_, d) => uptoBulk d + 1
 end
def uptoSmall : (H : Type) → List (DataW H) → Bool := fun _ ds => decide (uptoBulkAll ds ≤ 1048576)
def OpenSpec.upto (s : _root_.Go.ChangeSpec) : _root_.Go.OpenSpec := { _root_.Go.OpenSpec.ofChange s with cond := some uptoSmall }

/-- 'consortlaw12.HoldPlays', WHERE WHAT IT READS IS OF BULK AT MOST 1048576: true; the input reads as it did. -/
def holdPlaysUptoRow : OpenClaim := { program := "ytnjcebkdkklidaa", sum := "a3f80bf09ed83edab9cc21963f20b2347d4c03fd9ed91b2cd7e03af9a82e57c6", func := "consort/consortlaw12.HoldPlays", spec := "holdPlays", unfollowed := true, recurses := true, apart := false, narrowed := true }
def HoldPlaysUptoSaid : Prop := holdPlaysUptoRow.holds Try.pinned (OpenSpec.upto holdPlaysSpec)

/-- 'consortlaw12.HoldBack', WHERE WHAT IT READS IS OF BULK AT MOST 1048576: true; the input reads as it did. -/
def holdBackUptoRow : OpenClaim := { program := "ytnjcebkdkklidaa", sum := "a3f80bf09ed83edab9cc21963f20b2347d4c03fd9ed91b2cd7e03af9a82e57c6", func := "consort/consortlaw12.HoldBack", spec := "holdBack", unfollowed := true, recurses := true, apart := false, narrowed := true }
def HoldBackUptoSaid : Prop := holdBackUptoRow.holds Try.pinned (OpenSpec.upto holdBackSpec)

/-- 'consortlaw12.HoldAbove', WHERE WHAT IT READS IS OF BULK AT MOST 1048576: true; the input reads as it did. -/
def holdAboveUptoRow : OpenClaim := { program := "ytnjcebkdkklidaa", sum := "a3f80bf09ed83edab9cc21963f20b2347d4c03fd9ed91b2cd7e03af9a82e57c6", func := "consort/consortlaw12.HoldAbove", spec := "holdAbove", unfollowed := true, recurses := true, apart := false, narrowed := true }
def HoldAboveUptoSaid : Prop := holdAboveUptoRow.holds Try.pinned (OpenSpec.upto holdAboveSpec)

/-- 'consortlaw12.HoldCopies', WHERE WHAT IT READS IS OF BULK AT MOST 1048576: true; the input reads as it did. -/
def holdCopiesUptoRow : OpenClaim := { program := "ytnjcebkdkklidaa", sum := "a3f80bf09ed83edab9cc21963f20b2347d4c03fd9ed91b2cd7e03af9a82e57c6", func := "consort/consortlaw12.HoldCopies", spec := "holdCopies", unfollowed := true, recurses := true, apart := false, narrowed := true }
def HoldCopiesUptoSaid : Prop := holdCopiesUptoRow.holds Try.pinned (OpenSpec.upto holdCopiesSpec)

end Rows
end Go.Proofs.Ytnjcebkdkklidaa
