/-
  No cell of these rows narrows 'for every input' (looked for: loops, veiled, ifaces, maps, wideKeys, modest, calm, conditions, laid).
  DERIVED. THE GIVEN ROWS OF THIS SEAT. 10 by the template 'for every input the law returns true; each argument reads behind the call as it read before'; 0 by the template 'total and deterministic' (their statements: YtodlmboagbjcbaaTotals.lean).
  GIVEN WITH THE SEED: the statements are not yours to turn. If you find one false, say at which input.
  Laid BY PROGRAM, IN A SANDBOX (cutbox-rows.mjs): the forced cells as the released guide's own fill.sh prints them over the translation e334d378100f6f60… (all of the seat's roots in one cut). By AI agents, Wed Nov 11 2026. No macro, syntax, notation, axiom, sorry.
-/
import Derived.Test.YtodlmboagbjcbaaChecked
import GoSem.Claim
import GoSem.ClaimJoined
import GoSem.ClaimMapViews
import Derived.JoinedTies
import Derived.KernelRfl
namespace Go.Proofs.Ytodlmboagbjcbaa
/- THE CELL 'sum', in the pinned program and in every row, IS THE sha256 OF THE DUMP (.gsa) THAT YtodlmboagbjcbaaProg.lean LOADS. Nothing in Lean hashes anything: it is a label: what it is worth is what the hold of that sum in a sandbox is worth. -/
noncomputable def Try.pinned : Pinned := { name := "ytodlmboagbjcbaa", sum := "e334d378100f6f60b53dfedb89bacbcdd8c89818d55734ada9cc033be830a6f8", checked := Try.checked }
namespace Rows
def none {H : Type} : Left H := { results := [], args := [] }

/-- 'consortlaw10.StreamPlays': WHATEVER THE INPUT: true; the input reads as it did. -/
def streamPlaysSpec : ChangeSpec := { name := "streamPlays", fn := fun _ => fun
  | [d1, d2, d3] => { results := [.lit (.bool true)], args := [d1, d2, d3] }
  | _ => none }
def streamPlaysRow : OpenClaim := { program := "ytodlmboagbjcbaa", sum := "e334d378100f6f60b53dfedb89bacbcdd8c89818d55734ada9cc033be830a6f8", func := "consort/consortlaw10.StreamPlays", spec := "streamPlays", apart := false }
def StreamPlaysSaid : Prop := streamPlaysRow.holds Try.pinned (OpenSpec.ofChange streamPlaysSpec)

/-- ITS FALSE NEIGHBOUR: 'it returns false'. Refute it at one input. -/
def streamPlaysWrong : ChangeSpec := { name := "streamPlays", fn := fun _ => fun
  | [d1, d2, d3] => { results := [.lit (.bool false)], args := [d1, d2, d3] }
  | _ => none }
def StreamPlaysWrongFalsely : Prop := streamPlaysRow.holds Try.pinned (OpenSpec.ofChange streamPlaysWrong)

/-- 'consortlaw10.StreamOrders': WHATEVER THE INPUT: true; the input reads as it did. -/
def streamOrdersSpec : ChangeSpec := { name := "streamOrders", fn := fun _ => fun
  | [d1, d2] => { results := [.lit (.bool true)], args := [d1, d2] }
  | _ => none }
def streamOrdersRow : OpenClaim := { program := "ytodlmboagbjcbaa", sum := "e334d378100f6f60b53dfedb89bacbcdd8c89818d55734ada9cc033be830a6f8", func := "consort/consortlaw10.StreamOrders", spec := "streamOrders", apart := false }
def StreamOrdersSaid : Prop := streamOrdersRow.holds Try.pinned (OpenSpec.ofChange streamOrdersSpec)

/-- ITS FALSE NEIGHBOUR: 'it returns false'. Refute it at one input. -/
def streamOrdersWrong : ChangeSpec := { name := "streamOrders", fn := fun _ => fun
  | [d1, d2] => { results := [.lit (.bool false)], args := [d1, d2] }
  | _ => none }
def StreamOrdersWrongFalsely : Prop := streamOrdersRow.holds Try.pinned (OpenSpec.ofChange streamOrdersWrong)

/-- 'consortlaw10.StreamWhole': WHATEVER THE INPUT: true; the input reads as it did. -/
def streamWholeSpec : ChangeSpec := { name := "streamWhole", fn := fun _ => fun
  | [d1, d2] => { results := [.lit (.bool true)], args := [d1, d2] }
  | _ => none }
def streamWholeRow : OpenClaim := { program := "ytodlmboagbjcbaa", sum := "e334d378100f6f60b53dfedb89bacbcdd8c89818d55734ada9cc033be830a6f8", func := "consort/consortlaw10.StreamWhole", spec := "streamWhole", apart := false }
def StreamWholeSaid : Prop := streamWholeRow.holds Try.pinned (OpenSpec.ofChange streamWholeSpec)

/-- ITS FALSE NEIGHBOUR: 'it returns false'. Refute it at one input. -/
def streamWholeWrong : ChangeSpec := { name := "streamWhole", fn := fun _ => fun
  | [d1, d2] => { results := [.lit (.bool false)], args := [d1, d2] }
  | _ => none }
def StreamWholeWrongFalsely : Prop := streamWholeRow.holds Try.pinned (OpenSpec.ofChange streamWholeWrong)

/-- 'consortlaw10.StreamCopies': WHATEVER THE INPUT: true; the input reads as it did. -/
def streamCopiesSpec : ChangeSpec := { name := "streamCopies", fn := fun _ => fun
  | [d1, d2, d3] => { results := [.lit (.bool true)], args := [d1, d2, d3] }
  | _ => none }
def streamCopiesRow : OpenClaim := { program := "ytodlmboagbjcbaa", sum := "e334d378100f6f60b53dfedb89bacbcdd8c89818d55734ada9cc033be830a6f8", func := "consort/consortlaw10.StreamCopies", spec := "streamCopies", inPlace := ["maps.clone"], apart := false }
def StreamCopiesSaid : Prop := streamCopiesRow.holds Try.pinned (OpenSpec.ofChange streamCopiesSpec)

/-- ITS FALSE NEIGHBOUR: 'it returns false'. Refute it at one input. -/
def streamCopiesWrong : ChangeSpec := { name := "streamCopies", fn := fun _ => fun
  | [d1, d2, d3] => { results := [.lit (.bool false)], args := [d1, d2, d3] }
  | _ => none }
def StreamCopiesWrongFalsely : Prop := streamCopiesRow.holds Try.pinned (OpenSpec.ofChange streamCopiesWrong)

/-- 'consortlaw03.KeySorts': WHATEVER THE INPUT: true; the input reads as it did. -/
def keySortsSpec : ChangeSpec := { name := "keySorts", fn := fun _ => fun
  | [d] => { results := [.lit (.bool true)], args := [d] }
  | _ => none }
def keySortsRow : OpenClaim := { program := "ytodlmboagbjcbaa", sum := "e334d378100f6f60b53dfedb89bacbcdd8c89818d55734ada9cc033be830a6f8", func := "consort/consortlaw03.KeySorts", spec := "keySorts", unfollowed := true, recurses := true, apart := false }
def KeySortsSaid : Prop := keySortsRow.holds Try.pinned (OpenSpec.ofChange keySortsSpec)

/-- ITS FALSE NEIGHBOUR: 'it returns false'. Refute it at one input. -/
def keySortsWrong : ChangeSpec := { name := "keySorts", fn := fun _ => fun
  | [d] => { results := [.lit (.bool false)], args := [d] }
  | _ => none }
def KeySortsWrongFalsely : Prop := keySortsRow.holds Try.pinned (OpenSpec.ofChange keySortsWrong)

/-- 'consortlaw03.KeyTotal': WHATEVER THE INPUT: true; the input reads as it did. -/
def keyTotalSpec : ChangeSpec := { name := "keyTotal", fn := fun _ => fun
  | [d1, d2, d3, d4, d5, d6] => { results := [.lit (.bool true)], args := [d1, d2, d3, d4, d5, d6] }
  | _ => none }
def keyTotalRow : OpenClaim := { program := "ytodlmboagbjcbaa", sum := "e334d378100f6f60b53dfedb89bacbcdd8c89818d55734ada9cc033be830a6f8", func := "consort/consortlaw03.KeyTotal", spec := "keyTotal", unfollowed := true, recurses := true, apart := false }
def KeyTotalSaid : Prop := keyTotalRow.holds Try.pinned (OpenSpec.ofChange keyTotalSpec)

/-- ITS FALSE NEIGHBOUR: 'it returns false'. Refute it at one input. -/
def keyTotalWrong : ChangeSpec := { name := "keyTotal", fn := fun _ => fun
  | [d1, d2, d3, d4, d5, d6] => { results := [.lit (.bool false)], args := [d1, d2, d3, d4, d5, d6] }
  | _ => none }
def KeyTotalWrongFalsely : Prop := keyTotalRow.holds Try.pinned (OpenSpec.ofChange keyTotalWrong)

/-- 'consortlaw03.KeyAbove': WHATEVER THE INPUT: true; the input reads as it did. -/
def keyAboveSpec : ChangeSpec := { name := "keyAbove", fn := fun _ => fun
  | [d] => { results := [.lit (.bool true)], args := [d] }
  | _ => none }
def keyAboveRow : OpenClaim := { program := "ytodlmboagbjcbaa", sum := "e334d378100f6f60b53dfedb89bacbcdd8c89818d55734ada9cc033be830a6f8", func := "consort/consortlaw03.KeyAbove", spec := "keyAbove", unfollowed := true, recurses := true, apart := false }
def KeyAboveSaid : Prop := keyAboveRow.holds Try.pinned (OpenSpec.ofChange keyAboveSpec)

/-- ITS FALSE NEIGHBOUR: 'it returns false'. Refute it at one input. -/
def keyAboveWrong : ChangeSpec := { name := "keyAbove", fn := fun _ => fun
  | [d] => { results := [.lit (.bool false)], args := [d] }
  | _ => none }
def KeyAboveWrongFalsely : Prop := keyAboveRow.holds Try.pinned (OpenSpec.ofChange keyAboveWrong)

/-- 'consortlaw03.KeySteady': WHATEVER THE INPUT: true; the input reads as it did. -/
def keySteadySpec : ChangeSpec := { name := "keySteady", fn := fun _ => fun
  | [d] => { results := [.lit (.bool true)], args := [d] }
  | _ => none }
def keySteadyRow : OpenClaim := { program := "ytodlmboagbjcbaa", sum := "e334d378100f6f60b53dfedb89bacbcdd8c89818d55734ada9cc033be830a6f8", func := "consort/consortlaw03.KeySteady", spec := "keySteady", unfollowed := true, recurses := true, apart := false }
def KeySteadySaid : Prop := keySteadyRow.holds Try.pinned (OpenSpec.ofChange keySteadySpec)

/-- ITS FALSE NEIGHBOUR: 'it returns false'. Refute it at one input. -/
def keySteadyWrong : ChangeSpec := { name := "keySteady", fn := fun _ => fun
  | [d] => { results := [.lit (.bool false)], args := [d] }
  | _ => none }
def KeySteadyWrongFalsely : Prop := keySteadyRow.holds Try.pinned (OpenSpec.ofChange keySteadyWrong)

/-- 'consortlaw03.KeyOrders': WHATEVER THE INPUT: true; the input reads as it did. -/
def keyOrdersSpec : ChangeSpec := { name := "keyOrders", fn := fun _ => fun
  | [d1, d2, d3, d4, d5, d6, d7] => { results := [.lit (.bool true)], args := [d1, d2, d3, d4, d5, d6, d7] }
  | _ => none }
def keyOrdersRow : OpenClaim := { program := "ytodlmboagbjcbaa", sum := "e334d378100f6f60b53dfedb89bacbcdd8c89818d55734ada9cc033be830a6f8", func := "consort/consortlaw03.KeyOrders", spec := "keyOrders", unfollowed := true, recurses := true, apart := false }
def KeyOrdersSaid : Prop := keyOrdersRow.holds Try.pinned (OpenSpec.ofChange keyOrdersSpec)

/-- ITS FALSE NEIGHBOUR: 'it returns false'. Refute it at one input. -/
def keyOrdersWrong : ChangeSpec := { name := "keyOrders", fn := fun _ => fun
  | [d1, d2, d3, d4, d5, d6, d7] => { results := [.lit (.bool false)], args := [d1, d2, d3, d4, d5, d6, d7] }
  | _ => none }
def KeyOrdersWrongFalsely : Prop := keyOrdersRow.holds Try.pinned (OpenSpec.ofChange keyOrdersWrong)

/-- 'consortlaw03.KeyTurned': WHATEVER THE INPUT: true; the input reads as it did. -/
def keyTurnedSpec : ChangeSpec := { name := "keyTurned", fn := fun _ => fun
  | [d1, d2, d3] => { results := [.lit (.bool true)], args := [d1, d2, d3] }
  | _ => none }
def keyTurnedRow : OpenClaim := { program := "ytodlmboagbjcbaa", sum := "e334d378100f6f60b53dfedb89bacbcdd8c89818d55734ada9cc033be830a6f8", func := "consort/consortlaw03.KeyTurned", spec := "keyTurned", unfollowed := true, recurses := true, apart := false }
def KeyTurnedSaid : Prop := keyTurnedRow.holds Try.pinned (OpenSpec.ofChange keyTurnedSpec)

/-- ITS FALSE NEIGHBOUR: 'it returns false'. Refute it at one input. -/
def keyTurnedWrong : ChangeSpec := { name := "keyTurned", fn := fun _ => fun
  | [d1, d2, d3] => { results := [.lit (.bool false)], args := [d1, d2, d3] }
  | _ => none }
def KeyTurnedWrongFalsely : Prop := keyTurnedRow.holds Try.pinned (OpenSpec.ofChange keyTurnedWrong)

/- THE SECOND FORM. 'bulk': how many values and letters a reading holds, each counted each time it is reached (what is shared counts as often as it is met; a slice's spare places count too). A statement '..UptoSaid' is the law's where the arguments, and the package variables that the reading takes, are together of bulk at most 1048576: NARROWER than '..Said'. Prove '..Said' where nothing that the law and all that it calls make is longer than what came in: it says more and counts as full. Else prove '..UptoSaid'. A law counts once. -/
mutual
def uptoBulk {H : Type} : DataW H → Nat
  | .lit (.string bytes) => bytes.length + 1
  | .lit _ => 1
  | .nil => 1
  | .ptr d => uptoBulk d + 1
  | .slice elems spare => uptoBulkAll elems + uptoBulkAll spare + 1
  | .agg parts => uptoBulkAll parts + 1
  | .iface _ d => uptoBulk d + 1
  | .map entries => uptoBulkEntries entries + 1
  | .held _ => 1
def uptoBulkAll {H : Type} : List (DataW H) → Nat
  | [] => 0
  | d :: r => uptoBulk d + uptoBulkAll r
def uptoBulkEntries {H : Type} : List (Lit × DataW H) → Nat
  | [] => 0
  | x :: r => uptoBulkEntry x + uptoBulkEntries r
def uptoBulkEntry {H : Type} : Lit × DataW H → Nat
  | (.string bytes, d) => bytes.length + uptoBulk d + 1
  | (_, d) => uptoBulk d + 1
 end
def uptoSmall : (H : Type) → List (DataW H) → Bool := fun _ ds => decide (uptoBulkAll ds ≤ 1048576)
def OpenSpec.upto (s : _root_.Go.ChangeSpec) : _root_.Go.OpenSpec := { _root_.Go.OpenSpec.ofChange s with cond := some uptoSmall }

/-- 'consortlaw10.StreamPlays', WHERE WHAT IT READS IS OF BULK AT MOST 1048576: true; the input reads as it did. -/
def streamPlaysUptoRow : OpenClaim := { program := "ytodlmboagbjcbaa", sum := "e334d378100f6f60b53dfedb89bacbcdd8c89818d55734ada9cc033be830a6f8", func := "consort/consortlaw10.StreamPlays", spec := "streamPlays", apart := false, narrowed := true }
def StreamPlaysUptoSaid : Prop := streamPlaysUptoRow.holds Try.pinned (OpenSpec.upto streamPlaysSpec)

/-- 'consortlaw10.StreamOrders', WHERE WHAT IT READS IS OF BULK AT MOST 1048576: true; the input reads as it did. -/
def streamOrdersUptoRow : OpenClaim := { program := "ytodlmboagbjcbaa", sum := "e334d378100f6f60b53dfedb89bacbcdd8c89818d55734ada9cc033be830a6f8", func := "consort/consortlaw10.StreamOrders", spec := "streamOrders", apart := false, narrowed := true }
def StreamOrdersUptoSaid : Prop := streamOrdersUptoRow.holds Try.pinned (OpenSpec.upto streamOrdersSpec)

/-- 'consortlaw10.StreamWhole', WHERE WHAT IT READS IS OF BULK AT MOST 1048576: true; the input reads as it did. -/
def streamWholeUptoRow : OpenClaim := { program := "ytodlmboagbjcbaa", sum := "e334d378100f6f60b53dfedb89bacbcdd8c89818d55734ada9cc033be830a6f8", func := "consort/consortlaw10.StreamWhole", spec := "streamWhole", apart := false, narrowed := true }
def StreamWholeUptoSaid : Prop := streamWholeUptoRow.holds Try.pinned (OpenSpec.upto streamWholeSpec)

/-- 'consortlaw10.StreamCopies', WHERE WHAT IT READS IS OF BULK AT MOST 1048576: true; the input reads as it did. -/
def streamCopiesUptoRow : OpenClaim := { program := "ytodlmboagbjcbaa", sum := "e334d378100f6f60b53dfedb89bacbcdd8c89818d55734ada9cc033be830a6f8", func := "consort/consortlaw10.StreamCopies", spec := "streamCopies", inPlace := ["maps.clone"], apart := false, narrowed := true }
def StreamCopiesUptoSaid : Prop := streamCopiesUptoRow.holds Try.pinned (OpenSpec.upto streamCopiesSpec)

/-- 'consortlaw03.KeySorts', WHERE WHAT IT READS IS OF BULK AT MOST 1048576: true; the input reads as it did. -/
def keySortsUptoRow : OpenClaim := { program := "ytodlmboagbjcbaa", sum := "e334d378100f6f60b53dfedb89bacbcdd8c89818d55734ada9cc033be830a6f8", func := "consort/consortlaw03.KeySorts", spec := "keySorts", unfollowed := true, recurses := true, apart := false, narrowed := true }
def KeySortsUptoSaid : Prop := keySortsUptoRow.holds Try.pinned (OpenSpec.upto keySortsSpec)

/-- 'consortlaw03.KeyTotal', WHERE WHAT IT READS IS OF BULK AT MOST 1048576: true; the input reads as it did. -/
def keyTotalUptoRow : OpenClaim := { program := "ytodlmboagbjcbaa", sum := "e334d378100f6f60b53dfedb89bacbcdd8c89818d55734ada9cc033be830a6f8", func := "consort/consortlaw03.KeyTotal", spec := "keyTotal", unfollowed := true, recurses := true, apart := false, narrowed := true }
def KeyTotalUptoSaid : Prop := keyTotalUptoRow.holds Try.pinned (OpenSpec.upto keyTotalSpec)

/-- 'consortlaw03.KeyAbove', WHERE WHAT IT READS IS OF BULK AT MOST 1048576: true; the input reads as it did. -/
def keyAboveUptoRow : OpenClaim := { program := "ytodlmboagbjcbaa", sum := "e334d378100f6f60b53dfedb89bacbcdd8c89818d55734ada9cc033be830a6f8", func := "consort/consortlaw03.KeyAbove", spec := "keyAbove", unfollowed := true, recurses := true, apart := false, narrowed := true }
def KeyAboveUptoSaid : Prop := keyAboveUptoRow.holds Try.pinned (OpenSpec.upto keyAboveSpec)

/-- 'consortlaw03.KeySteady', WHERE WHAT IT READS IS OF BULK AT MOST 1048576: true; the input reads as it did. -/
def keySteadyUptoRow : OpenClaim := { program := "ytodlmboagbjcbaa", sum := "e334d378100f6f60b53dfedb89bacbcdd8c89818d55734ada9cc033be830a6f8", func := "consort/consortlaw03.KeySteady", spec := "keySteady", unfollowed := true, recurses := true, apart := false, narrowed := true }
def KeySteadyUptoSaid : Prop := keySteadyUptoRow.holds Try.pinned (OpenSpec.upto keySteadySpec)

/-- 'consortlaw03.KeyOrders', WHERE WHAT IT READS IS OF BULK AT MOST 1048576: true; the input reads as it did. -/
def keyOrdersUptoRow : OpenClaim := { program := "ytodlmboagbjcbaa", sum := "e334d378100f6f60b53dfedb89bacbcdd8c89818d55734ada9cc033be830a6f8", func := "consort/consortlaw03.KeyOrders", spec := "keyOrders", unfollowed := true, recurses := true, apart := false, narrowed := true }
def KeyOrdersUptoSaid : Prop := keyOrdersUptoRow.holds Try.pinned (OpenSpec.upto keyOrdersSpec)

/-- 'consortlaw03.KeyTurned', WHERE WHAT IT READS IS OF BULK AT MOST 1048576: true; the input reads as it did. -/
def keyTurnedUptoRow : OpenClaim := { program := "ytodlmboagbjcbaa", sum := "e334d378100f6f60b53dfedb89bacbcdd8c89818d55734ada9cc033be830a6f8", func := "consort/consortlaw03.KeyTurned", spec := "keyTurned", unfollowed := true, recurses := true, apart := false, narrowed := true }
def KeyTurnedUptoSaid : Prop := keyTurnedUptoRow.holds Try.pinned (OpenSpec.upto keyTurnedSpec)

end Rows
end Go.Proofs.Ytodlmboagbjcbaa
