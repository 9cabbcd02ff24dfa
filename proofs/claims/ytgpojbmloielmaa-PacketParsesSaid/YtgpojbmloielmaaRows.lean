/-
  No cell of these rows narrows 'for every input' (looked for: loops, veiled, ifaces, maps, wideKeys, modest, calm, conditions, laid).
  DERIVED. THE GIVEN ROWS OF THIS SEAT. 5 by the template 'for every input the law returns true; each argument reads behind the call as it read before'; 0 by the template 'total and deterministic' (their statements: YtgpojbmloielmaaTotals.lean).
  GIVEN WITH THE SEED: the statements are not yours to turn. If you find one false, say at which input.
  Laid BY PROGRAM, IN A SANDBOX (cutbox-rows.mjs): the forced cells as the released guide's own fill.sh prints them over the translation 8abf8b106ecf3c6e… (all of the seat's roots in one cut). By AI agents, Wed Nov 11 2026. No macro, syntax, notation, axiom, sorry.
-/
import Derived.Test.YtgpojbmloielmaaChecked
import GoSem.Claim
import GoSem.ClaimJoined
import GoSem.ClaimMapViews
import Derived.JoinedTies
import Derived.KernelRfl
namespace Go.Proofs.Ytgpojbmloielmaa
/- THE CELL 'sum', in the pinned program and in every row, IS THE sha256 OF THE DUMP (.gsa) THAT YtgpojbmloielmaaProg.lean LOADS. Nothing in Lean hashes anything: it is a label: what it is worth is what the hold of that sum in a sandbox is worth. -/
noncomputable def Try.pinned : Pinned := { name := "ytgpojbmloielmaa", sum := "8abf8b106ecf3c6e38e059015ba2ceebac359639ff538132b6f1fc915232f817", checked := Try.checked }
namespace Rows
def none {H : Type} : Left H := { results := [], args := [] }

/-- 'consortlaw06.PacketParses': WHATEVER THE INPUT: true; the input reads as it did. -/
def packetParsesSpec : ChangeSpec := { name := "packetParses", fn := fun _ => fun
  | [d1, d2, d3] => { results := [.lit (.bool true)], args := [d1, d2, d3] }
  | _ => none }
def packetParsesRow : OpenClaim := { program := "ytgpojbmloielmaa", sum := "8abf8b106ecf3c6e38e059015ba2ceebac359639ff538132b6f1fc915232f817", func := "consort/consortlaw06.PacketParses", spec := "packetParses", unfollowed := true, recurses := true, apart := false }
def PacketParsesSaid : Prop := packetParsesRow.holds Try.pinned (OpenSpec.ofChange packetParsesSpec)

/-- ITS FALSE NEIGHBOUR: 'it returns false'. Refute it at one input. -/
def packetParsesWrong : ChangeSpec := { name := "packetParses", fn := fun _ => fun
  | [d1, d2, d3] => { results := [.lit (.bool false)], args := [d1, d2, d3] }
  | _ => none }
def PacketParsesWrongFalsely : Prop := packetParsesRow.holds Try.pinned (OpenSpec.ofChange packetParsesWrong)

/-- 'consortlaw06.PacketPrints': WHATEVER THE INPUT: true; the input reads as it did. -/
def packetPrintsSpec : ChangeSpec := { name := "packetPrints", fn := fun _ => fun
  | [d] => { results := [.lit (.bool true)], args := [d] }
  | _ => none }
def packetPrintsRow : OpenClaim := { program := "ytgpojbmloielmaa", sum := "8abf8b106ecf3c6e38e059015ba2ceebac359639ff538132b6f1fc915232f817", func := "consort/consortlaw06.PacketPrints", spec := "packetPrints", unfollowed := true, recurses := true, apart := false }
def PacketPrintsSaid : Prop := packetPrintsRow.holds Try.pinned (OpenSpec.ofChange packetPrintsSpec)

/-- ITS FALSE NEIGHBOUR: 'it returns false'. Refute it at one input. -/
def packetPrintsWrong : ChangeSpec := { name := "packetPrints", fn := fun _ => fun
  | [d] => { results := [.lit (.bool false)], args := [d] }
  | _ => none }
def PacketPrintsWrongFalsely : Prop := packetPrintsRow.holds Try.pinned (OpenSpec.ofChange packetPrintsWrong)

/-- 'consortlaw06.PacketBack': WHATEVER THE INPUT: true; the input reads as it did. -/
def packetBackSpec : ChangeSpec := { name := "packetBack", fn := fun _ => fun
  | [d] => { results := [.lit (.bool true)], args := [d] }
  | _ => none }
def packetBackRow : OpenClaim := { program := "ytgpojbmloielmaa", sum := "8abf8b106ecf3c6e38e059015ba2ceebac359639ff538132b6f1fc915232f817", func := "consort/consortlaw06.PacketBack", spec := "packetBack", unfollowed := true, recurses := true, apart := false }
def PacketBackSaid : Prop := packetBackRow.holds Try.pinned (OpenSpec.ofChange packetBackSpec)

/-- ITS FALSE NEIGHBOUR: 'it returns false'. Refute it at one input. -/
def packetBackWrong : ChangeSpec := { name := "packetBack", fn := fun _ => fun
  | [d] => { results := [.lit (.bool false)], args := [d] }
  | _ => none }
def PacketBackWrongFalsely : Prop := packetBackRow.holds Try.pinned (OpenSpec.ofChange packetBackWrong)

/-- 'consortlaw06.PacketOne': WHATEVER THE INPUT: true; the input reads as it did. -/
def packetOneSpec : ChangeSpec := { name := "packetOne", fn := fun _ => fun
  | [d1, d2, d3] => { results := [.lit (.bool true)], args := [d1, d2, d3] }
  | _ => none }
def packetOneRow : OpenClaim := { program := "ytgpojbmloielmaa", sum := "8abf8b106ecf3c6e38e059015ba2ceebac359639ff538132b6f1fc915232f817", func := "consort/consortlaw06.PacketOne", spec := "packetOne", unfollowed := true, recurses := true, apart := false }
def PacketOneSaid : Prop := packetOneRow.holds Try.pinned (OpenSpec.ofChange packetOneSpec)

/-- ITS FALSE NEIGHBOUR: 'it returns false'. Refute it at one input. -/
def packetOneWrong : ChangeSpec := { name := "packetOne", fn := fun _ => fun
  | [d1, d2, d3] => { results := [.lit (.bool false)], args := [d1, d2, d3] }
  | _ => none }
def PacketOneWrongFalsely : Prop := packetOneRow.holds Try.pinned (OpenSpec.ofChange packetOneWrong)

/-- 'consortlaw06.PacketApart': WHATEVER THE INPUT: true; the input reads as it did. -/
def packetApartSpec : ChangeSpec := { name := "packetApart", fn := fun _ => fun
  | [d] => { results := [.lit (.bool true)], args := [d] }
  | _ => none }
def packetApartRow : OpenClaim := { program := "ytgpojbmloielmaa", sum := "8abf8b106ecf3c6e38e059015ba2ceebac359639ff538132b6f1fc915232f817", func := "consort/consortlaw06.PacketApart", spec := "packetApart", unfollowed := true, recurses := true, apart := false }
def PacketApartSaid : Prop := packetApartRow.holds Try.pinned (OpenSpec.ofChange packetApartSpec)

/-- ITS FALSE NEIGHBOUR: 'it returns false'. Refute it at one input. -/
def packetApartWrong : ChangeSpec := { name := "packetApart", fn := fun _ => fun
  | [d] => { results := [.lit (.bool false)], args := [d] }
  | _ => none }
def PacketApartWrongFalsely : Prop := packetApartRow.holds Try.pinned (OpenSpec.ofChange packetApartWrong)

/- THE SECOND FORM. 'bulk': how many values and letters a reading holds, each counted each time it is reached (what is shared counts as often as it is met; a slice's spare places count too). A statement '..UptoSaid' is the law's where the arguments, and the package variables that the reading takes, are together of bulk at most 1048576: NARROWER than '..Said'. Prove '..Said' where nothing that the law and all that it calls make is longer than what came in: it says more and counts as full. Else prove '..UptoSaid'. A law counts once. -/
mutual
def uptoBulk {H : Type} : DataW H → Nat
  | .lit (.string bytes) => bytes.length + 1
  | .lit _ => 1
  | .nil => 1
  | .ptr d => uptoBulk d + 1
  | .slice elems spare => uptoBulkAll elems + uptoBulkAll spare + 1
  | .agg parts => uptoBulkAll parts + 1
  | .iface _ d => uptoBulk d + 1
  | .map entries => uptoBulkEntries entries + 1
  | .held _ => 1
def uptoBulkAll {H : Type} : List (DataW H) → Nat
  | [] => 0
  | d :: r => uptoBulk d + uptoBulkAll r
def uptoBulkEntries {H : Type} : List (Lit × DataW H) → Nat
  | [] => 0
  | x :: r => uptoBulkEntry x + uptoBulkEntries r
def uptoBulkEntry {H : Type} : Lit × DataW H → Nat
  | (.string bytes, d) => bytes.length + uptoBulk d + 1
  | (_, d) => uptoBulk d + 1
 end
def uptoSmall : (H : Type) → List (DataW H) → Bool := fun _ ds => decide (uptoBulkAll ds ≤ 1048576)
def OpenSpec.upto (s : _root_.Go.ChangeSpec) : _root_.Go.OpenSpec := { _root_.Go.OpenSpec.ofChange s with cond := some uptoSmall }

/-- 'consortlaw06.PacketParses', WHERE WHAT IT READS IS OF BULK AT MOST 1048576: true; the input reads as it did. -/
def packetParsesUptoRow : OpenClaim := { program := "ytgpojbmloielmaa", sum := "8abf8b106ecf3c6e38e059015ba2ceebac359639ff538132b6f1fc915232f817", func := "consort/consortlaw06.PacketParses", spec := "packetParses", unfollowed := true, recurses := true, apart := false, narrowed := true }
def PacketParsesUptoSaid : Prop := packetParsesUptoRow.holds Try.pinned (OpenSpec.upto packetParsesSpec)

/-- 'consortlaw06.PacketPrints', WHERE WHAT IT READS IS OF BULK AT MOST 1048576: true; the input reads as it did. -/
def packetPrintsUptoRow : OpenClaim := { program := "ytgpojbmloielmaa", sum := "8abf8b106ecf3c6e38e059015ba2ceebac359639ff538132b6f1fc915232f817", func := "consort/consortlaw06.PacketPrints", spec := "packetPrints", unfollowed := true, recurses := true, apart := false, narrowed := true }
def PacketPrintsUptoSaid : Prop := packetPrintsUptoRow.holds Try.pinned (OpenSpec.upto packetPrintsSpec)

/-- 'consortlaw06.PacketBack', WHERE WHAT IT READS IS OF BULK AT MOST 1048576: true; the input reads as it did. -/
def packetBackUptoRow : OpenClaim := { program := "ytgpojbmloielmaa", sum := "8abf8b106ecf3c6e38e059015ba2ceebac359639ff538132b6f1fc915232f817", func := "consort/consortlaw06.PacketBack", spec := "packetBack", unfollowed := true, recurses := true, apart := false, narrowed := true }
def PacketBackUptoSaid : Prop := packetBackUptoRow.holds Try.pinned (OpenSpec.upto packetBackSpec)

/-- 'consortlaw06.PacketOne', WHERE WHAT IT READS IS OF BULK AT MOST 1048576: true; the input reads as it did. -/
def packetOneUptoRow : OpenClaim := { program := "ytgpojbmloielmaa", sum := "8abf8b106ecf3c6e38e059015ba2ceebac359639ff538132b6f1fc915232f817", func := "consort/consortlaw06.PacketOne", spec := "packetOne", unfollowed := true, recurses := true, apart := false, narrowed := true }
def PacketOneUptoSaid : Prop := packetOneUptoRow.holds Try.pinned (OpenSpec.upto packetOneSpec)

/-- 'consortlaw06.PacketApart', WHERE WHAT IT READS IS OF BULK AT MOST 1048576: true; the input reads as it did. -/
def packetApartUptoRow : OpenClaim := { program := "ytgpojbmloielmaa", sum := "8abf8b106ecf3c6e38e059015ba2ceebac359639ff538132b6f1fc915232f817", func := "consort/consortlaw06.PacketApart", spec := "packetApart", unfollowed := true, recurses := true, apart := false, narrowed := true }
def PacketApartUptoSaid : Prop := packetApartUptoRow.holds Try.pinned (OpenSpec.upto packetApartSpec)

end Rows
end Go.Proofs.Ytgpojbmloielmaa
