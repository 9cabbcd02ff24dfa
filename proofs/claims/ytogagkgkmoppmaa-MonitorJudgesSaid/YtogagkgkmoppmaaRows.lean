/-
  No cell of these rows narrows 'for every input' (looked for: loops, veiled, ifaces, maps, wideKeys, modest, calm, conditions, laid).
  DERIVED. THE GIVEN ROWS OF THIS SEAT. 3 by the template 'for every input the law returns true; each argument reads behind the call as it read before'; 0 by the template 'total and deterministic' (their statements: YtogagkgkmoppmaaTotals.lean).
  GIVEN WITH THE SEED: the statements are not yours to turn. If you find one false, say at which input.
  Laid BY PROGRAM, IN A SANDBOX (cutbox-rows.mjs): the forced cells as the released guide's own fill.sh prints them over the translation b245cf14eccb1b23… (all of the seat's roots in one cut). By AI agents, Wed Nov 11 2026. No macro, syntax, notation, axiom, sorry.
-/
import Derived.Test.YtogagkgkmoppmaaChecked
import GoSem.Claim
import GoSem.ClaimJoined
import GoSem.ClaimMapViews
import Derived.JoinedTies
import Derived.KernelRfl
namespace Go.Proofs.Ytogagkgkmoppmaa
/- THE CELL 'sum', in the pinned program and in every row, IS THE sha256 OF THE DUMP (.gsa) THAT YtogagkgkmoppmaaProg.lean LOADS. Nothing in Lean hashes anything: it is a label: what it is worth is what the hold of that sum in a sandbox is worth. -/
noncomputable def Try.pinned : Pinned := { name := "ytogagkgkmoppmaa", sum := "b245cf14eccb1b23cd819d4e31a3d86c6db30a8e9b27dcc6817442d58243f1f9", checked := Try.checked }
namespace Rows
def none {H : Type} : Left H := { results := [], args := [] }

/-- 'consortlaw29.MonitorStays': WHATEVER THE INPUT: true; the input reads as it did. -/
def monitorStaysSpec : ChangeSpec := { name := "monitorStays", fn := fun _ => fun
  | [d] => { results := [.lit (.bool true)], args := [d] }
  | _ => none }
def monitorStaysRow : OpenClaim := { program := "ytogagkgkmoppmaa", sum := "b245cf14eccb1b23cd819d4e31a3d86c6db30a8e9b27dcc6817442d58243f1f9", func := "consort/consortlaw29.MonitorStays", spec := "monitorStays", unfollowed := true, recurses := true, plainKeys := false, apart := false }
def MonitorStaysSaid : Prop := monitorStaysRow.holds Try.pinned (OpenSpec.ofChange monitorStaysSpec)

/-- ITS FALSE NEIGHBOUR: 'it returns false'. Refute it at one input. -/
def monitorStaysWrong : ChangeSpec := { name := "monitorStays", fn := fun _ => fun
  | [d] => { results := [.lit (.bool false)], args := [d] }
  | _ => none }
def MonitorStaysWrongFalsely : Prop := monitorStaysRow.holds Try.pinned (OpenSpec.ofChange monitorStaysWrong)

/-- 'consortlaw29.MonitorCopies': WHATEVER THE INPUT: true; the input reads as it did. -/
def monitorCopiesSpec : ChangeSpec := { name := "monitorCopies", fn := fun _ => fun
  | [d1, d2] => { results := [.lit (.bool true)], args := [d1, d2] }
  | _ => none }
def monitorCopiesRow : OpenClaim := { program := "ytogagkgkmoppmaa", sum := "b245cf14eccb1b23cd819d4e31a3d86c6db30a8e9b27dcc6817442d58243f1f9", func := "consort/consortlaw29.MonitorCopies", spec := "monitorCopies", inPlace := ["maps.clone"], unfollowed := true, recurses := true, plainKeys := false, apart := false }
def MonitorCopiesSaid : Prop := monitorCopiesRow.holds Try.pinned (OpenSpec.ofChange monitorCopiesSpec)

/-- ITS FALSE NEIGHBOUR: 'it returns false'. Refute it at one input. -/
def monitorCopiesWrong : ChangeSpec := { name := "monitorCopies", fn := fun _ => fun
  | [d1, d2] => { results := [.lit (.bool false)], args := [d1, d2] }
  | _ => none }
def MonitorCopiesWrongFalsely : Prop := monitorCopiesRow.holds Try.pinned (OpenSpec.ofChange monitorCopiesWrong)

/-- 'consortlaw29.MonitorJudges': WHATEVER THE INPUT: true; the input reads as it did. -/
def monitorJudgesSpec : ChangeSpec := { name := "monitorJudges", fn := fun _ => fun
  | [d] => { results := [.lit (.bool true)], args := [d] }
  | _ => none }
def monitorJudgesRow : OpenClaim := { program := "ytogagkgkmoppmaa", sum := "b245cf14eccb1b23cd819d4e31a3d86c6db30a8e9b27dcc6817442d58243f1f9", func := "consort/consortlaw29.MonitorJudges", spec := "monitorJudges", unfollowed := true, recurses := true, plainKeys := false, apart := false }
def MonitorJudgesSaid : Prop := monitorJudgesRow.holds Try.pinned (OpenSpec.ofChange monitorJudgesSpec)

/-- ITS FALSE NEIGHBOUR: 'it returns false'. Refute it at one input. -/
def monitorJudgesWrong : ChangeSpec := { name := "monitorJudges", fn := fun _ => fun
  | [d] => { results := [.lit (.bool false)], args := [d] }
  | _ => none }
def MonitorJudgesWrongFalsely : Prop := monitorJudgesRow.holds Try.pinned (OpenSpec.ofChange monitorJudgesWrong)

/- THE SECOND FORM. 'bulk': how many values and letters a reading holds, each counted each time it is reached (what is shared counts as often as it is met; a slice's spare places count too). A statement '..UptoSaid' is the law's where the arguments, and the package variables that the reading takes, are together of bulk at most 1048576: NARROWER than '..Said'. Prove '..Said' where nothing that the law and all that it calls make is longer than what came in: it says more and counts as full. Else prove '..UptoSaid'. A law counts once. -/
mutual
def uptoBulk {H : Type} : DataW H → Nat
  | .lit (.string bytes) => bytes.length + 1
  | .lit _ => 1
  | .nil => 1
  | .ptr d => uptoBulk d + 1
  | .slice elems spare => uptoBulkAll elems + uptoBulkAll spare + 1
  | .agg parts => uptoBulkAll parts + 1
  | .iface _ d => uptoBulk d + 1
  | .map entries => uptoBulkEntries entries + 1
  | .held _ => 1
def uptoBulkAll {H : Type} : List (DataW H) → Nat
  | [] => 0
  | d :: r => uptoBulk d + uptoBulkAll r
def uptoBulkEntries {H : Type} : List (Lit × DataW H) → Nat
  | [] => 0
  | x :: r => uptoBulkEntry x + uptoBulkEntries r
def uptoBulkEntry {H : Type} : Lit × DataW H → Nat
  | (.string bytes, d) => bytes.length + uptoBulk d + 1
  | (_, d) => uptoBulk d + 1
 end
def uptoSmall : (H : Type) → List (DataW H) → Bool := fun _ ds => decide (uptoBulkAll ds ≤ 1048576)
def OpenSpec.upto (s : _root_.Go.ChangeSpec) : _root_.Go.OpenSpec := { _root_.Go.OpenSpec.ofChange s with cond := some uptoSmall }

/-- 'consortlaw29.MonitorStays', WHERE WHAT IT READS IS OF BULK AT MOST 1048576: true; the input reads as it did. -/
def monitorStaysUptoRow : OpenClaim := { program := "ytogagkgkmoppmaa", sum := "b245cf14eccb1b23cd819d4e31a3d86c6db30a8e9b27dcc6817442d58243f1f9", func := "consort/consortlaw29.MonitorStays", spec := "monitorStays", unfollowed := true, recurses := true, plainKeys := false, apart := false, narrowed := true }
def MonitorStaysUptoSaid : Prop := monitorStaysUptoRow.holds Try.pinned (OpenSpec.upto monitorStaysSpec)

/-- 'consortlaw29.MonitorCopies', WHERE WHAT IT READS IS OF BULK AT MOST 1048576: true; the input reads as it did. -/
def monitorCopiesUptoRow : OpenClaim := { program := "ytogagkgkmoppmaa", sum := "b245cf14eccb1b23cd819d4e31a3d86c6db30a8e9b27dcc6817442d58243f1f9", func := "consort/consortlaw29.MonitorCopies", spec := "monitorCopies", inPlace := ["maps.clone"], unfollowed := true, recurses := true, plainKeys := false, apart := false, narrowed := true }
def MonitorCopiesUptoSaid : Prop := monitorCopiesUptoRow.holds Try.pinned (OpenSpec.upto monitorCopiesSpec)

/-- 'consortlaw29.MonitorJudges', WHERE WHAT IT READS IS OF BULK AT MOST 1048576: true; the input reads as it did. -/
def monitorJudgesUptoRow : OpenClaim := { program := "ytogagkgkmoppmaa", sum := "b245cf14eccb1b23cd819d4e31a3d86c6db30a8e9b27dcc6817442d58243f1f9", func := "consort/consortlaw29.MonitorJudges", spec := "monitorJudges", unfollowed := true, recurses := true, plainKeys := false, apart := false, narrowed := true }
def MonitorJudgesUptoSaid : Prop := monitorJudgesUptoRow.holds Try.pinned (OpenSpec.upto monitorJudgesSpec)

end Rows
end Go.Proofs.Ytogagkgkmoppmaa
