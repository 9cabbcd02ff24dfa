/-
  DERIVED. GIVEN WITH THE SEED: THE CARDS: each row of YtogagkgkmoppmaaGreatDoorRows.lean that lists a variable, with what it lists TIED to the program's text (the seventh form; the later family's looks); each row that meets fmt, with fmt's text TOLD by the authors' own Lean function (tested against real Go, not proved from fmt's source: count such statements apart). THE CARD IS WHAT COUNTS. Prove the row's statement (the work); the ties are given (YtogagkgkmoppmaaGreatDoorTie.lean); close each card by the builder's one call (the guide's Derived/Test/ToyasCard.lean, 'card_holds'). Laid BY PROGRAM, IN A SANDBOX (cutbox-door.mjs). By AI agents, Wed Nov 11 2026. No macro, syntax, notation, axiom, sorry.
-/
import Derived.Test.YtogagkgkmoppmaaGreatDoorRows
import GoSem.ClaimSeven
namespace Go.Proofs.YtogagkgkmoppmaaGreatDoor
namespace Rows

/-- THE TIED CARD OF 'consortlaw27.JudgeApart'. -/
def judgeApartCard : Claim7 := { stood := { row := judgeApartRow, standIns := [], harness := (true, "dd9bcab2ce3b4c8fc34827c80f9d15ad35e5543cbba325da5d14ca4d8d4b4b9a"), looks := true }, kinds := [], alts := [], laidByText := true, laidKinds := [.data], laidTests := true, laidLooks := .later }
def JudgeApartCardSaid : Prop := Claim7.holds Tryz.pinned (.plain (OpenSpec.ofChange judgeApartSpec)) judgeApartCard

/-- THE TIED CARD OF 'consortlaw27.JudgeBegins'. -/
def judgeBeginsCard : Claim7 := { stood := { row := judgeBeginsRow, standIns := [], harness := (true, "dd9bcab2ce3b4c8fc34827c80f9d15ad35e5543cbba325da5d14ca4d8d4b4b9a"), looks := true }, kinds := [], alts := [], laidByText := true, laidKinds := [.data], laidTests := true, laidLooks := .later }
def JudgeBeginsCardSaid : Prop := Claim7.holds Tryz.pinned (.plain (OpenSpec.ofChange judgeBeginsSpec)) judgeBeginsCard

/-- THE SECOND FORM's CARD OF 'consortlaw27.JudgeApart'. -/
def judgeApartUptoCard : Claim7 := { stood := { row := judgeApartUptoRow, standIns := [], harness := (true, "dd9bcab2ce3b4c8fc34827c80f9d15ad35e5543cbba325da5d14ca4d8d4b4b9a"), looks := true }, kinds := [], alts := [], laidByText := true, laidKinds := [.data], laidTests := true, laidLooks := .later }
def JudgeApartUptoCardSaid : Prop := Claim7.holds Tryz.pinned (.plain (OpenSpec.upto judgeApartSpec)) judgeApartUptoCard

/-- THE SECOND FORM's CARD OF 'consortlaw27.JudgeBegins'. -/
def judgeBeginsUptoCard : Claim7 := { stood := { row := judgeBeginsUptoRow, standIns := [], harness := (true, "dd9bcab2ce3b4c8fc34827c80f9d15ad35e5543cbba325da5d14ca4d8d4b4b9a"), looks := true }, kinds := [], alts := [], laidByText := true, laidKinds := [.data], laidTests := true, laidLooks := .later }
def JudgeBeginsUptoCardSaid : Prop := Claim7.holds Tryz.pinned (.plain (OpenSpec.upto judgeBeginsSpec)) judgeBeginsUptoCard
end Rows
end Go.Proofs.YtogagkgkmoppmaaGreatDoor
