/-
  DERIVED. GIVEN WITH THE SEED: THE CARDS: each row of YtgjlcjbmcnofiaaDoorRows.lean that lists a variable, with what it lists TIED to the program's text (the seventh form; the later family's looks); each row that meets fmt, with fmt's text TOLD by the authors' own Lean function (tested against real Go, not proved from fmt's source: count such statements apart). THE CARD IS WHAT COUNTS. Prove the row's statement (the work); the ties are given (YtgjlcjbmcnofiaaDoorTie.lean); close each card by the builder's one call (the guide's Derived/Test/ToyasCard.lean, 'card_holds'). Laid BY PROGRAM, IN A SANDBOX (cutbox-door.mjs). By AI agents, Wed Nov 11 2026. No macro, syntax, notation, axiom, sorry.
-/
import Derived.Test.YtgjlcjbmcnofiaaDoorRows
import GoSem.ClaimSeven
namespace Go.Proofs.YtgjlcjbmcnofiaaDoor
namespace Rows

/-- THE TIED CARD OF 'consortlaw14.OrderOne'. -/
def orderOneCard : Claim7 := { stood := { row := orderOneRow, standIns := [], harness := (true, "8a2b97c73407d68810801817b31e3284a4048cf8d521cab70090c1e89049453b"), looks := false }, kinds := [], alts := [], laidByText := true, laidKinds := [.data], laidTests := true, laidLooks := .later }
def OrderOneCardSaid : Prop := Claim7.holds Tryd.pinned (.plain (OpenSpec.ofChange orderOneSpec)) orderOneCard

/-- THE TIED CARD OF 'consortlaw14.OrderRises'. -/
def orderRisesCard : Claim7 := { stood := { row := orderRisesRow, standIns := [], harness := (true, "8a2b97c73407d68810801817b31e3284a4048cf8d521cab70090c1e89049453b"), looks := false }, kinds := [], alts := [], laidByText := true, laidKinds := [.data], laidTests := true, laidLooks := .later }
def OrderRisesCardSaid : Prop := Claim7.holds Tryd.pinned (.plain (OpenSpec.ofChange orderRisesSpec)) orderRisesCard

/-- THE TIED CARD OF 'consortlaw14.OrderTrims'. -/
def orderTrimsCard : Claim7 := { stood := { row := orderTrimsRow, standIns := [], harness := (true, "8a2b97c73407d68810801817b31e3284a4048cf8d521cab70090c1e89049453b"), looks := false }, kinds := [], alts := [], laidByText := true, laidKinds := [.data], laidTests := true, laidLooks := .later }
def OrderTrimsCardSaid : Prop := Claim7.holds Tryd.pinned (.plain (OpenSpec.ofChange orderTrimsSpec)) orderTrimsCard

/-- THE TIED CARD OF 'consortlaw14.OrderPlays'. -/
def orderPlaysCard : Claim7 := { stood := { row := orderPlaysRow, standIns := [], harness := (true, "8a2b97c73407d68810801817b31e3284a4048cf8d521cab70090c1e89049453b"), looks := false }, kinds := [], alts := [], laidByText := true, laidKinds := [.data], laidTests := true, laidLooks := .later }
def OrderPlaysCardSaid : Prop := Claim7.holds Tryd.pinned (.plain (OpenSpec.ofChange orderPlaysSpec)) orderPlaysCard

/-- THE TIED CARD OF 'consortlaw14.OrderCopies'. -/
def orderCopiesCard : Claim7 := { stood := { row := orderCopiesRow, standIns := [], harness := (true, "8a2b97c73407d68810801817b31e3284a4048cf8d521cab70090c1e89049453b"), looks := false }, kinds := [], alts := [], laidByText := true, laidKinds := [.data], laidTests := true, laidLooks := .later }
def OrderCopiesCardSaid : Prop := Claim7.holds Tryd.pinned (.plain (OpenSpec.ofChange orderCopiesSpec)) orderCopiesCard

/-- THE SECOND FORM's CARD OF 'consortlaw14.OrderOne'. -/
def orderOneUptoCard : Claim7 := { stood := { row := orderOneUptoRow, standIns := [], harness := (true, "8a2b97c73407d68810801817b31e3284a4048cf8d521cab70090c1e89049453b"), looks := false }, kinds := [], alts := [], laidByText := true, laidKinds := [.data], laidTests := true, laidLooks := .later }
def OrderOneUptoCardSaid : Prop := Claim7.holds Tryd.pinned (.plain (OpenSpec.upto orderOneSpec)) orderOneUptoCard

/-- THE SECOND FORM's CARD OF 'consortlaw14.OrderRises'. -/
def orderRisesUptoCard : Claim7 := { stood := { row := orderRisesUptoRow, standIns := [], harness := (true, "8a2b97c73407d68810801817b31e3284a4048cf8d521cab70090c1e89049453b"), looks := false }, kinds := [], alts := [], laidByText := true, laidKinds := [.data], laidTests := true, laidLooks := .later }
def OrderRisesUptoCardSaid : Prop := Claim7.holds Tryd.pinned (.plain (OpenSpec.upto orderRisesSpec)) orderRisesUptoCard

/-- THE SECOND FORM's CARD OF 'consortlaw14.OrderTrims'. -/
def orderTrimsUptoCard : Claim7 := { stood := { row := orderTrimsUptoRow, standIns := [], harness := (true, "8a2b97c73407d68810801817b31e3284a4048cf8d521cab70090c1e89049453b"), looks := false }, kinds := [], alts := [], laidByText := true, laidKinds := [.data], laidTests := true, laidLooks := .later }
def OrderTrimsUptoCardSaid : Prop := Claim7.holds Tryd.pinned (.plain (OpenSpec.upto orderTrimsSpec)) orderTrimsUptoCard

/-- THE SECOND FORM's CARD OF 'consortlaw14.OrderPlays'. -/
def orderPlaysUptoCard : Claim7 := { stood := { row := orderPlaysUptoRow, standIns := [], harness := (true, "8a2b97c73407d68810801817b31e3284a4048cf8d521cab70090c1e89049453b"), looks := false }, kinds := [], alts := [], laidByText := true, laidKinds := [.data], laidTests := true, laidLooks := .later }
def OrderPlaysUptoCardSaid : Prop := Claim7.holds Tryd.pinned (.plain (OpenSpec.upto orderPlaysSpec)) orderPlaysUptoCard

/-- THE SECOND FORM's CARD OF 'consortlaw14.OrderCopies'. -/
def orderCopiesUptoCard : Claim7 := { stood := { row := orderCopiesUptoRow, standIns := [], harness := (true, "8a2b97c73407d68810801817b31e3284a4048cf8d521cab70090c1e89049453b"), looks := false }, kinds := [], alts := [], laidByText := true, laidKinds := [.data], laidTests := true, laidLooks := .later }
def OrderCopiesUptoCardSaid : Prop := Claim7.holds Tryd.pinned (.plain (OpenSpec.upto orderCopiesSpec)) orderCopiesUptoCard
end Rows
end Go.Proofs.YtgjlcjbmcnofiaaDoor
