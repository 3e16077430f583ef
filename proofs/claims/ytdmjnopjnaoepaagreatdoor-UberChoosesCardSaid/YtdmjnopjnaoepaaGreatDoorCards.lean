/-
  DERIVED. GIVEN WITH THE SEED: THE CARDS: each row of YtdmjnopjnaoepaaGreatDoorRows.lean that lists a variable, with what it lists TIED to the program's text (the seventh form; the later family's looks); each row that meets fmt, with fmt's text TOLD by the authors' own Lean function (tested against real Go, not proved from fmt's source: count such statements apart). THE CARD IS WHAT COUNTS. Prove the row's statement (the work); the ties are given (YtdmjnopjnaoepaaGreatDoorTie.lean); close each card by the builder's one call (the guide's Derived/Test/ToyasCard.lean, 'card_holds'). Laid BY PROGRAM, IN A SANDBOX (cutbox-door.mjs). By AI agents, Wed Nov 11 2026. No macro, syntax, notation, axiom, sorry.
-/
import Derived.Test.YtdmjnopjnaoepaaGreatDoorRows
import GoSem.ClaimSeven
namespace Go.Proofs.YtdmjnopjnaoepaaGreatDoor
namespace Rows

/-- THE TIED CARD OF 'banyanlaw10.UberGets'. -/
def uberGetsCard : Claim7 := { stood := { row := uberGetsRow, standIns := [], harness := (true, "638c7f298dd005a465fa4dd2a36321c56461e56e397fcaf0c7d3d46316013a63"), looks := false }, kinds := [], alts := [], laidByText := true, laidKinds := [.data, .pinned], laidTests := true, laidLooks := .later }
def UberGetsCardSaid : Prop := Claim7.holds Tryz.pinned (.plain (OpenSpec.ofChange uberGetsSpec)) uberGetsCard

/-- THE TIED CARD OF 'banyanlaw10.UberChooses'. -/
def uberChoosesCard : Claim7 := { stood := { row := uberChoosesRow, standIns := [], harness := (true, "638c7f298dd005a465fa4dd2a36321c56461e56e397fcaf0c7d3d46316013a63"), looks := false }, kinds := [], alts := [], laidByText := true, laidKinds := [.data, .pinned], laidTests := true, laidLooks := .later }
def UberChoosesCardSaid : Prop := Claim7.holds Tryz.pinned (.plain (OpenSpec.ofChange uberChoosesSpec)) uberChoosesCard

/-- THE SECOND FORM's CARD OF 'banyanlaw10.UberGets'. -/
def uberGetsUptoCard : Claim7 := { stood := { row := uberGetsUptoRow, standIns := [], harness := (true, "638c7f298dd005a465fa4dd2a36321c56461e56e397fcaf0c7d3d46316013a63"), looks := false }, kinds := [], alts := [], laidByText := true, laidKinds := [.data, .pinned], laidTests := true, laidLooks := .later }
def UberGetsUptoCardSaid : Prop := Claim7.holds Tryz.pinned (.plain (OpenSpec.upto uberGetsSpec)) uberGetsUptoCard

/-- THE SECOND FORM's CARD OF 'banyanlaw10.UberChooses'. -/
def uberChoosesUptoCard : Claim7 := { stood := { row := uberChoosesUptoRow, standIns := [], harness := (true, "638c7f298dd005a465fa4dd2a36321c56461e56e397fcaf0c7d3d46316013a63"), looks := false }, kinds := [], alts := [], laidByText := true, laidKinds := [.data, .pinned], laidTests := true, laidLooks := .later }
def UberChoosesUptoCardSaid : Prop := Claim7.holds Tryz.pinned (.plain (OpenSpec.upto uberChoosesSpec)) uberChoosesUptoCard
end Rows
end Go.Proofs.YtdmjnopjnaoepaaGreatDoor
