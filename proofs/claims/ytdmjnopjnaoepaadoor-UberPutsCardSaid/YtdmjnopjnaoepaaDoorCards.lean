/-
  DERIVED. GIVEN WITH THE SEED: THE CARDS: each row of YtdmjnopjnaoepaaDoorRows.lean that lists a variable, with what it lists TIED to the program's text (the seventh form; the later family's looks); each row that meets fmt, with fmt's text TOLD by the authors' own Lean function (tested against real Go, not proved from fmt's source: count such statements apart). THE CARD IS WHAT COUNTS. Prove the row's statement (the work); the ties are given (YtdmjnopjnaoepaaDoorTie.lean); close each card by the builder's one call (the guide's Derived/Test/ToyasCard.lean, 'card_holds'). Laid BY PROGRAM, IN A SANDBOX (cutbox-door.mjs). By AI agents, Wed Nov 11 2026. No macro, syntax, notation, axiom, sorry.
-/
import Derived.Test.YtdmjnopjnaoepaaDoorRows
import GoSem.ClaimSeven
namespace Go.Proofs.YtdmjnopjnaoepaaDoor
namespace Rows

/-- THE TIED CARD OF 'banyanlaw10.UberPuts'. -/
def uberPutsCard : Claim7 := { stood := { row := uberPutsRow, standIns := [], harness := (true, "4bad5338df22723d48d62ed856ed9f78c4c9f9bdd61a5ed85755d755aa9e404e"), looks := false }, kinds := [], alts := [], laidByText := true, laidKinds := [.data, .pinned], laidTests := true, laidLooks := .later }
def UberPutsCardSaid : Prop := Claim7.holds Tryd.pinned (.plain (OpenSpec.ofChange uberPutsSpec)) uberPutsCard

/-- THE SECOND FORM's CARD OF 'banyanlaw10.UberPuts'. -/
def uberPutsUptoCard : Claim7 := { stood := { row := uberPutsUptoRow, standIns := [], harness := (true, "4bad5338df22723d48d62ed856ed9f78c4c9f9bdd61a5ed85755d755aa9e404e"), looks := false }, kinds := [], alts := [], laidByText := true, laidKinds := [.data, .pinned], laidTests := true, laidLooks := .later }
def UberPutsUptoCardSaid : Prop := Claim7.holds Tryd.pinned (.plain (OpenSpec.upto uberPutsSpec)) uberPutsUptoCard
end Rows
end Go.Proofs.YtdmjnopjnaoepaaDoor
