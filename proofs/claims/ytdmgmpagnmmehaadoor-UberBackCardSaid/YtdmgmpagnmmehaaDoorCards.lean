/-
  DERIVED. GIVEN WITH THE SEED: THE CARDS: each row of YtdmgmpagnmmehaaDoorRows.lean that lists a variable, with what it lists TIED to the program's text (the seventh form; the later family's looks); each row that meets fmt, with fmt's text TOLD by the authors' own Lean function (tested against real Go, not proved from fmt's source: count such statements apart). THE CARD IS WHAT COUNTS. Prove the row's statement (the work); the ties are given (YtdmgmpagnmmehaaDoorTie.lean); close each card by the builder's one call (the guide's Derived/Test/ToyasCard.lean, 'card_holds'). Laid BY PROGRAM, IN A SANDBOX (cutbox-door.mjs). By AI agents, Wed Nov 11 2026. No macro, syntax, notation, axiom, sorry.
-/
import Derived.Test.YtdmgmpagnmmehaaDoorRows
import GoSem.ClaimSeven
namespace Go.Proofs.YtdmgmpagnmmehaaDoor
namespace Rows

/-- THE TIED CARD OF 'banyanlaw09.NodeCuts'. -/
def nodeCutsCard : Claim7 := { stood := { row := nodeCutsRow, standIns := [], harness := (true, "cf53c24b4348fb287c8326744fb11b47fbb5bc7954947e855766706dbdf35d93"), looks := false }, kinds := [], alts := [], laidByText := true, laidKinds := [.data, .pinned], laidTests := true, laidLooks := .later }
def NodeCutsCardSaid : Prop := Claim7.holds Tryd.pinned (.plain (OpenSpec.ofChange nodeCutsSpec)) nodeCutsCard

/-- THE TIED CARD OF 'banyanlaw09.NodeBack'. -/
def nodeBackCard : Claim7 := { stood := { row := nodeBackRow, standIns := [], harness := (true, "cf53c24b4348fb287c8326744fb11b47fbb5bc7954947e855766706dbdf35d93"), looks := false }, kinds := [], alts := [], laidByText := true, laidKinds := [.data, .pinned], laidTests := true, laidLooks := .later }
def NodeBackCardSaid : Prop := Claim7.holds Tryd.pinned (.plain (OpenSpec.ofChange nodeBackSpec)) nodeBackCard

/-- THE TIED CARD OF 'banyanlaw10.UberPuts'. -/
def uberPutsCard : Claim7 := { stood := { row := uberPutsRow, standIns := [], harness := (true, "cf53c24b4348fb287c8326744fb11b47fbb5bc7954947e855766706dbdf35d93"), looks := false }, kinds := [], alts := [], laidByText := true, laidKinds := [.data, .pinned], laidTests := true, laidLooks := .later }
def UberPutsCardSaid : Prop := Claim7.holds Tryd.pinned (.plain (OpenSpec.ofChange uberPutsSpec)) uberPutsCard

/-- THE TIED CARD OF 'banyanlaw10.UberBack'. -/
def uberBackCard : Claim7 := { stood := { row := uberBackRow, standIns := [], harness := (true, "cf53c24b4348fb287c8326744fb11b47fbb5bc7954947e855766706dbdf35d93"), looks := false }, kinds := [], alts := [], laidByText := true, laidKinds := [.data, .pinned], laidTests := true, laidLooks := .later }
def UberBackCardSaid : Prop := Claim7.holds Tryd.pinned (.plain (OpenSpec.ofChange uberBackSpec)) uberBackCard

/-- THE TIED CARD OF 'banyanlaw10.UberNewer'. -/
def uberNewerCard : Claim7 := { stood := { row := uberNewerRow, standIns := [], harness := (true, "cf53c24b4348fb287c8326744fb11b47fbb5bc7954947e855766706dbdf35d93"), looks := false }, kinds := [], alts := [], laidByText := true, laidKinds := [.data, .pinned], laidTests := true, laidLooks := .later }
def UberNewerCardSaid : Prop := Claim7.holds Tryd.pinned (.plain (OpenSpec.ofChange uberNewerSpec)) uberNewerCard

/-- THE TIED CARD OF 'banyanlaw10.UberSizes'. -/
def uberSizesCard : Claim7 := { stood := { row := uberSizesRow, standIns := [], harness := (true, "cf53c24b4348fb287c8326744fb11b47fbb5bc7954947e855766706dbdf35d93"), looks := false }, kinds := [], alts := [], laidByText := true, laidKinds := [.data, .pinned], laidTests := true, laidLooks := .later }
def UberSizesCardSaid : Prop := Claim7.holds Tryd.pinned (.plain (OpenSpec.ofChange uberSizesSpec)) uberSizesCard

/-- THE SECOND FORM's CARD OF 'banyanlaw09.NodeCuts'. -/
def nodeCutsUptoCard : Claim7 := { stood := { row := nodeCutsUptoRow, standIns := [], harness := (true, "cf53c24b4348fb287c8326744fb11b47fbb5bc7954947e855766706dbdf35d93"), looks := false }, kinds := [], alts := [], laidByText := true, laidKinds := [.data, .pinned], laidTests := true, laidLooks := .later }
def NodeCutsUptoCardSaid : Prop := Claim7.holds Tryd.pinned (.plain (OpenSpec.upto nodeCutsSpec)) nodeCutsUptoCard

/-- THE SECOND FORM's CARD OF 'banyanlaw09.NodeBack'. -/
def nodeBackUptoCard : Claim7 := { stood := { row := nodeBackUptoRow, standIns := [], harness := (true, "cf53c24b4348fb287c8326744fb11b47fbb5bc7954947e855766706dbdf35d93"), looks := false }, kinds := [], alts := [], laidByText := true, laidKinds := [.data, .pinned], laidTests := true, laidLooks := .later }
def NodeBackUptoCardSaid : Prop := Claim7.holds Tryd.pinned (.plain (OpenSpec.upto nodeBackSpec)) nodeBackUptoCard

/-- THE SECOND FORM's CARD OF 'banyanlaw10.UberPuts'. -/
def uberPutsUptoCard : Claim7 := { stood := { row := uberPutsUptoRow, standIns := [], harness := (true, "cf53c24b4348fb287c8326744fb11b47fbb5bc7954947e855766706dbdf35d93"), looks := false }, kinds := [], alts := [], laidByText := true, laidKinds := [.data, .pinned], laidTests := true, laidLooks := .later }
def UberPutsUptoCardSaid : Prop := Claim7.holds Tryd.pinned (.plain (OpenSpec.upto uberPutsSpec)) uberPutsUptoCard

/-- THE SECOND FORM's CARD OF 'banyanlaw10.UberBack'. -/
def uberBackUptoCard : Claim7 := { stood := { row := uberBackUptoRow, standIns := [], harness := (true, "cf53c24b4348fb287c8326744fb11b47fbb5bc7954947e855766706dbdf35d93"), looks := false }, kinds := [], alts := [], laidByText := true, laidKinds := [.data, .pinned], laidTests := true, laidLooks := .later }
def UberBackUptoCardSaid : Prop := Claim7.holds Tryd.pinned (.plain (OpenSpec.upto uberBackSpec)) uberBackUptoCard

/-- THE SECOND FORM's CARD OF 'banyanlaw10.UberNewer'. -/
def uberNewerUptoCard : Claim7 := { stood := { row := uberNewerUptoRow, standIns := [], harness := (true, "cf53c24b4348fb287c8326744fb11b47fbb5bc7954947e855766706dbdf35d93"), looks := false }, kinds := [], alts := [], laidByText := true, laidKinds := [.data, .pinned], laidTests := true, laidLooks := .later }
def UberNewerUptoCardSaid : Prop := Claim7.holds Tryd.pinned (.plain (OpenSpec.upto uberNewerSpec)) uberNewerUptoCard

/-- THE SECOND FORM's CARD OF 'banyanlaw10.UberSizes'. -/
def uberSizesUptoCard : Claim7 := { stood := { row := uberSizesUptoRow, standIns := [], harness := (true, "cf53c24b4348fb287c8326744fb11b47fbb5bc7954947e855766706dbdf35d93"), looks := false }, kinds := [], alts := [], laidByText := true, laidKinds := [.data, .pinned], laidTests := true, laidLooks := .later }
def UberSizesUptoCardSaid : Prop := Claim7.holds Tryd.pinned (.plain (OpenSpec.upto uberSizesSpec)) uberSizesUptoCard
end Rows
end Go.Proofs.YtdmgmpagnmmehaaDoor
