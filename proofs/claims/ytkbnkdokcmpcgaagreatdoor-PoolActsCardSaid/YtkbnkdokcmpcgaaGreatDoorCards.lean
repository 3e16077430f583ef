/-
  DERIVED. GIVEN WITH THE SEED: THE CARDS: each row of YtkbnkdokcmpcgaaGreatDoorRows.lean that lists a variable, with what it lists TIED to the program's text (the seventh form; the later family's looks); each row that meets fmt, with fmt's text TOLD by the authors' own Lean function (tested against real Go, not proved from fmt's source: count such statements apart). THE CARD IS WHAT COUNTS. Prove the row's statement (the work); the ties are given (YtkbnkdokcmpcgaaGreatDoorTie.lean); close each card by the builder's one call (the guide's Derived/Test/ToyasCard.lean, 'card_holds'). Laid BY PROGRAM, IN A SANDBOX (cutbox-door.mjs). By AI agents, Wed Nov 11 2026. No macro, syntax, notation, axiom, sorry.
-/
import Derived.Test.YtkbnkdokcmpcgaaGreatDoorRows
import GoSem.ClaimSeven
namespace Go.Proofs.YtkbnkdokcmpcgaaGreatDoor
namespace Rows

/-- THE TIED CARD OF 'banyanlaw13.PoolKeys'. -/
def poolKeysCard : Claim7 := { stood := { row := poolKeysRow, standIns := [], harness := (true, "8dc5f7f5c1a56c5fa63aee0c7279dfdc698ee7d2753e2f01a8cce9b95096507a"), looks := false }, kinds := [], alts := [], laidByText := true, laidKinds := [.data, .data, .pinned], laidTests := true, laidLooks := .later }
def PoolKeysCardSaid : Prop := Claim7.holds Tryz.pinned (.plain (OpenSpec.ofChange poolKeysSpec)) poolKeysCard

/-- THE TIED CARD OF 'banyanlaw13.PoolTwice'. -/
def poolTwiceCard : Claim7 := { stood := { row := poolTwiceRow, standIns := [], harness := (true, "8dc5f7f5c1a56c5fa63aee0c7279dfdc698ee7d2753e2f01a8cce9b95096507a"), looks := false }, kinds := [], alts := [], laidByText := true, laidKinds := [.data, .data, .pinned], laidTests := true, laidLooks := .later }
def PoolTwiceCardSaid : Prop := Claim7.holds Tryz.pinned (.plain (OpenSpec.ofChange poolTwiceSpec)) poolTwiceCard

/-- THE TIED CARD OF 'banyanlaw13.PoolFills'. -/
def poolFillsCard : Claim7 := { stood := { row := poolFillsRow, standIns := [], harness := (true, "8dc5f7f5c1a56c5fa63aee0c7279dfdc698ee7d2753e2f01a8cce9b95096507a"), looks := false }, kinds := [], alts := [], laidByText := true, laidKinds := [.data, .data, .pinned], laidTests := true, laidLooks := .later }
def PoolFillsCardSaid : Prop := Claim7.holds Tryz.pinned (.plain (OpenSpec.ofChange poolFillsSpec)) poolFillsCard

/-- THE TIED CARD OF 'banyanlaw13.PoolDown'. -/
def poolDownCard : Claim7 := { stood := { row := poolDownRow, standIns := [], harness := (true, "8dc5f7f5c1a56c5fa63aee0c7279dfdc698ee7d2753e2f01a8cce9b95096507a"), looks := false }, kinds := [], alts := [], laidByText := true, laidKinds := [.data, .data, .pinned], laidTests := true, laidLooks := .later }
def PoolDownCardSaid : Prop := Claim7.holds Tryz.pinned (.plain (OpenSpec.ofChange poolDownSpec)) poolDownCard

/-- THE TIED CARD OF 'banyanlaw13.PoolTurns'. -/
def poolTurnsCard : Claim7 := { stood := { row := poolTurnsRow, standIns := [], harness := (true, "8dc5f7f5c1a56c5fa63aee0c7279dfdc698ee7d2753e2f01a8cce9b95096507a"), looks := false }, kinds := [], alts := [], laidByText := true, laidKinds := [.data, .data, .pinned], laidTests := true, laidLooks := .later }
def PoolTurnsCardSaid : Prop := Claim7.holds Tryz.pinned (.plain (OpenSpec.ofChange poolTurnsSpec)) poolTurnsCard

/-- THE TIED CARD OF 'banyanlaw13.PoolBack'. -/
def poolBackCard : Claim7 := { stood := { row := poolBackRow, standIns := [], harness := (true, "8dc5f7f5c1a56c5fa63aee0c7279dfdc698ee7d2753e2f01a8cce9b95096507a"), looks := false }, kinds := [], alts := [], laidByText := true, laidKinds := [.data, .data, .pinned], laidTests := true, laidLooks := .later }
def PoolBackCardSaid : Prop := Claim7.holds Tryz.pinned (.plain (OpenSpec.ofChange poolBackSpec)) poolBackCard

/-- THE TIED CARD OF 'banyanlaw13.PoolActs'. -/
def poolActsCard : Claim7 := { stood := { row := poolActsRow, standIns := [], harness := (true, "8dc5f7f5c1a56c5fa63aee0c7279dfdc698ee7d2753e2f01a8cce9b95096507a"), looks := false }, kinds := [], alts := [], laidByText := true, laidKinds := [.data, .data, .pinned], laidTests := true, laidLooks := .later }
def PoolActsCardSaid : Prop := Claim7.holds Tryz.pinned (.plain (OpenSpec.ofChange poolActsSpec)) poolActsCard

/-- THE TIED CARD OF 'banyanlaw14.TreeOrders'. -/
def treeOrdersCard : Claim7 := { stood := { row := treeOrdersRow, standIns := [], harness := (true, "8dc5f7f5c1a56c5fa63aee0c7279dfdc698ee7d2753e2f01a8cce9b95096507a"), looks := false }, kinds := [], alts := [], laidByText := true, laidKinds := [.data, .data, .pinned], laidTests := true, laidLooks := .later }
def TreeOrdersCardSaid : Prop := Claim7.holds Tryz.pinned (.plain (OpenSpec.ofChange treeOrdersSpec)) treeOrdersCard

/-- THE TIED CARD OF 'banyanlaw14.TreeActs'. -/
def treeActsCard : Claim7 := { stood := { row := treeActsRow, standIns := [], harness := (true, "8dc5f7f5c1a56c5fa63aee0c7279dfdc698ee7d2753e2f01a8cce9b95096507a"), looks := false }, kinds := [], alts := [], laidByText := true, laidKinds := [.data, .data, .pinned], laidTests := true, laidLooks := .later }
def TreeActsCardSaid : Prop := Claim7.holds Tryz.pinned (.plain (OpenSpec.ofChange treeActsSpec)) treeActsCard

/-- THE TIED CARD OF 'banyanlaw14.TreeScans'. -/
def treeScansCard : Claim7 := { stood := { row := treeScansRow, standIns := [], harness := (true, "8dc5f7f5c1a56c5fa63aee0c7279dfdc698ee7d2753e2f01a8cce9b95096507a"), looks := false }, kinds := [], alts := [], laidByText := true, laidKinds := [.data, .data, .pinned], laidTests := true, laidLooks := .later }
def TreeScansCardSaid : Prop := Claim7.holds Tryz.pinned (.plain (OpenSpec.ofChange treeScansSpec)) treeScansCard

/-- THE TIED CARD OF 'banyanlaw14.TreeFull'. -/
def treeFullCard : Claim7 := { stood := { row := treeFullRow, standIns := [], harness := (true, "8dc5f7f5c1a56c5fa63aee0c7279dfdc698ee7d2753e2f01a8cce9b95096507a"), looks := false }, kinds := [], alts := [], laidByText := true, laidKinds := [.data, .data, .pinned], laidTests := true, laidLooks := .later }
def TreeFullCardSaid : Prop := Claim7.holds Tryz.pinned (.plain (OpenSpec.ofChange treeFullSpec)) treeFullCard

/-- THE TIED CARD OF 'banyanlaw14.TreeNodes'. -/
def treeNodesCard : Claim7 := { stood := { row := treeNodesRow, standIns := [], harness := (true, "8dc5f7f5c1a56c5fa63aee0c7279dfdc698ee7d2753e2f01a8cce9b95096507a"), looks := false }, kinds := [], alts := [], laidByText := true, laidKinds := [.data, .data, .pinned], laidTests := true, laidLooks := .later }
def TreeNodesCardSaid : Prop := Claim7.holds Tryz.pinned (.plain (OpenSpec.ofChange treeNodesSpec)) treeNodesCard

/-- THE SECOND FORM's CARD OF 'banyanlaw13.PoolKeys'. -/
def poolKeysUptoCard : Claim7 := { stood := { row := poolKeysUptoRow, standIns := [], harness := (true, "8dc5f7f5c1a56c5fa63aee0c7279dfdc698ee7d2753e2f01a8cce9b95096507a"), looks := false }, kinds := [], alts := [], laidByText := true, laidKinds := [.data, .data, .pinned], laidTests := true, laidLooks := .later }
def PoolKeysUptoCardSaid : Prop := Claim7.holds Tryz.pinned (.plain (OpenSpec.upto poolKeysSpec)) poolKeysUptoCard

/-- THE SECOND FORM's CARD OF 'banyanlaw13.PoolTwice'. -/
def poolTwiceUptoCard : Claim7 := { stood := { row := poolTwiceUptoRow, standIns := [], harness := (true, "8dc5f7f5c1a56c5fa63aee0c7279dfdc698ee7d2753e2f01a8cce9b95096507a"), looks := false }, kinds := [], alts := [], laidByText := true, laidKinds := [.data, .data, .pinned], laidTests := true, laidLooks := .later }
def PoolTwiceUptoCardSaid : Prop := Claim7.holds Tryz.pinned (.plain (OpenSpec.upto poolTwiceSpec)) poolTwiceUptoCard

/-- THE SECOND FORM's CARD OF 'banyanlaw13.PoolFills'. -/
def poolFillsUptoCard : Claim7 := { stood := { row := poolFillsUptoRow, standIns := [], harness := (true, "8dc5f7f5c1a56c5fa63aee0c7279dfdc698ee7d2753e2f01a8cce9b95096507a"), looks := false }, kinds := [], alts := [], laidByText := true, laidKinds := [.data, .data, .pinned], laidTests := true, laidLooks := .later }
def PoolFillsUptoCardSaid : Prop := Claim7.holds Tryz.pinned (.plain (OpenSpec.upto poolFillsSpec)) poolFillsUptoCard

/-- THE SECOND FORM's CARD OF 'banyanlaw13.PoolDown'. -/
def poolDownUptoCard : Claim7 := { stood := { row := poolDownUptoRow, standIns := [], harness := (true, "8dc5f7f5c1a56c5fa63aee0c7279dfdc698ee7d2753e2f01a8cce9b95096507a"), looks := false }, kinds := [], alts := [], laidByText := true, laidKinds := [.data, .data, .pinned], laidTests := true, laidLooks := .later }
def PoolDownUptoCardSaid : Prop := Claim7.holds Tryz.pinned (.plain (OpenSpec.upto poolDownSpec)) poolDownUptoCard

/-- THE SECOND FORM's CARD OF 'banyanlaw13.PoolTurns'. -/
def poolTurnsUptoCard : Claim7 := { stood := { row := poolTurnsUptoRow, standIns := [], harness := (true, "8dc5f7f5c1a56c5fa63aee0c7279dfdc698ee7d2753e2f01a8cce9b95096507a"), looks := false }, kinds := [], alts := [], laidByText := true, laidKinds := [.data, .data, .pinned], laidTests := true, laidLooks := .later }
def PoolTurnsUptoCardSaid : Prop := Claim7.holds Tryz.pinned (.plain (OpenSpec.upto poolTurnsSpec)) poolTurnsUptoCard

/-- THE SECOND FORM's CARD OF 'banyanlaw13.PoolBack'. -/
def poolBackUptoCard : Claim7 := { stood := { row := poolBackUptoRow, standIns := [], harness := (true, "8dc5f7f5c1a56c5fa63aee0c7279dfdc698ee7d2753e2f01a8cce9b95096507a"), looks := false }, kinds := [], alts := [], laidByText := true, laidKinds := [.data, .data, .pinned], laidTests := true, laidLooks := .later }
def PoolBackUptoCardSaid : Prop := Claim7.holds Tryz.pinned (.plain (OpenSpec.upto poolBackSpec)) poolBackUptoCard

/-- THE SECOND FORM's CARD OF 'banyanlaw13.PoolActs'. -/
def poolActsUptoCard : Claim7 := { stood := { row := poolActsUptoRow, standIns := [], harness := (true, "8dc5f7f5c1a56c5fa63aee0c7279dfdc698ee7d2753e2f01a8cce9b95096507a"), looks := false }, kinds := [], alts := [], laidByText := true, laidKinds := [.data, .data, .pinned], laidTests := true, laidLooks := .later }
def PoolActsUptoCardSaid : Prop := Claim7.holds Tryz.pinned (.plain (OpenSpec.upto poolActsSpec)) poolActsUptoCard

/-- THE SECOND FORM's CARD OF 'banyanlaw14.TreeOrders'. -/
def treeOrdersUptoCard : Claim7 := { stood := { row := treeOrdersUptoRow, standIns := [], harness := (true, "8dc5f7f5c1a56c5fa63aee0c7279dfdc698ee7d2753e2f01a8cce9b95096507a"), looks := false }, kinds := [], alts := [], laidByText := true, laidKinds := [.data, .data, .pinned], laidTests := true, laidLooks := .later }
def TreeOrdersUptoCardSaid : Prop := Claim7.holds Tryz.pinned (.plain (OpenSpec.upto treeOrdersSpec)) treeOrdersUptoCard

/-- THE SECOND FORM's CARD OF 'banyanlaw14.TreeActs'. -/
def treeActsUptoCard : Claim7 := { stood := { row := treeActsUptoRow, standIns := [], harness := (true, "8dc5f7f5c1a56c5fa63aee0c7279dfdc698ee7d2753e2f01a8cce9b95096507a"), looks := false }, kinds := [], alts := [], laidByText := true, laidKinds := [.data, .data, .pinned], laidTests := true, laidLooks := .later }
def TreeActsUptoCardSaid : Prop := Claim7.holds Tryz.pinned (.plain (OpenSpec.upto treeActsSpec)) treeActsUptoCard

/-- THE SECOND FORM's CARD OF 'banyanlaw14.TreeScans'. -/
def treeScansUptoCard : Claim7 := { stood := { row := treeScansUptoRow, standIns := [], harness := (true, "8dc5f7f5c1a56c5fa63aee0c7279dfdc698ee7d2753e2f01a8cce9b95096507a"), looks := false }, kinds := [], alts := [], laidByText := true, laidKinds := [.data, .data, .pinned], laidTests := true, laidLooks := .later }
def TreeScansUptoCardSaid : Prop := Claim7.holds Tryz.pinned (.plain (OpenSpec.upto treeScansSpec)) treeScansUptoCard

/-- THE SECOND FORM's CARD OF 'banyanlaw14.TreeFull'. -/
def treeFullUptoCard : Claim7 := { stood := { row := treeFullUptoRow, standIns := [], harness := (true, "8dc5f7f5c1a56c5fa63aee0c7279dfdc698ee7d2753e2f01a8cce9b95096507a"), looks := false }, kinds := [], alts := [], laidByText := true, laidKinds := [.data, .data, .pinned], laidTests := true, laidLooks := .later }
def TreeFullUptoCardSaid : Prop := Claim7.holds Tryz.pinned (.plain (OpenSpec.upto treeFullSpec)) treeFullUptoCard

/-- THE SECOND FORM's CARD OF 'banyanlaw14.TreeNodes'. -/
def treeNodesUptoCard : Claim7 := { stood := { row := treeNodesUptoRow, standIns := [], harness := (true, "8dc5f7f5c1a56c5fa63aee0c7279dfdc698ee7d2753e2f01a8cce9b95096507a"), looks := false }, kinds := [], alts := [], laidByText := true, laidKinds := [.data, .data, .pinned], laidTests := true, laidLooks := .later }
def TreeNodesUptoCardSaid : Prop := Claim7.holds Tryz.pinned (.plain (OpenSpec.upto treeNodesSpec)) treeNodesUptoCard
end Rows
end Go.Proofs.YtkbnkdokcmpcgaaGreatDoor
