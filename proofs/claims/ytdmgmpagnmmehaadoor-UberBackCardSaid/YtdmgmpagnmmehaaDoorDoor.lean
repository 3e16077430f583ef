/- A world for the witnesses of this seat's cards: the settled one, the two listed tables holding what they are laid with. -/
import Derived.Test.YtdmgmpagnmmehaaDoorRow
import Derived.Test.YtdmgmpagnmmehaaDoorCards
import Derived.Test.YtdmgmpagnmmehaaDoorTie
import Derived.Deep.DeepHandedRow
import Derived.Lib.LaidTab
namespace Go.Proofs.YtdmgmpagnmmehaaDoor
open Go.ChangeShapes Go.WideShapes Go.ChangeAt Go.RowKit

/-- The first table's cells, and the second's. -/
noncomputable def firstCellsOf : Array Value := (Go.Pinned.utf8FirstZ.map fun n : Nat => Value.int .u8 (n : Int)).toArray
noncomputable def acceptCellsOf : Array Value := ([128, 191, 160, 191, 128, 159, 144, 191, 128, 143, 0, 0, 0, 0, 0, 0, 0, 0, 0, 0, 0, 0, 0, 0, 0, 0, 0, 0, 0, 0, 0, 0].map fun n : Nat => Value.int .u8 (n : Int)).toArray

def putCells (cs : Array Value) : Obj → Obj
  | .cells _ t fr => .cells cs t fr
  | o => o

noncomputable def laidWorld (os : Os) : World :=
  { World.holding Tryd.prog os ⟨#[], #[], []⟩ with heap := ((World.holding Tryd.prog os ⟨#[], #[], []⟩).heap.modify 1 (putCells firstCellsOf)).modify 2 (putCells acceptCellsOf) }

end Go.Proofs.YtdmgmpagnmmehaaDoor
