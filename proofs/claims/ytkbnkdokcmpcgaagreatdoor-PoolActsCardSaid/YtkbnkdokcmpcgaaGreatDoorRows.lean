/-
  NARROWER THAN 'FOR EVERY INPUT', by the rows' own cells (each row's printed sentence says how): PoolKeys: laid · PoolTwice: laid · PoolFills: laid · PoolDown: laid · PoolTurns: laid · PoolBack: laid · PoolActs: laid · TreeOrders: laid · TreeActs: laid · TreeScans: laid · TreeFull: laid · TreeNodes: laid.
  DERIVED. THE GIVEN ROWS OF THIS SEAT. 12 by the template 'for every input the law returns true; each argument reads behind the call as it read before'; 0 by the template 'total and deterministic' (their statements: YtkbnkdokcmpcgaaGreatDoorTotals.lean).
  GIVEN WITH THE SEED: the statements are not yours to turn. If you find one false, say at which input.
  Laid BY PROGRAM, IN A SANDBOX (cutbox-rows.mjs): the forced cells as the released guide's own fill.sh prints them over the translation 662b18518ec56885… (all of the seat's roots in one cut). By AI agents, Wed Nov 11 2026. No macro, syntax, notation, axiom, sorry.
-/
import Derived.Test.YtkbnkdokcmpcgaaGreatDoorChecked
import GoSem.PinnedTables
import GoSem.Claim
import GoSem.ClaimJoined
import GoSem.ClaimMapViews
import Derived.JoinedTies
import Derived.KernelRfl
namespace Go.Proofs.YtkbnkdokcmpcgaaGreatDoor
/- THE CELL 'sum', in the pinned program and in every row, IS THE sha256 OF THE DUMP (.gsa) THAT YtkbnkdokcmpcgaaGreatDoorProg.lean LOADS. Nothing in Lean hashes anything: it is a label: what it is worth is what the hold of that sum in a sandbox is worth. -/
noncomputable def Tryz.pinned : Pinned := { name := "ytkbnkdokcmpcgaagreatdoor", sum := "662b18518ec56885d30b3bf38355c847b8687ab44632c2e14f281b18da9aa0eb", checked := Tryz.checked }
namespace Rows
def none {H : Type} : Left H := { results := [], args := [] }

/- WHAT THE LISTED PACKAGE-LEVEL VARIABLES READ AS WHEN THE CALL BEGINS. Each datum BY PROGRAM (the guide's laid-datum.mjs) off the statement by which the dump's own 'gosem.cut.vars' lays the variable. In a bare row this is a premise. The card (YtkbnkdokcmpcgaaGreatDoorCards.lean) ties it to the program's text. -/
def laid_math_bits_deBruijn64tab {H : Type} : DataW H := .agg [.lit (.int .u8 0), .lit (.int .u8 1), .lit (.int .u8 56), .lit (.int .u8 2), .lit (.int .u8 57), .lit (.int .u8 49), .lit (.int .u8 28), .lit (.int .u8 3), .lit (.int .u8 61), .lit (.int .u8 58), .lit (.int .u8 42), .lit (.int .u8 50), .lit (.int .u8 38), .lit (.int .u8 29), .lit (.int .u8 17), .lit (.int .u8 4), .lit (.int .u8 62), .lit (.int .u8 47), .lit (.int .u8 59), .lit (.int .u8 36), .lit (.int .u8 45), .lit (.int .u8 43), .lit (.int .u8 51), .lit (.int .u8 22), .lit (.int .u8 53), .lit (.int .u8 39), .lit (.int .u8 33), .lit (.int .u8 30), .lit (.int .u8 24), .lit (.int .u8 18), .lit (.int .u8 12), .lit (.int .u8 5), .lit (.int .u8 63), .lit (.int .u8 55), .lit (.int .u8 48), .lit (.int .u8 27), .lit (.int .u8 60), .lit (.int .u8 41), .lit (.int .u8 37), .lit (.int .u8 16), .lit (.int .u8 46), .lit (.int .u8 35), .lit (.int .u8 44), .lit (.int .u8 21), .lit (.int .u8 52), .lit (.int .u8 32), .lit (.int .u8 23), .lit (.int .u8 11), .lit (.int .u8 54), .lit (.int .u8 26), .lit (.int .u8 40), .lit (.int .u8 15), .lit (.int .u8 34), .lit (.int .u8 20), .lit (.int .u8 31), .lit (.int .u8 10), .lit (.int .u8 25), .lit (.int .u8 14), .lit (.int .u8 19), .lit (.int .u8 9), .lit (.int .u8 13), .lit (.int .u8 8), .lit (.int .u8 7), .lit (.int .u8 6)]
def laid_unicode_utf8_acceptRanges {H : Type} : DataW H := .agg [.agg [.lit (.int .u8 128), .lit (.int .u8 191)], .agg [.lit (.int .u8 160), .lit (.int .u8 191)], .agg [.lit (.int .u8 128), .lit (.int .u8 159)], .agg [.lit (.int .u8 144), .lit (.int .u8 191)], .agg [.lit (.int .u8 128), .lit (.int .u8 143)], .agg [.lit (.int .u8 0), .lit (.int .u8 0)], .agg [.lit (.int .u8 0), .lit (.int .u8 0)], .agg [.lit (.int .u8 0), .lit (.int .u8 0)], .agg [.lit (.int .u8 0), .lit (.int .u8 0)], .agg [.lit (.int .u8 0), .lit (.int .u8 0)], .agg [.lit (.int .u8 0), .lit (.int .u8 0)], .agg [.lit (.int .u8 0), .lit (.int .u8 0)], .agg [.lit (.int .u8 0), .lit (.int .u8 0)], .agg [.lit (.int .u8 0), .lit (.int .u8 0)], .agg [.lit (.int .u8 0), .lit (.int .u8 0)], .agg [.lit (.int .u8 0), .lit (.int .u8 0)]]
/-- One of Go's own tables, pinned by name: the form's constant. -/
def laid_unicode_utf8_first : DataW Unit := Go.Pinned.utf8First

/-- 'banyanlaw13.PoolKeys': WHATEVER THE INPUT: true; the input reads as it did. -/
def poolKeysSpec : ChangeSpec := { name := "poolKeys", fn := fun _ => fun
  | [d1, d2] => { results := [.lit (.bool true)], args := [d1, d2] }
  | _ => none }
def poolKeysRow : OpenClaim := { program := "ytkbnkdokcmpcgaagreatdoor", sum := "662b18518ec56885d30b3bf38355c847b8687ab44632c2e14f281b18da9aa0eb", func := "banyan/banyanlaw13.PoolKeys", spec := "poolKeys", inPlace := ["math/bits.Add64"], unfollowed := true, recurses := true, named := ["math/bits.deBruijn64tab", "unicode/utf8.first", "unicode/utf8.acceptRanges"], apart := false, laid := [("math/bits.deBruijn64tab", laid_math_bits_deBruijn64tab), ("unicode/utf8.acceptRanges", laid_unicode_utf8_acceptRanges), ("unicode/utf8.first", laid_unicode_utf8_first)] }
def PoolKeysSaid : Prop := poolKeysRow.holds Tryz.pinned (OpenSpec.ofChange poolKeysSpec)

/-- ITS FALSE NEIGHBOUR: 'it returns false'. Refute it at one input. -/
def poolKeysWrong : ChangeSpec := { name := "poolKeys", fn := fun _ => fun
  | [d1, d2] => { results := [.lit (.bool false)], args := [d1, d2] }
  | _ => none }
def PoolKeysWrongFalsely : Prop := poolKeysRow.holds Tryz.pinned (OpenSpec.ofChange poolKeysWrong)

/-- 'banyanlaw13.PoolTwice': WHATEVER THE INPUT: true; the input reads as it did. -/
def poolTwiceSpec : ChangeSpec := { name := "poolTwice", fn := fun _ => fun
  | [d1, d2, d3] => { results := [.lit (.bool true)], args := [d1, d2, d3] }
  | _ => none }
def poolTwiceRow : OpenClaim := { program := "ytkbnkdokcmpcgaagreatdoor", sum := "662b18518ec56885d30b3bf38355c847b8687ab44632c2e14f281b18da9aa0eb", func := "banyan/banyanlaw13.PoolTwice", spec := "poolTwice", inPlace := ["math/bits.Add64"], unfollowed := true, recurses := true, named := ["math/bits.deBruijn64tab", "unicode/utf8.first", "unicode/utf8.acceptRanges"], apart := false, laid := [("math/bits.deBruijn64tab", laid_math_bits_deBruijn64tab), ("unicode/utf8.acceptRanges", laid_unicode_utf8_acceptRanges), ("unicode/utf8.first", laid_unicode_utf8_first)] }
def PoolTwiceSaid : Prop := poolTwiceRow.holds Tryz.pinned (OpenSpec.ofChange poolTwiceSpec)

/-- ITS FALSE NEIGHBOUR: 'it returns false'. Refute it at one input. -/
def poolTwiceWrong : ChangeSpec := { name := "poolTwice", fn := fun _ => fun
  | [d1, d2, d3] => { results := [.lit (.bool false)], args := [d1, d2, d3] }
  | _ => none }
def PoolTwiceWrongFalsely : Prop := poolTwiceRow.holds Tryz.pinned (OpenSpec.ofChange poolTwiceWrong)

/-- 'banyanlaw13.PoolFills': WHATEVER THE INPUT: true; the input reads as it did. -/
def poolFillsSpec : ChangeSpec := { name := "poolFills", fn := fun _ => fun
  | [d1, d2] => { results := [.lit (.bool true)], args := [d1, d2] }
  | _ => none }
def poolFillsRow : OpenClaim := { program := "ytkbnkdokcmpcgaagreatdoor", sum := "662b18518ec56885d30b3bf38355c847b8687ab44632c2e14f281b18da9aa0eb", func := "banyan/banyanlaw13.PoolFills", spec := "poolFills", inPlace := ["math/bits.Add64"], unfollowed := true, recurses := true, named := ["math/bits.deBruijn64tab", "unicode/utf8.first", "unicode/utf8.acceptRanges"], apart := false, laid := [("math/bits.deBruijn64tab", laid_math_bits_deBruijn64tab), ("unicode/utf8.acceptRanges", laid_unicode_utf8_acceptRanges), ("unicode/utf8.first", laid_unicode_utf8_first)] }
def PoolFillsSaid : Prop := poolFillsRow.holds Tryz.pinned (OpenSpec.ofChange poolFillsSpec)

/-- ITS FALSE NEIGHBOUR: 'it returns false'. Refute it at one input. -/
def poolFillsWrong : ChangeSpec := { name := "poolFills", fn := fun _ => fun
  | [d1, d2] => { results := [.lit (.bool false)], args := [d1, d2] }
  | _ => none }
def PoolFillsWrongFalsely : Prop := poolFillsRow.holds Tryz.pinned (OpenSpec.ofChange poolFillsWrong)

/-- 'banyanlaw13.PoolDown': WHATEVER THE INPUT: true; the input reads as it did. -/
def poolDownSpec : ChangeSpec := { name := "poolDown", fn := fun _ => fun
  | [d1, d2] => { results := [.lit (.bool true)], args := [d1, d2] }
  | _ => none }
def poolDownRow : OpenClaim := { program := "ytkbnkdokcmpcgaagreatdoor", sum := "662b18518ec56885d30b3bf38355c847b8687ab44632c2e14f281b18da9aa0eb", func := "banyan/banyanlaw13.PoolDown", spec := "poolDown", inPlace := ["math/bits.Add64"], unfollowed := true, recurses := true, named := ["math/bits.deBruijn64tab", "unicode/utf8.first", "unicode/utf8.acceptRanges"], apart := false, laid := [("math/bits.deBruijn64tab", laid_math_bits_deBruijn64tab), ("unicode/utf8.acceptRanges", laid_unicode_utf8_acceptRanges), ("unicode/utf8.first", laid_unicode_utf8_first)] }
def PoolDownSaid : Prop := poolDownRow.holds Tryz.pinned (OpenSpec.ofChange poolDownSpec)

/-- ITS FALSE NEIGHBOUR: 'it returns false'. Refute it at one input. -/
def poolDownWrong : ChangeSpec := { name := "poolDown", fn := fun _ => fun
  | [d1, d2] => { results := [.lit (.bool false)], args := [d1, d2] }
  | _ => none }
def PoolDownWrongFalsely : Prop := poolDownRow.holds Tryz.pinned (OpenSpec.ofChange poolDownWrong)

/-- 'banyanlaw13.PoolTurns': WHATEVER THE INPUT: true; the input reads as it did. -/
def poolTurnsSpec : ChangeSpec := { name := "poolTurns", fn := fun _ => fun
  | [d1, d2, d3] => { results := [.lit (.bool true)], args := [d1, d2, d3] }
  | _ => none }
def poolTurnsRow : OpenClaim := { program := "ytkbnkdokcmpcgaagreatdoor", sum := "662b18518ec56885d30b3bf38355c847b8687ab44632c2e14f281b18da9aa0eb", func := "banyan/banyanlaw13.PoolTurns", spec := "poolTurns", inPlace := ["math/bits.Add64"], unfollowed := true, recurses := true, named := ["math/bits.deBruijn64tab", "unicode/utf8.first", "unicode/utf8.acceptRanges"], apart := false, laid := [("math/bits.deBruijn64tab", laid_math_bits_deBruijn64tab), ("unicode/utf8.acceptRanges", laid_unicode_utf8_acceptRanges), ("unicode/utf8.first", laid_unicode_utf8_first)] }
def PoolTurnsSaid : Prop := poolTurnsRow.holds Tryz.pinned (OpenSpec.ofChange poolTurnsSpec)

/-- ITS FALSE NEIGHBOUR: 'it returns false'. Refute it at one input. -/
def poolTurnsWrong : ChangeSpec := { name := "poolTurns", fn := fun _ => fun
  | [d1, d2, d3] => { results := [.lit (.bool false)], args := [d1, d2, d3] }
  | _ => none }
def PoolTurnsWrongFalsely : Prop := poolTurnsRow.holds Tryz.pinned (OpenSpec.ofChange poolTurnsWrong)

/-- 'banyanlaw13.PoolBack': WHATEVER THE INPUT: true; the input reads as it did. -/
def poolBackSpec : ChangeSpec := { name := "poolBack", fn := fun _ => fun
  | [d1, d2] => { results := [.lit (.bool true)], args := [d1, d2] }
  | _ => none }
def poolBackRow : OpenClaim := { program := "ytkbnkdokcmpcgaagreatdoor", sum := "662b18518ec56885d30b3bf38355c847b8687ab44632c2e14f281b18da9aa0eb", func := "banyan/banyanlaw13.PoolBack", spec := "poolBack", inPlace := ["math/bits.Add64"], unfollowed := true, recurses := true, named := ["math/bits.deBruijn64tab", "unicode/utf8.first", "unicode/utf8.acceptRanges"], apart := false, laid := [("math/bits.deBruijn64tab", laid_math_bits_deBruijn64tab), ("unicode/utf8.acceptRanges", laid_unicode_utf8_acceptRanges), ("unicode/utf8.first", laid_unicode_utf8_first)] }
def PoolBackSaid : Prop := poolBackRow.holds Tryz.pinned (OpenSpec.ofChange poolBackSpec)

/-- ITS FALSE NEIGHBOUR: 'it returns false'. Refute it at one input. -/
def poolBackWrong : ChangeSpec := { name := "poolBack", fn := fun _ => fun
  | [d1, d2] => { results := [.lit (.bool false)], args := [d1, d2] }
  | _ => none }
def PoolBackWrongFalsely : Prop := poolBackRow.holds Tryz.pinned (OpenSpec.ofChange poolBackWrong)

/-- 'banyanlaw13.PoolActs': WHATEVER THE INPUT: true; the input reads as it did. -/
def poolActsSpec : ChangeSpec := { name := "poolActs", fn := fun _ => fun
  | [d1, d2] => { results := [.lit (.bool true)], args := [d1, d2] }
  | _ => none }
def poolActsRow : OpenClaim := { program := "ytkbnkdokcmpcgaagreatdoor", sum := "662b18518ec56885d30b3bf38355c847b8687ab44632c2e14f281b18da9aa0eb", func := "banyan/banyanlaw13.PoolActs", spec := "poolActs", inPlace := ["math/bits.Add64"], unfollowed := true, recurses := true, named := ["math/bits.deBruijn64tab", "unicode/utf8.first", "unicode/utf8.acceptRanges"], apart := false, laid := [("math/bits.deBruijn64tab", laid_math_bits_deBruijn64tab), ("unicode/utf8.acceptRanges", laid_unicode_utf8_acceptRanges), ("unicode/utf8.first", laid_unicode_utf8_first)] }
def PoolActsSaid : Prop := poolActsRow.holds Tryz.pinned (OpenSpec.ofChange poolActsSpec)

/-- ITS FALSE NEIGHBOUR: 'it returns false'. Refute it at one input. -/
def poolActsWrong : ChangeSpec := { name := "poolActs", fn := fun _ => fun
  | [d1, d2] => { results := [.lit (.bool false)], args := [d1, d2] }
  | _ => none }
def PoolActsWrongFalsely : Prop := poolActsRow.holds Tryz.pinned (OpenSpec.ofChange poolActsWrong)

/-- 'banyanlaw14.TreeOrders': WHATEVER THE INPUT: true; the input reads as it did. -/
def treeOrdersSpec : ChangeSpec := { name := "treeOrders", fn := fun _ => fun
  | [d1, d2] => { results := [.lit (.bool true)], args := [d1, d2] }
  | _ => none }
def treeOrdersRow : OpenClaim := { program := "ytkbnkdokcmpcgaagreatdoor", sum := "662b18518ec56885d30b3bf38355c847b8687ab44632c2e14f281b18da9aa0eb", func := "banyan/banyanlaw14.TreeOrders", spec := "treeOrders", inPlace := ["math/bits.Add64", "internal/bytealg.abigen_runtime_cmpstring", "slices.overlaps[string]", "slices.overlaps[*banyan/tree.ref]"], unfollowed := true, recurses := true, named := ["unicode/utf8.first", "unicode/utf8.acceptRanges", "math/bits.deBruijn64tab"], apart := false, laid := [("math/bits.deBruijn64tab", laid_math_bits_deBruijn64tab), ("unicode/utf8.acceptRanges", laid_unicode_utf8_acceptRanges), ("unicode/utf8.first", laid_unicode_utf8_first)] }
def TreeOrdersSaid : Prop := treeOrdersRow.holds Tryz.pinned (OpenSpec.ofChange treeOrdersSpec)

/-- ITS FALSE NEIGHBOUR: 'it returns false'. Refute it at one input. -/
def treeOrdersWrong : ChangeSpec := { name := "treeOrders", fn := fun _ => fun
  | [d1, d2] => { results := [.lit (.bool false)], args := [d1, d2] }
  | _ => none }
def TreeOrdersWrongFalsely : Prop := treeOrdersRow.holds Tryz.pinned (OpenSpec.ofChange treeOrdersWrong)

/-- 'banyanlaw14.TreeActs': WHATEVER THE INPUT: true; the input reads as it did. -/
def treeActsSpec : ChangeSpec := { name := "treeActs", fn := fun _ => fun
  | [d] => { results := [.lit (.bool true)], args := [d] }
  | _ => none }
def treeActsRow : OpenClaim := { program := "ytkbnkdokcmpcgaagreatdoor", sum := "662b18518ec56885d30b3bf38355c847b8687ab44632c2e14f281b18da9aa0eb", func := "banyan/banyanlaw14.TreeActs", spec := "treeActs", inPlace := ["math/bits.Add64", "internal/bytealg.abigen_runtime_cmpstring", "slices.overlaps[string]", "slices.overlaps[*banyan/tree.ref]"], unfollowed := true, recurses := true, named := ["unicode/utf8.first", "unicode/utf8.acceptRanges", "math/bits.deBruijn64tab"], apart := false, laid := [("math/bits.deBruijn64tab", laid_math_bits_deBruijn64tab), ("unicode/utf8.acceptRanges", laid_unicode_utf8_acceptRanges), ("unicode/utf8.first", laid_unicode_utf8_first)] }
def TreeActsSaid : Prop := treeActsRow.holds Tryz.pinned (OpenSpec.ofChange treeActsSpec)

/-- ITS FALSE NEIGHBOUR: 'it returns false'. Refute it at one input. -/
def treeActsWrong : ChangeSpec := { name := "treeActs", fn := fun _ => fun
  | [d] => { results := [.lit (.bool false)], args := [d] }
  | _ => none }
def TreeActsWrongFalsely : Prop := treeActsRow.holds Tryz.pinned (OpenSpec.ofChange treeActsWrong)

/-- 'banyanlaw14.TreeScans': WHATEVER THE INPUT: true; the input reads as it did. -/
def treeScansSpec : ChangeSpec := { name := "treeScans", fn := fun _ => fun
  | [d] => { results := [.lit (.bool true)], args := [d] }
  | _ => none }
def treeScansRow : OpenClaim := { program := "ytkbnkdokcmpcgaagreatdoor", sum := "662b18518ec56885d30b3bf38355c847b8687ab44632c2e14f281b18da9aa0eb", func := "banyan/banyanlaw14.TreeScans", spec := "treeScans", inPlace := ["math/bits.Add64", "internal/bytealg.abigen_runtime_cmpstring", "slices.overlaps[string]", "slices.overlaps[*banyan/tree.ref]"], unfollowed := true, recurses := true, named := ["unicode/utf8.first", "unicode/utf8.acceptRanges", "math/bits.deBruijn64tab"], apart := false, laid := [("math/bits.deBruijn64tab", laid_math_bits_deBruijn64tab), ("unicode/utf8.acceptRanges", laid_unicode_utf8_acceptRanges), ("unicode/utf8.first", laid_unicode_utf8_first)] }
def TreeScansSaid : Prop := treeScansRow.holds Tryz.pinned (OpenSpec.ofChange treeScansSpec)

/-- ITS FALSE NEIGHBOUR: 'it returns false'. Refute it at one input. -/
def treeScansWrong : ChangeSpec := { name := "treeScans", fn := fun _ => fun
  | [d] => { results := [.lit (.bool false)], args := [d] }
  | _ => none }
def TreeScansWrongFalsely : Prop := treeScansRow.holds Tryz.pinned (OpenSpec.ofChange treeScansWrong)

/-- 'banyanlaw14.TreeFull': WHATEVER THE INPUT: true; the input reads as it did. -/
def treeFullSpec : ChangeSpec := { name := "treeFull", fn := fun _ => fun
  | [d1, d2] => { results := [.lit (.bool true)], args := [d1, d2] }
  | _ => none }
def treeFullRow : OpenClaim := { program := "ytkbnkdokcmpcgaagreatdoor", sum := "662b18518ec56885d30b3bf38355c847b8687ab44632c2e14f281b18da9aa0eb", func := "banyan/banyanlaw14.TreeFull", spec := "treeFull", inPlace := ["math/bits.Add64", "internal/bytealg.abigen_runtime_cmpstring", "slices.overlaps[string]", "slices.overlaps[*banyan/tree.ref]"], unfollowed := true, recurses := true, named := ["unicode/utf8.first", "unicode/utf8.acceptRanges", "math/bits.deBruijn64tab"], apart := false, laid := [("math/bits.deBruijn64tab", laid_math_bits_deBruijn64tab), ("unicode/utf8.acceptRanges", laid_unicode_utf8_acceptRanges), ("unicode/utf8.first", laid_unicode_utf8_first)] }
def TreeFullSaid : Prop := treeFullRow.holds Tryz.pinned (OpenSpec.ofChange treeFullSpec)

/-- ITS FALSE NEIGHBOUR: 'it returns false'. Refute it at one input. -/
def treeFullWrong : ChangeSpec := { name := "treeFull", fn := fun _ => fun
  | [d1, d2] => { results := [.lit (.bool false)], args := [d1, d2] }
  | _ => none }
def TreeFullWrongFalsely : Prop := treeFullRow.holds Tryz.pinned (OpenSpec.ofChange treeFullWrong)

/-- 'banyanlaw14.TreeNodes': WHATEVER THE INPUT: true; the input reads as it did. -/
def treeNodesSpec : ChangeSpec := { name := "treeNodes", fn := fun _ => fun
  | [d] => { results := [.lit (.bool true)], args := [d] }
  | _ => none }
def treeNodesRow : OpenClaim := { program := "ytkbnkdokcmpcgaagreatdoor", sum := "662b18518ec56885d30b3bf38355c847b8687ab44632c2e14f281b18da9aa0eb", func := "banyan/banyanlaw14.TreeNodes", spec := "treeNodes", inPlace := ["math/bits.Add64", "internal/bytealg.abigen_runtime_cmpstring", "slices.overlaps[string]", "slices.overlaps[*banyan/tree.ref]"], unfollowed := true, recurses := true, named := ["unicode/utf8.first", "unicode/utf8.acceptRanges", "math/bits.deBruijn64tab"], apart := false, laid := [("math/bits.deBruijn64tab", laid_math_bits_deBruijn64tab), ("unicode/utf8.acceptRanges", laid_unicode_utf8_acceptRanges), ("unicode/utf8.first", laid_unicode_utf8_first)] }
def TreeNodesSaid : Prop := treeNodesRow.holds Tryz.pinned (OpenSpec.ofChange treeNodesSpec)

/-- ITS FALSE NEIGHBOUR: 'it returns false'. Refute it at one input. -/
def treeNodesWrong : ChangeSpec := { name := "treeNodes", fn := fun _ => fun
  | [d] => { results := [.lit (.bool false)], args := [d] }
  | _ => none }
def TreeNodesWrongFalsely : Prop := treeNodesRow.holds Tryz.pinned (OpenSpec.ofChange treeNodesWrong)

/- THE SECOND FORM. 'bulk': how many values and letters a reading holds, each counted each time it is reached (what is shared counts as often as it is met; a slice's spare places count too). A statement '..UptoSaid' is the law's where the arguments, and the package variables that the reading takes, are together of bulk at most 1048576: NARROWER than '..Said'. Prove '..Said' where nothing that the law and all that it calls make is longer than what came in: it says more and counts as full. Else prove '..UptoSaid'. A law counts once. -/
mutual
def uptoBulk {H : Type} : DataW H → Nat
  | .lit (.string bytes) => bytes.length + 1
  | .lit _ => 1
  | .nil => 1
  | .ptr d => uptoBulk d + 1
  | .slice elems spare => uptoBulkAll elems + uptoBulkAll spare + 1
  | .agg parts => uptoBulkAll parts + 1
  | .iface _ d => uptoBulk d + 1
  | .map entries => uptoBulkEntries entries + 1
  | .held _ => 1
def uptoBulkAll {H : Type} : List (DataW H) → Nat
  | [] => 0
  | d :: r => uptoBulk d + uptoBulkAll r
def uptoBulkEntries {H : Type} : List (Lit × DataW H) → Nat
  | [] => 0
  | x :: r => uptoBulkEntry x + uptoBulkEntries r
def uptoBulkEntry {H : Type} : Lit × DataW H → Nat
  | (.string bytes, d) => bytes.length + uptoBulk d + 1
  | (_, d) => uptoBulk d + 1
 end
def uptoSmall : (H : Type) → List (DataW H) → Bool := fun _ ds => decide (uptoBulkAll ds ≤ 1048576)
def OpenSpec.upto (s : _root_.Go.ChangeSpec) : _root_.Go.OpenSpec := { _root_.Go.OpenSpec.ofChange s with cond := some uptoSmall }

/-- 'banyanlaw13.PoolKeys', WHERE WHAT IT READS IS OF BULK AT MOST 1048576: true; the input reads as it did. -/
def poolKeysUptoRow : OpenClaim := { program := "ytkbnkdokcmpcgaagreatdoor", sum := "662b18518ec56885d30b3bf38355c847b8687ab44632c2e14f281b18da9aa0eb", func := "banyan/banyanlaw13.PoolKeys", spec := "poolKeys", inPlace := ["math/bits.Add64"], unfollowed := true, recurses := true, named := ["math/bits.deBruijn64tab", "unicode/utf8.first", "unicode/utf8.acceptRanges"], apart := false, laid := [("math/bits.deBruijn64tab", laid_math_bits_deBruijn64tab), ("unicode/utf8.acceptRanges", laid_unicode_utf8_acceptRanges), ("unicode/utf8.first", laid_unicode_utf8_first)], narrowed := true }
def PoolKeysUptoSaid : Prop := poolKeysUptoRow.holds Tryz.pinned (OpenSpec.upto poolKeysSpec)

/-- 'banyanlaw13.PoolTwice', WHERE WHAT IT READS IS OF BULK AT MOST 1048576: true; the input reads as it did. -/
def poolTwiceUptoRow : OpenClaim := { program := "ytkbnkdokcmpcgaagreatdoor", sum := "662b18518ec56885d30b3bf38355c847b8687ab44632c2e14f281b18da9aa0eb", func := "banyan/banyanlaw13.PoolTwice", spec := "poolTwice", inPlace := ["math/bits.Add64"], unfollowed := true, recurses := true, named := ["math/bits.deBruijn64tab", "unicode/utf8.first", "unicode/utf8.acceptRanges"], apart := false, laid := [("math/bits.deBruijn64tab", laid_math_bits_deBruijn64tab), ("unicode/utf8.acceptRanges", laid_unicode_utf8_acceptRanges), ("unicode/utf8.first", laid_unicode_utf8_first)], narrowed := true }
def PoolTwiceUptoSaid : Prop := poolTwiceUptoRow.holds Tryz.pinned (OpenSpec.upto poolTwiceSpec)

/-- 'banyanlaw13.PoolFills', WHERE WHAT IT READS IS OF BULK AT MOST 1048576: true; the input reads as it did. -/
def poolFillsUptoRow : OpenClaim := { program := "ytkbnkdokcmpcgaagreatdoor", sum := "662b18518ec56885d30b3bf38355c847b8687ab44632c2e14f281b18da9aa0eb", func := "banyan/banyanlaw13.PoolFills", spec := "poolFills", inPlace := ["math/bits.Add64"], unfollowed := true, recurses := true, named := ["math/bits.deBruijn64tab", "unicode/utf8.first", "unicode/utf8.acceptRanges"], apart := false, laid := [("math/bits.deBruijn64tab", laid_math_bits_deBruijn64tab), ("unicode/utf8.acceptRanges", laid_unicode_utf8_acceptRanges), ("unicode/utf8.first", laid_unicode_utf8_first)], narrowed := true }
def PoolFillsUptoSaid : Prop := poolFillsUptoRow.holds Tryz.pinned (OpenSpec.upto poolFillsSpec)

/-- 'banyanlaw13.PoolDown', WHERE WHAT IT READS IS OF BULK AT MOST 1048576: true; the input reads as it did. -/
def poolDownUptoRow : OpenClaim := { program := "ytkbnkdokcmpcgaagreatdoor", sum := "662b18518ec56885d30b3bf38355c847b8687ab44632c2e14f281b18da9aa0eb", func := "banyan/banyanlaw13.PoolDown", spec := "poolDown", inPlace := ["math/bits.Add64"], unfollowed := true, recurses := true, named := ["math/bits.deBruijn64tab", "unicode/utf8.first", "unicode/utf8.acceptRanges"], apart := false, laid := [("math/bits.deBruijn64tab", laid_math_bits_deBruijn64tab), ("unicode/utf8.acceptRanges", laid_unicode_utf8_acceptRanges), ("unicode/utf8.first", laid_unicode_utf8_first)], narrowed := true }
def PoolDownUptoSaid : Prop := poolDownUptoRow.holds Tryz.pinned (OpenSpec.upto poolDownSpec)

/-- 'banyanlaw13.PoolTurns', WHERE WHAT IT READS IS OF BULK AT MOST 1048576: true; the input reads as it did. -/
def poolTurnsUptoRow : OpenClaim := { program := "ytkbnkdokcmpcgaagreatdoor", sum := "662b18518ec56885d30b3bf38355c847b8687ab44632c2e14f281b18da9aa0eb", func := "banyan/banyanlaw13.PoolTurns", spec := "poolTurns", inPlace := ["math/bits.Add64"], unfollowed := true, recurses := true, named := ["math/bits.deBruijn64tab", "unicode/utf8.first", "unicode/utf8.acceptRanges"], apart := false, laid := [("math/bits.deBruijn64tab", laid_math_bits_deBruijn64tab), ("unicode/utf8.acceptRanges", laid_unicode_utf8_acceptRanges), ("unicode/utf8.first", laid_unicode_utf8_first)], narrowed := true }
def PoolTurnsUptoSaid : Prop := poolTurnsUptoRow.holds Tryz.pinned (OpenSpec.upto poolTurnsSpec)

/-- 'banyanlaw13.PoolBack', WHERE WHAT IT READS IS OF BULK AT MOST 1048576: true; the input reads as it did. -/
def poolBackUptoRow : OpenClaim := { program := "ytkbnkdokcmpcgaagreatdoor", sum := "662b18518ec56885d30b3bf38355c847b8687ab44632c2e14f281b18da9aa0eb", func := "banyan/banyanlaw13.PoolBack", spec := "poolBack", inPlace := ["math/bits.Add64"], unfollowed := true, recurses := true, named := ["math/bits.deBruijn64tab", "unicode/utf8.first", "unicode/utf8.acceptRanges"], apart := false, laid := [("math/bits.deBruijn64tab", laid_math_bits_deBruijn64tab), ("unicode/utf8.acceptRanges", laid_unicode_utf8_acceptRanges), ("unicode/utf8.first", laid_unicode_utf8_first)], narrowed := true }
def PoolBackUptoSaid : Prop := poolBackUptoRow.holds Tryz.pinned (OpenSpec.upto poolBackSpec)

/-- 'banyanlaw13.PoolActs', WHERE WHAT IT READS IS OF BULK AT MOST 1048576: true; the input reads as it did. -/
def poolActsUptoRow : OpenClaim := { program := "ytkbnkdokcmpcgaagreatdoor", sum := "662b18518ec56885d30b3bf38355c847b8687ab44632c2e14f281b18da9aa0eb", func := "banyan/banyanlaw13.PoolActs", spec := "poolActs", inPlace := ["math/bits.Add64"], unfollowed := true, recurses := true, named := ["math/bits.deBruijn64tab", "unicode/utf8.first", "unicode/utf8.acceptRanges"], apart := false, laid := [("math/bits.deBruijn64tab", laid_math_bits_deBruijn64tab), ("unicode/utf8.acceptRanges", laid_unicode_utf8_acceptRanges), ("unicode/utf8.first", laid_unicode_utf8_first)], narrowed := true }
def PoolActsUptoSaid : Prop := poolActsUptoRow.holds Tryz.pinned (OpenSpec.upto poolActsSpec)

/-- 'banyanlaw14.TreeOrders', WHERE WHAT IT READS IS OF BULK AT MOST 1048576: true; the input reads as it did. -/
def treeOrdersUptoRow : OpenClaim := { program := "ytkbnkdokcmpcgaagreatdoor", sum := "662b18518ec56885d30b3bf38355c847b8687ab44632c2e14f281b18da9aa0eb", func := "banyan/banyanlaw14.TreeOrders", spec := "treeOrders", inPlace := ["math/bits.Add64", "internal/bytealg.abigen_runtime_cmpstring", "slices.overlaps[string]", "slices.overlaps[*banyan/tree.ref]"], unfollowed := true, recurses := true, named := ["unicode/utf8.first", "unicode/utf8.acceptRanges", "math/bits.deBruijn64tab"], apart := false, laid := [("math/bits.deBruijn64tab", laid_math_bits_deBruijn64tab), ("unicode/utf8.acceptRanges", laid_unicode_utf8_acceptRanges), ("unicode/utf8.first", laid_unicode_utf8_first)], narrowed := true }
def TreeOrdersUptoSaid : Prop := treeOrdersUptoRow.holds Tryz.pinned (OpenSpec.upto treeOrdersSpec)

/-- 'banyanlaw14.TreeActs', WHERE WHAT IT READS IS OF BULK AT MOST 1048576: true; the input reads as it did. -/
def treeActsUptoRow : OpenClaim := { program := "ytkbnkdokcmpcgaagreatdoor", sum := "662b18518ec56885d30b3bf38355c847b8687ab44632c2e14f281b18da9aa0eb", func := "banyan/banyanlaw14.TreeActs", spec := "treeActs", inPlace := ["math/bits.Add64", "internal/bytealg.abigen_runtime_cmpstring", "slices.overlaps[string]", "slices.overlaps[*banyan/tree.ref]"], unfollowed := true, recurses := true, named := ["unicode/utf8.first", "unicode/utf8.acceptRanges", "math/bits.deBruijn64tab"], apart := false, laid := [("math/bits.deBruijn64tab", laid_math_bits_deBruijn64tab), ("unicode/utf8.acceptRanges", laid_unicode_utf8_acceptRanges), ("unicode/utf8.first", laid_unicode_utf8_first)], narrowed := true }
def TreeActsUptoSaid : Prop := treeActsUptoRow.holds Tryz.pinned (OpenSpec.upto treeActsSpec)

/-- 'banyanlaw14.TreeScans', WHERE WHAT IT READS IS OF BULK AT MOST 1048576: true; the input reads as it did. -/
def treeScansUptoRow : OpenClaim := { program := "ytkbnkdokcmpcgaagreatdoor", sum := "662b18518ec56885d30b3bf38355c847b8687ab44632c2e14f281b18da9aa0eb", func := "banyan/banyanlaw14.TreeScans", spec := "treeScans", inPlace := ["math/bits.Add64", "internal/bytealg.abigen_runtime_cmpstring", "slices.overlaps[string]", "slices.overlaps[*banyan/tree.ref]"], unfollowed := true, recurses := true, named := ["unicode/utf8.first", "unicode/utf8.acceptRanges", "math/bits.deBruijn64tab"], apart := false, laid := [("math/bits.deBruijn64tab", laid_math_bits_deBruijn64tab), ("unicode/utf8.acceptRanges", laid_unicode_utf8_acceptRanges), ("unicode/utf8.first", laid_unicode_utf8_first)], narrowed := true }
def TreeScansUptoSaid : Prop := treeScansUptoRow.holds Tryz.pinned (OpenSpec.upto treeScansSpec)

/-- 'banyanlaw14.TreeFull', WHERE WHAT IT READS IS OF BULK AT MOST 1048576: true; the input reads as it did. -/
def treeFullUptoRow : OpenClaim := { program := "ytkbnkdokcmpcgaagreatdoor", sum := "662b18518ec56885d30b3bf38355c847b8687ab44632c2e14f281b18da9aa0eb", func := "banyan/banyanlaw14.TreeFull", spec := "treeFull", inPlace := ["math/bits.Add64", "internal/bytealg.abigen_runtime_cmpstring", "slices.overlaps[string]", "slices.overlaps[*banyan/tree.ref]"], unfollowed := true, recurses := true, named := ["unicode/utf8.first", "unicode/utf8.acceptRanges", "math/bits.deBruijn64tab"], apart := false, laid := [("math/bits.deBruijn64tab", laid_math_bits_deBruijn64tab), ("unicode/utf8.acceptRanges", laid_unicode_utf8_acceptRanges), ("unicode/utf8.first", laid_unicode_utf8_first)], narrowed := true }
def TreeFullUptoSaid : Prop := treeFullUptoRow.holds Tryz.pinned (OpenSpec.upto treeFullSpec)

/-- 'banyanlaw14.TreeNodes', WHERE WHAT IT READS IS OF BULK AT MOST 1048576: true; the input reads as it did. -/
def treeNodesUptoRow : OpenClaim := { program := "ytkbnkdokcmpcgaagreatdoor", sum := "662b18518ec56885d30b3bf38355c847b8687ab44632c2e14f281b18da9aa0eb", func := "banyan/banyanlaw14.TreeNodes", spec := "treeNodes", inPlace := ["math/bits.Add64", "internal/bytealg.abigen_runtime_cmpstring", "slices.overlaps[string]", "slices.overlaps[*banyan/tree.ref]"], unfollowed := true, recurses := true, named := ["unicode/utf8.first", "unicode/utf8.acceptRanges", "math/bits.deBruijn64tab"], apart := false, laid := [("math/bits.deBruijn64tab", laid_math_bits_deBruijn64tab), ("unicode/utf8.acceptRanges", laid_unicode_utf8_acceptRanges), ("unicode/utf8.first", laid_unicode_utf8_first)], narrowed := true }
def TreeNodesUptoSaid : Prop := treeNodesUptoRow.holds Tryz.pinned (OpenSpec.upto treeNodesSpec)

end Rows
end Go.Proofs.YtkbnkdokcmpcgaaGreatDoor
