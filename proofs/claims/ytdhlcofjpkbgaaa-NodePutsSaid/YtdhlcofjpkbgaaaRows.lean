/-
  No cell of these rows narrows 'for every input' (looked for: loops, veiled, ifaces, maps, wideKeys, modest, calm, conditions, laid).
  DERIVED. THE GIVEN ROWS OF THIS SEAT. 7 by the template 'for every input the law returns true; each argument reads behind the call as it read before'; 0 by the template 'total and deterministic' (their statements: YtdhlcofjpkbgaaaTotals.lean).
  GIVEN WITH THE SEED: the statements are not yours to turn. If you find one false, say at which input.
  Laid BY PROGRAM, IN A SANDBOX (cutbox-rows.mjs): the forced cells as the released guide's own fill.sh prints them over the translation 3eb357da9c21f11a… (all of the seat's roots in one cut). By AI agents, Wed Nov 11 2026. No macro, syntax, notation, axiom, sorry.
-/
import Derived.Test.YtdhlcofjpkbgaaaChecked
import GoSem.Claim
import GoSem.ClaimJoined
import GoSem.ClaimMapViews
import Derived.JoinedTies
import Derived.KernelRfl
namespace Go.Proofs.Ytdhlcofjpkbgaaa
/- THE CELL 'sum', in the pinned program and in every row, IS THE sha256 OF THE DUMP (.gsa) THAT YtdhlcofjpkbgaaaProg.lean LOADS. Nothing in Lean hashes anything: it is a label: what it is worth is what the hold of that sum in a sandbox is worth. -/
noncomputable def Try.pinned : Pinned := { name := "ytdhlcofjpkbgaaa", sum := "3eb357da9c21f11aa9dcb2f35cdb5863a48ce36518120b4d4cb896c4ff883adc", checked := Try.checked }
namespace Rows
def none {H : Type} : Left H := { results := [], args := [] }

/-- 'banyanlaw07.CodecParts': WHATEVER THE INPUT: true; the input reads as it did. -/
def codecPartsSpec : ChangeSpec := { name := "codecParts", fn := fun _ => fun
  | [d1, d2] => { results := [.lit (.bool true)], args := [d1, d2] }
  | _ => none }
def codecPartsRow : OpenClaim := { program := "ytdhlcofjpkbgaaa", sum := "3eb357da9c21f11aa9dcb2f35cdb5863a48ce36518120b4d4cb896c4ff883adc", func := "banyan/banyanlaw07.CodecParts", spec := "codecParts", apart := false }
def CodecPartsSaid : Prop := codecPartsRow.holds Try.pinned (OpenSpec.ofChange codecPartsSpec)

/-- ITS FALSE NEIGHBOUR: 'it returns false'. Refute it at one input. -/
def codecPartsWrong : ChangeSpec := { name := "codecParts", fn := fun _ => fun
  | [d1, d2] => { results := [.lit (.bool false)], args := [d1, d2] }
  | _ => none }
def CodecPartsWrongFalsely : Prop := codecPartsRow.holds Try.pinned (OpenSpec.ofChange codecPartsWrong)

/-- 'banyanlaw07.CodecLays': WHATEVER THE INPUT: true; the input reads as it did. -/
def codecLaysSpec : ChangeSpec := { name := "codecLays", fn := fun _ => fun
  | [d] => { results := [.lit (.bool true)], args := [d] }
  | _ => none }
def codecLaysRow : OpenClaim := { program := "ytdhlcofjpkbgaaa", sum := "3eb357da9c21f11aa9dcb2f35cdb5863a48ce36518120b4d4cb896c4ff883adc", func := "banyan/banyanlaw07.CodecLays", spec := "codecLays", apart := false }
def CodecLaysSaid : Prop := codecLaysRow.holds Try.pinned (OpenSpec.ofChange codecLaysSpec)

/-- ITS FALSE NEIGHBOUR: 'it returns false'. Refute it at one input. -/
def codecLaysWrong : ChangeSpec := { name := "codecLays", fn := fun _ => fun
  | [d] => { results := [.lit (.bool false)], args := [d] }
  | _ => none }
def CodecLaysWrongFalsely : Prop := codecLaysRow.holds Try.pinned (OpenSpec.ofChange codecLaysWrong)

/-- 'banyanlaw07.CodecCuts': WHATEVER THE INPUT: true; the input reads as it did. -/
def codecCutsSpec : ChangeSpec := { name := "codecCuts", fn := fun _ => fun
  | [d1, d2] => { results := [.lit (.bool true)], args := [d1, d2] }
  | _ => none }
def codecCutsRow : OpenClaim := { program := "ytdhlcofjpkbgaaa", sum := "3eb357da9c21f11aa9dcb2f35cdb5863a48ce36518120b4d4cb896c4ff883adc", func := "banyan/banyanlaw07.CodecCuts", spec := "codecCuts", apart := false }
def CodecCutsSaid : Prop := codecCutsRow.holds Try.pinned (OpenSpec.ofChange codecCutsSpec)

/-- ITS FALSE NEIGHBOUR: 'it returns false'. Refute it at one input. -/
def codecCutsWrong : ChangeSpec := { name := "codecCuts", fn := fun _ => fun
  | [d1, d2] => { results := [.lit (.bool false)], args := [d1, d2] }
  | _ => none }
def CodecCutsWrongFalsely : Prop := codecCutsRow.holds Try.pinned (OpenSpec.ofChange codecCutsWrong)

/-- 'banyanlaw09.NodeFinds': WHATEVER THE INPUT: true; the input reads as it did. -/
def nodeFindsSpec : ChangeSpec := { name := "nodeFinds", fn := fun _ => fun
  | [d1, d2] => { results := [.lit (.bool true)], args := [d1, d2] }
  | _ => none }
def nodeFindsRow : OpenClaim := { program := "ytdhlcofjpkbgaaa", sum := "3eb357da9c21f11aa9dcb2f35cdb5863a48ce36518120b4d4cb896c4ff883adc", func := "banyan/banyanlaw09.NodeFinds", spec := "nodeFinds", inPlace := ["internal/bytealg.abigen_runtime_cmpstring"], unfollowed := true, recurses := true, apart := false }
def NodeFindsSaid : Prop := nodeFindsRow.holds Try.pinned (OpenSpec.ofChange nodeFindsSpec)

/-- ITS FALSE NEIGHBOUR: 'it returns false'. Refute it at one input. -/
def nodeFindsWrong : ChangeSpec := { name := "nodeFinds", fn := fun _ => fun
  | [d1, d2] => { results := [.lit (.bool false)], args := [d1, d2] }
  | _ => none }
def NodeFindsWrongFalsely : Prop := nodeFindsRow.holds Try.pinned (OpenSpec.ofChange nodeFindsWrong)

/-- 'banyanlaw09.NodePlaces': WHATEVER THE INPUT: true; the input reads as it did. -/
def nodePlacesSpec : ChangeSpec := { name := "nodePlaces", fn := fun _ => fun
  | [d1, d2] => { results := [.lit (.bool true)], args := [d1, d2] }
  | _ => none }
def nodePlacesRow : OpenClaim := { program := "ytdhlcofjpkbgaaa", sum := "3eb357da9c21f11aa9dcb2f35cdb5863a48ce36518120b4d4cb896c4ff883adc", func := "banyan/banyanlaw09.NodePlaces", spec := "nodePlaces", inPlace := ["internal/bytealg.abigen_runtime_cmpstring"], unfollowed := true, recurses := true, apart := false }
def NodePlacesSaid : Prop := nodePlacesRow.holds Try.pinned (OpenSpec.ofChange nodePlacesSpec)

/-- ITS FALSE NEIGHBOUR: 'it returns false'. Refute it at one input. -/
def nodePlacesWrong : ChangeSpec := { name := "nodePlaces", fn := fun _ => fun
  | [d1, d2] => { results := [.lit (.bool false)], args := [d1, d2] }
  | _ => none }
def NodePlacesWrongFalsely : Prop := nodePlacesRow.holds Try.pinned (OpenSpec.ofChange nodePlacesWrong)

/-- 'banyanlaw09.NodeSizes': WHATEVER THE INPUT: true; the input reads as it did. -/
def nodeSizesSpec : ChangeSpec := { name := "nodeSizes", fn := fun _ => fun
  | [d] => { results := [.lit (.bool true)], args := [d] }
  | _ => none }
def nodeSizesRow : OpenClaim := { program := "ytdhlcofjpkbgaaa", sum := "3eb357da9c21f11aa9dcb2f35cdb5863a48ce36518120b4d4cb896c4ff883adc", func := "banyan/banyanlaw09.NodeSizes", spec := "nodeSizes", inPlace := ["internal/bytealg.abigen_runtime_cmpstring"], unfollowed := true, recurses := true, apart := false }
def NodeSizesSaid : Prop := nodeSizesRow.holds Try.pinned (OpenSpec.ofChange nodeSizesSpec)

/-- ITS FALSE NEIGHBOUR: 'it returns false'. Refute it at one input. -/
def nodeSizesWrong : ChangeSpec := { name := "nodeSizes", fn := fun _ => fun
  | [d] => { results := [.lit (.bool false)], args := [d] }
  | _ => none }
def NodeSizesWrongFalsely : Prop := nodeSizesRow.holds Try.pinned (OpenSpec.ofChange nodeSizesWrong)

/-- 'banyanlaw09.NodePuts': WHATEVER THE INPUT: true; the input reads as it did. -/
def nodePutsSpec : ChangeSpec := { name := "nodePuts", fn := fun _ => fun
  | [d1, d2] => { results := [.lit (.bool true)], args := [d1, d2] }
  | _ => none }
def nodePutsRow : OpenClaim := { program := "ytdhlcofjpkbgaaa", sum := "3eb357da9c21f11aa9dcb2f35cdb5863a48ce36518120b4d4cb896c4ff883adc", func := "banyan/banyanlaw09.NodePuts", spec := "nodePuts", inPlace := ["internal/bytealg.abigen_runtime_cmpstring"], unfollowed := true, recurses := true, apart := false }
def NodePutsSaid : Prop := nodePutsRow.holds Try.pinned (OpenSpec.ofChange nodePutsSpec)

/-- ITS FALSE NEIGHBOUR: 'it returns false'. Refute it at one input. -/
def nodePutsWrong : ChangeSpec := { name := "nodePuts", fn := fun _ => fun
  | [d1, d2] => { results := [.lit (.bool false)], args := [d1, d2] }
  | _ => none }
def NodePutsWrongFalsely : Prop := nodePutsRow.holds Try.pinned (OpenSpec.ofChange nodePutsWrong)

/- THE SECOND FORM. 'bulk': how many values and letters a reading holds, each counted each time it is reached (what is shared counts as often as it is met; a slice's spare places count too). A statement '..UptoSaid' is the law's where the arguments, and the package variables that the reading takes, are together of bulk at most 1048576: NARROWER than '..Said'. Prove '..Said' where nothing that the law and all that it calls make is longer than what came in: it says more and counts as full. Else prove '..UptoSaid'. A law counts once. -/
mutual
def uptoBulk {H : Type} : DataW H → Nat
  | .lit (.string bytes) => bytes.length + 1
  | .lit _ => 1
  | .nil => 1
  | .ptr d => uptoBulk d + 1
  | .slice elems spare => uptoBulkAll elems + uptoBulkAll spare + 1
  | .agg parts => uptoBulkAll parts + 1
  | .iface _ d => uptoBulk d + 1
  | .map entries => uptoBulkEntries entries + 1
  | .held _ => 1
def uptoBulkAll {H : Type} : List (DataW H) → Nat
  | [] => 0
  | d :: r => uptoBulk d + uptoBulkAll r
def uptoBulkEntries {H : Type} : List (Lit × DataW H) → Nat
  | [] => 0
  | x :: r => uptoBulkEntry x + uptoBulkEntries r
def uptoBulkEntry {H : Type} : Lit × DataW H → Nat
  | (.string bytes, d) => bytes.length + uptoBulk d + 1
  | (_, d) => uptoBulk d + 1
 end
def uptoSmall : (H : Type) → List (DataW H) → Bool := fun _ ds => decide (uptoBulkAll ds ≤ 1048576)
def OpenSpec.upto (s : _root_.Go.ChangeSpec) : _root_.Go.OpenSpec := { _root_.Go.OpenSpec.ofChange s with cond := some uptoSmall }

/-- 'banyanlaw07.CodecParts', WHERE WHAT IT READS IS OF BULK AT MOST 1048576: true; the input reads as it did. -/
def codecPartsUptoRow : OpenClaim := { program := "ytdhlcofjpkbgaaa", sum := "3eb357da9c21f11aa9dcb2f35cdb5863a48ce36518120b4d4cb896c4ff883adc", func := "banyan/banyanlaw07.CodecParts", spec := "codecParts", apart := false, narrowed := true }
def CodecPartsUptoSaid : Prop := codecPartsUptoRow.holds Try.pinned (OpenSpec.upto codecPartsSpec)

/-- 'banyanlaw07.CodecLays', WHERE WHAT IT READS IS OF BULK AT MOST 1048576: true; the input reads as it did. -/
def codecLaysUptoRow : OpenClaim := { program := "ytdhlcofjpkbgaaa", sum := "3eb357da9c21f11aa9dcb2f35cdb5863a48ce36518120b4d4cb896c4ff883adc", func := "banyan/banyanlaw07.CodecLays", spec := "codecLays", apart := false, narrowed := true }
def CodecLaysUptoSaid : Prop := codecLaysUptoRow.holds Try.pinned (OpenSpec.upto codecLaysSpec)

/-- 'banyanlaw07.CodecCuts', WHERE WHAT IT READS IS OF BULK AT MOST 1048576: true; the input reads as it did. -/
def codecCutsUptoRow : OpenClaim := { program := "ytdhlcofjpkbgaaa", sum := "3eb357da9c21f11aa9dcb2f35cdb5863a48ce36518120b4d4cb896c4ff883adc", func := "banyan/banyanlaw07.CodecCuts", spec := "codecCuts", apart := false, narrowed := true }
def CodecCutsUptoSaid : Prop := codecCutsUptoRow.holds Try.pinned (OpenSpec.upto codecCutsSpec)

/-- 'banyanlaw09.NodeFinds', WHERE WHAT IT READS IS OF BULK AT MOST 1048576: true; the input reads as it did. -/
def nodeFindsUptoRow : OpenClaim := { program := "ytdhlcofjpkbgaaa", sum := "3eb357da9c21f11aa9dcb2f35cdb5863a48ce36518120b4d4cb896c4ff883adc", func := "banyan/banyanlaw09.NodeFinds", spec := "nodeFinds", inPlace := ["internal/bytealg.abigen_runtime_cmpstring"], unfollowed := true, recurses := true, apart := false, narrowed := true }
def NodeFindsUptoSaid : Prop := nodeFindsUptoRow.holds Try.pinned (OpenSpec.upto nodeFindsSpec)

/-- 'banyanlaw09.NodePlaces', WHERE WHAT IT READS IS OF BULK AT MOST 1048576: true; the input reads as it did. -/
def nodePlacesUptoRow : OpenClaim := { program := "ytdhlcofjpkbgaaa", sum := "3eb357da9c21f11aa9dcb2f35cdb5863a48ce36518120b4d4cb896c4ff883adc", func := "banyan/banyanlaw09.NodePlaces", spec := "nodePlaces", inPlace := ["internal/bytealg.abigen_runtime_cmpstring"], unfollowed := true, recurses := true, apart := false, narrowed := true }
def NodePlacesUptoSaid : Prop := nodePlacesUptoRow.holds Try.pinned (OpenSpec.upto nodePlacesSpec)

/-- 'banyanlaw09.NodeSizes', WHERE WHAT IT READS IS OF BULK AT MOST 1048576: true; the input reads as it did. -/
def nodeSizesUptoRow : OpenClaim := { program := "ytdhlcofjpkbgaaa", sum := "3eb357da9c21f11aa9dcb2f35cdb5863a48ce36518120b4d4cb896c4ff883adc", func := "banyan/banyanlaw09.NodeSizes", spec := "nodeSizes", inPlace := ["internal/bytealg.abigen_runtime_cmpstring"], unfollowed := true, recurses := true, apart := false, narrowed := true }
def NodeSizesUptoSaid : Prop := nodeSizesUptoRow.holds Try.pinned (OpenSpec.upto nodeSizesSpec)

/-- 'banyanlaw09.NodePuts', WHERE WHAT IT READS IS OF BULK AT MOST 1048576: true; the input reads as it did. -/
def nodePutsUptoRow : OpenClaim := { program := "ytdhlcofjpkbgaaa", sum := "3eb357da9c21f11aa9dcb2f35cdb5863a48ce36518120b4d4cb896c4ff883adc", func := "banyan/banyanlaw09.NodePuts", spec := "nodePuts", inPlace := ["internal/bytealg.abigen_runtime_cmpstring"], unfollowed := true, recurses := true, apart := false, narrowed := true }
def NodePutsUptoSaid : Prop := nodePutsUptoRow.holds Try.pinned (OpenSpec.upto nodePutsSpec)

end Rows
end Go.Proofs.Ytdhlcofjpkbgaaa
