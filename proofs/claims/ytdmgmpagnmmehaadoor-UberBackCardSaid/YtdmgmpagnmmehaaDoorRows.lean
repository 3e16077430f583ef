/-
  NARROWER THAN 'FOR EVERY INPUT', by the rows' own cells (each row's printed sentence says how): NodeCuts: laid · NodeBack: laid · UberPuts: laid · UberBack: laid · UberNewer: laid · UberSizes: laid.
  DERIVED. THE GIVEN ROWS OF THIS SEAT. 6 by the template 'for every input the law returns true; each argument reads behind the call as it read before'; 0 by the template 'total and deterministic' (their statements: YtdmgmpagnmmehaaDoorTotals.lean).
  GIVEN WITH THE SEED: the statements are not yours to turn. If you find one false, say at which input.
  Laid BY PROGRAM, IN A SANDBOX (cutbox-rows.mjs): the forced cells as the released guide's own fill.sh prints them over the translation 1868dab4602ef485… (all of the seat's roots in one cut). By AI agents, Wed Nov 11 2026. No macro, syntax, notation, axiom, sorry.
-/
import Derived.Test.YtdmgmpagnmmehaaDoorChecked
import GoSem.PinnedTables
import GoSem.Claim
import GoSem.ClaimJoined
import GoSem.ClaimMapViews
import Derived.JoinedTies
import Derived.KernelRfl
namespace Go.Proofs.YtdmgmpagnmmehaaDoor
/- THE CELL 'sum', in the pinned program and in every row, IS THE sha256 OF THE DUMP (.gsa) THAT YtdmgmpagnmmehaaDoorProg.lean LOADS. Nothing in Lean hashes anything: it is a label: what it is worth is what the hold of that sum in a sandbox is worth. -/
noncomputable def Tryd.pinned : Pinned := { name := "ytdmgmpagnmmehaadoor", sum := "1868dab4602ef48532340f0e48e8b67363c62ac51b446be558b3c56e27598c12", checked := Tryd.checked }
namespace Rows
def none {H : Type} : Left H := { results := [], args := [] }

/- WHAT THE LISTED PACKAGE-LEVEL VARIABLES READ AS WHEN THE CALL BEGINS. Each datum BY PROGRAM (the guide's laid-datum.mjs) off the statement by which the dump's own 'gosem.cut.vars' lays the variable. In a bare row this is a premise. The card (YtdmgmpagnmmehaaDoorCards.lean) ties it to the program's text. -/
def laid_unicode_utf8_acceptRanges {H : Type} : DataW H := .agg [.agg [.lit (.int .u8 128), .lit (.int .u8 191)], .agg [.lit (.int .u8 160), .lit (.int .u8 191)], .agg [.lit (.int .u8 128), .lit (.int .u8 159)], .agg [.lit (.int .u8 144), .lit (.int .u8 191)], .agg [.lit (.int .u8 128), .lit (.int .u8 143)], .agg [.lit (.int .u8 0), .lit (.int .u8 0)], .agg [.lit (.int .u8 0), .lit (.int .u8 0)], .agg [.lit (.int .u8 0), .lit (.int .u8 0)], .agg [.lit (.int .u8 0), .lit (.int .u8 0)], .agg [.lit (.int .u8 0), .lit (.int .u8 0)], .agg [.lit (.int .u8 0), .lit (.int .u8 0)], .agg [.lit (.int .u8 0), .lit (.int .u8 0)], .agg [.lit (.int .u8 0), .lit (.int .u8 0)], .agg [.lit (.int .u8 0), .lit (.int .u8 0)], .agg [.lit (.int .u8 0), .lit (.int .u8 0)], .agg [.lit (.int .u8 0), .lit (.int .u8 0)]]
/-- One of Go's own tables, pinned by name: the form's constant. -/
def laid_unicode_utf8_first : DataW Unit := Go.Pinned.utf8First

/-- 'banyanlaw09.NodeCuts': WHATEVER THE INPUT: true; the input reads as it did. -/
def nodeCutsSpec : ChangeSpec := { name := "nodeCuts", fn := fun _ => fun
  | [d1, d2, d3] => { results := [.lit (.bool true)], args := [d1, d2, d3] }
  | _ => none }
def nodeCutsRow : OpenClaim := { program := "ytdmgmpagnmmehaadoor", sum := "1868dab4602ef48532340f0e48e8b67363c62ac51b446be558b3c56e27598c12", func := "banyan/banyanlaw09.NodeCuts", spec := "nodeCuts", inPlace := ["internal/bytealg.abigen_runtime_cmpstring"], unfollowed := true, recurses := true, named := ["unicode/utf8.first", "unicode/utf8.acceptRanges"], apart := false, laid := [("unicode/utf8.acceptRanges", laid_unicode_utf8_acceptRanges), ("unicode/utf8.first", laid_unicode_utf8_first)] }
def NodeCutsSaid : Prop := nodeCutsRow.holds Tryd.pinned (OpenSpec.ofChange nodeCutsSpec)

/-- ITS FALSE NEIGHBOUR: 'it returns false'. Refute it at one input. -/
def nodeCutsWrong : ChangeSpec := { name := "nodeCuts", fn := fun _ => fun
  | [d1, d2, d3] => { results := [.lit (.bool false)], args := [d1, d2, d3] }
  | _ => none }
def NodeCutsWrongFalsely : Prop := nodeCutsRow.holds Tryd.pinned (OpenSpec.ofChange nodeCutsWrong)

/-- 'banyanlaw09.NodeBack': WHATEVER THE INPUT: true; the input reads as it did. -/
def nodeBackSpec : ChangeSpec := { name := "nodeBack", fn := fun _ => fun
  | [d1, d2] => { results := [.lit (.bool true)], args := [d1, d2] }
  | _ => none }
def nodeBackRow : OpenClaim := { program := "ytdmgmpagnmmehaadoor", sum := "1868dab4602ef48532340f0e48e8b67363c62ac51b446be558b3c56e27598c12", func := "banyan/banyanlaw09.NodeBack", spec := "nodeBack", inPlace := ["internal/bytealg.abigen_runtime_cmpstring"], unfollowed := true, recurses := true, named := ["unicode/utf8.first", "unicode/utf8.acceptRanges"], apart := false, laid := [("unicode/utf8.acceptRanges", laid_unicode_utf8_acceptRanges), ("unicode/utf8.first", laid_unicode_utf8_first)] }
def NodeBackSaid : Prop := nodeBackRow.holds Tryd.pinned (OpenSpec.ofChange nodeBackSpec)

/-- ITS FALSE NEIGHBOUR: 'it returns false'. Refute it at one input. -/
def nodeBackWrong : ChangeSpec := { name := "nodeBack", fn := fun _ => fun
  | [d1, d2] => { results := [.lit (.bool false)], args := [d1, d2] }
  | _ => none }
def NodeBackWrongFalsely : Prop := nodeBackRow.holds Tryd.pinned (OpenSpec.ofChange nodeBackWrong)

/-- 'banyanlaw10.UberPuts': WHATEVER THE INPUT: true; the input reads as it did. -/
def uberPutsSpec : ChangeSpec := { name := "uberPuts", fn := fun _ => fun
  | [d1, d2] => { results := [.lit (.bool true)], args := [d1, d2] }
  | _ => none }
def uberPutsRow : OpenClaim := { program := "ytdmgmpagnmmehaadoor", sum := "1868dab4602ef48532340f0e48e8b67363c62ac51b446be558b3c56e27598c12", func := "banyan/banyanlaw10.UberPuts", spec := "uberPuts", inPlace := ["math/bits.Add64"], unfollowed := true, recurses := true, named := ["unicode/utf8.first", "unicode/utf8.acceptRanges"], apart := false, laid := [("unicode/utf8.acceptRanges", laid_unicode_utf8_acceptRanges), ("unicode/utf8.first", laid_unicode_utf8_first)] }
def UberPutsSaid : Prop := uberPutsRow.holds Tryd.pinned (OpenSpec.ofChange uberPutsSpec)

/-- ITS FALSE NEIGHBOUR: 'it returns false'. Refute it at one input. -/
def uberPutsWrong : ChangeSpec := { name := "uberPuts", fn := fun _ => fun
  | [d1, d2] => { results := [.lit (.bool false)], args := [d1, d2] }
  | _ => none }
def UberPutsWrongFalsely : Prop := uberPutsRow.holds Tryd.pinned (OpenSpec.ofChange uberPutsWrong)

/-- 'banyanlaw10.UberBack': WHATEVER THE INPUT: true; the input reads as it did. -/
def uberBackSpec : ChangeSpec := { name := "uberBack", fn := fun _ => fun
  | [d] => { results := [.lit (.bool true)], args := [d] }
  | _ => none }
def uberBackRow : OpenClaim := { program := "ytdmgmpagnmmehaadoor", sum := "1868dab4602ef48532340f0e48e8b67363c62ac51b446be558b3c56e27598c12", func := "banyan/banyanlaw10.UberBack", spec := "uberBack", inPlace := ["math/bits.Add64"], unfollowed := true, recurses := true, named := ["unicode/utf8.first", "unicode/utf8.acceptRanges"], apart := false, laid := [("unicode/utf8.acceptRanges", laid_unicode_utf8_acceptRanges), ("unicode/utf8.first", laid_unicode_utf8_first)] }
def UberBackSaid : Prop := uberBackRow.holds Tryd.pinned (OpenSpec.ofChange uberBackSpec)

/-- ITS FALSE NEIGHBOUR: 'it returns false'. Refute it at one input. -/
def uberBackWrong : ChangeSpec := { name := "uberBack", fn := fun _ => fun
  | [d] => { results := [.lit (.bool false)], args := [d] }
  | _ => none }
def UberBackWrongFalsely : Prop := uberBackRow.holds Tryd.pinned (OpenSpec.ofChange uberBackWrong)

/-- 'banyanlaw10.UberNewer': WHATEVER THE INPUT: true; the input reads as it did. -/
def uberNewerSpec : ChangeSpec := { name := "uberNewer", fn := fun _ => fun
  | [d] => { results := [.lit (.bool true)], args := [d] }
  | _ => none }
def uberNewerRow : OpenClaim := { program := "ytdmgmpagnmmehaadoor", sum := "1868dab4602ef48532340f0e48e8b67363c62ac51b446be558b3c56e27598c12", func := "banyan/banyanlaw10.UberNewer", spec := "uberNewer", inPlace := ["math/bits.Add64"], unfollowed := true, recurses := true, named := ["unicode/utf8.first", "unicode/utf8.acceptRanges"], apart := false, laid := [("unicode/utf8.acceptRanges", laid_unicode_utf8_acceptRanges), ("unicode/utf8.first", laid_unicode_utf8_first)] }
def UberNewerSaid : Prop := uberNewerRow.holds Tryd.pinned (OpenSpec.ofChange uberNewerSpec)

/-- ITS FALSE NEIGHBOUR: 'it returns false'. Refute it at one input. -/
def uberNewerWrong : ChangeSpec := { name := "uberNewer", fn := fun _ => fun
  | [d] => { results := [.lit (.bool false)], args := [d] }
  | _ => none }
def UberNewerWrongFalsely : Prop := uberNewerRow.holds Tryd.pinned (OpenSpec.ofChange uberNewerWrong)

/-- 'banyanlaw10.UberSizes': WHATEVER THE INPUT: true; the input reads as it did. -/
def uberSizesSpec : ChangeSpec := { name := "uberSizes", fn := fun _ => fun
  | [d1, d2] => { results := [.lit (.bool true)], args := [d1, d2] }
  | _ => none }
def uberSizesRow : OpenClaim := { program := "ytdmgmpagnmmehaadoor", sum := "1868dab4602ef48532340f0e48e8b67363c62ac51b446be558b3c56e27598c12", func := "banyan/banyanlaw10.UberSizes", spec := "uberSizes", inPlace := ["math/bits.Add64"], unfollowed := true, recurses := true, named := ["unicode/utf8.first", "unicode/utf8.acceptRanges"], apart := false, laid := [("unicode/utf8.acceptRanges", laid_unicode_utf8_acceptRanges), ("unicode/utf8.first", laid_unicode_utf8_first)] }
def UberSizesSaid : Prop := uberSizesRow.holds Tryd.pinned (OpenSpec.ofChange uberSizesSpec)

/-- ITS FALSE NEIGHBOUR: 'it returns false'. Refute it at one input. -/
def uberSizesWrong : ChangeSpec := { name := "uberSizes", fn := fun _ => fun
  | [d1, d2] => { results := [.lit (.bool false)], args := [d1, d2] }
  | _ => none }
def UberSizesWrongFalsely : Prop := uberSizesRow.holds Tryd.pinned (OpenSpec.ofChange uberSizesWrong)

/- THE SECOND FORM. 'bulk': how many values and letters a reading holds, each counted each time it is reached (what is shared counts as often as it is met; a slice's spare places count too). A statement '..UptoSaid' is the law's where the arguments, and the package variables that the reading takes, are together of bulk at most 1048576: NARROWER than '..Said'. Prove '..Said' where nothing that the law and all that it calls make is longer than what came in: it says more and counts as full. Else prove '..UptoSaid'. A law counts once. -/
mutual
def uptoBulk {H : Type} : DataW H → Nat
  | .lit (.string bytes) => bytes.length + 1
  | .lit _ => 1
  | .nil => 1
  | .ptr d => uptoBulk d + 1
  | .slice elems spare => uptoBulkAll elems + uptoBulkAll spare + 1
  | .agg parts => uptoBulkAll parts + 1
  | .iface _ d => uptoBulk d + 1
  | .map entries => uptoBulkEntries entries + 1
  | .held _ => 1
def uptoBulkAll {H : Type} : List (DataW H) → Nat
  | [] => 0
  | d :: r => uptoBulk d + uptoBulkAll r
def uptoBulkEntries {H : Type} : List (Lit × DataW H) → Nat
  | [] => 0
  | x :: r => uptoBulkEntry x + uptoBulkEntries r
def uptoBulkEntry {H : Type} : Lit × DataW H → Nat
  | (.string bytes, d) => bytes.length + uptoBulk d + 1
  | (_, d) => uptoBulk d + 1
 end
def uptoSmall : (H : Type) → List (DataW H) → Bool := fun _ ds => decide (uptoBulkAll ds ≤ 1048576)
def OpenSpec.upto (s : _root_.Go.ChangeSpec) : _root_.Go.OpenSpec := { _root_.Go.OpenSpec.ofChange s with cond := some uptoSmall }

/-- 'banyanlaw09.NodeCuts', WHERE WHAT IT READS IS OF BULK AT MOST 1048576: true; the input reads as it did. -/
def nodeCutsUptoRow : OpenClaim := { program := "ytdmgmpagnmmehaadoor", sum := "1868dab4602ef48532340f0e48e8b67363c62ac51b446be558b3c56e27598c12", func := "banyan/banyanlaw09.NodeCuts", spec := "nodeCuts", inPlace := ["internal/bytealg.abigen_runtime_cmpstring"], unfollowed := true, recurses := true, named := ["unicode/utf8.first", "unicode/utf8.acceptRanges"], apart := false, laid := [("unicode/utf8.acceptRanges", laid_unicode_utf8_acceptRanges), ("unicode/utf8.first", laid_unicode_utf8_first)], narrowed := true }
def NodeCutsUptoSaid : Prop := nodeCutsUptoRow.holds Tryd.pinned (OpenSpec.upto nodeCutsSpec)

/-- 'banyanlaw09.NodeBack', WHERE WHAT IT READS IS OF BULK AT MOST 1048576: true; the input reads as it did. -/
def nodeBackUptoRow : OpenClaim := { program := "ytdmgmpagnmmehaadoor", sum := "1868dab4602ef48532340f0e48e8b67363c62ac51b446be558b3c56e27598c12", func := "banyan/banyanlaw09.NodeBack", spec := "nodeBack", inPlace := ["internal/bytealg.abigen_runtime_cmpstring"], unfollowed := true, recurses := true, named := ["unicode/utf8.first", "unicode/utf8.acceptRanges"], apart := false, laid := [("unicode/utf8.acceptRanges", laid_unicode_utf8_acceptRanges), ("unicode/utf8.first", laid_unicode_utf8_first)], narrowed := true }
def NodeBackUptoSaid : Prop := nodeBackUptoRow.holds Tryd.pinned (OpenSpec.upto nodeBackSpec)

/-- 'banyanlaw10.UberPuts', WHERE WHAT IT READS IS OF BULK AT MOST 1048576: true; the input reads as it did. -/
def uberPutsUptoRow : OpenClaim := { program := "ytdmgmpagnmmehaadoor", sum := "1868dab4602ef48532340f0e48e8b67363c62ac51b446be558b3c56e27598c12", func := "banyan/banyanlaw10.UberPuts", spec := "uberPuts", inPlace := ["math/bits.Add64"], unfollowed := true, recurses := true, named := ["unicode/utf8.first", "unicode/utf8.acceptRanges"], apart := false, laid := [("unicode/utf8.acceptRanges", laid_unicode_utf8_acceptRanges), ("unicode/utf8.first", laid_unicode_utf8_first)], narrowed := true }
def UberPutsUptoSaid : Prop := uberPutsUptoRow.holds Tryd.pinned (OpenSpec.upto uberPutsSpec)

/-- 'banyanlaw10.UberBack', WHERE WHAT IT READS IS OF BULK AT MOST 1048576: true; the input reads as it did. -/
def uberBackUptoRow : OpenClaim := { program := "ytdmgmpagnmmehaadoor", sum := "1868dab4602ef48532340f0e48e8b67363c62ac51b446be558b3c56e27598c12", func := "banyan/banyanlaw10.UberBack", spec := "uberBack", inPlace := ["math/bits.Add64"], unfollowed := true, recurses := true, named := ["unicode/utf8.first", "unicode/utf8.acceptRanges"], apart := false, laid := [("unicode/utf8.acceptRanges", laid_unicode_utf8_acceptRanges), ("unicode/utf8.first", laid_unicode_utf8_first)], narrowed := true }
def UberBackUptoSaid : Prop := uberBackUptoRow.holds Tryd.pinned (OpenSpec.upto uberBackSpec)

/-- 'banyanlaw10.UberNewer', WHERE WHAT IT READS IS OF BULK AT MOST 1048576: true; the input reads as it did. -/
def uberNewerUptoRow : OpenClaim := { program := "ytdmgmpagnmmehaadoor", sum := "1868dab4602ef48532340f0e48e8b67363c62ac51b446be558b3c56e27598c12", func := "banyan/banyanlaw10.UberNewer", spec := "uberNewer", inPlace := ["math/bits.Add64"], unfollowed := true, recurses := true, named := ["unicode/utf8.first", "unicode/utf8.acceptRanges"], apart := false, laid := [("unicode/utf8.acceptRanges", laid_unicode_utf8_acceptRanges), ("unicode/utf8.first", laid_unicode_utf8_first)], narrowed := true }
def UberNewerUptoSaid : Prop := uberNewerUptoRow.holds Tryd.pinned (OpenSpec.upto uberNewerSpec)

/-- 'banyanlaw10.UberSizes', WHERE WHAT IT READS IS OF BULK AT MOST 1048576: true; the input reads as it did. -/
def uberSizesUptoRow : OpenClaim := { program := "ytdmgmpagnmmehaadoor", sum := "1868dab4602ef48532340f0e48e8b67363c62ac51b446be558b3c56e27598c12", func := "banyan/banyanlaw10.UberSizes", spec := "uberSizes", inPlace := ["math/bits.Add64"], unfollowed := true, recurses := true, named := ["unicode/utf8.first", "unicode/utf8.acceptRanges"], apart := false, laid := [("unicode/utf8.acceptRanges", laid_unicode_utf8_acceptRanges), ("unicode/utf8.first", laid_unicode_utf8_first)], narrowed := true }
def UberSizesUptoSaid : Prop := uberSizesUptoRow.holds Tryd.pinned (OpenSpec.upto uberSizesSpec)

end Rows
end Go.Proofs.YtdmgmpagnmmehaaDoor
