/-
  No cell of these rows narrows 'for every input' (looked for: loops, veiled, ifaces, maps, wideKeys, modest, calm, conditions, laid).
  DERIVED. THE GIVEN ROWS OF THIS SEAT. 16 by the template 'for every input the law returns true; each argument reads behind the call as it read before'; 0 by the template 'total and deterministic' (their statements: YtomnggbideepeaaTotals.lean).
  GIVEN WITH THE SEED: the statements are not yours to turn. If you find one false, say at which input.
  Laid BY PROGRAM, IN A SANDBOX (cutbox-rows.mjs): the forced cells as the released guide's own fill.sh prints them over the translation fa74b9e2366e6970… (all of the seat's roots in one cut). By AI agents, Wed Nov 11 2026. No macro, syntax, notation, axiom, sorry.
-/
import Derived.Test.YtomnggbideepeaaChecked
import GoSem.Claim
import GoSem.ClaimJoined
import GoSem.ClaimMapViews
import Derived.JoinedTies
import Derived.KernelRfl
namespace Go.Proofs.Ytomnggbideepeaa
/- THE CELL 'sum', in the pinned program and in every row, IS THE sha256 OF THE DUMP (.gsa) THAT YtomnggbideepeaaProg.lean LOADS. Nothing in Lean hashes anything: it is a label: what it is worth is what the hold of that sum in a sandbox is worth. -/
noncomputable def Try.pinned : Pinned := { name := "ytomnggbideepeaa", sum := "fa74b9e2366e697056863793ce3369363d8f1effa4c8e8685666cec8f7d321e7", checked := Try.checked }
namespace Rows
def none {H : Type} : Left H := { results := [], args := [] }

/-- 'palinodelaw4.RopeUndo': WHATEVER THE INPUT: true; the input reads as it did. -/
def ropeUndoSpec : ChangeSpec := { name := "ropeUndo", fn := fun _ => fun
  | [d1, d2, d3, d4] => { results := [.lit (.bool true)], args := [d1, d2, d3, d4] }
  | _ => none }
def ropeUndoRow : OpenClaim := { program := "ytomnggbideepeaa", sum := "fa74b9e2366e697056863793ce3369363d8f1effa4c8e8685666cec8f7d321e7", func := "palinode/palinodelaw4.RopeUndo", spec := "ropeUndo", inPlace := ["internal/abi.NoEscape"], unfollowed := true, recurses := true, apart := false }
def RopeUndoSaid : Prop := ropeUndoRow.holds Try.pinned (OpenSpec.ofChange ropeUndoSpec)

/-- ITS FALSE NEIGHBOUR: 'it returns false'. Refute it at one input. -/
def ropeUndoWrong : ChangeSpec := { name := "ropeUndo", fn := fun _ => fun
  | [d1, d2, d3, d4] => { results := [.lit (.bool false)], args := [d1, d2, d3, d4] }
  | _ => none }
def RopeUndoWrongFalsely : Prop := ropeUndoRow.holds Try.pinned (OpenSpec.ofChange ropeUndoWrong)

/-- 'palinodelaw4.RopeEmpty': WHATEVER THE INPUT: true; the input reads as it did. -/
def ropeEmptySpec : ChangeSpec := { name := "ropeEmpty", fn := fun _ => fun
  | [d] => { results := [.lit (.bool true)], args := [d] }
  | _ => none }
def ropeEmptyRow : OpenClaim := { program := "ytomnggbideepeaa", sum := "fa74b9e2366e697056863793ce3369363d8f1effa4c8e8685666cec8f7d321e7", func := "palinode/palinodelaw4.RopeEmpty", spec := "ropeEmpty", inPlace := ["internal/abi.NoEscape"], unfollowed := true, recurses := true, apart := false }
def RopeEmptySaid : Prop := ropeEmptyRow.holds Try.pinned (OpenSpec.ofChange ropeEmptySpec)

/-- ITS FALSE NEIGHBOUR: 'it returns false'. Refute it at one input. -/
def ropeEmptyWrong : ChangeSpec := { name := "ropeEmpty", fn := fun _ => fun
  | [d] => { results := [.lit (.bool false)], args := [d] }
  | _ => none }
def RopeEmptyWrongFalsely : Prop := ropeEmptyRow.holds Try.pinned (OpenSpec.ofChange ropeEmptyWrong)

/-- 'palinodelaw5.MetricBack': WHATEVER THE INPUT: true; the input reads as it did. -/
def metricBackSpec : ChangeSpec := { name := "metricBack", fn := fun _ => fun
  | [d] => { results := [.lit (.bool true)], args := [d] }
  | _ => none }
def metricBackRow : OpenClaim := { program := "ytomnggbideepeaa", sum := "fa74b9e2366e697056863793ce3369363d8f1effa4c8e8685666cec8f7d321e7", func := "palinode/palinodelaw5.MetricBack", spec := "metricBack", inPlace := ["internal/abi.NoEscape"], unfollowed := true, recurses := true, apart := false }
def MetricBackSaid : Prop := metricBackRow.holds Try.pinned (OpenSpec.ofChange metricBackSpec)

/-- ITS FALSE NEIGHBOUR: 'it returns false'. Refute it at one input. -/
def metricBackWrong : ChangeSpec := { name := "metricBack", fn := fun _ => fun
  | [d] => { results := [.lit (.bool false)], args := [d] }
  | _ => none }
def MetricBackWrongFalsely : Prop := metricBackRow.holds Try.pinned (OpenSpec.ofChange metricBackWrong)

/-- 'palinodelaw5.MetricNone': WHATEVER THE INPUT: true; the input reads as it did. -/
def metricNoneSpec : ChangeSpec := { name := "metricNone", fn := fun _ => fun
  | [d1, d2, d3] => { results := [.lit (.bool true)], args := [d1, d2, d3] }
  | _ => none }
def metricNoneRow : OpenClaim := { program := "ytomnggbideepeaa", sum := "fa74b9e2366e697056863793ce3369363d8f1effa4c8e8685666cec8f7d321e7", func := "palinode/palinodelaw5.MetricNone", spec := "metricNone", inPlace := ["internal/abi.NoEscape"], unfollowed := true, recurses := true, apart := false }
def MetricNoneSaid : Prop := metricNoneRow.holds Try.pinned (OpenSpec.ofChange metricNoneSpec)

/-- ITS FALSE NEIGHBOUR: 'it returns false'. Refute it at one input. -/
def metricNoneWrong : ChangeSpec := { name := "metricNone", fn := fun _ => fun
  | [d1, d2, d3] => { results := [.lit (.bool false)], args := [d1, d2, d3] }
  | _ => none }
def MetricNoneWrongFalsely : Prop := metricNoneRow.holds Try.pinned (OpenSpec.ofChange metricNoneWrong)

/-- 'palinodelaw4.RopeSmall': WHATEVER THE INPUT: true; the input reads as it did. -/
def ropeSmallSpec : ChangeSpec := { name := "ropeSmall", fn := fun _ => fun
  | [d1, d2] => { results := [.lit (.bool true)], args := [d1, d2] }
  | _ => none }
def ropeSmallRow : OpenClaim := { program := "ytomnggbideepeaa", sum := "fa74b9e2366e697056863793ce3369363d8f1effa4c8e8685666cec8f7d321e7", func := "palinode/palinodelaw4.RopeSmall", spec := "ropeSmall", inPlace := ["internal/abi.NoEscape"], unfollowed := true, recurses := true, apart := false }
def RopeSmallSaid : Prop := ropeSmallRow.holds Try.pinned (OpenSpec.ofChange ropeSmallSpec)

/-- ITS FALSE NEIGHBOUR: 'it returns false'. Refute it at one input. -/
def ropeSmallWrong : ChangeSpec := { name := "ropeSmall", fn := fun _ => fun
  | [d1, d2] => { results := [.lit (.bool false)], args := [d1, d2] }
  | _ => none }
def RopeSmallWrongFalsely : Prop := ropeSmallRow.holds Try.pinned (OpenSpec.ofChange ropeSmallWrong)

/-- 'palinodelaw4.RopeCounts': WHATEVER THE INPUT: true; the input reads as it did. -/
def ropeCountsSpec : ChangeSpec := { name := "ropeCounts", fn := fun _ => fun
  | [d1, d2] => { results := [.lit (.bool true)], args := [d1, d2] }
  | _ => none }
def ropeCountsRow : OpenClaim := { program := "ytomnggbideepeaa", sum := "fa74b9e2366e697056863793ce3369363d8f1effa4c8e8685666cec8f7d321e7", func := "palinode/palinodelaw4.RopeCounts", spec := "ropeCounts", inPlace := ["internal/abi.NoEscape"], unfollowed := true, recurses := true, apart := false }
def RopeCountsSaid : Prop := ropeCountsRow.holds Try.pinned (OpenSpec.ofChange ropeCountsSpec)

/-- ITS FALSE NEIGHBOUR: 'it returns false'. Refute it at one input. -/
def ropeCountsWrong : ChangeSpec := { name := "ropeCounts", fn := fun _ => fun
  | [d1, d2] => { results := [.lit (.bool false)], args := [d1, d2] }
  | _ => none }
def RopeCountsWrongFalsely : Prop := ropeCountsRow.holds Try.pinned (OpenSpec.ofChange ropeCountsWrong)

/-- 'palinodelaw4.RopePlays': WHATEVER THE INPUT: true; the input reads as it did. -/
def ropePlaysSpec : ChangeSpec := { name := "ropePlays", fn := fun _ => fun
  | [d1, d2, d3] => { results := [.lit (.bool true)], args := [d1, d2, d3] }
  | _ => none }
def ropePlaysRow : OpenClaim := { program := "ytomnggbideepeaa", sum := "fa74b9e2366e697056863793ce3369363d8f1effa4c8e8685666cec8f7d321e7", func := "palinode/palinodelaw4.RopePlays", spec := "ropePlays", inPlace := ["internal/abi.NoEscape"], unfollowed := true, recurses := true, apart := false }
def RopePlaysSaid : Prop := ropePlaysRow.holds Try.pinned (OpenSpec.ofChange ropePlaysSpec)

/-- ITS FALSE NEIGHBOUR: 'it returns false'. Refute it at one input. -/
def ropePlaysWrong : ChangeSpec := { name := "ropePlays", fn := fun _ => fun
  | [d1, d2, d3] => { results := [.lit (.bool false)], args := [d1, d2, d3] }
  | _ => none }
def RopePlaysWrongFalsely : Prop := ropePlaysRow.holds Try.pinned (OpenSpec.ofChange ropePlaysWrong)

/-- 'palinodelaw4.RopeLong': WHATEVER THE INPUT: true; the input reads as it did. -/
def ropeLongSpec : ChangeSpec := { name := "ropeLong", fn := fun _ => fun
  | [d1, d2] => { results := [.lit (.bool true)], args := [d1, d2] }
  | _ => none }
def ropeLongRow : OpenClaim := { program := "ytomnggbideepeaa", sum := "fa74b9e2366e697056863793ce3369363d8f1effa4c8e8685666cec8f7d321e7", func := "palinode/palinodelaw4.RopeLong", spec := "ropeLong", inPlace := ["internal/abi.NoEscape"], unfollowed := true, recurses := true, apart := false }
def RopeLongSaid : Prop := ropeLongRow.holds Try.pinned (OpenSpec.ofChange ropeLongSpec)

/-- ITS FALSE NEIGHBOUR: 'it returns false'. Refute it at one input. -/
def ropeLongWrong : ChangeSpec := { name := "ropeLong", fn := fun _ => fun
  | [d1, d2] => { results := [.lit (.bool false)], args := [d1, d2] }
  | _ => none }
def RopeLongWrongFalsely : Prop := ropeLongRow.holds Try.pinned (OpenSpec.ofChange ropeLongWrong)

/-- 'palinodelaw4.RopeParts': WHATEVER THE INPUT: true; the input reads as it did. -/
def ropePartsSpec : ChangeSpec := { name := "ropeParts", fn := fun _ => fun
  | [d1, d2] => { results := [.lit (.bool true)], args := [d1, d2] }
  | _ => none }
def ropePartsRow : OpenClaim := { program := "ytomnggbideepeaa", sum := "fa74b9e2366e697056863793ce3369363d8f1effa4c8e8685666cec8f7d321e7", func := "palinode/palinodelaw4.RopeParts", spec := "ropeParts", inPlace := ["internal/abi.NoEscape"], unfollowed := true, recurses := true, apart := false }
def RopePartsSaid : Prop := ropePartsRow.holds Try.pinned (OpenSpec.ofChange ropePartsSpec)

/-- ITS FALSE NEIGHBOUR: 'it returns false'. Refute it at one input. -/
def ropePartsWrong : ChangeSpec := { name := "ropeParts", fn := fun _ => fun
  | [d1, d2] => { results := [.lit (.bool false)], args := [d1, d2] }
  | _ => none }
def RopePartsWrongFalsely : Prop := ropePartsRow.holds Try.pinned (OpenSpec.ofChange ropePartsWrong)

/-- 'palinodelaw5.MetricParts': WHATEVER THE INPUT: true; the input reads as it did. -/
def metricPartsSpec : ChangeSpec := { name := "metricParts", fn := fun _ => fun
  | [d1, d2, d3] => { results := [.lit (.bool true)], args := [d1, d2, d3] }
  | _ => none }
def metricPartsRow : OpenClaim := { program := "ytomnggbideepeaa", sum := "fa74b9e2366e697056863793ce3369363d8f1effa4c8e8685666cec8f7d321e7", func := "palinode/palinodelaw5.MetricParts", spec := "metricParts", inPlace := ["internal/abi.NoEscape"], unfollowed := true, recurses := true, apart := false }
def MetricPartsSaid : Prop := metricPartsRow.holds Try.pinned (OpenSpec.ofChange metricPartsSpec)

/-- ITS FALSE NEIGHBOUR: 'it returns false'. Refute it at one input. -/
def metricPartsWrong : ChangeSpec := { name := "metricParts", fn := fun _ => fun
  | [d1, d2, d3] => { results := [.lit (.bool false)], args := [d1, d2, d3] }
  | _ => none }
def MetricPartsWrongFalsely : Prop := metricPartsRow.holds Try.pinned (OpenSpec.ofChange metricPartsWrong)

/-- 'palinodelaw5.MetricTells': WHATEVER THE INPUT: true; the input reads as it did. -/
def metricTellsSpec : ChangeSpec := { name := "metricTells", fn := fun _ => fun
  | [d1, d2, d3, d4, d5, d6] => { results := [.lit (.bool true)], args := [d1, d2, d3, d4, d5, d6] }
  | _ => none }
def metricTellsRow : OpenClaim := { program := "ytomnggbideepeaa", sum := "fa74b9e2366e697056863793ce3369363d8f1effa4c8e8685666cec8f7d321e7", func := "palinode/palinodelaw5.MetricTells", spec := "metricTells", inPlace := ["internal/abi.NoEscape"], unfollowed := true, recurses := true, apart := false }
def MetricTellsSaid : Prop := metricTellsRow.holds Try.pinned (OpenSpec.ofChange metricTellsSpec)

/-- ITS FALSE NEIGHBOUR: 'it returns false'. Refute it at one input. -/
def metricTellsWrong : ChangeSpec := { name := "metricTells", fn := fun _ => fun
  | [d1, d2, d3, d4, d5, d6] => { results := [.lit (.bool false)], args := [d1, d2, d3, d4, d5, d6] }
  | _ => none }
def MetricTellsWrongFalsely : Prop := metricTellsRow.holds Try.pinned (OpenSpec.ofChange metricTellsWrong)

/-- 'palinodelaw6.LinesTell': WHATEVER THE INPUT: true; the input reads as it did. -/
def linesTellSpec : ChangeSpec := { name := "linesTell", fn := fun _ => fun
  | [d1, d2, d3, d4, d5, d6, d7] => { results := [.lit (.bool true)], args := [d1, d2, d3, d4, d5, d6, d7] }
  | _ => none }
def linesTellRow : OpenClaim := { program := "ytomnggbideepeaa", sum := "fa74b9e2366e697056863793ce3369363d8f1effa4c8e8685666cec8f7d321e7", func := "palinode/palinodelaw6.LinesTell", spec := "linesTell", inPlace := ["internal/abi.NoEscape", "internal/bytealg.IndexByteString", "internal/bytealg.IndexString"], unfollowed := true, recurses := true, named := ["internal/bytealg.MaxLen"], apart := false }
def LinesTellSaid : Prop := linesTellRow.holds Try.pinned (OpenSpec.ofChange linesTellSpec)

/-- ITS FALSE NEIGHBOUR: 'it returns false'. Refute it at one input. -/
def linesTellWrong : ChangeSpec := { name := "linesTell", fn := fun _ => fun
  | [d1, d2, d3, d4, d5, d6, d7] => { results := [.lit (.bool false)], args := [d1, d2, d3, d4, d5, d6, d7] }
  | _ => none }
def LinesTellWrongFalsely : Prop := linesTellRow.holds Try.pinned (OpenSpec.ofChange linesTellWrong)

/-- 'palinodelaw6.LinesJoin': WHATEVER THE INPUT: true; the input reads as it did. -/
def linesJoinSpec : ChangeSpec := { name := "linesJoin", fn := fun _ => fun
  | [d] => { results := [.lit (.bool true)], args := [d] }
  | _ => none }
def linesJoinRow : OpenClaim := { program := "ytomnggbideepeaa", sum := "fa74b9e2366e697056863793ce3369363d8f1effa4c8e8685666cec8f7d321e7", func := "palinode/palinodelaw6.LinesJoin", spec := "linesJoin", inPlace := ["internal/abi.NoEscape", "internal/bytealg.IndexByteString", "internal/bytealg.IndexString"], unfollowed := true, recurses := true, named := ["internal/bytealg.MaxLen"], apart := false }
def LinesJoinSaid : Prop := linesJoinRow.holds Try.pinned (OpenSpec.ofChange linesJoinSpec)

/-- ITS FALSE NEIGHBOUR: 'it returns false'. Refute it at one input. -/
def linesJoinWrong : ChangeSpec := { name := "linesJoin", fn := fun _ => fun
  | [d] => { results := [.lit (.bool false)], args := [d] }
  | _ => none }
def LinesJoinWrongFalsely : Prop := linesJoinRow.holds Try.pinned (OpenSpec.ofChange linesJoinWrong)

/-- 'palinodelaw6.LinesPieces': WHATEVER THE INPUT: true; the input reads as it did. -/
def linesPiecesSpec : ChangeSpec := { name := "linesPieces", fn := fun _ => fun
  | [d1, d2] => { results := [.lit (.bool true)], args := [d1, d2] }
  | _ => none }
def linesPiecesRow : OpenClaim := { program := "ytomnggbideepeaa", sum := "fa74b9e2366e697056863793ce3369363d8f1effa4c8e8685666cec8f7d321e7", func := "palinode/palinodelaw6.LinesPieces", spec := "linesPieces", inPlace := ["internal/abi.NoEscape", "internal/bytealg.IndexByteString", "internal/bytealg.IndexString"], unfollowed := true, recurses := true, named := ["internal/bytealg.MaxLen"], apart := false }
def LinesPiecesSaid : Prop := linesPiecesRow.holds Try.pinned (OpenSpec.ofChange linesPiecesSpec)

/-- ITS FALSE NEIGHBOUR: 'it returns false'. Refute it at one input. -/
def linesPiecesWrong : ChangeSpec := { name := "linesPieces", fn := fun _ => fun
  | [d1, d2] => { results := [.lit (.bool false)], args := [d1, d2] }
  | _ => none }
def LinesPiecesWrongFalsely : Prop := linesPiecesRow.holds Try.pinned (OpenSpec.ofChange linesPiecesWrong)

/-- 'palinodelaw6.LinesFind': WHATEVER THE INPUT: true; the input reads as it did. -/
def linesFindSpec : ChangeSpec := { name := "linesFind", fn := fun _ => fun
  | [d1, d2, d3] => { results := [.lit (.bool true)], args := [d1, d2, d3] }
  | _ => none }
def linesFindRow : OpenClaim := { program := "ytomnggbideepeaa", sum := "fa74b9e2366e697056863793ce3369363d8f1effa4c8e8685666cec8f7d321e7", func := "palinode/palinodelaw6.LinesFind", spec := "linesFind", inPlace := ["internal/abi.NoEscape", "internal/bytealg.IndexByteString", "internal/bytealg.IndexString"], unfollowed := true, recurses := true, named := ["internal/bytealg.MaxLen"], apart := false }
def LinesFindSaid : Prop := linesFindRow.holds Try.pinned (OpenSpec.ofChange linesFindSpec)

/-- ITS FALSE NEIGHBOUR: 'it returns false'. Refute it at one input. -/
def linesFindWrong : ChangeSpec := { name := "linesFind", fn := fun _ => fun
  | [d1, d2, d3] => { results := [.lit (.bool false)], args := [d1, d2, d3] }
  | _ => none }
def LinesFindWrongFalsely : Prop := linesFindRow.holds Try.pinned (OpenSpec.ofChange linesFindWrong)

/-- 'palinodelaw6.LinesEdits': WHATEVER THE INPUT: true; the input reads as it did. -/
def linesEditsSpec : ChangeSpec := { name := "linesEdits", fn := fun _ => fun
  | [d1, d2] => { results := [.lit (.bool true)], args := [d1, d2] }
  | _ => none }
def linesEditsRow : OpenClaim := { program := "ytomnggbideepeaa", sum := "fa74b9e2366e697056863793ce3369363d8f1effa4c8e8685666cec8f7d321e7", func := "palinode/palinodelaw6.LinesEdits", spec := "linesEdits", inPlace := ["internal/abi.NoEscape", "internal/bytealg.IndexByteString", "internal/bytealg.IndexString"], unfollowed := true, recurses := true, named := ["internal/bytealg.MaxLen"], apart := false }
def LinesEditsSaid : Prop := linesEditsRow.holds Try.pinned (OpenSpec.ofChange linesEditsSpec)

/-- ITS FALSE NEIGHBOUR: 'it returns false'. Refute it at one input. -/
def linesEditsWrong : ChangeSpec := { name := "linesEdits", fn := fun _ => fun
  | [d1, d2] => { results := [.lit (.bool false)], args := [d1, d2] }
  | _ => none }
def LinesEditsWrongFalsely : Prop := linesEditsRow.holds Try.pinned (OpenSpec.ofChange linesEditsWrong)

/- THE SECOND FORM. 'bulk': how many values and letters a reading holds, each counted each time it is reached (what is shared counts as often as it is met; a slice's spare places count too). A statement '..UptoSaid' is the law's where the arguments, and the package variables that the reading takes, are together of bulk at most 1048576: NARROWER than '..Said'. Prove '..Said' where nothing that the law and all that it calls make is longer than what came in: it says more and counts as full. Else prove '..UptoSaid'. A law counts once. -/
mutual
def uptoBulk {H : Type} : DataW H → Nat
  | .lit (.string bytes) => bytes.length + 1
  | .lit _ => 1
  | .nil => 1
  | .ptr d => uptoBulk d + 1
  | .slice elems spare => uptoBulkAll elems + uptoBulkAll spare + 1
  | .agg parts => uptoBulkAll parts + 1
  | .iface _ d => uptoBulk d + 1
  | .map entries => uptoBulkEntries entries + 1
  | .held _ => 1
def uptoBulkAll {H : Type} : List (DataW H) → Nat
  | [] => 0
  | d :: r => uptoBulk d + uptoBulkAll r
def uptoBulkEntries {H : Type} : List (Lit × DataW H) → Nat
  | [] => 0
  | x :: r => uptoBulkEntry x + uptoBulkEntries r
def uptoBulkEntry {H : Type} : Lit × DataW H → Nat
  | (.string bytes, d) => bytes.length + uptoBulk d + 1
  | (_, d) => uptoBulk d + 1
 end
def uptoSmall : (H : Type) → List (DataW H) → Bool := fun _ ds => decide (uptoBulkAll ds ≤ 1048576)
def OpenSpec.upto (s : _root_.Go.ChangeSpec) : _root_.Go.OpenSpec := { _root_.Go.OpenSpec.ofChange s with cond := some uptoSmall }

/-- 'palinodelaw4.RopeUndo', WHERE WHAT IT READS IS OF BULK AT MOST 1048576: true; the input reads as it did. -/
def ropeUndoUptoRow : OpenClaim := { program := "ytomnggbideepeaa", sum := "fa74b9e2366e697056863793ce3369363d8f1effa4c8e8685666cec8f7d321e7", func := "palinode/palinodelaw4.RopeUndo", spec := "ropeUndo", inPlace := ["internal/abi.NoEscape"], unfollowed := true, recurses := true, apart := false, narrowed := true }
def RopeUndoUptoSaid : Prop := ropeUndoUptoRow.holds Try.pinned (OpenSpec.upto ropeUndoSpec)

/-- 'palinodelaw4.RopeEmpty', WHERE WHAT IT READS IS OF BULK AT MOST 1048576: true; the input reads as it did. -/
def ropeEmptyUptoRow : OpenClaim := { program := "ytomnggbideepeaa", sum := "fa74b9e2366e697056863793ce3369363d8f1effa4c8e8685666cec8f7d321e7", func := "palinode/palinodelaw4.RopeEmpty", spec := "ropeEmpty", inPlace := ["internal/abi.NoEscape"], unfollowed := true, recurses := true, apart := false, narrowed := true }
def RopeEmptyUptoSaid : Prop := ropeEmptyUptoRow.holds Try.pinned (OpenSpec.upto ropeEmptySpec)

/-- 'palinodelaw5.MetricBack', WHERE WHAT IT READS IS OF BULK AT MOST 1048576: true; the input reads as it did. -/
def metricBackUptoRow : OpenClaim := { program := "ytomnggbideepeaa", sum := "fa74b9e2366e697056863793ce3369363d8f1effa4c8e8685666cec8f7d321e7", func := "palinode/palinodelaw5.MetricBack", spec := "metricBack", inPlace := ["internal/abi.NoEscape"], unfollowed := true, recurses := true, apart := false, narrowed := true }
def MetricBackUptoSaid : Prop := metricBackUptoRow.holds Try.pinned (OpenSpec.upto metricBackSpec)

/-- 'palinodelaw5.MetricNone', WHERE WHAT IT READS IS OF BULK AT MOST 1048576: true; the input reads as it did. -/
def metricNoneUptoRow : OpenClaim := { program := "ytomnggbideepeaa", sum := "fa74b9e2366e697056863793ce3369363d8f1effa4c8e8685666cec8f7d321e7", func := "palinode/palinodelaw5.MetricNone", spec := "metricNone", inPlace := ["internal/abi.NoEscape"], unfollowed := true, recurses := true, apart := false, narrowed := true }
def MetricNoneUptoSaid : Prop := metricNoneUptoRow.holds Try.pinned (OpenSpec.upto metricNoneSpec)

/-- 'palinodelaw4.RopeSmall', WHERE WHAT IT READS IS OF BULK AT MOST 1048576: true; the input reads as it did. -/
def ropeSmallUptoRow : OpenClaim := { program := "ytomnggbideepeaa", sum := "fa74b9e2366e697056863793ce3369363d8f1effa4c8e8685666cec8f7d321e7", func := "palinode/palinodelaw4.RopeSmall", spec := "ropeSmall", inPlace := ["internal/abi.NoEscape"], unfollowed := true, recurses := true, apart := false, narrowed := true }
def RopeSmallUptoSaid : Prop := ropeSmallUptoRow.holds Try.pinned (OpenSpec.upto ropeSmallSpec)

/-- 'palinodelaw4.RopeCounts', WHERE WHAT IT READS IS OF BULK AT MOST 1048576: true; the input reads as it did. -/
def ropeCountsUptoRow : OpenClaim := { program := "ytomnggbideepeaa", sum := "fa74b9e2366e697056863793ce3369363d8f1effa4c8e8685666cec8f7d321e7", func := "palinode/palinodelaw4.RopeCounts", spec := "ropeCounts", inPlace := ["internal/abi.NoEscape"], unfollowed := true, recurses := true, apart := false, narrowed := true }
def RopeCountsUptoSaid : Prop := ropeCountsUptoRow.holds Try.pinned (OpenSpec.upto ropeCountsSpec)

/-- 'palinodelaw4.RopePlays', WHERE WHAT IT READS IS OF BULK AT MOST 1048576: true; the input reads as it did. -/
def ropePlaysUptoRow : OpenClaim := { program := "ytomnggbideepeaa", sum := "fa74b9e2366e697056863793ce3369363d8f1effa4c8e8685666cec8f7d321e7", func := "palinode/palinodelaw4.RopePlays", spec := "ropePlays", inPlace := ["internal/abi.NoEscape"], unfollowed := true, recurses := true, apart := false, narrowed := true }
def RopePlaysUptoSaid : Prop := ropePlaysUptoRow.holds Try.pinned (OpenSpec.upto ropePlaysSpec)

/-- 'palinodelaw4.RopeLong', WHERE WHAT IT READS IS OF BULK AT MOST 1048576: true; the input reads as it did. -/
def ropeLongUptoRow : OpenClaim := { program := "ytomnggbideepeaa", sum := "fa74b9e2366e697056863793ce3369363d8f1effa4c8e8685666cec8f7d321e7", func := "palinode/palinodelaw4.RopeLong", spec := "ropeLong", inPlace := ["internal/abi.NoEscape"], unfollowed := true, recurses := true, apart := false, narrowed := true }
def RopeLongUptoSaid : Prop := ropeLongUptoRow.holds Try.pinned (OpenSpec.upto ropeLongSpec)

/-- 'palinodelaw4.RopeParts', WHERE WHAT IT READS IS OF BULK AT MOST 1048576: true; the input reads as it did. -/
def ropePartsUptoRow : OpenClaim := { program := "ytomnggbideepeaa", sum := "fa74b9e2366e697056863793ce3369363d8f1effa4c8e8685666cec8f7d321e7", func := "palinode/palinodelaw4.RopeParts", spec := "ropeParts", inPlace := ["internal/abi.NoEscape"], unfollowed := true, recurses := true, apart := false, narrowed := true }
def RopePartsUptoSaid : Prop := ropePartsUptoRow.holds Try.pinned (OpenSpec.upto ropePartsSpec)

/-- 'palinodelaw5.MetricParts', WHERE WHAT IT READS IS OF BULK AT MOST 1048576: true; the input reads as it did. -/
def metricPartsUptoRow : OpenClaim := { program := "ytomnggbideepeaa", sum := "fa74b9e2366e697056863793ce3369363d8f1effa4c8e8685666cec8f7d321e7", func := "palinode/palinodelaw5.MetricParts", spec := "metricParts", inPlace := ["internal/abi.NoEscape"], unfollowed := true, recurses := true, apart := false, narrowed := true }
def MetricPartsUptoSaid : Prop := metricPartsUptoRow.holds Try.pinned (OpenSpec.upto metricPartsSpec)

/-- 'palinodelaw5.MetricTells', WHERE WHAT IT READS IS OF BULK AT MOST 1048576: true; the input reads as it did. -/
def metricTellsUptoRow : OpenClaim := { program := "ytomnggbideepeaa", sum := "fa74b9e2366e697056863793ce3369363d8f1effa4c8e8685666cec8f7d321e7", func := "palinode/palinodelaw5.MetricTells", spec := "metricTells", inPlace := ["internal/abi.NoEscape"], unfollowed := true, recurses := true, apart := false, narrowed := true }
def MetricTellsUptoSaid : Prop := metricTellsUptoRow.holds Try.pinned (OpenSpec.upto metricTellsSpec)

/-- 'palinodelaw6.LinesTell', WHERE WHAT IT READS IS OF BULK AT MOST 1048576: true; the input reads as it did. -/
def linesTellUptoRow : OpenClaim := { program := "ytomnggbideepeaa", sum := "fa74b9e2366e697056863793ce3369363d8f1effa4c8e8685666cec8f7d321e7", func := "palinode/palinodelaw6.LinesTell", spec := "linesTell", inPlace := ["internal/abi.NoEscape", "internal/bytealg.IndexByteString", "internal/bytealg.IndexString"], unfollowed := true, recurses := true, named := ["internal/bytealg.MaxLen"], apart := false, narrowed := true }
def LinesTellUptoSaid : Prop := linesTellUptoRow.holds Try.pinned (OpenSpec.upto linesTellSpec)

/-- 'palinodelaw6.LinesJoin', WHERE WHAT IT READS IS OF BULK AT MOST 1048576: true; the input reads as it did. -/
def linesJoinUptoRow : OpenClaim := { program := "ytomnggbideepeaa", sum := "fa74b9e2366e697056863793ce3369363d8f1effa4c8e8685666cec8f7d321e7", func := "palinode/palinodelaw6.LinesJoin", spec := "linesJoin", inPlace := ["internal/abi.NoEscape", "internal/bytealg.IndexByteString", "internal/bytealg.IndexString"], unfollowed := true, recurses := true, named := ["internal/bytealg.MaxLen"], apart := false, narrowed := true }
def LinesJoinUptoSaid : Prop := linesJoinUptoRow.holds Try.pinned (OpenSpec.upto linesJoinSpec)

/-- 'palinodelaw6.LinesPieces', WHERE WHAT IT READS IS OF BULK AT MOST 1048576: true; the input reads as it did. -/
def linesPiecesUptoRow : OpenClaim := { program := "ytomnggbideepeaa", sum := "fa74b9e2366e697056863793ce3369363d8f1effa4c8e8685666cec8f7d321e7", func := "palinode/palinodelaw6.LinesPieces", spec := "linesPieces", inPlace := ["internal/abi.NoEscape", "internal/bytealg.IndexByteString", "internal/bytealg.IndexString"], unfollowed := true, recurses := true, named := ["internal/bytealg.MaxLen"], apart := false, narrowed := true }
def LinesPiecesUptoSaid : Prop := linesPiecesUptoRow.holds Try.pinned (OpenSpec.upto linesPiecesSpec)

/-- 'palinodelaw6.LinesFind', WHERE WHAT IT READS IS OF BULK AT MOST 1048576: true; the input reads as it did. -/
def linesFindUptoRow : OpenClaim := { program := "ytomnggbideepeaa", sum := "fa74b9e2366e697056863793ce3369363d8f1effa4c8e8685666cec8f7d321e7", func := "palinode/palinodelaw6.LinesFind", spec := "linesFind", inPlace := ["internal/abi.NoEscape", "internal/bytealg.IndexByteString", "internal/bytealg.IndexString"], unfollowed := true, recurses := true, named := ["internal/bytealg.MaxLen"], apart := false, narrowed := true }
def LinesFindUptoSaid : Prop := linesFindUptoRow.holds Try.pinned (OpenSpec.upto linesFindSpec)

/-- 'palinodelaw6.LinesEdits', WHERE WHAT IT READS IS OF BULK AT MOST 1048576: true; the input reads as it did. -/
def linesEditsUptoRow : OpenClaim := { program := "ytomnggbideepeaa", sum := "fa74b9e2366e697056863793ce3369363d8f1effa4c8e8685666cec8f7d321e7", func := "palinode/palinodelaw6.LinesEdits", spec := "linesEdits", inPlace := ["internal/abi.NoEscape", "internal/bytealg.IndexByteString", "internal/bytealg.IndexString"], unfollowed := true, recurses := true, named := ["internal/bytealg.MaxLen"], apart := false, narrowed := true }
def LinesEditsUptoSaid : Prop := linesEditsUptoRow.holds Try.pinned (OpenSpec.upto linesEditsSpec)

end Rows
end Go.Proofs.Ytomnggbideepeaa
