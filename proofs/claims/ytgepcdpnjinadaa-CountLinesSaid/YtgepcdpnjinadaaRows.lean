/-
  No cell of these rows narrows 'for every input' (looked for: loops, veiled, ifaces, maps, wideKeys, modest, calm, conditions, laid).
  DERIVED. THE GIVEN ROWS OF THIS SEAT. 14 by the template 'for every input the law returns true; each argument reads behind the call as it read before'; 0 by the template 'total and deterministic' (their statements: YtgepcdpnjinadaaTotals.lean).
  GIVEN WITH THE SEED: the statements are not yours to turn. If you find one false, say at which input.
  Laid BY PROGRAM, IN A SANDBOX (cutbox-rows.mjs): the forced cells as the released guide's own fill.sh prints them over the translation ad83b5045c4eb78b… (all of the seat's roots in one cut). By AI agents, Wed Nov 11 2026. No macro, syntax, notation, axiom, sorry.
-/
import Derived.Test.YtgepcdpnjinadaaChecked
import GoSem.Claim
import GoSem.ClaimJoined
import GoSem.ClaimMapViews
import Derived.JoinedTies
import Derived.KernelRfl
namespace Go.Proofs.Ytgepcdpnjinadaa
/- THE CELL 'sum', in the pinned program and in every row, IS THE sha256 OF THE DUMP (.gsa) THAT YtgepcdpnjinadaaProg.lean LOADS. Nothing in Lean hashes anything: it is a label: what it is worth is what the hold of that sum in a sandbox is worth. -/
noncomputable def Try.pinned : Pinned := { name := "ytgepcdpnjinadaa", sum := "ad83b5045c4eb78bf67179aba950a48ca9d93d84188cdc1903f80a3237ebea66", checked := Try.checked }
namespace Rows
def none {H : Type} : Left H := { results := [], args := [] }

/-- 'palinodelaw1.UtfTells': WHATEVER THE INPUT: true; the input reads as it did. -/
def utfTellsSpec : ChangeSpec := { name := "utfTells", fn := fun _ => fun
  | [d1, d2] => { results := [.lit (.bool true)], args := [d1, d2] }
  | _ => none }
def utfTellsRow : OpenClaim := { program := "ytgepcdpnjinadaa", sum := "ad83b5045c4eb78bf67179aba950a48ca9d93d84188cdc1903f80a3237ebea66", func := "palinode/palinodelaw1.UtfTells", spec := "utfTells", inPlace := ["internal/abi.NoEscape"], apart := false }
def UtfTellsSaid : Prop := utfTellsRow.holds Try.pinned (OpenSpec.ofChange utfTellsSpec)

/-- ITS FALSE NEIGHBOUR: 'it returns false'. Refute it at one input. -/
def utfTellsWrong : ChangeSpec := { name := "utfTells", fn := fun _ => fun
  | [d1, d2] => { results := [.lit (.bool false)], args := [d1, d2] }
  | _ => none }
def UtfTellsWrongFalsely : Prop := utfTellsRow.holds Try.pinned (OpenSpec.ofChange utfTellsWrong)

/-- 'palinodelaw1.UtfMakes': WHATEVER THE INPUT: true; the input reads as it did. -/
def utfMakesSpec : ChangeSpec := { name := "utfMakes", fn := fun _ => fun
  | [d] => { results := [.lit (.bool true)], args := [d] }
  | _ => none }
def utfMakesRow : OpenClaim := { program := "ytgepcdpnjinadaa", sum := "ad83b5045c4eb78bf67179aba950a48ca9d93d84188cdc1903f80a3237ebea66", func := "palinode/palinodelaw1.UtfMakes", spec := "utfMakes", inPlace := ["internal/abi.NoEscape"], apart := false }
def UtfMakesSaid : Prop := utfMakesRow.holds Try.pinned (OpenSpec.ofChange utfMakesSpec)

/-- ITS FALSE NEIGHBOUR: 'it returns false'. Refute it at one input. -/
def utfMakesWrong : ChangeSpec := { name := "utfMakes", fn := fun _ => fun
  | [d] => { results := [.lit (.bool false)], args := [d] }
  | _ => none }
def UtfMakesWrongFalsely : Prop := utfMakesRow.holds Try.pinned (OpenSpec.ofChange utfMakesWrong)

/-- 'palinodelaw1.UtfClean': WHATEVER THE INPUT: true; the input reads as it did. -/
def utfCleanSpec : ChangeSpec := { name := "utfClean", fn := fun _ => fun
  | [d1, d2] => { results := [.lit (.bool true)], args := [d1, d2] }
  | _ => none }
def utfCleanRow : OpenClaim := { program := "ytgepcdpnjinadaa", sum := "ad83b5045c4eb78bf67179aba950a48ca9d93d84188cdc1903f80a3237ebea66", func := "palinode/palinodelaw1.UtfClean", spec := "utfClean", inPlace := ["internal/abi.NoEscape"], apart := false }
def UtfCleanSaid : Prop := utfCleanRow.holds Try.pinned (OpenSpec.ofChange utfCleanSpec)

/-- ITS FALSE NEIGHBOUR: 'it returns false'. Refute it at one input. -/
def utfCleanWrong : ChangeSpec := { name := "utfClean", fn := fun _ => fun
  | [d1, d2] => { results := [.lit (.bool false)], args := [d1, d2] }
  | _ => none }
def UtfCleanWrongFalsely : Prop := utfCleanRow.holds Try.pinned (OpenSpec.ofChange utfCleanWrong)

/-- 'palinodelaw1.UtfBack': WHATEVER THE INPUT: true; the input reads as it did. -/
def utfBackSpec : ChangeSpec := { name := "utfBack", fn := fun _ => fun
  | [d] => { results := [.lit (.bool true)], args := [d] }
  | _ => none }
def utfBackRow : OpenClaim := { program := "ytgepcdpnjinadaa", sum := "ad83b5045c4eb78bf67179aba950a48ca9d93d84188cdc1903f80a3237ebea66", func := "palinode/palinodelaw1.UtfBack", spec := "utfBack", inPlace := ["internal/abi.NoEscape"], apart := false }
def UtfBackSaid : Prop := utfBackRow.holds Try.pinned (OpenSpec.ofChange utfBackSpec)

/-- ITS FALSE NEIGHBOUR: 'it returns false'. Refute it at one input. -/
def utfBackWrong : ChangeSpec := { name := "utfBack", fn := fun _ => fun
  | [d] => { results := [.lit (.bool false)], args := [d] }
  | _ => none }
def UtfBackWrongFalsely : Prop := utfBackRow.holds Try.pinned (OpenSpec.ofChange utfBackWrong)

/-- 'palinodelaw1.UtfCuts': WHATEVER THE INPUT: true; the input reads as it did. -/
def utfCutsSpec : ChangeSpec := { name := "utfCuts", fn := fun _ => fun
  | [d1, d2] => { results := [.lit (.bool true)], args := [d1, d2] }
  | _ => none }
def utfCutsRow : OpenClaim := { program := "ytgepcdpnjinadaa", sum := "ad83b5045c4eb78bf67179aba950a48ca9d93d84188cdc1903f80a3237ebea66", func := "palinode/palinodelaw1.UtfCuts", spec := "utfCuts", inPlace := ["internal/abi.NoEscape"], apart := false }
def UtfCutsSaid : Prop := utfCutsRow.holds Try.pinned (OpenSpec.ofChange utfCutsSpec)

/-- ITS FALSE NEIGHBOUR: 'it returns false'. Refute it at one input. -/
def utfCutsWrong : ChangeSpec := { name := "utfCuts", fn := fun _ => fun
  | [d1, d2] => { results := [.lit (.bool false)], args := [d1, d2] }
  | _ => none }
def UtfCutsWrongFalsely : Prop := utfCutsRow.holds Try.pinned (OpenSpec.ofChange utfCutsWrong)

/-- 'palinodelaw1.UtfJoin': WHATEVER THE INPUT: true; the input reads as it did. -/
def utfJoinSpec : ChangeSpec := { name := "utfJoin", fn := fun _ => fun
  | [d1, d2, d3] => { results := [.lit (.bool true)], args := [d1, d2, d3] }
  | _ => none }
def utfJoinRow : OpenClaim := { program := "ytgepcdpnjinadaa", sum := "ad83b5045c4eb78bf67179aba950a48ca9d93d84188cdc1903f80a3237ebea66", func := "palinode/palinodelaw1.UtfJoin", spec := "utfJoin", inPlace := ["internal/abi.NoEscape"], apart := false }
def UtfJoinSaid : Prop := utfJoinRow.holds Try.pinned (OpenSpec.ofChange utfJoinSpec)

/-- ITS FALSE NEIGHBOUR: 'it returns false'. Refute it at one input. -/
def utfJoinWrong : ChangeSpec := { name := "utfJoin", fn := fun _ => fun
  | [d1, d2, d3] => { results := [.lit (.bool false)], args := [d1, d2, d3] }
  | _ => none }
def UtfJoinWrongFalsely : Prop := utfJoinRow.holds Try.pinned (OpenSpec.ofChange utfJoinWrong)

/-- 'palinodelaw1.UtfSteps': WHATEVER THE INPUT: true; the input reads as it did. -/
def utfStepsSpec : ChangeSpec := { name := "utfSteps", fn := fun _ => fun
  | [d] => { results := [.lit (.bool true)], args := [d] }
  | _ => none }
def utfStepsRow : OpenClaim := { program := "ytgepcdpnjinadaa", sum := "ad83b5045c4eb78bf67179aba950a48ca9d93d84188cdc1903f80a3237ebea66", func := "palinode/palinodelaw1.UtfSteps", spec := "utfSteps", inPlace := ["internal/abi.NoEscape"], apart := false }
def UtfStepsSaid : Prop := utfStepsRow.holds Try.pinned (OpenSpec.ofChange utfStepsSpec)

/-- ITS FALSE NEIGHBOUR: 'it returns false'. Refute it at one input. -/
def utfStepsWrong : ChangeSpec := { name := "utfSteps", fn := fun _ => fun
  | [d] => { results := [.lit (.bool false)], args := [d] }
  | _ => none }
def UtfStepsWrongFalsely : Prop := utfStepsRow.holds Try.pinned (OpenSpec.ofChange utfStepsWrong)

/-- 'palinodelaw1.UtfNone': WHATEVER THE INPUT: true; the input reads as it did. -/
def utfNoneSpec : ChangeSpec := { name := "utfNone", fn := fun _ => fun
  | [d1, d2] => { results := [.lit (.bool true)], args := [d1, d2] }
  | _ => none }
def utfNoneRow : OpenClaim := { program := "ytgepcdpnjinadaa", sum := "ad83b5045c4eb78bf67179aba950a48ca9d93d84188cdc1903f80a3237ebea66", func := "palinode/palinodelaw1.UtfNone", spec := "utfNone", inPlace := ["internal/abi.NoEscape"], apart := false }
def UtfNoneSaid : Prop := utfNoneRow.holds Try.pinned (OpenSpec.ofChange utfNoneSpec)

/-- ITS FALSE NEIGHBOUR: 'it returns false'. Refute it at one input. -/
def utfNoneWrong : ChangeSpec := { name := "utfNone", fn := fun _ => fun
  | [d1, d2] => { results := [.lit (.bool false)], args := [d1, d2] }
  | _ => none }
def UtfNoneWrongFalsely : Prop := utfNoneRow.holds Try.pinned (OpenSpec.ofChange utfNoneWrong)

/-- 'palinodelaw2.CountTells': WHATEVER THE INPUT: true; the input reads as it did. -/
def countTellsSpec : ChangeSpec := { name := "countTells", fn := fun _ => fun
  | [d1, d2, d3, d4, d5] => { results := [.lit (.bool true)], args := [d1, d2, d3, d4, d5] }
  | _ => none }
def countTellsRow : OpenClaim := { program := "ytgepcdpnjinadaa", sum := "ad83b5045c4eb78bf67179aba950a48ca9d93d84188cdc1903f80a3237ebea66", func := "palinode/palinodelaw2.CountTells", spec := "countTells", inPlace := ["internal/abi.NoEscape"], apart := false }
def CountTellsSaid : Prop := countTellsRow.holds Try.pinned (OpenSpec.ofChange countTellsSpec)

/-- ITS FALSE NEIGHBOUR: 'it returns false'. Refute it at one input. -/
def countTellsWrong : ChangeSpec := { name := "countTells", fn := fun _ => fun
  | [d1, d2, d3, d4, d5] => { results := [.lit (.bool false)], args := [d1, d2, d3, d4, d5] }
  | _ => none }
def CountTellsWrongFalsely : Prop := countTellsRow.holds Try.pinned (OpenSpec.ofChange countTellsWrong)

/-- 'palinodelaw2.CountSums': WHATEVER THE INPUT: true; the input reads as it did. -/
def countSumsSpec : ChangeSpec := { name := "countSums", fn := fun _ => fun
  | [d1, d2] => { results := [.lit (.bool true)], args := [d1, d2] }
  | _ => none }
def countSumsRow : OpenClaim := { program := "ytgepcdpnjinadaa", sum := "ad83b5045c4eb78bf67179aba950a48ca9d93d84188cdc1903f80a3237ebea66", func := "palinode/palinodelaw2.CountSums", spec := "countSums", inPlace := ["internal/abi.NoEscape"], apart := false }
def CountSumsSaid : Prop := countSumsRow.holds Try.pinned (OpenSpec.ofChange countSumsSpec)

/-- ITS FALSE NEIGHBOUR: 'it returns false'. Refute it at one input. -/
def countSumsWrong : ChangeSpec := { name := "countSums", fn := fun _ => fun
  | [d1, d2] => { results := [.lit (.bool false)], args := [d1, d2] }
  | _ => none }
def CountSumsWrongFalsely : Prop := countSumsRow.holds Try.pinned (OpenSpec.ofChange countSumsWrong)

/-- 'palinodelaw2.CountBack': WHATEVER THE INPUT: true; the input reads as it did. -/
def countBackSpec : ChangeSpec := { name := "countBack", fn := fun _ => fun
  | [d] => { results := [.lit (.bool true)], args := [d] }
  | _ => none }
def countBackRow : OpenClaim := { program := "ytgepcdpnjinadaa", sum := "ad83b5045c4eb78bf67179aba950a48ca9d93d84188cdc1903f80a3237ebea66", func := "palinode/palinodelaw2.CountBack", spec := "countBack", inPlace := ["internal/abi.NoEscape"], apart := false }
def CountBackSaid : Prop := countBackRow.holds Try.pinned (OpenSpec.ofChange countBackSpec)

/-- ITS FALSE NEIGHBOUR: 'it returns false'. Refute it at one input. -/
def countBackWrong : ChangeSpec := { name := "countBack", fn := fun _ => fun
  | [d] => { results := [.lit (.bool false)], args := [d] }
  | _ => none }
def CountBackWrongFalsely : Prop := countBackRow.holds Try.pinned (OpenSpec.ofChange countBackWrong)

/-- 'palinodelaw2.CountUnits': WHATEVER THE INPUT: true; the input reads as it did. -/
def countUnitsSpec : ChangeSpec := { name := "countUnits", fn := fun _ => fun
  | [d] => { results := [.lit (.bool true)], args := [d] }
  | _ => none }
def countUnitsRow : OpenClaim := { program := "ytgepcdpnjinadaa", sum := "ad83b5045c4eb78bf67179aba950a48ca9d93d84188cdc1903f80a3237ebea66", func := "palinode/palinodelaw2.CountUnits", spec := "countUnits", inPlace := ["internal/abi.NoEscape"], apart := false }
def CountUnitsSaid : Prop := countUnitsRow.holds Try.pinned (OpenSpec.ofChange countUnitsSpec)

/-- ITS FALSE NEIGHBOUR: 'it returns false'. Refute it at one input. -/
def countUnitsWrong : ChangeSpec := { name := "countUnits", fn := fun _ => fun
  | [d] => { results := [.lit (.bool false)], args := [d] }
  | _ => none }
def CountUnitsWrongFalsely : Prop := countUnitsRow.holds Try.pinned (OpenSpec.ofChange countUnitsWrong)

/-- 'palinodelaw2.CountLines': WHATEVER THE INPUT: true; the input reads as it did. -/
def countLinesSpec : ChangeSpec := { name := "countLines", fn := fun _ => fun
  | [d] => { results := [.lit (.bool true)], args := [d] }
  | _ => none }
def countLinesRow : OpenClaim := { program := "ytgepcdpnjinadaa", sum := "ad83b5045c4eb78bf67179aba950a48ca9d93d84188cdc1903f80a3237ebea66", func := "palinode/palinodelaw2.CountLines", spec := "countLines", inPlace := ["internal/abi.NoEscape"], apart := false }
def CountLinesSaid : Prop := countLinesRow.holds Try.pinned (OpenSpec.ofChange countLinesSpec)

/-- ITS FALSE NEIGHBOUR: 'it returns false'. Refute it at one input. -/
def countLinesWrong : ChangeSpec := { name := "countLines", fn := fun _ => fun
  | [d] => { results := [.lit (.bool false)], args := [d] }
  | _ => none }
def CountLinesWrongFalsely : Prop := countLinesRow.holds Try.pinned (OpenSpec.ofChange countLinesWrong)

/-- 'palinodelaw2.CountOrder': WHATEVER THE INPUT: true; the input reads as it did. -/
def countOrderSpec : ChangeSpec := { name := "countOrder", fn := fun _ => fun
  | [d1, d2, d3] => { results := [.lit (.bool true)], args := [d1, d2, d3] }
  | _ => none }
def countOrderRow : OpenClaim := { program := "ytgepcdpnjinadaa", sum := "ad83b5045c4eb78bf67179aba950a48ca9d93d84188cdc1903f80a3237ebea66", func := "palinode/palinodelaw2.CountOrder", spec := "countOrder", inPlace := ["internal/abi.NoEscape"], apart := false }
def CountOrderSaid : Prop := countOrderRow.holds Try.pinned (OpenSpec.ofChange countOrderSpec)

/-- ITS FALSE NEIGHBOUR: 'it returns false'. Refute it at one input. -/
def countOrderWrong : ChangeSpec := { name := "countOrder", fn := fun _ => fun
  | [d1, d2, d3] => { results := [.lit (.bool false)], args := [d1, d2, d3] }
  | _ => none }
def CountOrderWrongFalsely : Prop := countOrderRow.holds Try.pinned (OpenSpec.ofChange countOrderWrong)

/- THE SECOND FORM. 'bulk': how many values and letters a reading holds, each counted each time it is reached (what is shared counts as often as it is met; a slice's spare places count too). A statement '..UptoSaid' is the law's where the arguments, and the package variables that the reading takes, are together of bulk at most 1048576: NARROWER than '..Said'. Prove '..Said' where nothing that the law and all that it calls make is longer than what came in: it says more and counts as full. Else prove '..UptoSaid'. A law counts once. -/
mutual
def uptoBulk {H : Type} : DataW H → Nat
  | .lit (.string bytes) => bytes.length + 1
  | .lit _ => 1
  | .nil => 1
  | .ptr d => uptoBulk d + 1
  | .slice elems spare => uptoBulkAll elems + uptoBulkAll spare + 1
  | .agg parts => uptoBulkAll parts + 1
  | .iface _ d => uptoBulk d + 1
  | .map entries => uptoBulkEntries entries + 1
  | .held _ => 1
def uptoBulkAll {H : Type} : List (DataW H) → Nat
  | [] => 0
  | d :: r => uptoBulk d + uptoBulkAll r
def uptoBulkEntries {H : Type} : List (Lit × DataW H) → Nat
  | [] => 0
  | x :: r => uptoBulkEntry x + uptoBulkEntries r
def uptoBulkEntry {H : Type} : Lit × DataW H → Nat
  | (.string bytes, d) => bytes.length + uptoBulk d + 1
  | (_, d) => uptoBulk d + 1
 end
def uptoSmall : (H : Type) → List (DataW H) → Bool := fun _ ds => decide (uptoBulkAll ds ≤ 1048576)
def OpenSpec.upto (s : _root_.Go.ChangeSpec) : _root_.Go.OpenSpec := { _root_.Go.OpenSpec.ofChange s with cond := some uptoSmall }

/-- 'palinodelaw1.UtfTells', WHERE WHAT IT READS IS OF BULK AT MOST 1048576: true; the input reads as it did. -/
def utfTellsUptoRow : OpenClaim := { program := "ytgepcdpnjinadaa", sum := "ad83b5045c4eb78bf67179aba950a48ca9d93d84188cdc1903f80a3237ebea66", func := "palinode/palinodelaw1.UtfTells", spec := "utfTells", inPlace := ["internal/abi.NoEscape"], apart := false, narrowed := true }
def UtfTellsUptoSaid : Prop := utfTellsUptoRow.holds Try.pinned (OpenSpec.upto utfTellsSpec)

/-- 'palinodelaw1.UtfMakes', WHERE WHAT IT READS IS OF BULK AT MOST 1048576: true; the input reads as it did. -/
def utfMakesUptoRow : OpenClaim := { program := "ytgepcdpnjinadaa", sum := "ad83b5045c4eb78bf67179aba950a48ca9d93d84188cdc1903f80a3237ebea66", func := "palinode/palinodelaw1.UtfMakes", spec := "utfMakes", inPlace := ["internal/abi.NoEscape"], apart := false, narrowed := true }
def UtfMakesUptoSaid : Prop := utfMakesUptoRow.holds Try.pinned (OpenSpec.upto utfMakesSpec)

/-- 'palinodelaw1.UtfClean', WHERE WHAT IT READS IS OF BULK AT MOST 1048576: true; the input reads as it did. -/
def utfCleanUptoRow : OpenClaim := { program := "ytgepcdpnjinadaa", sum := "ad83b5045c4eb78bf67179aba950a48ca9d93d84188cdc1903f80a3237ebea66", func := "palinode/palinodelaw1.UtfClean", spec := "utfClean", inPlace := ["internal/abi.NoEscape"], apart := false, narrowed := true }
def UtfCleanUptoSaid : Prop := utfCleanUptoRow.holds Try.pinned (OpenSpec.upto utfCleanSpec)

/-- 'palinodelaw1.UtfBack', WHERE WHAT IT READS IS OF BULK AT MOST 1048576: true; the input reads as it did. -/
def utfBackUptoRow : OpenClaim := { program := "ytgepcdpnjinadaa", sum := "ad83b5045c4eb78bf67179aba950a48ca9d93d84188cdc1903f80a3237ebea66", func := "palinode/palinodelaw1.UtfBack", spec := "utfBack", inPlace := ["internal/abi.NoEscape"], apart := false, narrowed := true }
def UtfBackUptoSaid : Prop := utfBackUptoRow.holds Try.pinned (OpenSpec.upto utfBackSpec)

/-- 'palinodelaw1.UtfCuts', WHERE WHAT IT READS IS OF BULK AT MOST 1048576: true; the input reads as it did. -/
def utfCutsUptoRow : OpenClaim := { program := "ytgepcdpnjinadaa", sum := "ad83b5045c4eb78bf67179aba950a48ca9d93d84188cdc1903f80a3237ebea66", func := "palinode/palinodelaw1.UtfCuts", spec := "utfCuts", inPlace := ["internal/abi.NoEscape"], apart := false, narrowed := true }
def UtfCutsUptoSaid : Prop := utfCutsUptoRow.holds Try.pinned (OpenSpec.upto utfCutsSpec)

/-- 'palinodelaw1.UtfJoin', WHERE WHAT IT READS IS OF BULK AT MOST 1048576: true; the input reads as it did. -/
def utfJoinUptoRow : OpenClaim := { program := "ytgepcdpnjinadaa", sum := "ad83b5045c4eb78bf67179aba950a48ca9d93d84188cdc1903f80a3237ebea66", func := "palinode/palinodelaw1.UtfJoin", spec := "utfJoin", inPlace := ["internal/abi.NoEscape"], apart := false, narrowed := true }
def UtfJoinUptoSaid : Prop := utfJoinUptoRow.holds Try.pinned (OpenSpec.upto utfJoinSpec)

/-- 'palinodelaw1.UtfSteps', WHERE WHAT IT READS IS OF BULK AT MOST 1048576: true; the input reads as it did. -/
def utfStepsUptoRow : OpenClaim := { program := "ytgepcdpnjinadaa", sum := "ad83b5045c4eb78bf67179aba950a48ca9d93d84188cdc1903f80a3237ebea66", func := "palinode/palinodelaw1.UtfSteps", spec := "utfSteps", inPlace := ["internal/abi.NoEscape"], apart := false, narrowed := true }
def UtfStepsUptoSaid : Prop := utfStepsUptoRow.holds Try.pinned (OpenSpec.upto utfStepsSpec)

/-- 'palinodelaw1.UtfNone', WHERE WHAT IT READS IS OF BULK AT MOST 1048576: true; the input reads as it did. -/
def utfNoneUptoRow : OpenClaim := { program := "ytgepcdpnjinadaa", sum := "ad83b5045c4eb78bf67179aba950a48ca9d93d84188cdc1903f80a3237ebea66", func := "palinode/palinodelaw1.UtfNone", spec := "utfNone", inPlace := ["internal/abi.NoEscape"], apart := false, narrowed := true }
def UtfNoneUptoSaid : Prop := utfNoneUptoRow.holds Try.pinned (OpenSpec.upto utfNoneSpec)

/-- 'palinodelaw2.CountTells', WHERE WHAT IT READS IS OF BULK AT MOST 1048576: true; the input reads as it did. -/
def countTellsUptoRow : OpenClaim := { program := "ytgepcdpnjinadaa", sum := "ad83b5045c4eb78bf67179aba950a48ca9d93d84188cdc1903f80a3237ebea66", func := "palinode/palinodelaw2.CountTells", spec := "countTells", inPlace := ["internal/abi.NoEscape"], apart := false, narrowed := true }
def CountTellsUptoSaid : Prop := countTellsUptoRow.holds Try.pinned (OpenSpec.upto countTellsSpec)

/-- 'palinodelaw2.CountSums', WHERE WHAT IT READS IS OF BULK AT MOST 1048576: true; the input reads as it did. -/
def countSumsUptoRow : OpenClaim := { program := "ytgepcdpnjinadaa", sum := "ad83b5045c4eb78bf67179aba950a48ca9d93d84188cdc1903f80a3237ebea66", func := "palinode/palinodelaw2.CountSums", spec := "countSums", inPlace := ["internal/abi.NoEscape"], apart := false, narrowed := true }
def CountSumsUptoSaid : Prop := countSumsUptoRow.holds Try.pinned (OpenSpec.upto countSumsSpec)

/-- 'palinodelaw2.CountBack', WHERE WHAT IT READS IS OF BULK AT MOST 1048576: true; the input reads as it did. -/
def countBackUptoRow : OpenClaim := { program := "ytgepcdpnjinadaa", sum := "ad83b5045c4eb78bf67179aba950a48ca9d93d84188cdc1903f80a3237ebea66", func := "palinode/palinodelaw2.CountBack", spec := "countBack", inPlace := ["internal/abi.NoEscape"], apart := false, narrowed := true }
def CountBackUptoSaid : Prop := countBackUptoRow.holds Try.pinned (OpenSpec.upto countBackSpec)

/-- 'palinodelaw2.CountUnits', WHERE WHAT IT READS IS OF BULK AT MOST 1048576: true; the input reads as it did. -/
def countUnitsUptoRow : OpenClaim := { program := "ytgepcdpnjinadaa", sum := "ad83b5045c4eb78bf67179aba950a48ca9d93d84188cdc1903f80a3237ebea66", func := "palinode/palinodelaw2.CountUnits", spec := "countUnits", inPlace := ["internal/abi.NoEscape"], apart := false, narrowed := true }
def CountUnitsUptoSaid : Prop := countUnitsUptoRow.holds Try.pinned (OpenSpec.upto countUnitsSpec)

/-- 'palinodelaw2.CountLines', WHERE WHAT IT READS IS OF BULK AT MOST 1048576: true; the input reads as it did. -/
def countLinesUptoRow : OpenClaim := { program := "ytgepcdpnjinadaa", sum := "ad83b5045c4eb78bf67179aba950a48ca9d93d84188cdc1903f80a3237ebea66", func := "palinode/palinodelaw2.CountLines", spec := "countLines", inPlace := ["internal/abi.NoEscape"], apart := false, narrowed := true }
def CountLinesUptoSaid : Prop := countLinesUptoRow.holds Try.pinned (OpenSpec.upto countLinesSpec)

/-- 'palinodelaw2.CountOrder', WHERE WHAT IT READS IS OF BULK AT MOST 1048576: true; the input reads as it did. -/
def countOrderUptoRow : OpenClaim := { program := "ytgepcdpnjinadaa", sum := "ad83b5045c4eb78bf67179aba950a48ca9d93d84188cdc1903f80a3237ebea66", func := "palinode/palinodelaw2.CountOrder", spec := "countOrder", inPlace := ["internal/abi.NoEscape"], apart := false, narrowed := true }
def CountOrderUptoSaid : Prop := countOrderUptoRow.holds Try.pinned (OpenSpec.upto countOrderSpec)

end Rows
end Go.Proofs.Ytgepcdpnjinadaa
