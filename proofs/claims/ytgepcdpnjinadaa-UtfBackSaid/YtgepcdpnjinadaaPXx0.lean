-- MACHINE SIDE, written by wip/drive.py (this session's driver over the kit's print) for this claim. Lean checks it.
import Derived.Test.YtgepcdpnjinadaaProg
import Derived.Below
import Derived.Deep.Draws
import Derived.Deep.AppendLies
import Derived.Maps.AppendAt
import Derived.OwnWalk
import Derived.Laws.BytesArg
import Derived.Laws.MakeOwn
import Derived.Laws.OwnMore
import Derived.Deep.OwnRows
import Derived.Tactics
import Derived.Lib.ConvBytes
import Derived.Laws.Slices
import Derived.WalkKit
import Derived.KernelRfl
import Derived.RowKit3
import Derived.Deep.LoopGhost
import Derived.Deep.QuietTactic
import Derived.BigQuiet
import Derived.WideLaws
import Derived.Deep.DeepCutAuto
import Derived.Deep.CutBlock
import Derived.Deep.RegionHeld3
import Derived.Laws.Rows
import Derived.Lib.AppendStr
import Derived.ArgAppend
import Derived.Laws.IdiomCopy
import Derived.OrdersHeld
import Derived.Laws.BitsLemmas
import Derived.RowKit
import Derived.Test.YtgepcdpnjinadaaWWords
import Derived.Test.YtgepcdpnjinadaaWLast
import Derived.Test.YtgepcdpnjinadaaWTab
import Derived.Test.YtgepcdpnjinadaaWFour
import Derived.Test.YtgepcdpnjinadaaWQPut
import Derived.Test.YtgepcdpnjinadaaWApart
import Derived.Test.YtgepcdpnjinadaaWArr
import Derived.Test.YtgepcdpnjinadaaWZeros
import Derived.Test.YtgepcdpnjinadaaWFoot
import Derived.Test.YtgepcdpnjinadaaWKept
import Derived.Test.YtgepcdpnjinadaaWShare
import Derived.Test.YtgepcdpnjinadaaWN
import Derived.Test.YtgepcdpnjinadaaWFootNe
import Derived.Test.YtgepcdpnjinadaaWAt
import Derived.Test.YtgepcdpnjinadaaWEqStruct
import Derived.Test.YtgepcdpnjinadaaWRepsOne
import Derived.Test.YtgepcdpnjinadaaWInv
import Derived.Test.YtgepcdpnjinadaaWInvWords
import Derived.Test.YtgepcdpnjinadaaWGuard
import Derived.Test.YtgepcdpnjinadaaWNEv
import Derived.Test.YtgepcdpnjinadaaWMore
namespace Go.Proofs.Ytgepcdpnjinadaa.PX
open Go.RowKit Go.Proofs.YtgepcdpnjinadaaW.PrintWords Go.Proofs.YtgepcdpnjinadaaW.PrintLast Go.Proofs.YtgepcdpnjinadaaW.PrintMore
attribute [local go_sem] max2_int min2_int max_two min_two max_three min_three max_four min_four   -- for this text's walks alone
set_option linter.unusedVariables false
set_option linter.unusedSimpArgs false



def errW : Option Int → Value
  | none => .nilIface
  | some c => .iface 0 (.int .i64 c)
theorem errW_none : errW none = .nilIface := rfl
theorem errW_some (c : Int) : errW (some c) = .iface 0 (.int .i64 c) := rfl

theorem info3 : (Try.prog.info? 3).map (fun i => (i.zero, i.size, i.bytes)) = some (some (.int .i64 0), 1, 8) := by kernel_rfl
theorem info5 : (Try.prog.info? 5).map (fun i => (i.zero, i.size, i.bytes)) = some (some (.int .u8 0), 1, 1) := by kernel_rfl
theorem info9 : (Try.prog.info? 9).map (fun i => (i.zero, i.size, i.bytes)) = some (some (.string ⟨#[]⟩), 1, 16) := by kernel_rfl
-- the values' own types

end Go.Proofs.Ytgepcdpnjinadaa.PX
