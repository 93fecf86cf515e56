-- several texts in one (wip/merge.py)
import Derived.Test.YtgepcdpnjinadaaKCountLines17
import Derived.Test.YtgepcdpnjinadaaKCountLines13
section
-- PRINTED BY print.sh 35421559b90ae4d0a3588c463048766b98c2df88dd9212a6774a882060cdf62d: not written by this session
namespace Go.Proofs.YtgepcdpnjinadaaW.PrintWords
open Go.RowKit
end Go.Proofs.YtgepcdpnjinadaaW.PrintWords
namespace Go.Proofs.YtgepcdpnjinadaaW.PrintLast
section
variable {ops : Array Oper} {a : Act} {o og : Oper} {g : Nat} {t : Tmp} {u : Bool}
end
end Go.Proofs.YtgepcdpnjinadaaW.PrintLast
end
