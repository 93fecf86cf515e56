/- A row's memory is as is asked. No condition. -/
import Derived.Test.YtomnggbideepeaaQ4
import Derived.Test.YtomnggbideepeaaShelf
import Derived.HandedShaped
namespace Go.Proofs.Ytomnggbideepeaa.AM
open Go Go.RowKit
theorem Kw.start {w : World} (h : w.ShapedOpen Try.prog) : Kw w := Try.laysM143.s1_3 w h
end Go.Proofs.Ytomnggbideepeaa.AM
