/- The closed check of law 5, by counting it out. No condition. -/
import Derived.Test.YtomnggbideepeaaAT1
namespace Go.Proofs.Ytomnggbideepeaa.AM
open Go Go.Proofs.Ytomnggbideepeaa.U
theorem known5 : Run (EX cpA) 29 [] = some (.val (pb true)) := run_count 3000 (by decide +kernel)
end Go.Proofs.Ytomnggbideepeaa.AM
