/- The closed checks of the rope's laws, by counting them out. No condition. -/
import Derived.Test.YtomnggbideepeaaQ7
import Derived.Test.YtomnggbideepeaaQ8
namespace Go.Proofs.Ytomnggbideepeaa.AM
open Go Go.Proofs.Ytomnggbideepeaa.U
def isT : Option Ret → Bool
  | some (.val (.sc (.bool true))) => true
  | _ => false
theorem isT_eq {x : Option Ret} (h : isT x = true) : x = some (.val (pb true)) := by
  unfold isT at h
  split at h
  · rfl
  · simp at h
/-- What a call answers, if it has been counted out. -/
theorem run_count {E : Env} {f : FuncId} {a : List PV} (n : Nat) (h : isT (call E n f a) = true) : Run E f a = some (.val (pb true)) := (Run_iff _ _ _ _).2 ⟨n, isT_eq h⟩
theorem known4 : Run (EX cpA) 19 [] = some (.val (pb true)) := run_count 3000 (by decide +kernel)
end Go.Proofs.Ytomnggbideepeaa.AM
