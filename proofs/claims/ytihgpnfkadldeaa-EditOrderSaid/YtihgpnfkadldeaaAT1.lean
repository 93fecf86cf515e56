/- The closed checks of the laws, by counting them out. No condition. -/
import Derived.Test.YtihgpnfkadldeaaQ7
import Derived.Test.YtihgpnfkadldeaaQ9
namespace Go.Proofs.Ytihgpnfkadldeaa.AM
open Go Go.Proofs.Ytihgpnfkadldeaa.U
variable {cp : List PV → Option Ret}
def isT : Option Ret → Bool
  | some (.val (.sc (.bool true))) => true
  | _ => false
theorem isT_eq {x : Option Ret} (h : isT x = true) : x = some (.val (pb true)) := by
  unfold isT at h
  split at h
  · rfl
  · simp at h
/-- What a call answers, if it has been counted out. -/
theorem run_count {E : Env} {f : FuncId} {a : List PV} (n : Nat) (h : isT (call E n f a) = true) : Run E f a = some (.val (pb true)) := (Run_iff _ _ _ _).2 ⟨n, isT_eq h⟩
theorem known18 : Run (EX cpF) 34 [] = some (.val (pb true)) := run_count 3000 (by decide +kernel)
end Go.Proofs.Ytihgpnfkadldeaa.AM
