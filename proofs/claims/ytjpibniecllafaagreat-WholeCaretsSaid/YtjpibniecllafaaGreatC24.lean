/- Made by pack.py: more of it. No condition but what each says. -/
import Derived.Test.YtjpibniecllafaaGreatC10
set_option linter.unusedSimpArgs false
set_option linter.unusedVariables false
set_option maxHeartbeats 16000000
section
namespace Go.Proofs.YtjpibniecllafaaGreat.AM
open Go
def isT:Option Ret->Bool
 | some (.val (.sc (.bool true)))=>true
 | _=>false
theorem T4f {x:Option Ret}(h:isT x=true):x=some (.val (pb true)):=by
 unfold isT at h
 split at h
 · rfl
 · simp at h
theorem Twe {E:Env}{f:FuncId}{a:List PV}(n:Nat)(h:isT (call E n f a)=true):Run E f a=some (.val (pb true)):= (Tdh _ _ _ _).2 ⟨n,T4f h⟩
theorem knownTop0:Run (EX fun _=>none) 12 []=some (.val (pb true)):=Twe 3000 (by decide +kernel)
end Go.Proofs.YtjpibniecllafaaGreat.AM
end
