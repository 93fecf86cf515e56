/- The functions told by hand answer as told: what the small machine computes of this program, Go computes. No condition. -/
import Derived.Test.YtihgpnfkadldeaaAFok
import Derived.Test.YtihgpnfkadldeaaAX
import Derived.Test.YtihgpnfkadldeaaAR0
namespace Go.Proofs.Ytihgpnfkadldeaa.AM
set_option linter.unusedSimpArgs false
set_option linter.unusedVariables false
open Go.RowKit
theorem call_ws : Callable Try.prog 62 := ⟨_, Try.func62, by decide +kernel, by kernel_rfl⟩
theorem call_wr : Callable Try.prog 87 := ⟨_, Try.func87, by decide +kernel, by kernel_rfl⟩
theorem call_st : Callable Try.prog 63 := ⟨_, Try.func63, by decide +kernel, by kernel_rfl⟩
theorem call_cl : Callable Try.prog 54 := ⟨_, Try.func54, by decide +kernel, by kernel_rfl⟩
theorem call_fo : Callable Try.prog 91 := ⟨_, Try.func91, by decide +kernel, by kernel_rfl⟩
/-- With the reference's Copy as given. -/
theorem envOk (cp : List PV → Option Ret) (hcp : ∀ args r, cp args = some r → CallOK Try.prog 17 args r ∧ Callable Try.prog 17) : EnvOk Try.prog (EX cp) := by
  refine ⟨mixed, okPrg, ?_⟩
  intro f args r he hr
  change extF cp f args = some r at hr
  unfold extF at hr
  split at hr
  · rename_i hf
    subst hf
    split at hr
    · obtain rfl := Option.some.inj hr
      exact ⟨show SbOK _ 1 _ _ _ from by simpa [SbOK] using sbWrite, call_ws⟩
    · simp at hr
  split at hr
  · rename_i hf
    subst hf
    split at hr
    · obtain rfl := Option.some.inj hr
      exact ⟨show SbOK _ 3 _ _ _ from by simpa [SbOK] using sbRune, call_wr⟩
    · simp at hr
  split at hr
  · rename_i hf
    subst hf
    split at hr
    · obtain rfl := Option.some.inj hr
      exact ⟨show SbOK _ 2 _ _ _ from by simpa [SbOK] using sbString, call_st⟩
    · simp at hr
  split at hr
  · rename_i hf
    subst hf
    split at hr
    · split at hr
      · rename_i hc
        obtain rfl := Option.some.inj hr
        exact ⟨clone_ok _ hc.1 hc.2, call_cl⟩
      · simp at hr
    · simp at hr
  split at hr
  · rename_i hf
    subst hf
    split at hr
    · obtain rfl := Option.some.inj hr
      exact ⟨forms_ok, call_fo⟩
    · simp at hr
  split at hr
  · rename_i hf
    subst hf
    exact hcp args r hr
  · simp at hr
/-- Where the reference's Copy isn't reached. -/
def EV : Env := EX fun _ => none
theorem EVok : EnvOk Try.prog EV := envOk _ fun _ _ h => by simp at h
end Go.Proofs.Ytihgpnfkadldeaa.AM
