/- MADE BY rowgen.py: the row of LinesJoin over the small machine. No condition. -/
import Derived.Test.YtomnggbideepeaaQ6
import Derived.Test.YtomnggbideepeaaRows
import Derived.Test.YtomnggbideepeaaALLinesJoin
import Derived.Test.YtomnggbideepeaaKS
import Derived.WalkKit
import Derived.ProofKit
import Derived.OpenShut
import Derived.ShutString
import Derived.ChangeOld
import Derived.Below
import Derived.SizedLaws
namespace Go.Proofs.Ytomnggbideepeaa.linesJoin
open Go.ChangeShapes Go.WideShapes Go.ChangeAt Go.RowKit Go.Proofs.Ytomnggbideepeaa.AM
set_option linter.unusedVariables false
theorem own : ownKnob Try.prog.godebug = none := by kernel_rfl
theorem laidOut : laidOutB Try.prog = true := by kernel_rfl
theorem shapesOk : okPShs Try.prog Try.f15.params.toList shapes = true := by decide +kernel
set_option maxRecDepth 100000 in
theorem lifted (os : Os) (started : os.Started) (H : Type) (enc : TypeId × Value → H) :
    ReturnsInHanded {} Try.checked os 15 .any (Rows.linesJoinSpec.pre6 enc Try.prog Try.f15 Rows.linesJoinRow.domain false) (Rows.linesJoinSpec.post enc Try.prog Try.f15 false true false false) := by
  refine returnsInHanded_of_change_shaped (C := Try.checked) own started (by kernel_rfl) Try.func15
    (ChangeSpec.witness6 (enc := enc) (C := Try.checked) false ⟨#[], #[.string ByteArray.empty], []⟩ 8 (by kernel_rfl) (by kernel_rfl) (by kernel_rfl) (by kernel_rfl)) ?_
  intro W base args ds gs before hval0 hW hcnd hsz0 hsh _
  have hW' := hW
  obtain ⟨p, q, hA0, hV, rfl, hfz, hnd⟩ := hW
  have hA : DataW.TrodAll enc Try.prog W 0 (fun _ => true) true Try.f15.params.toList args.toList ds p := hA0
  have hlen : ds.length = 1 := by
    have h1 := hA
    rw [Try.params15] at h1
    obtain ⟨v0, vs0, d0, ds0, p0, q0, hargs, rfl, rfl, g0, r0⟩ := trodAll_cons h1
    obtain ⟨rfl, rfl, rfl⟩ := trodAll_nil r0
    rfl
  obtain ⟨d1, rfl⟩ : ∃ d1, ds = [d1] := by
    match ds, hlen with
    | [a0], _ => exact ⟨a0, rfl⟩
  obtain ⟨rfl, rfl⟩ := trodVars_none hV
  obtain ⟨xs, hr, hw⟩ := args_rep shapesOk (fun j t v ht hv => hval0 j t v (by simpa using ht) (by simpa using hv)) hA
  refine (law_call EBok (Kw.start hsh) hr (law xs hw)).mono fun e W' ⟨he, bel⟩ => ?_
  subst he
  exact ⟨_, rfl, _, _, _, [], _, [], hW', trodAll_mk1 (shut_bool Try.underlying4 _), args_back laidOut bel shapesOk hA, rfl, bel.frame _, fun h => by cases h⟩
theorem over : Rows.linesJoinRow.holds Try.pinned (OpenSpec.ofChange Rows.linesJoinSpec) :=
  OpenClaim.holds_of_wide 15 Try.f15 rfl rfl rfl rfl rfl rfl rfl ⟨rfl, rfl, rfl, rfl, rfl⟩ rfl rfl rfl rfl rfl (by kernel_rfl) Try.func15 (by kernel_rfl)
    (of_decide_eq_true (by kernel_rfl)) (by unfold Func.isWrapper; first | (rw [if_pos (by decide +kernel)]; kernel_rfl) | (rw [if_neg (by decide +kernel)]; exact ⟨rfl, rfl⟩))
    (fun os started H enc _ => lifted os started H enc)
theorem proved : Rows.LinesJoinSaid := over
end Go.Proofs.Ytomnggbideepeaa.linesJoin
namespace Go.Proofs.Ytomnggbideepeaa
/-- The row, under a short name, for the claim. -/
theorem linesJoin_holds : Rows.LinesJoinSaid := linesJoin.proved
end Go.Proofs.Ytomnggbideepeaa
