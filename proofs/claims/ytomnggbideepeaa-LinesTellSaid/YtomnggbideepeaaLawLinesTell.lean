/- MADE BY rowgen.py: the row of LinesTell over the small machine. No condition. -/
import Derived.Test.YtomnggbideepeaaQ6
import Derived.Test.YtomnggbideepeaaRows
import Derived.Test.YtomnggbideepeaaALLinesTell
import Derived.Test.YtomnggbideepeaaKS
import Derived.WalkKit
import Derived.ProofKit
import Derived.OpenShut
import Derived.ShutString
import Derived.ChangeOld
import Derived.Below
import Derived.SizedLaws
namespace Go.Proofs.Ytomnggbideepeaa.linesTell
open Go.ChangeShapes Go.WideShapes Go.ChangeAt Go.RowKit Go.Proofs.Ytomnggbideepeaa.AM
set_option linter.unusedVariables false
theorem own : ownKnob Try.prog.godebug = none := by kernel_rfl
theorem laidOut : laidOutB Try.prog = true := by kernel_rfl
theorem shapesOk : okPShs Try.prog Try.f14.params.toList shapes = true := by decide +kernel
set_option maxRecDepth 100000 in
theorem lifted (os : Os) (started : os.Started) (H : Type) (enc : TypeId × Value → H) :
    ReturnsInHanded {} Try.checked os 14 .any (Rows.linesTellSpec.pre6 enc Try.prog Try.f14 Rows.linesTellRow.domain false) (Rows.linesTellSpec.post enc Try.prog Try.f14 false true false false) := by
  refine returnsInHanded_of_change_shaped (C := Try.checked) own started (by kernel_rfl) Try.func14
    (ChangeSpec.witness6 (enc := enc) (C := Try.checked) false ⟨#[], #[.string ByteArray.empty, .int .i64 0, .int .i64 0, .int .i64 0, .int .i64 0, .int .i64 0, .string ByteArray.empty], []⟩ 8 (by kernel_rfl) (by kernel_rfl) (by kernel_rfl) (by kernel_rfl)) ?_
  intro W base args ds gs before hval0 hW hcnd hsz0 hsh _
  have hW' := hW
  obtain ⟨p, q, hA0, hV, rfl, hfz, hnd⟩ := hW
  have hA : DataW.TrodAll enc Try.prog W 0 (fun _ => true) true Try.f14.params.toList args.toList ds p := hA0
  have hlen : ds.length = 7 := by
    have h1 := hA
    rw [Try.params14] at h1
    obtain ⟨v0, vs0, d0, ds0, p0, q0, hargs, rfl, rfl, g0, r0⟩ := trodAll_cons h1
    obtain ⟨v1, vs1, d1, ds1, p1, q1, rfl, rfl, rfl, g1, r1⟩ := trodAll_cons r0
    obtain ⟨v2, vs2, d2, ds2, p2, q2, rfl, rfl, rfl, g2, r2⟩ := trodAll_cons r1
    obtain ⟨v3, vs3, d3, ds3, p3, q3, rfl, rfl, rfl, g3, r3⟩ := trodAll_cons r2
    obtain ⟨v4, vs4, d4, ds4, p4, q4, rfl, rfl, rfl, g4, r4⟩ := trodAll_cons r3
    obtain ⟨v5, vs5, d5, ds5, p5, q5, rfl, rfl, rfl, g5, r5⟩ := trodAll_cons r4
    obtain ⟨v6, vs6, d6, ds6, p6, q6, rfl, rfl, rfl, g6, r6⟩ := trodAll_cons r5
    obtain ⟨rfl, rfl, rfl⟩ := trodAll_nil r6
    rfl
  obtain ⟨d1, d2, d3, d4, d5, d6, d7, rfl⟩ : ∃ d1 d2 d3 d4 d5 d6 d7, ds = [d1, d2, d3, d4, d5, d6, d7] := by
    match ds, hlen with
    | [a0, a1, a2, a3, a4, a5, a6], _ => exact ⟨a0, a1, a2, a3, a4, a5, a6, rfl⟩
  obtain ⟨rfl, rfl⟩ := trodVars_none hV
  obtain ⟨xs, hr, hw⟩ := args_rep shapesOk (fun j t v ht hv => hval0 j t v (by simpa using ht) (by simpa using hv)) hA
  refine (law_call EBok (Kw.start hsh) hr (law xs hw)).mono fun e W' ⟨he, bel⟩ => ?_
  subst he
  exact ⟨_, rfl, _, _, _, [], _, [], hW', trodAll_mk1 (shut_bool Try.underlying4 _), args_back laidOut bel shapesOk hA, rfl, bel.frame _, fun h => by cases h⟩
theorem over : Rows.linesTellRow.holds Try.pinned (OpenSpec.ofChange Rows.linesTellSpec) :=
  OpenClaim.holds_of_wide 14 Try.f14 rfl rfl rfl rfl rfl rfl rfl ⟨rfl, rfl, rfl, rfl, rfl⟩ rfl rfl rfl rfl rfl (by kernel_rfl) Try.func14 (by kernel_rfl)
    (of_decide_eq_true (by kernel_rfl)) (by unfold Func.isWrapper; first | (rw [if_pos (by decide +kernel)]; kernel_rfl) | (rw [if_neg (by decide +kernel)]; exact ⟨rfl, rfl⟩))
    (fun os started H enc _ => lifted os started H enc)
theorem proved : Rows.LinesTellSaid := over
end Go.Proofs.Ytomnggbideepeaa.linesTell
namespace Go.Proofs.Ytomnggbideepeaa
/-- The row, under a short name, for the claim. -/
theorem linesTell_holds : Rows.LinesTellSaid := linesTell.proved
end Go.Proofs.Ytomnggbideepeaa
