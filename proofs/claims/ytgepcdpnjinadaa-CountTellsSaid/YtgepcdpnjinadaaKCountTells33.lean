-- several texts in one (wip/merge.py)
import Derived.Test.YtgepcdpnjinadaaRows
import Derived.Test.YtgepcdpnjinadaaKCountTells32
import Derived.WalkKit
import Derived.ProofKit
import Derived.OpenShut
import Derived.ShutString
import Derived.ChangeOld
import Derived.Below
import Derived.SizedLaws
import Derived.Lib.SmallJoins
section
/- The row of CountTells, by hand: two parameters are structs of four integers (Joins.open_agg4, shut_agg4); the rest after the rows that drive.py prints. No conditions. -/
namespace Go.Proofs.Ytgepcdpnjinadaa.countTells
open Go.ChangeShapes Go.WideShapes Go.ChangeAt Go.RowKit Go.Joins
open Go.ChangeMaps (open_string shut_string)
set_option linter.unusedVariables false
theorem own : ownKnob Try.prog.godebug = none := by kernel_rfl
theorem cells4 : Try.prog.cellsOf 44 = 4 := by kernel_rfl
set_option maxRecDepth 100000 in
theorem lifted (os : Os) (started : os.Started) (H : Type) (enc : TypeId × Value → H) :
    ReturnsInHanded {} Try.checked os 11 .any (Rows.countTellsSpec.pre6 enc Try.prog Try.f11 Rows.countTellsRow.domain false) (Rows.countTellsSpec.post enc Try.prog Try.f11 false true false false) := by
  refine returnsInHanded_of_change_sized (C := Try.checked) own started (by kernel_rfl) Try.func11
    (ChangeSpec.witness6 (enc := enc) (C := Try.checked) false ⟨#[], #[.string ByteArray.empty, .int .i64 0, .int .i64 0, .agg #[.int .i64 0, .int .i64 0, .int .i64 0, .int .i64 0], .agg #[.int .i64 0, .int .i64 0, .int .i64 0, .int .i64 0]], []⟩ 8 (by kernel_rfl) (by kernel_rfl) (by kernel_rfl) (by kernel_rfl)) ?_
  intro W base args ds gs before hval0 hW hcnd hsz0 _
  have hval : ∀ (j : Nat) t v, Try.f11.params[j]? = some t → args[j]? = some v → Value.okWide Try.prog W .any base t v := hval0
  have hW' := hW
  obtain ⟨p, q, hA0, hV, rfl, hfz, hnd⟩ := hW
  have hA : DataW.TrodAll enc Try.prog W 0 (fun _ => true) true Try.f11.params.toList args.toList ds p := hA0
  rw [Try.params11] at hA hval
  obtain ⟨v0, vs0, d0, ds0, p0, q0, hargs, rfl, rfl, h0, r0⟩ := trodAll_cons hA
  obtain ⟨v1, vs1, d1, ds1, p1, q1, rfl, rfl, rfl, h1, r1⟩ := trodAll_cons r0
  obtain ⟨v2, vs2, d2, ds2, p2, q2, rfl, rfl, rfl, h2, r2⟩ := trodAll_cons r1
  obtain ⟨v3, vs3, d3, ds3, p3, q3, rfl, rfl, rfl, h3, r3⟩ := trodAll_cons r2
  obtain ⟨v4, vs4, d4, ds4, p4, q4, rfl, rfl, rfl, h4, r4⟩ := trodAll_cons r3
  obtain ⟨rfl, rfl, rfl⟩ := trodAll_nil r4
  obtain rfl : args = #[v0, v1, v2, v3, v4] := by cases args; simp_all
  obtain ⟨rfl, rfl⟩ := trodVars_none hV
  obtain ⟨a0, rfl, rfl, rfl, y0⟩ := open_string Try.underlying9 (hval 0 9 v0 rfl rfl) h0
  obtain ⟨a1, rfl, rfl, rfl, w1⟩ := open_int Try.underlying3 (hval 1 3 v1 rfl rfl) h1
  obtain ⟨a2, rfl, rfl, rfl, w2⟩ := open_int Try.underlying3 (hval 2 3 v2 rfl rfl) h2
  obtain ⟨c0, c1, c2, c3, z0, z1, z2, z3, m, rfl, rfl, rfl, k0, k1, k2, k3⟩ := open_agg4 Try.underlying44 (by kernel_rfl) cells4 (hval 3 44 v3 rfl rfl) h3
  obtain ⟨i0, e0, rfl, u0⟩ := DataW.trod_int Try.underlying3 k0
  obtain ⟨i1, e1, rfl, u1⟩ := DataW.trod_int Try.underlying3 k1
  obtain ⟨i2, e2, rfl, u2⟩ := DataW.trod_int Try.underlying3 k2
  obtain ⟨i3, e3, rfl, u3⟩ := DataW.trod_int Try.underlying3 k3
  simp at e0 e1 e2 e3
  subst e0 e1 e2 e3
  obtain ⟨d0, d1, d2, d3, x0, x1, x2, x3, m', rfl, rfl, rfl, l0, l1, l2, l3⟩ := open_agg4 Try.underlying44 (by kernel_rfl) cells4 (hval 4 44 v4 rfl rfl) h4
  obtain ⟨j0, e0, rfl, v0⟩ := DataW.trod_int Try.underlying3 l0
  obtain ⟨j1, e1, rfl, v1⟩ := DataW.trod_int Try.underlying3 l1
  obtain ⟨j2, e2, rfl, v2⟩ := DataW.trod_int Try.underlying3 l2
  obtain ⟨j3, e3, rfl, v3⟩ := DataW.trod_int Try.underlying3 l3
  simp at e0 e1 e2 e3
  subst e0 e1 e2 e3
  clear hA0 hval0 hsz0
  have agg : ∀ (W' : World) (sp : Nat → Bool) (a b c d : Int), (Lit.int .i64 a).wf = true → (Lit.int .i64 b).wf = true → (Lit.int .i64 c).wf = true → (Lit.int .i64 d).wf = true →
      DataW.Trod enc Try.prog W' 0 sp true 44 (.agg #[.int .i64 a, .int .i64 b, .int .i64 c, .int .i64 d]) (.agg [.lit (.int .i64 a), .lit (.int .i64 b), .lit (.int .i64 c), .lit (.int .i64 d)]) [] := fun W' sp a b c d ha hb hc hd =>
    shut_agg4 (y0 := (.lit (.int .i64 a), [])) (y1 := (.lit (.int .i64 b), [])) (y2 := (.lit (.int .i64 c), [])) (y3 := (.lit (.int .i64 d), [])) Try.underlying44 (by kernel_rfl) cells4
      ⟨1, by simp [DataW.trod, Try.underlying3, ha]⟩ ⟨1, by simp [DataW.trod, Try.underlying3, hb]⟩ ⟨1, by simp [DataW.trod, Try.underlying3, hc]⟩ ⟨1, by simp [DataW.trod, Try.underlying3, hd]⟩
  refine (PX.palinodelaw2_CountTells.walk Pure.CountTells a0 a1 a2 i0 i1 i2 i3 j0 j1 j2 j3 W).mono fun e W' ⟨he, bel⟩ => ?_
  subst he
  exact ⟨_, rfl, _, _, _, [], _, [], hW', trodAll_mk1 (shut_bool Try.underlying4 _), (trodAll_cons_mk (shut_string Try.underlying9 y0) (trodAll_cons_mk (shut_int Try.underlying3 w1) (trodAll_cons_mk (shut_int Try.underlying3 w2) (trodAll_cons_mk (agg _ _ _ _ _ _ u0 u1 u2 u3) (trodAll_cons_mk (agg _ _ _ _ _ _ v0 v1 v2 v3) trodAll_mk0))))), rfl, bel.frame _, fun h => by cases h⟩
theorem over : Rows.countTellsRow.holds Try.pinned (OpenSpec.ofChange Rows.countTellsSpec) :=
  OpenClaim.holds_of_wide 11 Try.f11 rfl rfl rfl rfl rfl rfl rfl ⟨rfl, rfl, rfl, rfl, rfl⟩ rfl rfl rfl rfl rfl (by kernel_rfl) Try.func11 (by kernel_rfl)
    (of_decide_eq_true (by kernel_rfl)) (by unfold Func.isWrapper; first | (rw [if_pos (by decide +kernel)]; kernel_rfl) | (rw [if_neg (by decide +kernel)]; exact ⟨rfl, rfl⟩))
    (fun os started H enc _ => lifted os started H enc)
theorem proved : Rows.CountTellsSaid := over
end Go.Proofs.Ytgepcdpnjinadaa.countTells
namespace Go.Proofs.Ytgepcdpnjinadaa
/-- The row, under a short name, for the claim. -/
theorem countTells_holds : Rows.CountTellsSaid := countTells.proved
end Go.Proofs.Ytgepcdpnjinadaa
end
