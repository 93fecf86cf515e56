/- What is told of strings.Index and lines.Pieces is so: the machine with both. No condition. -/
import Derived.Test.YtomnggbideepeaaXC2
import Derived.Test.YtomnggbideepeaaShelf
import Derived.Lib.IndexMore
namespace Go.Proofs.Ytomnggbideepeaa.AM
open Go Go.RowKit Go.Proofs.Ytomnggbideepeaa.U
set_option linter.unusedVariables false
set_option linter.unusedSimpArgs false
theorem call_ix : Callable Try.prog 78 := ⟨_, Try.func78, by decide +kernel, by kernel_rfl⟩
theorem call_pc : Callable Try.prog 54 := ⟨_, Try.func54, by decide +kernel, by kernel_rfl⟩
theorem index_ok (a b : ByteArray) (ha : a.size < 4294967281) : CallOK' Try.prog 78 [.sc (.string a), .sc (.string b)] (.val (pi (Lib.index a.data.toList b.data.toList))) := by
  intro w0 lm0 vs hk hvs
  cases hvs with
  | cons h1 hvs => cases hvs with
  | cons h2 hvs =>
  cases hvs
  cases h1
  cases h2
  obtain ⟨m, hm⟩ := hk
  refine (Try.strings_Index a b m w0 ha hm).mono ?_
  rintro e w' ⟨rfl, rfl⟩
  exact ⟨_, lm0, rfl, Below.refl _ _, fun _ _ => rfl, .sc _⟩
/-- All, Index, Pieces told. -/
noncomputable def cpB : List PV → Option Ret
  | [.fn f [], .st [x]] => if f = 62 then (match allF x with | some l => some (.own 97 1 (strs l)) | none => none) else none
  | [.fn f [], .sc (.string a), .sc (.string b)] => if f = 78 ∧ a.size < 4294967281 then some (.val (pi (Lib.index a.data.toList b.data.toList))) else none
  | [.fn f [], .pt l, .sc (.int .i64 a), .sc (.int .i64 b), .sc (.int .i64 m)] => if f = 54 then piecesAns (.pt l) a b m else none
  | _ => none
theorem pieces_val {x : PV} {a b m : Int} {r : Ret} (h : piecesAns x a b m = some r) : ∃ y, r = .val y := by
  unfold piecesAns at h
  split at h
  · split at h
    · exact ⟨_, (Option.some.inj h).symm⟩
    · split at h
      · exact ⟨_, (Option.some.inj h).symm⟩
      · split at h
        · split at h
          · exact ⟨_, (Option.some.inj h).symm⟩
          · simp at h
        · simp at h
  · simp at h
theorem cpB_ok : ∀ f args r, cpB (.fn f [] :: args) = some r → CallOK Try.prog f args r ∧ Callable Try.prog f := by
  intro f args r h
  unfold cpB at h
  split at h
  · rename_i f' x heq
    injection heq with e1 e2
    injection e1 with e1 _
    subst e1; subst e2
    split at h
    · rename_i hf
      subst hf
      split at h
      · rename_i l hl
        obtain rfl := Option.some.inj h
        exact ⟨seq_all x l hl, call_al⟩
      · simp at h
    · simp at h
  · rename_i f' a b heq
    injection heq with e1 e2
    injection e1 with e1 _
    subst e1; subst e2
    split at h
    · rename_i hf
      obtain ⟨rfl, ha⟩ := hf
      obtain rfl := Option.some.inj h
      exact ⟨index_ok a b ha, call_ix⟩
    · simp at h
  · rename_i f' l a b m heq
    injection heq with e1 e2
    injection e1 with e1 _
    subst e1; subst e2
    split at h
    · rename_i hf
      subst hf
      obtain ⟨y, rfl⟩ := pieces_val h
      exact ⟨pieces_ok l a b m _ h, call_pc⟩
    · simp at h
  · simp at h
noncomputable def EB : Env := EX cpB
theorem EBok : EnvOk Try.prog EB := envOk _ cpB_ok
end Go.Proofs.Ytomnggbideepeaa.AM
