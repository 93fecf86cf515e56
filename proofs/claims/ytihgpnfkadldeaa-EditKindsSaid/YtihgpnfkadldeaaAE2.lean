/- With the reference's Copy told: what the small machine computes of this program, Go computes. No condition. -/
import Derived.Test.YtihgpnfkadldeaaAE
import Derived.Test.YtihgpnfkadldeaaAY
namespace Go.Proofs.Ytihgpnfkadldeaa.AM
set_option linter.unusedSimpArgs false
set_option linter.unusedVariables false
open Go.RowKit
/-- A plain row of two numbers. -/
def cutOf : List PV → Option (Int × Int)
  | [.sc (.int .i64 a), .sc (.int .i64 b)] => some (a, b)
  | _ => none
/-- Cuts, read back. -/
def cutsOfL : List (List PV) → Option (List (Int × Int))
  | [] => some []
  | c :: l => match cutOf c, cutsOfL l with
    | some q, some r => some (q :: r)
    | _, _ => none
/-- An atom, read back. -/
def atOf : List PV → Option At
  | [.sc (.string t), .sc (.int .i64 rv), .sc (.int .i64 gr), .sc (.int .i64 rk), .sl 2 c] => match cutsOfL c with
    | some cs => some ⟨t, rv, gr, rk, cs⟩
    | none => none
  | _ => none
def atsOf : List (List PV) → Option (List At)
  | [] => some []
  | c :: l => match atOf c, atsOf l with
    | some q, some r => some (q :: r)
    | _, _ => none
theorem cutOf_eq {c : List PV} {q : Int × Int} (h : cutOf c = some q) : c = cutV q := by
  unfold cutOf at h
  split at h
  · obtain rfl := Option.some.inj h; rfl
  · simp at h
theorem cutsOfL_eq : ∀ {l : List (List PV)} {r : List (Int × Int)}, cutsOfL l = some r → l = cutsL r
  | [], r, h => by obtain rfl := Option.some.inj h; rfl
  | c :: l, r, h => by
    unfold cutsOfL at h
    split at h
    · rename_i q r' h1 h2
      obtain rfl := Option.some.inj h
      rw [cutOf_eq h1, cutsOfL_eq h2]; rfl
    · simp at h
theorem atOf_eq {c : List PV} {a : At} (h : atOf c = some a) : c = a.pv := by
  unfold atOf at h
  split at h
  · split at h
    · rename_i cs h1
      obtain rfl := Option.some.inj h
      rw [cutsOfL_eq h1]; rfl
    · simp at h
  · simp at h
theorem atsOf_eq : ∀ {l : List (List PV)} {r : List At}, atsOf l = some r → l = ats r
  | [], r, h => by obtain rfl := Option.some.inj h; rfl
  | c :: l, r, h => by
    unfold atsOf at h
    split at h
    · rename_i q r' h1 h2
      obtain rfl := Option.some.inj h
      rw [atOf_eq h1, atsOf_eq h2]; rfl
    · simp at h
theorem cutsOfL_of : ∀ l : List (Int × Int), cutsOfL (cutsL l) = some l
  | [] => rfl
  | q :: l => by
    show cutsOfL (cutV q :: cutsL l) = _
    unfold cutsOfL
    rw [cutsOfL_of l]; rfl
theorem atsOf_of : ∀ l : List At, atsOf (ats l) = some l
  | [] => rfl
  | a :: l => by
    show atsOf (a.pv :: ats l) = _
    unfold atsOf
    rw [atsOf_of l, show atOf a.pv = some a from by simp only [atOf, At.pv, cutsOfL_of]]
/-- What the reference's Copy answers. -/
def cpF : List PV → Option Ret
  | [.sl 5 l] => match atsOf l with
    | some r => if r.length * 64 ≤ 140737488355328 ∧ r.all (fun a => decide (a.cuts.length * 16 ≤ 140737488355328)) = true then some (.deep 31 5 (dats r)) else none
    | none => none
  | _ => none
theorem call_cp : Callable Try.prog 17 := ⟨_, Try.func17, by decide +kernel, by kernel_rfl⟩
theorem cpF_ok : ∀ args r, cpF args = some r → CallOK Try.prog 17 args r ∧ Callable Try.prog 17 := by
  intro args r h
  unfold cpF at h
  split at h
  · split at h
    · rename_i l r' h1
      split at h
      · rename_i hc
        obtain rfl := Option.some.inj h
        rw [atsOf_eq h1]
        exact ⟨copy_ok r' hc.1 fun a ha => by simpa using List.all_eq_true.1 hc.2 a ha, call_cp⟩
      · simp at h
    · simp at h
  · simp at h
/-- The whole table of what is told by hand. -/
def EW : Env := EX cpF
theorem EWok : EnvOk Try.prog EW := envOk _ cpF_ok
theorem refCopy (l : List At) (hl : l.length < 1099511627776) (hc : ∀ a ∈ l, a.cuts.length < 1099511627776) : Run (EX cpF) 17 [.sl 5 (ats l)] = some (.deep 31 5 (dats l)) := by
  rw [Run_ext _ _ _ rfl]
  show cpF [.sl 5 (ats l)] = _
  simp only [cpF, atsOf_of]
  rw [if_pos ⟨by omega, by rw [List.all_eq_true]; intro a ha; have := hc a ha; exact decide_eq_true (by omega)⟩]
end Go.Proofs.Ytihgpnfkadldeaa.AM
