/- edit.Upon's rounds on the small machine; what Upon makes, plain. -/
import Derived.Test.YtihgpnfkadldeaaAR29
namespace Go.Proofs.Ytihgpnfkadldeaa.AM
set_option linter.unusedSimpArgs false
set_option linter.unusedVariables false
open Go Go.Proofs.Ytihgpnfkadldeaa.U
variable {cp : List PV → Option Ret}
/-- Which are cut. -/
def bools (l : List Bool) : List (List PV) := l.map fun b => [pb b]
@[simp] theorem bools_len (l : List Bool) : (bools l).length = l.length := by simp [bools]
theorem bools_at (l : List Bool) (i : Nat) (h : i < l.length) : (bools l)[i]? = some [pb l[i]] := by simp [bools, List.getElem?_eq_getElem h]
theorem bools_set (l : List Bool) (i : Nat) (b : Bool) : (bools l).set i [pb b] = bools (l.set i b) := by simp [bools, List.map_set]
def setB (is : List Int) (l : List Bool) : List Bool := is.foldl (fun l i => l.set i.toNat true) l
theorem setB_len (is : List Int) : ∀ l : List Bool, (setB is l).length = l.length := by
  induction is with
  | nil => intro l; rfl
  | cons i is ih => intro l; show (setB is (l.set i.toNat true)).length = _; rw [ih]; simp
set_option maxHeartbeats 1000000 in
theorem ub_loop (A C : List (List PV)) (x4 x5 x6 : Int) (sp : List Int) (cu : List Int) (hcu : cu.length ≤ 1099511627776) (nl : Nat) (R16 : List (List PV)) : ∀ (m i : Nat) (bo : List Bool), m + i = cu.length → (∀ x ∈ cu, 0 ≤ x ∧ x < bo.length) → bo.length < 1099511627776 →
    Code (EX cp) L_edit_Upon_0 ⟨[(0, .p (.sl 5 A)), (3, .p (.sl 3 C)), (4, .p (pi x4)), (5, .p (pi x5)), (6, .p (pi x6)), (15, .ms 15 0 sp.length), (16, .ms 16 0 0), (17, .ms 17 0 bo.length), (50, .ms 50 0 cu.length), (51, .p (pi cu.length)), (52, .p (pi i))], [(15, .row 3 1 false (ints sp)), (16, .row 31 5 false []), (17, .row 4 1 false (bools bo)), (50, .row 3 1 false (ints cu))]⟩ =
      some (.ex 0, ⟨[(0, .p (.sl 5 A)), (3, .p (.sl 3 C)), (4, .p (pi x4)), (5, .p (pi x5)), (6, .p (pi x6)), (15, .ms 15 0 sp.length), (16, .ms 16 0 0), (17, .ms 17 0 bo.length), (50, .ms 50 0 cu.length), (51, .p (pi cu.length)), (52, .p (pi cu.length)), (53, .p (pb false))], [(15, .row 3 1 false (ints sp)), (16, .row 31 5 false []), (17, .row 4 1 false (bools (setB (cu.drop i) bo))), (50, .row 3 1 false (ints cu))]⟩) := by
  intro m
  induction m with
  | zero =>
    intro i bo hi hb hbl
    have : i = cu.length := by omega
    subst this
    rw [List.drop_length, setB, List.foldl_nil, L_edit_Upon_0, k_loop]
    simp
  | succ m ih =>
    intro i bo hi hb hbl
    have h1 : i < cu.length := by omega
    have hg := ints_at cu i h1
    obtain ⟨b0, b1⟩ := hb cu[i] (List.getElem_mem h1)
    have ih' := ih (i+1) (bo.set cu[i].toNat true) (by omega) (by simpa using hb) (by simpa using hbl)
    rw [List.drop_eq_getElem_cons h1]
    have e : setB (cu[i] :: cu.drop (i + 1)) bo = setB (cu.drop (i + 1)) (bo.set cu[i].toNat true) := rfl
    rw [List.length_set] at ih'
    have hset := bools_set bo cu[i].toNat true
    obtain ⟨y, hy⟩ := show ∃ y, (bools bo)[cu[i].toNat]? = some [pb y] from ⟨_, bools_at bo cu[i].toNat (by omega)⟩
    have hbl2 := bools_len bo
    rw [e, ← ih', L_edit_Upon_0, k_loop]
    generalize cu[i] = x at *
    simp (disch := omega) [h1, hg, b0, b1, hy, hset, hbl2, dec_yes, dec_no, wrap_in, if_yes, -getElem?_pos]
end Go.Proofs.Ytihgpnfkadldeaa.AM
