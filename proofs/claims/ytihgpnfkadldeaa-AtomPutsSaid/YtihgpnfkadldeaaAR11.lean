/- What the laws of layer 17 ask first: the document's example (known). No condition. -/
import Derived.Test.YtihgpnfkadldeaaAR10
namespace Go.Proofs.Ytihgpnfkadldeaa.AM
set_option linter.unusedSimpArgs false
set_option linter.unusedVariables false
open Go Go.Proofs.Ytihgpnfkadldeaa.U
variable {cp : List PV → Option Ret}

theorem pts_ae : points [97, 195, 169] = [97, 233] := by
  have e : ([97, 195, 169] : List UInt8) = enc 97 ++ (enc 233 ++ []) := by decide +kernel
  rw [e, points_enc1 (by decide), points_enc1 (by decide), points_nil]
def kn0 : List At := [⟨chS 97, 1, 3, 0, []⟩, ⟨chS 233, 1, 3, 0, []⟩]
def kn1 : List At := [⟨chS 97, 1, 3, 0, [(2, 4)]⟩, ⟨chS 233, 1, 3, 0, []⟩]
theorem fit_few (l : List At) (h1 : l.length ≤ 100000) (h2 : ∀ a ∈ l, a.txt.size ≤ 1000000 ∧ a.cuts.length ≤ 1000000) : Fit l := by
  refine ⟨by omega, ?_, fun a ha => by have := (h2 a ha).2; omega⟩
  have : sumT l ≤ l.length * 1000000 := by
    clear h1
    induction l with
    | nil => simp [sumT]
    | cons a l ih =>
      have := ih fun b hb => h2 b (by simp [hb])
      have h3 := (h2 a (by simp)).1
      rw [sumT_cons, List.length_cons, Nat.add_mul]
      omega
  have : l.length * 1000000 ≤ 100000 * 1000000 := Nat.mul_le_mul_right _ h1
  omega
theorem ats_eq (a b : List At) (h : a = b) : ats a = ats b := by rw [h]
set_option maxHeartbeats 4000000 in
set_option maxRecDepth 10000 in
theorem known17 : Run (EX cp) 15 [] = some (.val (pb true)) := by
  have c1 := atomPut (cp := cp) [] 0 ⟨#[97, 195, 169]⟩ 1 3 0 (by simp) (by simp) (by decide)
  have e1 : putL [] (clampN 0 ([] : List At).length) (L ⟨#[97, 195, 169]⟩) 1 3 0 = kn0 := by
    show [] ++ newAts [97, 195, 169] 1 3 0 ++ [] = kn0
    unfold newAts; rw [pts_ae]; rfl
  rw [e1] at c1
  have c2 := atomCut (cp := cp) kn0 0 2 4 (by decide) (by decide +kernel)
  have e2 : cutL kn0 0 2 4 = kn1 := rfl
  rw [e2] at c2
  have f0 : Fit kn0 := fit_few _ (by decide) (by decide +kernel)
  have f1 : Fit kn1 := fit_few _ (by decide) (by decide +kernel)
  have c3 := atomPlaces (cp := cp) kn1 2 [] f1 (by simp)
  have e3 : places 2 [] kn1 = [0, 0, 2] := by decide +kernel
  rw [e3] at c3
  have c4 := atomIs (cp := cp) kn0 (by decide) (by decide +kernel)
  have e4 : isAts kn0 = true := by decide +kernel
  rw [e4] at c4
  have t1 := atomText (cp := cp) kn0 1 [] f0 (by simp)
  rw [show txtS 1 [] kn0 = ⟨#[97, 195, 169]⟩ from by decide +kernel] at t1
  have t2 := atomText (cp := cp) kn1 2 [] f1 (by simp)
  rw [show txtS 2 [] kn1 = ⟨#[195, 169]⟩ from by decide +kernel] at t2
  have t3 := atomText (cp := cp) kn1 1 [] f1 (by simp)
  rw [show txtS 1 [] kn1 = ⟨#[97, 195, 169]⟩ from by decide +kernel] at t3
  have t4 := atomText (cp := cp) kn1 2 [4] f1 (by simp)
  rw [show txtS 2 [4] kn1 = ⟨#[97, 195, 169]⟩ from by decide +kernel] at t4
  have t5 := atomText (cp := cp) kn1 2 [3] f1 (by simp)
  rw [show txtS 2 [3] kn1 = ⟨#[]⟩ from by decide +kernel] at t5
  have c5 := atomIs (cp := cp) [⟨⟨#[]⟩, 0, 0, 0, []⟩] (by simp) (by decide +kernel)
  rw [show isAts [⟨⟨#[]⟩, 0, 0, 0, []⟩] = false from by decide +kernel] at c5
  have l0 : kn0.length = 2 := rfl
  have l1 : kn1.length = 2 := rfl
  have g0 : (ats kn0)[0]? = some [.sc (.string (chS 97)), pi 1, pi 3, pi 0, .sl 2 []] := rfl
  have g1 : (ats kn0)[1]? = some [.sc (.string (chS 233)), pi 1, pi 3, pi 0, .sl 2 []] := rfl
  have k0 : (ats kn0).take 2 = ats kn0 := rfl
  have k1 : (ats kn1).take 2 = ats kn1 := rfl
  have ch : chS 233 = ⟨#[195, 169]⟩ := by decide +kernel
  have i4 : ints [4] = [[pi 4]] := rfl
  have i3 : ints [3] = [[pi 3]] := rfl
  have ip : ints [0, 0, 2] = [[pi 0], [pi 0], [pi 2]] := rfl
  rw [i4] at t4
  rw [i3] at t5
  rw [ip] at c3
  have a0 : ats [⟨⟨#[]⟩, 0, 0, 0, []⟩] = [[pS #[], pi 0, pi 0, pi 0, .sl 2 []]] := rfl
  rw [a0] at c5
  simp only [ats_nil, ints_nil] at c1 c2 c3 c4 t1 t2 t3
  generalize kn0 = x0 at *
  generalize kn1 = x1 at *
  rw [run_fn _ A_law17_known _ rfl rfl rfl]
  simp [A_law17_known, c1, c2, c3, c4, t1, t2, t3, t4, t5, c5, l0, l1, g0, g1, k0, k1, ch, -getElem?_pos]
end Go.Proofs.Ytihgpnfkadldeaa.AM
