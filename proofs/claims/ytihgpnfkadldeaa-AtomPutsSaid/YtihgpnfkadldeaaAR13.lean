/- The reference's atoms on the small machine: Same, Is. For rows of at most 2^63 - 1 atoms, cuts. -/
import Derived.Test.YtihgpnfkadldeaaAR12
namespace Go.Proofs.Ytihgpnfkadldeaa.AM
set_option linter.unusedSimpArgs false
set_option linter.unusedVariables false
open Go Go.Proofs.Ytihgpnfkadldeaa.U
variable {cp : List PV → Option Ret}
deriving instance DecidableEq for At
attribute [local simp] eqCells

theorem sameCuts_loop (x y : At) (A B : List (List PV)) (i : Int) (hl : x.cuts.length = y.cuts.length) (hx : x.cuts.length ≤ 9223372036854775807) : ∀ (m k : Nat), m + k = x.cuts.length →
    Code (EX cp) L_ref17_Same_0 ⟨[(0, .p (.sl 5 A)), (1, .p (.sl 5 B)), (5, .p (pi i)), (6, .mp 6 0 0), (7, .mp 7 0 0), (8, .p (pi k))], [(6, .row 31 5 false [x.pv]), (7, .row 31 5 false [y.pv])]⟩ =
      if x.cuts.drop k = y.cuts.drop k then some (.ex 2, ⟨[(0, .p (.sl 5 A)), (1, .p (.sl 5 B)), (5, .p (pi i)), (6, .mp 6 0 0), (7, .mp 7 0 0), (8, .p (pi x.cuts.length)), (67, .p (pb false))], [(6, .row 31 5 false [x.pv]), (7, .row 31 5 false [y.pv])]⟩)
      else some (.ret, ⟨[(4, .p (pb false))], []⟩) := by
  intro m
  induction m with
  | zero =>
    intro k hk
    have : k = x.cuts.length := by omega
    subst this
    rw [if_pos (by rw [List.drop_length, hl, List.drop_length]), L_ref17_Same_0, k_loop]
    simp [At.pv]
  | succ m ih =>
    intro k hk
    have h1 : k < x.cuts.length := by omega
    have h2 : k < y.cuts.length := by omega
    have g1 := cutsL_at x.cuts k h1
    have g2 := cutsL_at y.cuts k h2
    have ih' := ih (k+1) (by omega)
    rw [List.drop_eq_getElem_cons h1, List.drop_eq_getElem_cons h2]
    generalize x.cuts[k] = p at *
    generalize y.cuts[k] = q at *
    obtain ⟨p1, p2⟩ := p
    obtain ⟨q1, q2⟩ := q
    by_cases c : p1 = q1 ∧ p2 = q2
    · obtain ⟨rfl, rfl⟩ := c
      have e : ((p1, p2) :: x.cuts.drop (k+1) = (p1, p2) :: y.cuts.drop (k+1)) = (x.cuts.drop (k+1) = y.cuts.drop (k+1)) := by simp
      simp only [e]
      rw [← ih', L_ref17_Same_0, k_loop]
      simp (disch := omega) [At.pv, h1, g1, g2, dec_yes, wrap_in]
    · rw [if_neg (by intro e; simp at e; exact c e.1), L_ref17_Same_0, k_loop]
      have c' : (p1 == q1 && p2 == q2) = false := by
        rw [Bool.eq_false_iff]; simpa using c
      simp (disch := omega) [At.pv, h1, g1, g2, dec_yes, c']
theorem at_eq (x y : At) : (x = y) ↔ x.txt = y.txt ∧ x.rv = y.rv ∧ x.gr = y.gr ∧ x.rk = y.rk ∧ x.cuts = y.cuts := by
  cases x; cases y; simp
set_option maxHeartbeats 2000000 in
theorem same_loop (a b : List At) (hl : a.length = b.length) (ha : a.length ≤ 9223372036854775807) (hc : (∀ x ∈ a, x.cuts.length ≤ 9223372036854775807) ∧ ∀ x ∈ b, x.cuts.length ≤ 9223372036854775807) : ∀ (m i : Nat), m + i = a.length →
    Code (EX cp) L_ref17_Same_1 ⟨[(0, .p (.sl 5 (ats a))), (1, .p (.sl 5 (ats b))), (5, .p (pi i))], []⟩ =
      if a.drop i = b.drop i then some (.ex 0, ⟨[(0, .p (.sl 5 (ats a))), (1, .p (.sl 5 (ats b))), (5, .p (pi a.length)), (17, .p (pb false))], []⟩) else some (.ret, ⟨[(4, .p (pb false))], []⟩) := by
  intro m
  induction m with
  | zero =>
    intro i hi
    have : i = a.length := by omega
    subst this
    rw [if_pos (by rw [List.drop_length, hl, List.drop_length]), L_ref17_Same_1, k_loop]
    simp
  | succ m ih =>
    intro i hi
    have h1 : i < a.length := by omega
    have h2 : i < b.length := by omega
    have g1 := ats_at a i h1
    have g2 := ats_at b i h2
    have k1 := hc.1 _ (List.getElem_mem h1)
    have k2 := hc.2 _ (List.getElem_mem h2)
    have ih' := ih (i+1) (by omega)
    rw [List.drop_eq_getElem_cons h1, List.drop_eq_getElem_cons h2]
    generalize a[i] = x at *
    generalize b[i] = y at *
    have no : x ≠ y → ¬ (x :: a.drop (i+1) = y :: b.drop (i+1)) := fun h e => h (by simp at e; exact e.1)
    by_cases c1 : x.txt = y.txt
    case neg =>
      rw [if_neg (no fun e => c1 (by rw [e])), L_ref17_Same_1, k_loop]
      simp only [At.pv] at g1 g2
      simp (disch := omega) [h1, g1, g2, dec_yes, c1]
    by_cases c2 : x.rv = y.rv
    case neg =>
      rw [if_neg (no fun e => c2 (by rw [e])), L_ref17_Same_1, k_loop]
      simp only [At.pv] at g1 g2
      simp (disch := omega) [h1, g1, g2, dec_yes, c1, c2]
    by_cases c3 : x.gr = y.gr
    case neg =>
      rw [if_neg (no fun e => c3 (by rw [e])), L_ref17_Same_1, k_loop]
      simp only [At.pv] at g1 g2
      simp (disch := omega) [h1, g1, g2, dec_yes, c1, c2, c3]
    by_cases c4 : x.rk = y.rk
    case neg =>
      rw [if_neg (no fun e => c4 (by rw [e])), L_ref17_Same_1, k_loop]
      simp only [At.pv] at g1 g2
      simp (disch := omega) [h1, g1, g2, dec_yes, c1, c2, c3, c4]
    by_cases c5 : x.cuts.length = y.cuts.length
    case neg =>
      have c5' : ¬ (x.cuts.length : Int) = y.cuts.length := by omega
      rw [if_neg (no fun e => c5 (by rw [e])), L_ref17_Same_1, k_loop]
      simp only [At.pv] at g1 g2
      simp (disch := omega) [h1, g1, g2, dec_yes, c1, c2, c3, c4, c5', c5]
    have hin := sameCuts_loop (cp := cp) x y (ats a) (ats b) i c5 k1 x.cuts.length 0 (by omega)
    simp only [List.drop_zero, Int.ofNat_zero, Int.natCast_zero] at hin
    by_cases c6 : x.cuts = y.cuts
    · rw [if_pos c6] at hin
      have e : x = y := (at_eq x y).2 ⟨c1, c2, c3, c4, c6⟩
      have e2 : (x :: a.drop (i+1) = y :: b.drop (i+1)) = (a.drop (i+1) = b.drop (i+1)) := by rw [e]; simp
      simp only [e2]
      rw [← ih', L_ref17_Same_1, k_loop]
      simp only [At.pv] at g1 g2 hin
      rw [c1, c2, c3, c4] at hin
      simp (disch := omega) [h1, g1, g2, dec_yes, c1, c2, c3, c4, c5, hin, wrap_in]
    · rw [if_neg c6] at hin
      rw [if_neg (no fun e => c6 (by rw [e])), L_ref17_Same_1, k_loop]
      simp only [At.pv] at g1 g2 hin
      rw [c1, c2, c3, c4] at hin
      simp (disch := omega) [h1, g1, g2, dec_yes, c1, c2, c3, c4, c5, hin]
theorem refSame (a b : List At) (ha : a.length ≤ 9223372036854775807) (hc : (∀ x ∈ a, x.cuts.length ≤ 9223372036854775807) ∧ ∀ x ∈ b, x.cuts.length ≤ 9223372036854775807) : Run (EX cp) 29 [.sl 5 (ats a), .sl 5 (ats b)] = some (.val (pb (decide (a = b)))) := by
  rw [run_fn _ A_ref17_Same _ rfl rfl rfl]
  by_cases hl : a.length = b.length
  · have h := same_loop (cp := cp) a b hl ha hc a.length 0 (by omega)
    simp only [List.drop_zero, Int.ofNat_zero, Int.natCast_zero] at h
    by_cases c : a = b
    · rw [if_pos c] at h
      simp (disch := omega) [A_ref17_Same, hl, h, c]
      rw [c] at h
      simp [h]
    · rw [if_neg c] at h
      simp (disch := omega) [A_ref17_Same, hl, h, c]
  · have hl' : ¬ (a.length : Int) = b.length := by omega
    have c : ¬ a = b := fun e => hl (by rw [e])
    simp (disch := omega) [A_ref17_Same, hl', hl, c]
end Go.Proofs.Ytihgpnfkadldeaa.AM
