/- Law 4's step on the small machine. For texts of fewer than 2^28 bytes. -/
import Derived.Test.YtomnggbideepeaaRL1
namespace Go.Proofs.Ytomnggbideepeaa.AM
set_option linter.unusedSimpArgs false
set_option linter.unusedVariables false
open Go Go.Proofs.Ytomnggbideepeaa.U
variable {cp : List PV → Option Ret}
/-- What a step makes of a text, and its error. -/
def stepP (t : ByteArray) (w f u : Int) (s : ByteArray) : ByteArray × Int :=
  if w = 4 then if 20000 < (t.size : Int) + (cleanS s).size then (t, 13) else (t ++ cleanS s, 0)
  else if chkR t f u ≠ 0 then (t, chkR t f u)
  else if w = 3 then (t.extract f.toNat u.toNat, 0)
  else if 20000 < ((replS t f u s).size : Int) then (t, 13) else (replS t f u s, 0)
set_option maxHeartbeats 2000000 in
theorem law4Step (t s : ByteArray) (w f u : Int) (ht : t.size < 268435456) (hs : s.size < 67108864) :
    Run (EX cp) 36 [.sc (.string t), .st [pi w, pi f, pi u, .sc (.string s)]] = some (.val (.tu [.sc (.string (stepP t w f u s).1), pi (stepP t w f u s).2])) := by
  have d1 := refClean (cp := cp) s (by omega)
  have d2 := refIsEdge (cp := cp) t f (by omega)
  have d3 := refIsEdge (cp := cp) t u (by omega)
  have hcl : (cleanS s).size < 268435456 := by
    have e : L (cleanS s) = clean (L s) := L_mk _
    have hcl := clean_le (L s)
    rw [L_len, ← e, L_len] at hcl
    omega
  rw [run_fn _ A_law4_step _ rfl rfl rfl]
  unfold stepP
  by_cases c4 : w = 4
  · rw [if_pos c4]
    subst c4
    by_cases c : 20000 < (t.size : Int) + (cleanS s).size
    · rw [if_pos c]
      generalize cleanS s = x at *
      simp (disch := omega) [A_law4_step, d1, wrap_in, dec_yes, dec_no]
    · rw [if_neg c]
      have hz : (t.size : Int) + (cleanS s).size ≤ 9223372036854775807 := by omega
      generalize cleanS s = x at *
      simp (disch := omega) [A_law4_step, d1, wrap_in, if_pos hz, dec_yes, dec_no]
  rw [if_neg c4]
  by_cases c0 : f < 0 ∨ u < f ∨ (t.size : Int) < u
  · have hc : chkR t f u = 10 := by unfold chkR; rw [if_pos c0]
    rw [hc, if_pos (by omega)]
    by_cases a : f < 0
    · simp (disch := omega) [A_law4_step, d1, c4, a, wrap_in, dec_yes, dec_no]
    by_cases b : u < f
    · simp (disch := omega) [A_law4_step, d1, c4, a, b, wrap_in, dec_yes, dec_no]
    have c : (t.size : Int) < u := by omega
    simp (disch := omega) [A_law4_step, d1, c4, a, b, c, wrap_in, dec_yes, dec_no]
  have a : ¬ f < 0 := by omega
  have b : ¬ u < f := by omega
  have c : ¬ (t.size : Int) < u := by omega
  have hc : chkR t f u = if edge t f = true ∧ edge t u = true then 0 else 11 := by unfold chkR; rw [if_neg c0]
  cases e1 : edge t f
  · rw [e1] at d2
    rw [e1, if_neg (by simp)] at hc
    rw [hc, if_pos (by omega)]
    simp (disch := omega) [A_law4_step, d1, d2, c4, a, b, c, wrap_in, dec_yes, dec_no]
  cases e2 : edge t u
  · rw [e1] at d2
    rw [e2] at d3
    rw [e1, e2, if_neg (by simp)] at hc
    rw [hc, if_pos (by omega)]
    simp (disch := omega) [A_law4_step, d1, d2, d3, c4, a, b, c, wrap_in, dec_yes, dec_no]
  rw [e1] at d2
  rw [e2] at d3
  rw [e1, e2, if_pos (by simp)] at hc
  rw [if_neg (show ¬ chkR t f u ≠ 0 by omega)]
  obtain ⟨p, rfl⟩ : ∃ p : Nat, f = p := ⟨f.toNat, by omega⟩
  obtain ⟨q, rfl⟩ : ∃ q : Nat, u = q := ⟨u.toNat, by omega⟩
  rw [Int.toNat_natCast, Int.toNat_natCast]
  have hpq : p ≤ q := by omega
  have hqt : q ≤ t.size := by omega
  have hpt : p ≤ t.size := by omega
  by_cases c3 : w = 3
  · rw [if_pos c3]
    subst c3
    simp (disch := omega) [A_law4_step, d1, d2, d3, c4, a, b, c, hpq, hqt, wrap_in, dec_yes, dec_no]
  rw [if_neg c3]
  have hz := replS_size (s := t) (t := s) (a := p) (b := q) (by omega) (by omega) (by omega)
  by_cases c5 : 20000 < ((replS t p q s).size : Int)
  · rw [if_pos c5]
    generalize cleanS s = x at *
    simp (disch := omega) [A_law4_step, d1, d2, d3, c4, c3, a, b, c, hpq, hqt, wrap_in, dec_yes, dec_no]
  · rw [if_neg c5]
    have hX : replS t p q s = t.extract 0 p ++ cleanS s ++ t.extract q t.size := by unfold replS; rfl
    have z1 : (t.extract 0 p).size = p := by rw [← L_len, ex_take, List.length_take, L_len]; omega
    have z2 : (t.extract q t.size).size = t.size - q := by rw [← L_len, ex_drop, List.length_drop, L_len]
    rw [hX] at hz c5 ⊢
    generalize cleanS s = x at *
    have z3 : (t.extract 0 p ++ x).size = p + x.size := by rw [← L_len, L_append, List.length_append, L_len, L_len, z1]
    have y1 : ((t.extract 0 p).size : Int) + (x.size : Int) ≤ 9223372036854775807 := by omega
    have y2 : ((t.extract 0 p ++ x).size : Int) + ((t.extract q t.size).size : Int) ≤ 9223372036854775807 := by omega
    simp (disch := omega) [A_law4_step, d1, d2, d3, c4, c3, a, b, c, hpq, hqt, hpt, wrap_in, if_yes, dec_yes, dec_no]
end Go.Proofs.Ytomnggbideepeaa.AM
