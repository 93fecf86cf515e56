/- The law LinesFind on the small machine. No condition. -/
import Derived.Test.YtomnggbideepeaaRN5
namespace Go.Proofs.Ytomnggbideepeaa.linesFind
set_option linter.unusedSimpArgs false
set_option linter.unusedVariables false
open Go Go.Proofs.Ytomnggbideepeaa.U Go.Proofs.Ytomnggbideepeaa.AM
def shapes : List PSh := [.one (.tx), .one (.tx), .one (.i .u8)]
theorem find_spec (s t : ByteArray) (f : Nat) : findP s t f = -1 ∨ ∃ k : Nat, findP s t f = k ∧ f ≤ k ∧ k + t.size ≤ s.size ∧ s.extract k (k + t.size) = t ∧ ¬ t = ⟨#[]⟩ ∧ findP s t k = k ∧ findP s s 0 = 0 := by
  by_cases c1 : t = ⟨#[]⟩
  · left; unfold findP; rw [if_pos (.inl c1)]
  have e0 : (if (f : Int) < 0 then (0 : Int) else (f : Int)) = f := if_neg (by omega)
  by_cases c2 : (s.size : Int) < f
  · left; unfold findP; rw [e0, if_pos (.inr c2)]
  have h0 : 1 ≤ t.size := by
    rcases Nat.eq_zero_or_pos t.size with h | h
    · exact absurd (empty_eq h) c1
    · exact h
  have hsub : L t ≠ [] := fun h => by
    have := L_len t
    rw [h] at this; simp at this; omega
  have hF : findP s t f = if 0 ≤ Lib.index ((L s).drop f) (L t) then (f : Int) + Lib.index ((L s).drop f) (L t) else -1 := by
    unfold findP
    rw [e0, if_neg (by simp [c1]; omega), Int.toNat_natCast]
  rcases Lib.index_spec ((L s).drop f) (L t) with ⟨h1, _⟩ | ⟨i, h1, h2, h3, _⟩
  · left; rw [hF, h1, if_neg (by omega)]
  · right
    rw [h1, if_pos (by omega)] at hF
    have hroom : i + t.size ≤ s.size - f := by
      rcases Lib.occAt_room h3 with h | h
      · rwa [List.length_drop, L_len, L_len] at h
      · exact absurd h hsub
    have hk : f + i + t.size ≤ s.size := by omega
    have ho := occ_iff (s := s) (t := t) (p := f) (i := f + i) (by omega) hk
    rw [Nat.add_sub_cancel_left, h3] at ho
    have hx : s.extract (f + i) (f + i + t.size) = t := of_decide_eq_true ho.symm
    refine ⟨f + i, by rw [hF]; rfl, by omega, hk, hx, c1, ?_, ?_⟩
    · have e1 : (if ((f + i : Nat) : Int) < 0 then (0 : Int) else ((f + i : Nat) : Int)) = ((f + i : Nat) : Int) := if_neg (by omega)
      have ho2 := occ_iff (s := s) (t := t) (p := f + i) (i := f + i) (Nat.le_refl _) hk
      rw [Nat.sub_self, decide_eq_true hx] at ho2
      have hix := Lib.index_first (s := (L s).drop (f + i)) (sub := L t) (i := 0) (by omega) ho2 (fun j hj => by omega)
      unfold findP
      rw [e1, if_neg (by simp [c1]; omega), Int.toNat_natCast, hix, if_pos (by omega)]
      simp
    · have hs0 : ¬ s = ⟨#[]⟩ := fun h => by
        have : s.size = 0 := by rw [h]; rfl
        omega
      have hix := Lib.index_self (L s)
      have e1 : (if (0 : Int) < 0 then (0 : Int) else 0) = 0 := by simp
      unfold findP
      rw [e1, if_neg (by simp [hs0]), show (0 : Int).toNat = 0 from rfl, List.drop_zero, hix, if_pos (by omega)]
      rfl
set_option maxHeartbeats 4000000 in
theorem law (xs : List PV) (h : WTAs shapes xs) : Run EB 17 xs = some (.val (.sc (.bool true))) := by
  cases h with
  | cons h1 h => cases h with
  | cons h2 h => cases h with
  | cons h3 h =>
  cases h
  obtain ⟨s, rfl, hs⟩ := wt_str h1
  obtain ⟨t, rfl, ht⟩ := wt_str h2
  obtain ⟨b, rfl⟩ := wt_byte h3
  clear h1 h2 h3
  have kn := known6
  rw [show Run EB 17 [.sc (.string s), .sc (.string t), .sc (.int .u8 b.toNat)] = _ from run_fn _ A_law6_LinesFind _ rfl rfl rfl, ← show EB = EX cpB from rfl]
  by_cases c0 : s.size ≤ 200
  case neg => simp (disch := omega) [A_law6_LinesFind, kn, c0, dec_yes, dec_no]
  by_cases c1 : t.size ≤ 40
  case neg => simp (disch := omega) [A_law6_LinesFind, kn, c0, c1, dec_yes, dec_no]
  have zs := clean_small' s c0
  rcases ropeNew (cp := cpB) s (by omega) with ⟨h2, _⟩ | ⟨_, r, hr, d1⟩
  · omega
  generalize cleanS s = u at *
  have hb := b.toNat_lt
  generalize b.toNat = f at *
  have w1 : IntKind.wrap .i64 (f : Int) = f := wrap_in _ (by omega) (by omega)
  have d2 := ropeString (cp := cpB) cpB_all hr
  have d3 := linesFind hr (by omega) t f
  rw [show EX cpB = EB from rfl] at *
  rcases find_spec u t f with hf | ⟨k, hf, k1, k2, k3, k4, k5, k6⟩
  · rw [hf] at d3
    simp (disch := omega) [A_law6_LinesFind, kn, c0, c1, d1, d2, d3, w1, dec_yes, dec_no]
  · rw [hf] at d3
    have d4 := linesFind hr (by omega) t k
    have d5 := linesFind hr (by omega) u 0
    rw [k5] at d4
    rw [k6] at d5
    have w2 : IntKind.wrap .i64 ((k : Int) + (t.size : Int)) = ((k + t.size : Nat) : Int) := by rw [wrap_in _ (by omega) (by omega)]; rfl
    have a1 : ¬ (k : Int) < (f : Int) := by omega
    have a2 : ¬ (u.size : Int) < ((k + t.size : Nat) : Int) := by omega
    have hA0 : 0 ≤ ((k + t.size : Nat) : Int) := by omega
    have hA1 : ((k + t.size : Nat) : Int).toNat = k + t.size := Int.toNat_natCast _
    have hA2 : k ≤ k + t.size := by omega
    generalize hA : ((k + t.size : Nat) : Int) = A at *
    by_cases ck : (k : Int) = (f : Int)
    · simp (disch := omega) [A_law6_LinesFind, kn, c0, c1, d1, d2, d3, d4, d5, w1, w2, a1, a2, hA0, hA1, hA2, k2, k3, k4, dec_yes, dec_no]
    · simp (disch := omega) [A_law6_LinesFind, kn, c0, c1, d1, d2, d3, d4, d5, w1, w2, a1, a2, hA0, hA1, hA2, k2, k3, k4, ck, dec_yes, dec_no]
end Go.Proofs.Ytomnggbideepeaa.linesFind
