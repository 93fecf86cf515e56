/- Counts on the small machine: package count's To and From; the reference's Get, To, From. For texts of fewer than 2^28 bytes. -/
import Derived.Test.YtomnggbideepeaaRC3
import Derived.Test.YtomnggbideepeaaRL1
namespace Go.Proofs.Ytomnggbideepeaa.AM
set_option linter.unusedSimpArgs false
set_option linter.unusedVariables false
open Go Go.Proofs.Ytomnggbideepeaa.U
variable {cp : List PV → Option Ret}
theorem ref2Get (c : C4) (k : Int) : Run (EX cp) 43 [c.pv, pi k] = some (.val (pi (get4 c k))) := by
  rw [run_fn _ A_ref2_Get _ rfl rfl rfl]
  unfold C4.pv get4
  by_cases h0 : k = 0
  · subst h0; simp [A_ref2_Get]
  by_cases h1 : k = 1
  · subst h1; simp [A_ref2_Get]
  by_cases h2 : k = 2
  · subst h2; simp [A_ref2_Get]
  by_cases h3 : k = 3
  · subst h3; simp [A_ref2_Get]
  · simp [A_ref2_Get, h0, h1, h2, h3]
set_option maxHeartbeats 2000000 in
theorem countTo_loop (s : ByteArray) (hs : s.size < 268435456) (k n : Int) : ∀ (m i : Nat) (us : List Int), s.size ≤ i + m → i ≤ s.size → us.length ≤ i → valid ((L s).drop i) = true →
    (∃ j, Code (EX cp) L_count_To_0 ⟨[(1, .p (pi k)), (2, .p (pi n)), (8, .mp 8 0 0), (30, .mp 30 0 0)], [(8, .row 47 4 false [[pi (cnt us).1, pi (cnt us).2.1, pi (cnt us).2.2.1, pi (cnt us).2.2.2]]), (30, .it s i)]⟩ =
      some (.ex 0, ⟨[(1, .p (pi k)), (2, .p (pi n)), (8, .mp 8 0 0), (30, .mp 30 0 0), (31, .p (.tu [pb false])), (32, .p (pb false))], [(8, .row 47 4 false [[pi (stopAt k n (points ((L s).drop i)) (cnt us)).1, pi (stopAt k n (points ((L s).drop i)) (cnt us)).2.1, pi (stopAt k n (points ((L s).drop i)) (cnt us)).2.2.1, pi (stopAt k n (points ((L s).drop i)) (cnt us)).2.2.2]]), (30, .it s j)]⟩)) ∨
    (∃ j v, Code (EX cp) L_count_To_0 ⟨[(1, .p (pi k)), (2, .p (pi n)), (8, .mp 8 0 0), (30, .mp 30 0 0)], [(8, .row 47 4 false [[pi (cnt us).1, pi (cnt us).2.1, pi (cnt us).2.2.1, pi (cnt us).2.2.2]]), (30, .it s i)]⟩ =
      some (.ex 0, ⟨[(1, .p (pi k)), (2, .p (pi n)), (8, .mp 8 0 0), (10, .p (pI .i32 v)), (30, .mp 30 0 0), (38, .p (pb true))], [(8, .row 47 4 false [[pi (stopAt k n (points ((L s).drop i)) (cnt us)).1, pi (stopAt k n (points ((L s).drop i)) (cnt us)).2.1, pi (stopAt k n (points ((L s).drop i)) (cnt us)).2.2.1, pi (stopAt k n (points ((L s).drop i)) (cnt us)).2.2.2]]), (30, .it s j)]⟩)) := by
  intro m
  induction m with
  | zero =>
    intro i us h1 h2 h3 h4
    have : i = s.size := by omega
    subst this
    left
    refine ⟨s.size, ?_⟩
    rw [drop_end s _ (Nat.le_refl _), points_nil, stopAt, L_count_To_0, k_loop]
    simp
  | succ m ih =>
    intro i us h1 h2 h3 h4
    by_cases hlt : i < s.size
    · obtain ⟨c, hsc, hn, hv⟩ := pts_at s i hlt h4
      have hle := sizeAt_le s i h2
      have hd := decode_dec s i (by unfold sizeAt at c; rw [decAt_nat] at c; exact c)
      have e1 : (dec ((L s).drop i)).1 = sizeAt s i := by unfold sizeAt; rw [decAt_nat]
      have e2 : dec ((L s).drop i) = decAt s i := (decAt_nat s i).symm
      rw [e1, e2] at hd
      have h0 : 0 ≤ (decAt s i).2 := by unfold sc at hsc; omega
      have h0' : max (decAt s i).2 0 = (decAt s i).2 := by omega
      have hof := countOf1 (cp := cp) _ hsc
      rw [hn]
      generalize hz : sizeAt s i = z at *
      generalize (decAt s i).2 = v at *
      have hge := countGet (cp := cp) (cnt us) k
      by_cases hg : n ≤ get4 (cnt us) k
      · right
        refine ⟨i + z, v, ?_⟩
        rw [stopAt, if_pos hg, L_count_To_0, k_loop]
        unfold C4.pv at hge
        generalize cnt us = q1 at *
        simp (disch := omega) [hlt, hd, h0', hge, hg, dec_yes, dec_no]
      · have hr := cnt_range us
        have hpl := countPlus (cp := cp) (cnt us) (one4 v) (by unfold C4.sm; omega) (one4_sm v)
        have ih' := ih (i + z) (us ++ [v]) (by omega) (by omega) (by simp; omega) hv
        rw [← cnt_snoc] at hpl
        unfold C4.pv at hof hpl hge
        rw [cnt_snoc] at ih' hpl
        rw [stopAt, if_neg hg]
        generalize hq2 : add4 (cnt us) (one4 v) = q2 at *
        generalize cnt us = q1 at *
        generalize one4 v = q3 at *
        rcases ih' with ⟨j, ih'⟩ | ⟨j, v', ih'⟩
        · left
          refine ⟨j, ?_⟩
          rw [← ih', L_count_To_0, k_loop]
          simp (disch := omega) [hlt, hd, h0', hof, hpl, hge, hg, dec_yes, dec_no]
        · right
          refine ⟨j, v', ?_⟩
          rw [← ih', L_count_To_0, k_loop]
          simp (disch := omega) [hlt, hd, h0', hof, hpl, hge, hg, dec_yes, dec_no]
    · have : i = s.size := by omega
      subst this
      left
      refine ⟨s.size, ?_⟩
      rw [drop_end s _ (Nat.le_refl _), points_nil, stopAt, L_count_To_0, k_loop]
      simp
set_option maxHeartbeats 2000000 in
theorem countTo (s : ByteArray) (hs : s.size < 268435456) (hv : valid (L s) = true) (k n : Int) : Run (EX cp) 73 [.sc (.string s), pi k, pi n] = some (.val (.tu [pi (toSpec s k n).1, pi (toSpec s k n).2])) := by
  have d1 := countIs (cp := cp) k
  have d2 := utfValid (cp := cp) s (by omega)
  have d3 := countOf (cp := cp) s (by omega)
  have d4 := countGet (cp := cp) (cntS s) k
  rw [hv] at d2
  rw [run_fn _ A_count_To _ rfl rfl rfl]
  unfold toSpec
  by_cases c1 : 0 ≤ k ∧ k ≤ 3
  case neg =>
    rw [if_neg c1]
    rw [decide_eq_false c1] at d1
    simp (disch := omega) [A_count_To, d1]
  rw [if_pos c1]
  rw [decide_eq_true c1] at d1
  by_cases c2 : n < 0
  · rw [if_pos (.inl c2)]
    simp (disch := omega) [A_count_To, d1, d2, c2, dec_yes, dec_no]
  have lp := countTo_loop (cp := cp) s hs k n s.size 0 [] (by omega) (by omega) (by simp) (by rw [List.drop_zero]; exact hv)
  rw [List.drop_zero, show cnt [] = (0, 0, 0, 0) from rfl] at lp
  unfold C4.pv at d3 d4
  by_cases c3 : get4 (cntS s) k < n
  · rw [if_pos (.inr c3)]
    generalize cntS s = q at *
    simp (disch := omega) [A_count_To, d1, d2, d3, d4, c2, c3, dec_yes, dec_no]
  rw [if_neg (by omega)]
  have d5 := countGet (cp := cp) (stopAt k n (points (L s)) (0, 0, 0, 0)) k
  unfold C4.pv at d5
  unfold toEnd
  generalize cntS s = q at *
  generalize stopAt k n (points (L s)) (0, 0, 0, 0) = q2 at *
  dsimp only at lp
  by_cases c4 : get4 q2 k = n
  · rw [if_pos c4]
    rcases lp with ⟨j, lp⟩ | ⟨j, v, lp⟩
    · simp (disch := omega) [A_count_To, d1, d2, d3, d4, d5, c2, c3, lp, c4, dec_yes, dec_no]
    · simp (disch := omega) [A_count_To, d1, d2, d3, d4, d5, c2, c3, lp, c4, dec_yes, dec_no]
  rw [if_neg c4]
  by_cases c5 : k = 2
  · rw [if_pos c5]
    rcases lp with ⟨j, lp⟩ | ⟨j, v, lp⟩
    · simp (disch := omega) [A_count_To, d1, d2, d3, d4, d5, c2, c3, lp, c4, dec_yes, dec_no]
    · simp (disch := omega) [A_count_To, d1, d2, d3, d4, d5, c2, c3, lp, c4, dec_yes, dec_no]
  · rw [if_neg c5]
    rcases lp with ⟨j, lp⟩ | ⟨j, v, lp⟩
    · simp (disch := omega) [A_count_To, d1, d2, d3, d4, d5, c2, c3, lp, c4, c5, dec_yes, dec_no]
    · simp (disch := omega) [A_count_To, d1, d2, d3, d4, d5, c2, c3, lp, c4, c5, dec_yes, dec_no]
set_option maxHeartbeats 2000000 in
theorem countFrom (s : ByteArray) (hs : s.size < 268435456) (hv : valid (L s) = true) (k a : Int) : Run (EX cp) 71 [.sc (.string s), pi k, pi a] = some (.val (.tu [pi (fromSpec s k a).1, pi (fromSpec s k a).2])) := by
  have d1 := countIs (cp := cp) k
  have d2 := utfValid (cp := cp) s (by omega)
  have d3 := countOf (cp := cp) s (by omega)
  have d4 := countGet (cp := cp) (cntS s) k
  have d5 := utfIsEdge (cp := cp) s a (by omega)
  rw [hv] at d2
  rw [run_fn _ A_count_From _ rfl rfl rfl]
  unfold fromSpec
  by_cases c1 : 0 ≤ k ∧ k ≤ 3
  case neg =>
    rw [if_neg c1]
    rw [decide_eq_false c1] at d1
    simp (disch := omega) [A_count_From, d1]
  rw [if_pos c1]
  rw [decide_eq_true c1] at d1
  by_cases c2 : a < 0
  · rw [if_pos (.inl c2)]
    simp (disch := omega) [A_count_From, d1, d2, c2, dec_yes, dec_no]
  by_cases c3 : (s.size : Int) < a
  · rw [if_pos (.inr c3)]
    simp (disch := omega) [A_count_From, d1, d2, c2, c3, dec_yes, dec_no]
  rw [if_neg (by omega)]
  cases e : edge s a
  · rw [e] at d5
    rw [if_neg (by simp)]
    simp (disch := omega) [A_count_From, d1, d2, c2, c3, d5, dec_yes, dec_no]
  rw [e] at d5
  rw [if_pos rfl]
  obtain ⟨p, rfl⟩ : ∃ p : Nat, a = p := ⟨a.toNat, by omega⟩
  rw [Int.toNat_natCast]
  have hz : (s.extract 0 p).size ≤ s.size := by rw [← L_len, ex_take, List.length_take, L_len]; omega
  have hp : p ≤ s.size := by omega
  have d6 := countOf (cp := cp) (s.extract 0 p) (by omega)
  have d7 := countGet (cp := cp) (cntS (s.extract 0 p)) k
  unfold C4.pv at d3 d4 d6 d7
  by_cases hq : cntS (s.extract 0 p) = cntS s
  · rw [hq] at d6 ⊢
    generalize cntS s = q at *
    simp (disch := omega) [A_count_From, d1, d2, c2, c3, d5, d3, d4, d6, hp, eqCells, dec_yes, dec_no]
  · generalize hq1 : cntS s = q1 at *
    generalize hq2 : cntS (s.extract 0 p) = q2 at *
    obtain ⟨b, hE, hb⟩ : ∃ b, eqCells [0, 0, 0, 0] [pi q2.1, pi q2.2.1, pi q2.2.2.1, pi q2.2.2.2] [pi q1.1, pi q1.2.1, pi q1.2.2.1, pi q1.2.2.2] = some b ∧ b = false := by
      refine ⟨false, ?_, rfl⟩
      simp only [eqCells, if_true, Option.some.injEq]
      cases hx : (q2.1 == q1.1 && (q2.2.1 == q1.2.1 && (q2.2.2.1 == q1.2.2.1 && (q2.2.2.2 == q1.2.2.2 && true))))
      · rfl
      · simp only [Bool.and_eq_true, beq_iff_eq, and_true] at hx
        exact absurd (Prod.ext hx.1 (Prod.ext hx.2.1 (Prod.ext hx.2.2.1 hx.2.2.2))) hq
    subst hb
    simp (disch := omega) [A_count_From, d1, d2, c2, c3, d5, d3, d4, d6, d7, hp, hE, dec_yes, dec_no]
end Go.Proofs.Ytomnggbideepeaa.AM
