/- The reference's To and From on the small machine. For texts of fewer than 2^28 bytes. -/
import Derived.Test.YtomnggbideepeaaRM1
namespace Go.Proofs.Ytomnggbideepeaa.AM
set_option linter.unusedSimpArgs false
set_option linter.unusedVariables false
open Go Go.Proofs.Ytomnggbideepeaa.U
variable {cp : List PV → Option Ret}
set_option maxHeartbeats 4000000 in
theorem ref2To_loop (k n : Int) (hk : 0 ≤ k ∧ k ≤ 3) (p : List Int) (hp : ∀ v ∈ p, sc v) (hl : p.length < 274877906944) (hn : n ≤ get4 (cnt p) k) : ∀ (m i : Nat), m + i = p.length → ((k = 1 ∨ k = 3) → get4 (cnt (p.take i)) k ≤ n) →
    Code (EX cp) L_ref2_To_0 ⟨[(1, .p (pi k)), (2, .p (pi n)), (8, .ms 8 0 p.length), (9, .mp 9 0 0), (10, .p (pi i))], [(8, .row 9 1 false (strs (p.map chS))), (9, .row 47 4 false [[pi (cnt (p.take i)).1, pi (cnt (p.take i)).2.1, pi (cnt (p.take i)).2.2.1, pi (cnt (p.take i)).2.2.2]])]⟩ =
      some (.ret, ⟨[(6, .p (pi (toEnd (stopAt k n (p.drop i) (cnt (p.take i))) k n).1)), (7, .p (pi (toEnd (stopAt k n (p.drop i) (cnt (p.take i))) k n).2))], []⟩) := by
  intro m
  induction m with
  | zero =>
    intro i hi hs
    have : i = p.length := by omega
    subst this
    rw [List.take_length] at hs ⊢
    rw [List.drop_length, stopAt, L_ref2_To_0, k_loop]
    have hml : (p.map chS).length = p.length := by simp
    have hg := ref2Get (cp := cp) (cnt p) k
    unfold C4.pv at hg
    unfold toEnd
    generalize cnt p = q at *
    generalize p.map chS = l at *
    generalize p.length = z at *
    by_cases c : get4 q k = n
    · rw [if_pos c]
      simp (disch := omega) [hg, hml, c, dec_yes, dec_no]
    · rw [if_neg c]
      have c2 : n < get4 q k := by omega
      have hk2 : k = 0 ∨ k = 2 := by omega
      rcases hk2 with rfl | rfl
      · rw [if_neg (by omega)]
        simp (disch := omega) [hg, hml, c, c2, dec_yes, dec_no]
      · rw [if_pos rfl]
        simp (disch := omega) [hg, hml, c, c2, dec_yes, dec_no]
  | succ m ih =>
    intro i hi hs
    have hlt : i < p.length := by omega
    have hml : (p.map chS).length = p.length := by simp
    have hgt := strs_at (p.map chS) i (by simp; omega)
    rw [List.getElem_map] at hgt
    have hsn := List.take_succ_eq_append_getElem hlt
    have hof := ref2One (cp := cp) p[i] (hp _ (List.getElem_mem _))
    have hr := cnt_range (p.take i)
    have htl : (p.take i).length = i := by rw [List.length_take]; omega
    have hpl := ref2Plus (cp := cp) (cnt (p.take i)) (one4 p[i]) (by unfold C4.sm; omega) (one4_sm _)
    have hg := ref2Get (cp := cp) (cnt (p.take i)) k
    have ih' := ih (i + 1) (by omega)
    rw [List.drop_eq_getElem_cons hlt, stopAt]
    rw [hsn, cnt_snoc] at ih'
    have w1 : IntKind.wrap .i64 ((i : Int) + 1) = (i : Int) + 1 := wrap_in _ (by omega) (by omega)
    have o := get4_one p[i] k
    have ga := get4_add (cnt (p.take i)) (one4 p[i]) k
    unfold C4.pv at hof hpl hg
    generalize hq2 : add4 (cnt (p.take i)) (one4 p[i]) = q2 at *
    generalize cnt (p.take i) = q1 at *
    generalize one4 p[i] = q3 at *
    generalize chS p[i] = x at *
    generalize p.map chS = l at *
    generalize p.drop (i + 1) = tl at *
    by_cases c : get4 q1 k = n
    · rw [if_pos (by omega)]
      unfold toEnd
      rw [if_pos c, L_ref2_To_0, k_loop]
      simp (disch := omega) [hg, hml, c, dec_yes, dec_no]
    by_cases c2 : n < get4 q1 k
    · rw [if_pos (by omega)]
      unfold toEnd
      rw [if_neg c, L_ref2_To_0, k_loop]
      have hk2 : k = 0 ∨ k = 2 := by omega
      rcases hk2 with rfl | rfl
      · rw [if_neg (by omega)]
        simp (disch := omega) [hg, hml, c, c2, dec_yes, dec_no]
      · rw [if_pos rfl]
        simp (disch := omega) [hg, hml, c, c2, dec_yes, dec_no]
    · rw [if_neg (by omega), ← ih' (fun h => by have := o.2 h; omega), L_ref2_To_0, k_loop]
      simp (disch := omega) [hg, hml, c, c2, hlt, hgt, hof, hpl, w1, dec_yes, dec_no, -getElem?_pos]
set_option maxHeartbeats 2000000 in
theorem ref2To (s : ByteArray) (hs : s.size < 268435456) (hv : valid (L s) = true) (k n : Int) : Run (EX cp) 41 [.sc (.string s), pi k, pi n] = some (.val (.tu [pi (toSpec s k n).1, pi (toSpec s k n).2])) := by
  have d2 := refValid (cp := cp) s (by omega)
  have d3 := ref2Of (cp := cp) s (by omega)
  have d4 := ref2Get (cp := cp) (cntS s) k
  have d5 := refPoints (cp := cp) s (by omega)
  have e5 : ptsS (clean (L s)) = (points (L s)).map chS := by unfold ptsS; rw [pts_clean]
  rw [e5] at d5
  have hpl := points_le (L s)
  rw [L_len] at hpl
  rw [hv] at d2
  rw [run_fn _ A_ref2_To _ rfl rfl rfl]
  unfold toSpec
  by_cases c0 : k < 0
  · rw [if_neg (by omega)]
    simp (disch := omega) [A_ref2_To, c0, dec_yes, dec_no]
  by_cases c1 : 3 < k
  · rw [if_neg (by omega)]
    simp (disch := omega) [A_ref2_To, c0, c1, dec_yes, dec_no]
  rw [if_pos (by omega)]
  by_cases c2 : n < 0
  · rw [if_pos (.inl c2)]
    simp (disch := omega) [A_ref2_To, c0, c1, d2, c2, dec_yes, dec_no]
  by_cases c3 : get4 (cntS s) k < n
  · rw [if_pos (.inr c3)]
    unfold C4.pv at d3 d4
    generalize cntS s = q at *
    simp (disch := omega) [A_ref2_To, c0, c1, d2, d3, d4, c2, c3, dec_yes, dec_no]
  rw [if_neg (by omega)]
  have lp := ref2To_loop (cp := cp) k n (by omega) (points (L s)) (points_sc _) (by omega) (by unfold cntS at c3; omega) (points (L s)).length 0 (by omega) (fun _ => by
    rw [List.take_zero]; show get4 (0, 0, 0, 0) k ≤ n; rw [get4_zero]; omega)
  rw [List.take_zero, List.drop_zero, show cnt [] = (0, 0, 0, 0) from rfl, show ((0 : Nat) : Int) = 0 from rfl] at lp
  dsimp only at lp
  unfold C4.pv at d3 d4
  have hml : ((points (L s)).map chS).length = (points (L s)).length := by simp
  generalize toEnd (stopAt k n (points (L s)) (0, 0, 0, 0)) k n = r at *
  generalize cntS s = q at *
  generalize (points (L s)).map chS = l at *
  generalize (points (L s)).length = z at *
  have hl2 : (strs l).length = z := by simp [hml]
  simp (disch := omega) [A_ref2_To, c0, c1, d2, d3, d4, d5, c2, c3, lp, hml, hl2, dec_yes, dec_no]
set_option maxHeartbeats 2000000 in
theorem ref2From (s : ByteArray) (hs : s.size < 268435456) (hv : valid (L s) = true) (k a : Int) : Run (EX cp) 42 [.sc (.string s), pi k, pi a] = some (.val (.tu [pi (fromSpec s k a).1, pi (fromSpec s k a).2])) := by
  have d2 := refValid (cp := cp) s (by omega)
  have d5 := refIsEdge (cp := cp) s a (by omega)
  rw [hv] at d2
  rw [run_fn _ A_ref2_From _ rfl rfl rfl]
  unfold fromSpec
  by_cases c0 : k < 0
  · rw [if_neg (by omega)]
    simp (disch := omega) [A_ref2_From, c0, dec_yes, dec_no]
  by_cases c1 : 3 < k
  · rw [if_neg (by omega)]
    simp (disch := omega) [A_ref2_From, c0, c1, dec_yes, dec_no]
  rw [if_pos (by omega)]
  by_cases c2 : a < 0
  · rw [if_pos (.inl c2)]
    simp (disch := omega) [A_ref2_From, c0, c1, d2, c2, dec_yes, dec_no]
  by_cases c3 : (s.size : Int) < a
  · rw [if_pos (.inr c3)]
    simp (disch := omega) [A_ref2_From, c0, c1, d2, c2, c3, dec_yes, dec_no]
  rw [if_neg (by omega)]
  cases e : edge s a
  · rw [e] at d5
    rw [if_neg (by simp)]
    simp (disch := omega) [A_ref2_From, c0, c1, d2, c2, c3, d5, dec_yes, dec_no]
  rw [e] at d5
  rw [if_pos rfl]
  obtain ⟨p, rfl⟩ : ∃ p : Nat, a = p := ⟨a.toNat, by omega⟩
  rw [Int.toNat_natCast]
  have hz : (s.extract 0 p).size ≤ s.size := by rw [← L_len, ex_take, List.length_take, L_len]; omega
  have hp : p ≤ s.size := by omega
  have d6 := ref2Of (cp := cp) (s.extract 0 p) (by omega)
  have d7 := ref2Get (cp := cp) (cntS (s.extract 0 p)) k
  unfold C4.pv at d6 d7
  generalize cntS (s.extract 0 p) = q at *
  simp (disch := omega) [A_ref2_From, c0, c1, d2, c2, c3, d5, d6, d7, hp, dec_yes, dec_no]
end Go.Proofs.Ytomnggbideepeaa.AM
