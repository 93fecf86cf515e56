/- The law MetricTells on the small machine. No condition. -/
import Derived.Test.YtomnggbideepeaaRM4
import Derived.Test.YtomnggbideepeaaRM2
import Derived.Test.YtomnggbideepeaaRW
import Derived.Test.YtomnggbideepeaaAT2
namespace Go.Proofs.Ytomnggbideepeaa.metricTells
set_option linter.unusedSimpArgs false
set_option linter.unusedVariables false
open Go Go.Proofs.Ytomnggbideepeaa.U Go.Proofs.Ytomnggbideepeaa.AM
def shapes : List PSh := [.one (.tx), .one (.tx), .one (.tx), .one (.i .i64), .one (.i .i64), .one (.i .i64)]
theorem chk_none (s : ByteArray) (hv : valid (L s) = true) : chkR s 0 0 = 0 := by
  have e0 : edge s 0 = true := cut_of_edge (s := s) 0 (by omega) (by rw [List.take_zero]; exact valid_nil) (by rw [List.drop_zero]; exact hv)
  unfold chkR
  rw [if_neg (by omega), e0, if_pos (by simp)]
theorem repl_none (s c : ByteArray) : replS s 0 0 c = cleanS c ++ s := by
  apply L_inj
  unfold replS
  rw [L_append, L_append, L_append, show (0 : Int).toNat = 0 from rfl, ex_take, ex_drop, List.take_zero, List.drop_zero, List.nil_append]
abbrev S1 (k j n : Int) (r : PV) (t : ByteArray) (y3 y1 : Int × Int) (u v : Int) : List (Nat × SV) := [(3, .p (pi k)), (4, .p (pi j)), (5, .p (pi n)), (19, .p r), (21, .p (.sc (.string t))), (22, .p (pi y3.1)), (23, .p (pi y3.2)), (24, .p (pi y3.1)), (25, .p (pi y3.2)), (26, .p (pi y1.1)), (27, .p (pi y1.2)), (28, .p (pi y1.1)), (29, .p (pi y1.2)), (30, .p (pi u)), (31, .p (pi v))]
set_option maxHeartbeats 8000000 in
theorem law (xs : List PV) (h : WTAs shapes xs) : Run EA 13 xs = some (.val (.sc (.bool true))) := by
  cases h with
  | cons h1 h => cases h with
  | cons h2 h => cases h with
  | cons h3 h => cases h with
  | cons h4 h => cases h with
  | cons h5 h => cases h with
  | cons h6 h =>
  cases h
  obtain ⟨a, rfl, ha⟩ := wt_str h1
  obtain ⟨b, rfl, hb⟩ := wt_str h2
  obtain ⟨c, rfl, hc⟩ := wt_str h3
  obtain ⟨k, rfl, hk⟩ := wt_int h4
  obtain ⟨j, rfl, hj⟩ := wt_int h5
  obtain ⟨n, rfl, hn⟩ := wt_int h6
  clear h1 h2 h3 h4 h5 h6
  have kn : Run EA 29 [] = some (.val (pb true)) := known5
  rw [show Run EA 13 [.sc (.string a), .sc (.string b), .sc (.string c), pi k, pi j, pi n] = _ from run_fn _ A_law5_MetricTells _ rfl rfl rfl, ← show EA = EX cpA from rfl]
  by_cases c0 : a.size ≤ 200
  case neg => simp (disch := omega) [A_law5_MetricTells, kn, c0, dec_yes, dec_no]
  by_cases c1 : b.size ≤ 200
  case neg => simp (disch := omega) [A_law5_MetricTells, kn, c0, c1, dec_yes, dec_no]
  by_cases c2 : c.size ≤ 200
  case neg => simp (disch := omega) [A_law5_MetricTells, kn, c0, c1, c2, dec_yes, dec_no]
  have za := clean_small' a c0
  have zb := clean_small' b c1
  have zc := clean_small' c c2
  rcases ropeNew (cp := cpA) a (by omega) with ⟨h2, _⟩ | ⟨_, x, hx, d1⟩
  · omega
  rcases ropeNew (cp := cpA) b (by omega) with ⟨h2, _⟩ | ⟨_, y, hy, d2⟩
  · omega
  rcases ropeConcat (cp := cpA) hx hy (by omega) (by omega) with ⟨h2, _⟩ | ⟨_, z, hz, d3⟩
  · omega
  have e1 := refClean (cp := cpA) a (by omega)
  have e2 := refClean (cp := cpA) b (by omega)
  have e3 := refClean (cp := cpA) c (by omega)
  have zz : (cleanS a ++ cleanS b).size = (cleanS a).size + (cleanS b).size := by rw [ByteArray.size_append]
  have hck := chk_none _ hz.val
  have hrep := repl_none (cleanS a ++ cleanS b) c
  have zr : (cleanS c ++ (cleanS a ++ cleanS b)).size = (cleanS c).size + ((cleanS a).size + (cleanS b).size) := by rw [ByteArray.size_append, ByteArray.size_append]
  rcases ropeReplace (cp := cpA) hz (by omega) 0 0 c (by omega) with ⟨h2, _⟩ | ⟨_, h2, _⟩ | ⟨_, _, r, hr, d4⟩
  · exact absurd hck h2
  · rw [hrep] at h2; omega
  rw [hrep] at hr
  have eT : cleanS c ++ (cleanS a ++ cleanS b) = cleanS c ++ cleanS a ++ cleanS b := L_inj (by rw [L_append, L_append, L_append, L_append, List.append_assoc])
  rw [eT] at hr zr
  have s1 : ((cleanS c).size : Int) + ((cleanS a).size : Int) ≤ 9223372036854775807 := by omega
  have s2 : ((cleanS c ++ cleanS a).size : Int) + ((cleanS b).size : Int) ≤ 9223372036854775807 := by rw [ByteArray.size_append]; omega
  have s3 : ((cleanS c).size : Int) + ((cleanS a).size : Int) + ((cleanS b).size : Int) ≤ 9223372036854775807 := by omega
  have hv := hr.val
  clear hx hy hz hrep hck eT
  generalize cleanS a = pa at *
  generalize cleanS b = pb' at *
  generalize cleanS c = pc at *
  generalize hw : pc ++ pa ++ pb' = t at *
  have f1 := metricTo (cp := cpA) hr (by omega) k n
  have f2 := ref2To (cp := cpA) t (by omega) hv k n
  have f3 := metricFrom (cp := cpA) hr (by omega) k n
  have f4 := ref2From (cp := cpA) t (by omega) hv k n
  have f5 := metricConvert (cp := cpA) hr (by omega) k j n
  have f6 := metricWhole (cp := cpA) hr k
  have f7 := ref2Of (cp := cpA) t (by omega)
  have f8 := ref2Get (cp := cpA) (cntS t) k
  have f9 := ref2From (cp := cpA) t (by omega) hv j (toSpec t k n).1
  rw [show EX cpA = EA from rfl] at *
  unfold C4.pv at f7 f8
  have eC : convSpec t k j n = if (0 ≤ k ∧ k ≤ 3) ∧ (0 ≤ j ∧ j ≤ 3) then (if (toSpec t k n).2 ≠ 0 then (0, (toSpec t k n).2) else fromSpec t j (toSpec t k n).1) else (0, 12) := rfl
  have eT1 : (toSpec t k n).2 ≠ 0 → (toSpec t k n).1 = 0 := by
    intro h
    unfold toSpec toEnd at h ⊢
    split
    · rename_i q1
      rw [if_pos q1] at h
      split
      · rfl
      · rename_i q2
        rw [if_neg q2] at h
        split
        · rename_i q3; rw [if_pos q3] at h; exact absurd rfl h
        · split <;> rfl
    · rfl
  generalize fromSpec t k n = y1 at *
  generalize fromSpec t j (toSpec t k n).1 = y2 at *
  generalize toSpec t k n = y3 at *
  generalize convSpec t k j n = y4 at *
  generalize get4 (cntS t) k = g at *
  generalize cntS t = q at *
  have s1' := split_code EA 16 A_law5_MetricTells.body ⟨entry 0 [.sc (.string a), .sc (.string b), .sc (.string c), pi k, pi j, pi n], []⟩ ⟨S1 k j n r t y3 y1 0 12, []⟩ (by
    simp (disch := omega) [A_law5_MetricTells, headN, S1, kn, c0, c1, c2, d1, d2, d3, d4, e1, e2, e3, if_pos s1, if_pos s2, if_pos s3, hw, f1, f2, f3, f4, dec_yes, dec_no])
  rw [s1']
  have hp2 : ∃ x : List (Nat × SV), (x = [] ∨ x = [(130, .p (pb false))] ∨ x = [(139, .p (pb false))]) ∧ AM.Code EA (tailN 16 A_law5_MetricTells.body) ⟨S1 k j n r t y3 y1 0 12, []⟩ = AM.Code EA (tailN 17 A_law5_MetricTells.body) ⟨S1 k j n r t y3 y1 y4.1 y4.2 ++ x, []⟩ := by
    clear s1' d1 d2 d3 d4 e1 e2 e3 s1 s2 s3 f1 f3 f4 f6 f7 f8
    by_cases ck : 0 ≤ k ∧ k ≤ 3
    case neg =>
      rw [if_neg (fun h => ck h.1)] at eC
      subst eC
      refine ⟨[(130, .p (pb false))], .inr (.inl rfl), split_code EA 1 (tailN 16 A_law5_MetricTells.body) _ _ ?_⟩
      by_cases ck1 : 0 ≤ k
      · simp (disch := omega) [A_law5_MetricTells, headN, tailN, S1, ck1, dec_yes, dec_no]
      · simp (disch := omega) [A_law5_MetricTells, headN, tailN, S1, ck1, dec_yes, dec_no]
    obtain ⟨ck1, ck2⟩ := ck
    by_cases cj : 0 ≤ j ∧ j ≤ 3
    case neg =>
      rw [if_neg (fun h => cj h.2)] at eC
      subst eC
      refine ⟨[(130, .p (pb false))], .inr (.inl rfl), split_code EA 1 (tailN 16 A_law5_MetricTells.body) _ _ ?_⟩
      by_cases cj1 : 0 ≤ j
      · simp (disch := omega) [A_law5_MetricTells, headN, tailN, S1, ck1, ck2, cj1, dec_yes, dec_no]
      · simp (disch := omega) [A_law5_MetricTells, headN, tailN, S1, ck1, ck2, cj1, dec_yes, dec_no]
    rw [if_pos ⟨⟨ck1, ck2⟩, cj⟩] at eC
    obtain ⟨cj1, cj2⟩ := cj
    by_cases cy : y3.2 = 0
    · rw [if_neg (by omega)] at eC
      subst eC
      refine ⟨[], .inl rfl, split_code EA 1 (tailN 16 A_law5_MetricTells.body) _ _ ?_⟩
      simp (disch := omega) [A_law5_MetricTells, headN, tailN, S1, f2, f9, ck1, ck2, cj1, cj2, cy, dec_yes, dec_no]
    · rw [if_pos cy] at eC
      subst eC
      have cz := eT1 cy
      refine ⟨[(139, .p (pb false))], .inr (.inr rfl), split_code EA 1 (tailN 16 A_law5_MetricTells.body) _ _ ?_⟩
      simp (disch := omega) [A_law5_MetricTells, headN, tailN, S1, f2, f9, ck1, ck2, cj1, cj2, cy, cz, dec_yes, dec_no]
  obtain ⟨x, hx, hp2⟩ := hp2
  rw [hp2]
  clear eC eT1 s1' hp2 d1 d2 d3 d4 e1 e2 e3 s1 s2 s3 f1 f2 f3 f4 f9
  rcases hx with rfl | rfl | rfl
  · simp (disch := omega) [A_law5_MetricTells, tailN, S1, f5, f6, f7, f8, dec_yes, dec_no]
  · simp (disch := omega) [A_law5_MetricTells, tailN, S1, f5, f6, f7, f8, dec_yes, dec_no]
  · simp (disch := omega) [A_law5_MetricTells, tailN, S1, f5, f6, f7, f8, dec_yes, dec_no]
end Go.Proofs.Ytomnggbideepeaa.metricTells
