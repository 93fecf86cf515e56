/- The law MetricNone on the small machine. No condition. -/
import Derived.Test.YtomnggbideepeaaRM4
import Derived.Test.YtomnggbideepeaaRW
import Derived.Test.YtomnggbideepeaaAT2
namespace Go.Proofs.Ytomnggbideepeaa.metricNone
set_option linter.unusedSimpArgs false
set_option linter.unusedVariables false
open Go Go.Proofs.Ytomnggbideepeaa.U Go.Proofs.Ytomnggbideepeaa.AM
def shapes : List PSh := [.one (.tx), .one (.i .i64), .one (.i .i64)]
theorem get4_out (c : C4) (k : Int) (h : ¬ (0 ≤ k ∧ k ≤ 3)) : get4 c k = 0 := by
  unfold get4
  rw [if_neg (by omega), if_neg (by omega), if_neg (by omega), if_neg (by omega)]
theorem conv_out1 (s : ByteArray) (k j n : Int) (h : ¬ (0 ≤ k ∧ k ≤ 3)) : convSpec s k j n = (0, 12) := by
  unfold convSpec; rw [if_neg (fun x => h x.1)]
theorem conv_out2 (s : ByteArray) (k j n : Int) (h : ¬ (0 ≤ j ∧ j ≤ 3)) : convSpec s k j n = (0, 12) := by
  unfold convSpec; rw [if_neg (fun x => h x.2)]
theorem conv_range (s : ByteArray) (k j n : Int) (hk : 0 ≤ k ∧ k ≤ 3) (hj : 0 ≤ j ∧ j ≤ 3) (h : n < 0 ∨ get4 (cntS s) k < n) : convSpec s k j n = (0, 10) := by
  have e : toSpec s k n = (0, 10) := by unfold toSpec; rw [if_pos hk, if_pos h]
  unfold convSpec
  rw [if_pos ⟨hk, hj⟩, e, if_pos (by simp)]
set_option maxHeartbeats 4000000 in
theorem law (xs : List PV) (h : WTAs shapes xs) : Run EA 6 xs = some (.val (.sc (.bool true))) := by
  cases h with
  | cons h1 h => cases h with
  | cons h2 h => cases h with
  | cons h3 h =>
  cases h
  obtain ⟨s, rfl, hs⟩ := wt_str h1
  obtain ⟨k, rfl, hk⟩ := wt_int h2
  obtain ⟨n, rfl, hn⟩ := wt_int h3
  clear h1 h2 h3
  have kn : Run EA 29 [] = some (.val (pb true)) := known5
  rw [show Run EA 6 [.sc (.string s), pi k, pi n] = _ from run_fn _ A_law5_MetricNone _ rfl rfl rfl, ← show EA = EX cpA from rfl]
  by_cases c0 : s.size ≤ 200
  case neg => simp (disch := omega) [A_law5_MetricNone, kn, c0, dec_yes, dec_no]
  have zs := clean_small' s c0
  rcases ropeNew (cp := cpA) s (by omega) with ⟨h2, _⟩ | ⟨_, r, hr, d1⟩
  · omega
  have hv := hr.val
  generalize cleanS s = t at *
  have d2 := metricConvert (cp := cpA) hr (by omega) k 0 n
  have d3 := metricConvert (cp := cpA) hr (by omega) 0 k n
  have d4 := metricWhole (cp := cpA) hr k
  have d5 := ropeLen (cp := cpA) hr
  rw [show EX cpA = EA from rfl] at *
  by_cases ck : 0 ≤ k ∧ k ≤ 3
  case neg =>
    rw [conv_out1 t k 0 n ck] at d2
    rw [conv_out2 t 0 k n ck] at d3
    rw [get4_out _ _ ck] at d4
    by_cases ck1 : k < 0
    · simp (disch := omega) [A_law5_MetricNone, kn, c0, d1, d2, d3, d4, ck1, dec_yes, dec_no]
    · simp (disch := omega) [A_law5_MetricNone, kn, c0, d1, d2, d3, d4, ck1, dec_yes, dec_no]
  have ck1 : ¬ k < 0 := by omega
  have ck2 : ¬ 3 < k := by omega
  by_cases cn : n < 0 ∨ get4 (cntS t) k < n
  · rw [conv_range t k 0 n ck (by omega) cn] at d2
    by_cases cz : 0 ≤ n ∧ n ≤ t.size
    · by_cases cn1 : n < 0
      · omega
      have cn2 : get4 (cntS t) k < n := by omega
      generalize get4 (cntS t) k = g at *
      generalize convSpec t 0 k n = z at *
      simp (disch := omega) [A_law5_MetricNone, kn, c0, d1, d2, d3, d4, d5, ck1, ck2, cn1, cn2, dec_yes, dec_no]
    · have hz : get4 (cntS t) 0 = t.size := cntS_size t hv
      rw [conv_range t 0 k n (by omega) ck (by omega)] at d3
      by_cases cn1 : n < 0
      · generalize get4 (cntS t) k = g at *
        simp (disch := omega) [A_law5_MetricNone, kn, c0, d1, d2, d3, d4, d5, ck1, ck2, cn1, dec_yes, dec_no]
      · have cn2 : get4 (cntS t) k < n := by omega
        generalize get4 (cntS t) k = g at *
        have cz2 : ¬ n ≤ (t.size : Int) := by omega
        simp (disch := omega) [A_law5_MetricNone, kn, c0, d1, d2, d3, d4, d5, ck1, ck2, cn1, cn2, cz2, dec_yes, dec_no]
  have cn1 : ¬ n < 0 := by omega
  have cn2 : ¬ get4 (cntS t) k < n := by omega
  have key : (convSpec t k 0 n).2 = 0 ∨ (convSpec t k 0 n).2 = 11 ∨ (convSpec t k 0 n).2 = 50 := by
    unfold convSpec
    rw [if_pos ⟨ck, by omega⟩]
    rcases toSpec_ok (n := n) hv ck (by omega) (by omega) with ⟨p, e1, e2, e3, e4⟩ | e | e
    · rw [e1, if_neg (by simp)]
      dsimp only
      rw [fromSpec_edge (by omega) p e2 e3]
      exact .inl rfl
    · rw [e]; simp
    · rw [e]; simp
  generalize convSpec t k 0 n = z at *
  generalize convSpec t 0 k n = y at *
  generalize get4 (cntS t) k = g at *
  rcases key with e | e | e
  · simp (disch := omega) [A_law5_MetricNone, kn, c0, d1, d2, d3, d4, d5, ck1, ck2, cn1, cn2, e, dec_yes, dec_no]
  · simp (disch := omega) [A_law5_MetricNone, kn, c0, d1, d2, d3, d4, d5, ck1, ck2, cn1, cn2, e, dec_yes, dec_no]
  · simp (disch := omega) [A_law5_MetricNone, kn, c0, d1, d2, d3, d4, d5, ck1, ck2, cn1, cn2, e, dec_yes, dec_no]
end Go.Proofs.Ytomnggbideepeaa.metricNone
