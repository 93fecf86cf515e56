/- The law RopeCounts on the small machine. No condition. -/
import Derived.Test.YtomnggbideepeaaQ10
import Derived.Test.YtomnggbideepeaaAT1
import Derived.Test.YtomnggbideepeaaRW
namespace Go.Proofs.Ytomnggbideepeaa.ropeCounts
set_option linter.unusedSimpArgs false
set_option linter.unusedVariables false
open Go Go.Proofs.Ytomnggbideepeaa.U Go.Proofs.Ytomnggbideepeaa.AM
def shapes : List PSh := [.one (.tx), .one (.tx)]
theorem clean_small (a : ByteArray) (h : a.size ≤ 300) : (cleanS a).size ≤ 1200 := by
  have e : L (cleanS a) = clean (L a) := L_mk _
  have hcl := clean_le (L a)
  rw [L_len, ← e, L_len] at hcl
  omega
theorem cnt_cat {a b : ByteArray} (h : valid (L a) = true) : cntS (a ++ b) = add4 (cntS a) (cntS b) := by
  unfold cntS
  rw [L_append, points_append h, cnt_append]
set_option maxHeartbeats 4000000 in
theorem law (xs : List PV) (h : WTAs shapes xs) : Run EA 8 xs = some (.val (.sc (.bool true))) := by
  cases h with
  | cons h1 h => cases h with
  | cons h2 h =>
  cases h
  obtain ⟨a, rfl, ha⟩ := wt_str h1
  obtain ⟨b, rfl, hb⟩ := wt_str h2
  clear h1 h2
  have hk : Run EA 19 [] = some (.val (pb true)) := known4
  rw [show Run EA 8 [.sc (.string a), .sc (.string b)] = _ from run_fn _ A_law4_RopeCounts _ rfl rfl rfl, ← show EA = EX cpA from rfl]
  by_cases c0 : a.size ≤ 300
  case neg => simp (disch := omega) [A_law4_RopeCounts, hk, c0, dec_yes, dec_no]
  by_cases c1 : b.size ≤ 300
  case neg => simp (disch := omega) [A_law4_RopeCounts, hk, c0, c1, dec_yes, dec_no]
  have za := clean_small a c0
  have zb := clean_small b c1
  rcases ropeNew (cp := cpA) a (by omega) with ⟨h2, _⟩ | ⟨_, x, hx, d1⟩
  · omega
  rcases ropeNew (cp := cpA) b (by omega) with ⟨h2, _⟩ | ⟨_, y, hy, d2⟩
  · omega
  generalize cleanS a = A at *
  generalize cleanS b = B at *
  rcases ropeConcat (cp := cpA) hx hy (by omega) (by omega) with ⟨h2, _⟩ | ⟨_, z, hz, d3⟩
  · omega
  have d4 := ropeConcatNil (cp := cpA) hx
  have d5 := ropeSame cpA_all hx hx
  rw [decide_eq_true rfl] at d5
  have d6 := ropeCounts (cp := cpA) hx
  have d7 := ropeCounts (cp := cpA) hy
  have d8 := ropeCounts (cp := cpA) hz
  have d9 := ropeLen (cp := cpA) hz
  rw [← cntS_size _ hz.val] at d9
  have hcat := cnt_cat (b := B) hx.val
  have r1 := cntS_range A
  have r2 := cntS_range B
  rw [hcat] at d8 d9
  unfold C4.pv add4 at d8
  unfold add4 at d9
  unfold C4.pv at d6 d7
  dsimp only at d8 d9
  rw [show EX cpA = EA from rfl] at *
  generalize cntS A = ca at *
  generalize cntS B = cb at *
  simp (disch := omega) [A_law4_RopeCounts, hk, c0, c1, d1, d2, d3, d4, d5, d6, d7, d8, d9, dec_yes, dec_no, wrap_in]
end Go.Proofs.Ytomnggbideepeaa.ropeCounts
