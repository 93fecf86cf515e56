/- The law EditTells on the small machine. No condition. -/
import Derived.Test.YtihgpnfkadldeaaAR22
import Derived.Test.YtihgpnfkadldeaaAT1
namespace Go.Proofs.Ytihgpnfkadldeaa.editTells
set_option linter.unusedSimpArgs false
set_option linter.unusedVariables false
open Go Go.Proofs.Ytihgpnfkadldeaa.U Go.Proofs.Ytihgpnfkadldeaa.AM
def shapes : List PSh := [.one (.tx), .one (.sl [.i .i64, .i .i64, .tx])]
set_option maxHeartbeats 4000000 in
theorem law (xs : List PV) (h : WTAs shapes xs) : Run EW 8 xs = some (.val (.sc (.bool true))) := by
  cases h with
  | cons h1 h => cases h with
  | cons h2 h =>
  cases h
  obtain ⟨s, rfl, hs⟩ := wt_str h1
  obtain ⟨l, rfl, hl, hw⟩ := wt_chs h2
  have hk : Run EW 34 [] = some (.val (pb true)) := known18
  have hf : Run EW 35 [.sl 5 [], .sl 3 (chs l)] = some (.val (pb (few18 [] l))) := refFew18 [] l (by simp) hl
  rw [show Run EW 8 [.sc (.string s), .sl 3 (chs l)] = _ from run_fn _ A_law18_EditTells _ rfl rfl rfl, ← show EW = EX cpF from rfl]
  by_cases c0 : s.size ≤ 300
  case neg => simp (disch := omega) [A_law18_EditTells, hk, dec_yes, dec_no]
  by_cases c1 : few18 [] l = true
  case neg =>
    rw [Bool.not_eq_true] at c1
    rw [c1] at hf
    simp (disch := omega) [A_law18_EditTells, hk, hf, c0, dec_yes, dec_no]
  rw [c1] at hf
  have hc : ∀ c ∈ l, c.s.size < 1099511627776 := fun c hc => by
    unfold few18 at c1
    simp only [Bool.and_eq_true, List.all_eq_true] at c1
    have := c1.1.1.2 c hc
    unfold fewC at this
    rw [decide_eq_true_eq] at this
    omega
  have d1 : Run EW 36 _ = _ := editCheck (cp := cpF) s l (by omega) hl hc
  have d2 : Run EW 37 _ = _ := refCheck (cp := cpF) s l (by omega) hl hc
  have d3 : Run EW 38 _ = _ := editDo (cp := cpF) s l (by omega) hl hc
  have d4 : Run EW 39 _ = _ := refDo (cp := cpF) s l (by omega) hl hc
  simp (disch := omega) [A_law18_EditTells, hk, hf, c0, d1, d2, d3, d4, dec_yes, dec_no]
end Go.Proofs.Ytihgpnfkadldeaa.editTells
