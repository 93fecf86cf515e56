/- The law MetricParts on the small machine. No condition. -/
import Derived.Test.YtomnggbideepeaaRM4
import Derived.Test.YtomnggbideepeaaRW
import Derived.Test.YtomnggbideepeaaAT2
namespace Go.Proofs.Ytomnggbideepeaa.metricParts
set_option linter.unusedSimpArgs false
set_option linter.unusedVariables false
open Go Go.Proofs.Ytomnggbideepeaa.U Go.Proofs.Ytomnggbideepeaa.AM
def shapes : List PSh := [.one (.tx), .one (.i .u16), .one (.i .u8)]
theorem wt_u16 {x : PV} (h : WTA (.one (.i .u16)) x) : ∃ n : Nat, x = .sc (.int .u16 (n : Int)) ∧ n < 65536 := by
  cases h with
  | one h => cases h with
    | i hw =>
      rename_i n
      simp [Lit.wf, IntKind.min, IntKind.max, IntKind.signed, IntKind.bits] at hw
      obtain ⟨m, rfl⟩ : ∃ m : Nat, n = m := ⟨n.toNat, by omega⟩
      exact ⟨m, rfl, by omega⟩
set_option maxHeartbeats 4000000 in
theorem law (xs : List PV) (h : WTAs shapes xs) : Run EA 12 xs = some (.val (.sc (.bool true))) := by
  cases h with
  | cons h1 h => cases h with
  | cons h2 h => cases h with
  | cons h3 h =>
  cases h
  obtain ⟨s, rfl, hs⟩ := wt_str h1
  obtain ⟨a, rfl, ha⟩ := wt_u16 h2
  obtain ⟨b, rfl⟩ := wt_byte h3
  clear h1 h2 h3
  have kn : Run EA 29 [] = some (.val (pb true)) := known5
  rw [show Run EA 12 [.sc (.string s), .sc (.int .u16 (a : Int)), .sc (.int .u8 b.toNat)] = _ from run_fn _ A_law5_MetricParts _ rfl rfl rfl, ← show EA = EX cpA from rfl]
  by_cases c0 : s.size ≤ 300
  case neg => simp (disch := omega) [A_law5_MetricParts, kn, c0, dec_yes, dec_no]
  have zs := clean_small' s c0
  rcases ropeNew (cp := cpA) s (by omega) with ⟨h2, _⟩ | ⟨_, r, hr, d1⟩
  · omega
  have hv := hr.val
  generalize cleanS s = t at *
  have hb := b.toNat_lt
  obtain ⟨k, hk⟩ : ∃ k : Nat, k = b.toNat % 4 := ⟨_, rfl⟩
  obtain ⟨p, hp⟩ : ∃ p : Nat, p = a % (t.size + 1) := ⟨_, rfl⟩
  have hp1 : p < t.size + 1 := by rw [hp]; exact Nat.mod_lt _ (by omega)
  have w1 : (b.toNat : Int).tmod 4 = (k : Int) := by rw [hk]; exact tmod_nat b.toNat 4
  have w2 : IntKind.wrap .i64 (k : Int) = k := wrap_in _ (by omega) (by omega)
  have w3 : IntKind.wrap .i64 (a : Int) = a := wrap_in _ (by omega) (by omega)
  have w4 : IntKind.wrap .i64 ((t.size : Int) + 1) = (t.size : Int) + 1 := wrap_in _ (by omega) (by omega)
  have w5 : (a : Int).tmod ((t.size : Int) + 1) = (p : Int) := by rw [hp]; exact tmod_nat a (t.size + 1)
  have hne : ¬ ((t.size : Int) + 1) = 0 := by omega
  have d2 := ropeLen (cp := cpA) hr
  have d3 := metricFrom (cp := cpA) hr (by omega) k p
  have d4 := ropeIsEdge (cp := cpA) hr p
  have s1 := ropeSlice (cp := cpA) hr 0 p
  have s2 := ropeSlice (cp := cpA) hr p t.size
  have d5 := metricWhole (cp := cpA) hr k
  have e0 : edge t 0 = true := cut_of_edge (s := t) 0 (by omega) (by rw [List.take_zero]; exact valid_nil) (by rw [List.drop_zero]; exact hv)
  have e9 := edge_last hv
  rw [show EX cpA = EA from rfl] at *
  cases he : edge t (p : Int)
  · have k1 : chkR t 0 p = 11 := by unfold chkR; rw [if_neg (by omega), he, if_neg (by simp)]
    have k2 : chkR t p t.size = 11 := by unfold chkR; rw [if_neg (by omega), he, if_neg (by simp)]
    rw [k1] at s1
    rw [k2] at s2
    rcases s1 with ⟨_, d6⟩ | ⟨h, _⟩
    case inr => omega
    rcases s2 with ⟨_, d7⟩ | ⟨h, _⟩
    case inr => omega
    rw [he] at d4
    rw [fromSpec_split (by omega) p (by omega) he] at d3
    simp (disch := omega) [A_law5_MetricParts, kn, c0, w1, w2, w3, w4, w5, hne, d1, d2, d3, d4, d6, d7, dec_yes, dec_no]
  · have k1 : chkR t 0 p = 0 := by unfold chkR; rw [if_neg (by omega), he, e0, if_pos (by simp)]
    have k2 : chkR t p t.size = 0 := by unfold chkR; rw [if_neg (by omega), he, e9, if_pos (by simp)]
    rcases s1 with ⟨h, _⟩ | ⟨_, ra, hra, d6⟩
    · exact absurd k1 h
    rcases s2 with ⟨h, _⟩ | ⟨_, rb, hrb, d7⟩
    · exact absurd k2 h
    rw [show (0 : Int).toNat = 0 from rfl, Int.toNat_natCast] at hra
    rw [Int.toNat_natCast, Int.toNat_natCast] at hrb
    have d8 := metricWhole (cp := cpA) hra k
    have d9 := metricWhole (cp := cpA) hrb k
    have hsum : get4 (cntS t) k = get4 (cntS (t.extract 0 p)) k + get4 (cntS (t.extract p t.size)) k := by
      rw [cntS_cut p (by omega) he, get4_add]
    have g1 := get4_cntS t k
    have g2 := get4_cntS (t.extract 0 p) k
    have g3 := get4_cntS (t.extract p t.size) k
    rw [he] at d4
    rw [fromSpec_edge (by omega) p (by omega) he] at d3
    rw [show EX cpA = EA from rfl] at *
    generalize get4 (cntS t) k = y at *
    generalize get4 (cntS (t.extract 0 p)) k = y1 at *
    generalize get4 (cntS (t.extract p t.size)) k = y2 at *
    have w6 : IntKind.wrap .i64 (y1 + y2) = y := by rw [wrap_in _ (by omega) (by omega)]; omega
    simp (disch := omega) [A_law5_MetricParts, kn, c0, w1, w2, w3, w4, w5, w6, hne, d1, d2, d3, d4, d5, d6, d7, d8, d9, dec_yes, dec_no]
end Go.Proofs.Ytomnggbideepeaa.metricParts
