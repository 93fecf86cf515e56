/- The law MetricBack on the small machine. No condition. -/
import Derived.Test.YtomnggbideepeaaRM4
import Derived.Test.YtomnggbideepeaaRW
import Derived.Test.YtomnggbideepeaaAT2
namespace Go.Proofs.Ytomnggbideepeaa.metricBack
set_option linter.unusedSimpArgs false
set_option linter.unusedVariables false
open Go Go.Proofs.Ytomnggbideepeaa.U Go.Proofs.Ytomnggbideepeaa.AM
def shapes : List PSh := [.one (.tx)]
set_option maxHeartbeats 4000000 in
theorem loop0 (r : PV) (t : ByteArray) (hr : Rp r t) (ht : t.size < 1000000) (a b : Int) (ha : a = 0 ∨ a = 1 ∨ a = 2) (hb : b = 0 ∨ b = 1 ∨ b = 2) (W : Nat) (hW : get4 (cntS t) a = W) : ∀ (m i : Nat), m + i = W + 1 →
    AM.Code EA L_law5_MetricBack_0 ⟨[(3, .p r), (5, .p (pi a)), (6, .p (pi b)), (7, .p (pi i))], []⟩ = some (.ex 4, ⟨[(3, .p r), (5, .p (pi a)), (6, .p (pi b)), (7, .p (pi ((W : Int) + 1))), (40, .p (pb false))], []⟩) := by
  have d1 : Run EA _ _ = _ := metricWhole (cp := cpA) hr a
  have hWs := get4_cntS t a
  rw [hW] at d1 hWs
  intro m
  induction m with
  | zero =>
    intro i hi
    have e : (i : Int) = (W : Int) + 1 := by omega
    rw [e]
    rw [L_law5_MetricBack_0, k_loop]
    simp (disch := omega) [d1, dec_yes, dec_no]
  | succ m ih =>
    intro i hi
    have hle : (i : Int) ≤ (W : Int) := by omega
    have ih' := ih (i + 1) (by omega)
    have w1 : IntKind.wrap .i64 ((i : Int) + 1) = (i : Int) + 1 := wrap_in _ (by omega) (by omega)
    have d2 : Run EA _ _ = _ := metricConvert (cp := cpA) hr (by omega) a b i
    have d3 : Run EA _ _ = _ := metricConvert (cp := cpA) hr (by omega) b a (convSpec t a b i).1
    have key := conv_ok hr.val ha hb i (by omega) (by rw [hW]; exact hle)
    rw [← ih', L_law5_MetricBack_0, k_loop]
    rcases key with c | ⟨c, e⟩
    · generalize convSpec t a b i = z at *
      simp (disch := omega) [d1, d2, hle, w1, c, dec_yes, dec_no]
    · rw [e] at d3
      generalize convSpec t a b i = z at *
      simp (disch := omega) [d1, d2, d3, hle, w1, c, dec_yes, dec_no]
set_option maxHeartbeats 4000000 in
theorem loop1 (r : PV) (t : ByteArray) (hr : Rp r t) (ht : t.size < 1000000) (a : Int) (ha : a = 0 ∨ a = 1 ∨ a = 2) : ∀ (m b : Nat), m + b = 3 →
    AM.Code EA L_law5_MetricBack_1 ⟨[(3, .p r), (5, .p (pi a)), (6, .p (pi b))], []⟩ = some (.ex 2, ⟨[(3, .p r), (5, .p (pi a)), (6, .p (pi 3)), (33, .p (pb false))], []⟩) := by
  intro m
  induction m with
  | zero =>
    intro i hi
    have : i = 3 := by omega
    subst this
    rw [L_law5_MetricBack_1, k_loop]
    simp
  | succ m ih =>
    intro b hb
    have hlt : (b : Int) < 3 := by omega
    have hb3 : (b : Int) = 0 ∨ (b : Int) = 1 ∨ (b : Int) = 2 := by omega
    have ih' := ih (b + 1) (by omega)
    have g1 := get4_cntS t a
    obtain ⟨W, hW⟩ : ∃ W : Nat, get4 (cntS t) a = W := ⟨(get4 (cntS t) a).toNat, by omega⟩
    have lp := loop0 r t hr ht a b ha hb3 W hW (W + 1) 0 (by omega)
    rw [show ((0 : Nat) : Int) = 0 from rfl] at lp
    have d1 : Run EA _ _ = _ := metricWhole (cp := cpA) hr a
    have d4 : Run EA _ _ = _ := metricWhole (cp := cpA) hr b
    have d2 : Run EA _ _ = _ := metricConvert (cp := cpA) hr (by omega) a b (get4 (cntS t) a)
    have d3 : Run EA _ _ = _ := metricConvert (cp := cpA) hr (by omega) a b (get4 (cntS t) a + 1)
    have e3 := conv_over (s := t) ha hb3
    rw [conv_end hr.val ha hb3] at d2
    have w1 : IntKind.wrap .i64 ((b : Int) + 1) = (b : Int) + 1 := wrap_in _ (by omega) (by omega)
    have w2 : IntKind.wrap .i64 (get4 (cntS t) a + 1) = get4 (cntS t) a + 1 := wrap_in _ (by omega) (by omega)
    generalize convSpec t a b (get4 (cntS t) a + 1) = z at *
    rw [hW] at d1 d2 d3 w2
    generalize get4 (cntS t) b = y at *
    rw [← ih', L_law5_MetricBack_1, k_loop]
    simp (disch := omega) [d1, d2, d3, d4, lp, hlt, w1, w2, e3, dec_yes, dec_no]
set_option maxHeartbeats 4000000 in
theorem loop2 (r : PV) (t : ByteArray) (hr : Rp r t) (ht : t.size < 1000000) : ∀ (m a : Nat), m + a = 3 →
    AM.Code EA L_law5_MetricBack_2 ⟨[(3, .p r), (5, .p (pi a))], []⟩ = some (.ex 0, ⟨[(3, .p r), (5, .p (pi 3)), (29, .p (pb false))], []⟩) := by
  intro m
  induction m with
  | zero =>
    intro i hi
    have : i = 3 := by omega
    subst this
    rw [L_law5_MetricBack_2, k_loop]
    simp
  | succ m ih =>
    intro a ha
    have hlt : (a : Int) < 3 := by omega
    have ha3 : (a : Int) = 0 ∨ (a : Int) = 1 ∨ (a : Int) = 2 := by omega
    have ih' := ih (a + 1) (by omega)
    have lp := loop1 r t hr ht a ha3 3 0 (by omega)
    rw [show ((0 : Nat) : Int) = 0 from rfl] at lp
    have w1 : IntKind.wrap .i64 ((a : Int) + 1) = (a : Int) + 1 := wrap_in _ (by omega) (by omega)
    rw [← ih', L_law5_MetricBack_2, k_loop]
    simp (disch := omega) [lp, hlt, w1, dec_yes, dec_no]
set_option maxHeartbeats 4000000 in
theorem law (xs : List PV) (h : WTAs shapes xs) : Run EA 5 xs = some (.val (.sc (.bool true))) := by
  cases h with
  | cons h1 h =>
  cases h
  obtain ⟨s, rfl, hs⟩ := wt_str h1
  clear h1
  have kn : Run EA 29 [] = some (.val (pb true)) := known5
  rw [show Run EA 5 [.sc (.string s)] = _ from run_fn _ A_law5_MetricBack _ rfl rfl rfl, ← show EA = EX cpA from rfl]
  by_cases c0 : s.size ≤ 150
  case neg => simp (disch := omega) [A_law5_MetricBack, kn, c0, dec_yes, dec_no]
  have zs := clean_small' s c0
  rcases ropeNew (cp := cpA) s (by omega) with ⟨h2, _⟩ | ⟨_, r, hr, d1⟩
  · omega
  have lp := loop2 r _ hr (by omega) 3 0 (by omega)
  rw [show ((0 : Nat) : Int) = 0 from rfl] at lp
  rw [show EX cpA = EA from rfl] at *
  simp (disch := omega) [A_law5_MetricBack, kn, c0, d1, lp, dec_yes, dec_no]
end Go.Proofs.Ytomnggbideepeaa.metricBack
