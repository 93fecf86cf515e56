/- Package metric on the small machine: Upto, Whole, To, From, Convert. For texts of fewer than 2^28 bytes. -/
import Derived.Test.YtomnggbideepeaaRM1
namespace Go.Proofs.Ytomnggbideepeaa.AM
set_option linter.unusedSimpArgs false
set_option linter.unusedVariables false
open Go Go.Proofs.Ytomnggbideepeaa.U
variable {cp : List PV → Option Ret}
theorem upto1 (k n : Int) : Tells cp 90 [.pt [pi k], .pt [pi n]] fun c => decide (n ≤ get4 c k) := by
  intro c hc
  have d := countGet (cp := cp) c k
  rw [run_fn _ A_rope_Rope_Upto_1 _ rfl rfl rfl]
  unfold C4.pv at d ⊢
  simp [A_rope_Rope_Upto_1, d]
theorem mono_get (k n : Int) : Mono fun c => decide (n ≤ get4 c k) := by
  intro c l h
  have := (get4_cntP l k).1
  simp only [decide_eq_true_eq] at h ⊢
  rw [get4_add]
  omega
/-- Where so many of a kind are found. -/
theorem seek_get (P : List ByteArray) (k n : Int) (h1 : 1 ≤ n) (h2 : n ≤ get4 (cntP P) k) : ∃ i, ∃ hi : i < P.length, seekL (fun c : C4 => decide (n ≤ get4 c k)) P (0, 0, 0, 0) 0 = (i, cntP (P.take i)) ∧ get4 (cntP (P.take i)) k < n ∧ n ≤ get4 (cntP (P.take (i + 1))) k := by
  obtain ⟨i, e1, e2, e3, e4⟩ := seekL_spec (fun c : C4 => decide (n ≤ get4 c k)) P (0, 0, 0, 0) 0
  rw [zero_add4, Nat.zero_add] at e2
  have hlt : get4 (cntP (P.take i)) k < n := by
    by_cases h0 : i = 0
    · subst h0
      rw [List.take_zero, show cntP [] = (0, 0, 0, 0) from rfl, get4_zero]; omega
    · have := e4 i (by omega) (Nat.le_refl _)
      rw [zero_add4, decide_eq_false_iff_not] at this
      omega
  have hi : i < P.length := by
    rcases Nat.lt_or_ge i P.length with h | h
    · exact h
    · rw [List.take_of_length_le h] at hlt; omega
  refine ⟨i, hi, e2, hlt, ?_⟩
  have := e3 hi
  rw [zero_add4, decide_eq_true_eq] at this
  exact this
set_option maxHeartbeats 2000000 in
theorem ropeUpto {r : PV} {s : ByteArray} (h : Rp r s) (k n : Int) (h1 : 1 ≤ n) (h2 : n ≤ get4 (cntS s) k) : ∃ (P : List ByteArray) (i : Nat), okP P ∧ flat P = L s ∧ ∃ hi : i < P.length, get4 (cntP (P.take i)) k < n ∧ n ≤ get4 (cntP (P.take (i + 1))) k ∧
    Run (EX cp) 70 [r, pi k, pi n] = some (.val (.tu [.sc (.string P[i]), (cntP (P.take i)).pv])) := by
  obtain ⟨x, P, rfl, p1, p2, p3, p4⟩ := h
  have hfl : (flat P).length = s.size := by rw [p3, L_len]
  have bP := p2.bd (by omega)
  rw [cntS_flat p2 p3] at h2
  obtain ⟨i, hi, i2, i3, i4⟩ := seek_get P k n h1 h2
  have d1 := seqSeek (cp := cp) _ _ _ (upto1 (cp := cp) k n) (mono_get k n) (by rw [get4_zero]; exact decide_eq_false (by omega)) x P p1 bP
  rw [i2] at d1
  have d2 := seqLen (cp := cp) x P p1
  have d3 := seqAt (cp := cp) x P p1 bP i hi
  refine ⟨P, i, p2, p3, hi, i3, i4, ?_⟩
  rw [run_fn _ A_rope_Rope_Upto _ rfl rfl rfl]
  unfold C4.pv at d1 ⊢
  have hne : ¬ (i : Int) = (P.length : Int) := by omega
  generalize cntP (P.take i) = c2 at *
  generalize P[i] = y at *
  dsimp only at d1
  simp (disch := omega) [A_rope_Rope_Upto, d1, d2, d3, hne, dec_yes, dec_no]
theorem metricWhole {r : PV} {s : ByteArray} (h : Rp r s) (k : Int) : Run (EX cp) 30 [r, pi k] = some (.val (pi (get4 (cntS s) k))) := by
  have d1 := ropeCounts (cp := cp) h
  have d2 := countGet (cp := cp) (cntS s) k
  obtain ⟨x, P, rfl, p1, p2, p3, p4⟩ := h
  rw [run_fn _ A_metric_Whole _ rfl rfl rfl]
  unfold C4.pv at d1 d2
  generalize cntS s = q at *
  simp [A_metric_Whole, d1, d2]
theorem metricTold (n e : Int) : Run (EX cp) 72 [pi n, pi e] = some (.val (.tu [pi (toldP n e).1, pi (toldP n e).2])) := by
  rw [run_fn _ A_metric_told_int _ rfl rfl rfl]
  unfold toldP
  by_cases c : e = 0
  · rw [if_pos c]; subst c; simp [A_metric_told_int]
  · rw [if_neg c]; simp [A_metric_told_int, c]
theorem toEnd_range (c : C4) (k n : Int) (h : 0 ≤ c.1 ∧ c.1 ≤ 4294967296) : 0 ≤ (toEnd c k n).1 ∧ (toEnd c k n).1 ≤ 4294967296 := by
  unfold toEnd
  split
  · exact h
  · split <;> simp
theorem stopAt_range (k n : Int) : ∀ (us : List Int) (c : C4), 0 ≤ c.1 → 0 ≤ (stopAt k n us c).1 ∧ (stopAt k n us c).1 ≤ c.1 + 4 * us.length := by
  intro us
  induction us with
  | nil => intro c h; rw [stopAt]; simp; exact h
  | cons v us ih =>
    intro c h
    rw [stopAt]
    have a := enc_len v
    split
    · rw [List.length_cons]; omega
    · have := ih (add4 c (one4 v)) (by simp only [add4, one4]; omega)
      simp only [add4, one4] at this ⊢
      rw [List.length_cons]; omega
theorem toSpec_range (s : ByteArray) (k n : Int) : 0 ≤ (toSpec s k n).1 ∧ (toSpec s k n).1 ≤ 4 * s.size := by
  unfold toSpec
  have hp := points_le (L s)
  rw [L_len] at hp
  have := stopAt_range k n (points (L s)) (0, 0, 0, 0) (by simp)
  split
  · split
    · simp; omega
    · unfold toEnd
      split
      · dsimp only at this ⊢; omega
      · split <;> (simp; try omega)
  · simp; omega
theorem fromSpec_range (s : ByteArray) (k a : Int) : 0 ≤ (fromSpec s k a).1 ∧ (fromSpec s k a).1 ≤ 4 * s.size := by
  unfold fromSpec
  split
  · split
    · simp; omega
    · split
      · have h1 := get4_cntS (s.extract 0 a.toNat) k
        have : (s.extract 0 a.toNat).size ≤ s.size := by rw [← L_len, ex_take, List.length_take, L_len]; omega
        dsimp only
        omega
      · simp; omega
  · simp; omega
set_option maxHeartbeats 2000000 in
theorem metricTo {r : PV} {s : ByteArray} (h : Rp r s) (hs : s.size < 268435456) (k n : Int) : Run (EX cp) 40 [r, pi k, pi n] = some (.val (.tu [pi (toSpec s k n).1, pi (toSpec s k n).2])) := by
  have d1 := countIs (cp := cp) k
  have d2 := metricWhole (cp := cp) h k
  have up := ropeUpto (cp := cp) h k n
  rw [run_fn _ A_metric_To _ rfl rfl rfl]
  by_cases c1 : 0 ≤ k ∧ k ≤ 3
  case neg =>
    unfold toSpec
    rw [if_neg c1]
    rw [decide_eq_false c1] at d1
    simp (disch := omega) [A_metric_To, d1]
  rw [decide_eq_true c1] at d1
  by_cases c2 : n < 0
  · unfold toSpec
    rw [if_pos c1, if_pos (.inl c2)]
    simp (disch := omega) [A_metric_To, d1, d2, c2, dec_yes, dec_no]
  by_cases c3 : get4 (cntS s) k < n
  · unfold toSpec
    rw [if_pos c1, if_pos (.inr c3)]
    generalize get4 (cntS s) k = q at *
    simp (disch := omega) [A_metric_To, d1, d2, c2, c3, dec_yes, dec_no]
  by_cases c4 : n = 0
  · have e : toSpec s k n = (0, 0) := by
      unfold toSpec
      rw [if_pos c1, if_neg (by omega)]
      have : stopAt k n (points (L s)) (0, 0, 0, 0) = (0, 0, 0, 0) := by
        cases points (L s) with
        | nil => rfl
        | cons v l => rw [stopAt, get4_zero, if_pos (by omega)]
      rw [this]
      unfold toEnd
      rw [get4_zero, if_pos c4.symm]
    rw [e]
    generalize get4 (cntS s) k = q at *
    simp (disch := omega) [A_metric_To, d1, d2, c2, c3, c4, dec_yes, dec_no]
  obtain ⟨P, i, p2, p3, hi, i3, i4, d3⟩ := up (by omega) (by omega)
  rw [to_pieces p2 p3 k n c1 i hi i3 i4 (by omega)]
  have hx := p2.val _ (List.getElem_mem hi)
  have d4 := countTo (cp := cp) P[i] (by omega) hx.1 k (n - get4 (cntP (P.take i)) k)
  have d5 := countGet (cp := cp) (cntP (P.take i)) k
  have g1 := get4_cntP (P.take i) k
  have g2 := cntP_range (P.take i)
  have g3 := toSpec_range P[i] k (n - get4 (cntP (P.take i)) k)
  have g4 := get4_cntS s k
  have hft : (flat (P.take i)).length ≤ s.size := by
    rw [← L_len s, ← p3]
    conv => rhs; rw [← List.take_append_drop i P, flat_append, List.length_append]
    omega
  have w1 : IntKind.wrap .i64 (n - get4 (cntP (P.take i)) k) = n - get4 (cntP (P.take i)) k := wrap_in _ (by omega) (by omega)
  have w2 : IntKind.wrap .i64 ((cntP (P.take i)).1 + (toSpec P[i] k (n - get4 (cntP (P.take i)) k)).1) = (cntP (P.take i)).1 + (toSpec P[i] k (n - get4 (cntP (P.take i)) k)).1 := wrap_in _ (by omega) (by omega)
  have d6 := metricTold (cp := cp) ((cntP (P.take i)).1 + (toSpec P[i] k (n - get4 (cntP (P.take i)) k)).1) (toSpec P[i] k (n - get4 (cntP (P.take i)) k)).2
  unfold C4.pv at d3 d5
  generalize toSpec P[i] k (n - get4 (cntP (P.take i)) k) = z at *
  generalize hq1 : cntP (P.take i) = q1 at *
  generalize P[i] = y at *
  generalize get4 (cntS s) k = q at *
  generalize toldP (q1.1 + z.1) z.2 = zz at *
  simp (disch := omega) [A_metric_To, d1, d2, d3, d4, d5, d6, c2, c3, c4, w1, w2, dec_yes, dec_no]
set_option maxHeartbeats 2000000 in
theorem metricFrom {r : PV} {s : ByteArray} (h : Rp r s) (hs : s.size < 268435456) (k a : Int) : Run (EX cp) 39 [r, pi k, pi a] = some (.val (.tu [pi (fromSpec s k a).1, pi (fromSpec s k a).2])) := by
  have d1 := countIs (cp := cp) k
  have d2 := metricWhole (cp := cp) h 0
  have up := ropeUpto (cp := cp) h 0 a
  have hsz : get4 (cntS s) 0 = s.size := by
    show (cntS s).1 = s.size
    exact cntS_size s h.val
  rw [hsz] at d2 up
  rw [run_fn _ A_metric_From _ rfl rfl rfl]
  by_cases c1 : 0 ≤ k ∧ k ≤ 3
  case neg =>
    unfold fromSpec
    rw [if_neg c1]
    rw [decide_eq_false c1] at d1
    simp (disch := omega) [A_metric_From, d1]
  rw [decide_eq_true c1] at d1
  by_cases c2 : a < 0
  · unfold fromSpec
    rw [if_pos c1, if_pos (.inl c2)]
    simp (disch := omega) [A_metric_From, d1, d2, c2, dec_yes, dec_no]
  by_cases c3 : (s.size : Int) < a
  · unfold fromSpec
    rw [if_pos c1, if_pos (.inr c3)]
    simp (disch := omega) [A_metric_From, d1, d2, c2, c3, dec_yes, dec_no]
  by_cases c4 : a = 0
  · have e : fromSpec s k a = (0, 0) := by
      subst c4
      have he : edge s 0 = true := by
        have := cut_of_edge (s := s) 0 (by omega) (by rw [List.take_zero]; exact valid_nil) (by rw [List.drop_zero]; exact h.val)
        exact this
      unfold fromSpec
      rw [if_pos c1, if_neg (by omega), if_pos he]
      have : s.extract 0 (0 : Int).toNat = ⟨#[]⟩ := empty_eq (by rw [← L_len, ex_take]; simp)
      rw [this, show cntS ⟨#[]⟩ = (0, 0, 0, 0) from by unfold cntS; rw [show L ⟨#[]⟩ = [] from rfl, points_nil]; rfl, get4_zero]
    rw [e]
    simp (disch := omega) [A_metric_From, d1, d2, c2, c3, c4, dec_yes, dec_no]
  obtain ⟨P, i, p2, p3, hi, i3, i4, d3⟩ := up (by omega) (by omega)
  have hx := p2.val _ (List.getElem_mem hi)
  have hb : ∀ j, get4 (cntP (P.take j)) 0 = (flat (P.take j)).length := fun j => by
    show (cntP (P.take j)).1 = _
    exact cntP_bytes fun x hx => (p2.val x (List.mem_of_mem_take hx)).1
  have hsu : (flat (P.take (i + 1))).length = (flat (P.take i)).length + P[i].size := by
    rw [List.take_succ_eq_append_getElem hi, flat_append, List.length_append, flat_cons, List.length_append, L_len]; simp [flat]
  rw [hb] at i3 i4
  obtain ⟨b, rfl⟩ : ∃ b : Nat, a = (((flat (P.take i)).length + b : Nat) : Int) := ⟨(a - (flat (P.take i)).length).toNat, by omega⟩
  rw [from_pieces p2 p3 k c1 i hi b (by omega) (by omega)]
  have d4 := countFrom (cp := cp) P[i] (by omega) hx.1 k b
  have d5 := countGet (cp := cp) (cntP (P.take i)) k
  have g1 := get4_cntP (P.take i) k
  have g3 := fromSpec_range P[i] k b
  have w1 : IntKind.wrap .i64 ((((flat (P.take i)).length + b : Nat) : Int) - (flat (P.take i)).length) = b := by rw [wrap_in _ (by omega) (by omega)]; omega
  have w2 : IntKind.wrap .i64 (get4 (cntP (P.take i)) k + (fromSpec P[i] k b).1) = get4 (cntP (P.take i)) k + (fromSpec P[i] k b).1 := wrap_in _ (by omega) (by omega)
  have d6 := metricTold (cp := cp) (get4 (cntP (P.take i)) k + (fromSpec P[i] k b).1) (fromSpec P[i] k b).2
  have e1 : (cntP (P.take i)).1 = (flat (P.take i)).length := hb i
  unfold C4.pv at d3 d5
  rw [e1] at d3 d5
  generalize fromSpec P[i] k b = z at *
  generalize get4 (cntP (P.take i)) k = g at *
  generalize (cntP (P.take i)).2 = q1 at *
  generalize (flat (P.take i)).length = fl at *
  generalize hA : ((fl + b : Nat) : Int) = A at *
  generalize P[i] = y at *
  generalize toldP (g + z.1) z.2 = zz at *
  simp (disch := omega) [A_metric_From, d1, d2, d3, d4, d5, d6, c2, c3, c4, w1, w2, dec_yes, dec_no]
theorem metricConvert {r : PV} {s : ByteArray} (h : Rp r s) (hs : s.size < 268435456) (k j n : Int) : Run (EX cp) 31 [r, pi k, pi j, pi n] = some (.val (.tu [pi (convSpec s k j n).1, pi (convSpec s k j n).2])) := by
  have d1 := countIs (cp := cp) k
  have d2 := countIs (cp := cp) j
  have d3 := metricTo (cp := cp) h hs k n
  have d4 := metricFrom (cp := cp) h hs j (toSpec s k n).1
  rw [run_fn _ A_metric_Convert _ rfl rfl rfl]
  unfold convSpec
  by_cases c1 : 0 ≤ k ∧ k ≤ 3
  case neg =>
    rw [if_neg (fun h => c1 h.1)]
    rw [decide_eq_false c1] at d1
    simp (disch := omega) [A_metric_Convert, d1]
  rw [decide_eq_true c1] at d1
  by_cases c2 : 0 ≤ j ∧ j ≤ 3
  case neg =>
    rw [if_neg (fun h => c2 h.2)]
    rw [decide_eq_false c2] at d2
    simp (disch := omega) [A_metric_Convert, d1, d2]
  rw [decide_eq_true c2] at d2
  rw [if_pos ⟨c1, c2⟩]
  by_cases c3 : (toSpec s k n).2 = 0
  · rw [if_neg (by omega)]
    generalize toSpec s k n = z at *
    generalize fromSpec s j z.1 = y at *
    simp (disch := omega) [A_metric_Convert, d1, d2, d3, d4, c3]
  · rw [if_pos c3]
    generalize toSpec s k n = z at *
    simp (disch := omega) [A_metric_Convert, d1, d2, d3, c3]
end Go.Proofs.Ytomnggbideepeaa.AM
