/- edit.Do, and the reference's Check and Do, on the small machine. -/
import Derived.Test.YtihgpnfkadldeaaAR20
namespace Go.Proofs.Ytihgpnfkadldeaa.AM
set_option linter.unusedSimpArgs false
set_option linter.unusedVariables false
open Go Go.Proofs.Ytihgpnfkadldeaa.U
variable {cp : List PV → Option Ret}
/-- What Do makes of a text. -/
def doS (s : ByteArray) (l : List Ch) : ByteArray := if chk s l = 0 then ⟨(doF s l 0).toArray⟩ else s
theorem extract_end (s : ByteArray) (k : Nat) : s.extract k s.size = ⟨((L s).drop k).toArray⟩ := by
  rcases Nat.le_total k s.size with h | h
  · have := extract_mk s k (s.size - k)
    rw [show k + (s.size - k) = s.size by omega] at this
    rw [this, List.take_of_length_le (by rw [List.length_drop, L_len]; exact Nat.le_refl _)]
  · rw [List.drop_of_length_le (by rw [L_len]; exact h)]
    apply L_inj
    rw [L_mk]
    apply List.eq_nil_of_length_eq_zero
    have := L_len (s.extract k s.size)
    rw [ByteArray.size_extract] at this
    show (L (s.extract k s.size)).length = 0
    omega
set_option maxHeartbeats 2000000 in
theorem editDo (s : ByteArray) (l : List Ch) (hs : s.size < 1099511627776) (hl : l.length ≤ 9223372036854775807) (hc : ∀ c ∈ l, c.s.size < 1099511627776) : Run (EX cp) 38 [.sc (.string s), .sl 3 (chs l)] = some (.val (.sc (.string (doS s l)))) := by
  have h := editCheck (cp := cp) s l hs hl hc
  rw [run_fn _ A_edit_Do _ rfl rfl rfl]
  unfold doS
  by_cases c0 : chk s l = 0
  · rw [c0] at h
    have hG := chk_good c0
    obtain ⟨acc', k', a1, a2, a3, a4, a5⟩ := do_loop (cp := cp) s l hs hG.len hc l.length 0 [] 0 (by omega) (by simp) hG.chain
    have := hG.len
    rw [List.drop_zero, List.nil_append] at a4
    rw [if_pos c0, ← a4]
    rw [show ((0 : Nat) : Int) = 0 from rfl, show bRows [] = [] from rfl] at a5
    have he := extract_end s k'.toNat
    have hxl : ((L s).drop k'.toNat).length ≤ s.size := by rw [List.length_drop, L_len]; omega
    have hsb : ∀ z : List (List PV), sbRow 5 z = [[.ow 1 0 [], .ow 5 1 z]] := fun z => rfl
    rw [hsb, hsb] at a5
    generalize (L s).drop k'.toNat = x at *
    simp (disch := omega) [A_edit_Do, h, a5, he, maxBytes, dec_yes, dec_no, wrap_in, if_yes, -getElem?_pos]
  · rw [if_neg c0]
    simp (disch := omega) [A_edit_Do, h, c0, -getElem?_pos]
/-! ### The reference -/
theorem ordered_loop (l : List Ch) (hl : l.length ≤ 9223372036854775807) : ∀ (m i : Nat), m + i + 1 = l.length →
    Code (EX cp) L_ref11_Ordered_0 ⟨[(0, .p (.sl 3 (chs l))), (3, .p (pi ((i : Int) + 1)))], []⟩ =
      if ordd (l.drop i) = true then some (.ex 0, ⟨[(0, .p (.sl 3 (chs l))), (3, .p (pi l.length)), (9, .p (pb false))], []⟩) else some (.ret, ⟨[(2, .p (pb false))], []⟩) := by
  intro m
  induction m with
  | zero =>
    intro i hi
    have hd : l.drop i = [l[i]'(by omega)] := by
      rw [List.drop_eq_getElem_cons (by omega), List.drop_of_length_le (by omega)]
    have : (i : Int) + 1 = l.length := by omega
    rw [this, hd, if_pos (by rfl), L_ref11_Ordered_0, k_loop]
    simp
  | succ m ih =>
    intro i hi
    have h0 : i < l.length := by omega
    have h1 : i + 1 < l.length := by omega
    have ih' := ih (i+1) (by omega)
    have hg0 := chs_at l i h0
    have hg1 := chs_at l (i + 1) h1
    rw [List.drop_eq_getElem_cons h1] at ih'
    rw [List.drop_eq_getElem_cons h0, List.drop_eq_getElem_cons h1]
    generalize l[i] = a at *
    generalize l[i+1] = b at *
    have hpa : a.pv = [pi a.f, pi a.t, .sc (.string a.s)] := rfl
    have hpb : b.pv = [pi b.f, pi b.t, .sc (.string b.s)] := rfl
    rw [hpa] at hg0
    rw [hpb] at hg1
    have e1 : ((i + 1 : Nat) : Int) + 1 = (i : Int) + 1 + 1 := by omega
    have e2 : ((i : Int) + 1).toNat = i + 1 := by omega
    rw [e1] at ih'
    have h1' : (i : Int) + 1 < l.length := by omega
    have e3 : (0 : Int) ≤ (i : Int) + 1 := by omega
    rw [ordd]
    by_cases c0 : b.f < a.t
    · rw [decide_eq_true c0, L_ref11_Ordered_0, k_loop]
      simp (disch := omega) [h0, h1, h1', e2, e3, hg0, hg1, c0, dec_yes, dec_no, wrap_in, -getElem?_pos]
    · by_cases c1 : b.f = a.f
      · by_cases c2 : a.f = a.t
        · rw [decide_eq_false c0, decide_eq_true c1.symm, decide_eq_true (show a.t = b.f by omega), L_ref11_Ordered_0, k_loop]
          simp (disch := omega) [h0, h1, h1', e2, e3, hg0, hg1, c0, c1, c2, dec_yes, dec_no, wrap_in, -getElem?_pos]
        · rw [decide_eq_false c0, decide_eq_true c1.symm, decide_eq_false (show ¬ a.t = b.f by omega)]
          simp only [Bool.and_false, Bool.or_false, Bool.not_false, Bool.true_and]
          rw [← ih', L_ref11_Ordered_0, k_loop]
          simp (disch := omega) [h0, h1, h1', e2, e3, hg0, hg1, c0, c1, c2, dec_yes, dec_no, wrap_in, -getElem?_pos]
      · rw [decide_eq_false c0, decide_eq_false (show ¬ a.f = b.f by omega)]
        simp only [Bool.false_and, Bool.or_false, Bool.not_false, Bool.true_and]
        rw [← ih', L_ref11_Ordered_0, k_loop]
        simp (disch := omega) [h0, h1, h1', e2, e3, hg0, hg1, c0, c1, dec_yes, dec_no, wrap_in, -getElem?_pos]
theorem refOrdered (l : List Ch) (hl : l.length ≤ 9223372036854775807) : Run (EX cp) 73 [.sl 3 (chs l)] = some (.val (pb (ordd l))) := by
  rw [run_fn _ A_ref11_Ordered _ rfl rfl rfl]
  by_cases h0 : l.length = 0
  · have : l = [] := List.eq_nil_of_length_eq_zero h0
    subst this
    have h : Code (EX cp) L_ref11_Ordered_0 ⟨[(0, .p (.sl 3 [])), (3, .p (pi 1))], []⟩ = some (.ex 0, ⟨[(0, .p (.sl 3 [])), (3, .p (pi 1)), (9, .p (pb false))], []⟩) := by
      rw [L_ref11_Ordered_0, k_loop]
      simp (disch := omega) [dec_no]
    simp (disch := omega) [A_ref11_Ordered, h, ordd]
  · have h := ordered_loop (cp := cp) l hl (l.length - 1) 0 (by omega)
    rw [List.drop_zero, show ((0 : Nat) : Int) + 1 = 1 from rfl] at h
    generalize ordd l = b at *
    cases b <;> simp (disch := omega) [A_ref11_Ordered, h]
theorem rng_loop (s : ByteArray) (l : List Ch) (hl : l.length ≤ 8) : ∀ (m i : Nat), m + i = l.length →
    Code (EX cp) L_ref17_Check_0 ⟨[(0, .p (.sc (.string s))), (1, .p (.sl 3 (chs l))), (5, .p (pi i))], []⟩ =
      if (l.drop i).any (rngB s) = true then some (.ret, ⟨[(4, .p (pi 10))], []⟩) else some (.ex 0, ⟨[(0, .p (.sc (.string s))), (1, .p (.sl 3 (chs l))), (5, .p (pi l.length)), (20, .p (pb false))], []⟩) := by
  intro m
  induction m with
  | zero =>
    intro i hi
    have : i = l.length := by omega
    subst this
    rw [List.drop_length, List.any_nil, if_neg (by simp), L_ref17_Check_0, k_loop]
    simp
  | succ m ih =>
    intro i hi
    have h1 : i < l.length := by omega
    have ih' := ih (i+1) (by omega)
    have hg := chs_at l i h1
    rw [List.drop_eq_getElem_cons h1, List.any_cons]
    generalize l[i] = c at *
    have hpv : c.pv = [pi c.f, pi c.t, .sc (.string c.s)] := rfl
    rw [hpv] at hg
    rw [show rngB s c = (decide (c.f < 0) || decide (c.t < c.f) || decide ((s.size : Int) < c.t)) from rfl]
    by_cases c0 : c.f < 0
    · rw [decide_eq_true c0, L_ref17_Check_0, k_loop]
      simp (disch := omega) [h1, hg, c0, dec_yes, dec_no, wrap_in, -getElem?_pos]
    · by_cases c1 : c.t < c.f
      · rw [decide_eq_true c1, L_ref17_Check_0, k_loop]
        simp (disch := omega) [h1, hg, c0, c1, dec_yes, dec_no, wrap_in, -getElem?_pos]
      · by_cases c2 : (s.size : Int) < c.t
        · rw [decide_eq_true c2, L_ref17_Check_0, k_loop]
          simp (disch := omega) [h1, hg, c0, c1, c2, dec_yes, dec_no, wrap_in, -getElem?_pos]
        · rw [decide_eq_false c0, decide_eq_false c1, decide_eq_false c2]
          simp only [Bool.false_or]
          rw [← ih', L_ref17_Check_0, k_loop]
          simp (disch := omega) [h1, hg, c0, c1, c2, dec_yes, dec_no, wrap_in, -getElem?_pos]
theorem edg_loop (s : ByteArray) (l : List Ch) (hs : s.size < 1099511627776) (hl : l.length ≤ 8) : ∀ (m i : Nat), m + i = l.length →
    Code (EX cp) L_ref17_Check_1 ⟨[(0, .p (.sc (.string s))), (1, .p (.sl 3 (chs l))), (6, .p (pi i))], []⟩ =
      if (l.drop i).any (edgB s) = true then some (.ret, ⟨[(4, .p (pi 11))], []⟩) else some (.ex 2, ⟨[(0, .p (.sc (.string s))), (1, .p (.sl 3 (chs l))), (6, .p (pi l.length)), (55, .p (pb false))], []⟩) := by
  intro m
  induction m with
  | zero =>
    intro i hi
    have : i = l.length := by omega
    subst this
    rw [List.drop_length, List.any_nil, if_neg (by simp), L_ref17_Check_1, k_loop]
    simp
  | succ m ih =>
    intro i hi
    have h1 : i < l.length := by omega
    have ih' := ih (i+1) (by omega)
    have hg := chs_at l i h1
    rw [List.drop_eq_getElem_cons h1, List.any_cons]
    generalize l[i] = c at *
    have hpv : c.pv = [pi c.f, pi c.t, .sc (.string c.s)] := rfl
    rw [hpv] at hg
    have n1 := refIsEdge (cp := cp) s c.f hs
    have n2 := refIsEdge (cp := cp) s c.t hs
    rw [show edgB s c = (!edge s c.f || !edge s c.t) from rfl]
    generalize edge s c.f = b1 at *
    generalize edge s c.t = b2 at *
    cases b1
    · rw [L_ref17_Check_1, k_loop]
      simp (disch := omega) [h1, hg, n1, dec_yes, dec_no, wrap_in, -getElem?_pos]
    · cases b2
      · rw [L_ref17_Check_1, k_loop]
        simp (disch := omega) [h1, hg, n1, n2, dec_yes, dec_no, wrap_in, -getElem?_pos]
      · simp only [Bool.not_true, Bool.false_or]
        rw [← ih', L_ref17_Check_1, k_loop]
        simp (disch := omega) [h1, hg, n1, n2, dec_yes, dec_no, wrap_in, -getElem?_pos]
theorem txt_loop (l : List Ch) (n : Int) (hc : ∀ c ∈ l, c.s.size < 1099511627776) (hl : l.length ≤ 8) : ∀ (m i : Nat), m + i = l.length →
    Code (EX cp) L_ref17_Check_2 ⟨[(1, .p (.sl 3 (chs l))), (7, .p (pi n)), (8, .p (pi i))], []⟩ =
      if (l.drop i).any badS' = true then some (.ret, ⟨[(4, .p (pi 12))], []⟩) else some (.ex 4, ⟨[(1, .p (.sl 3 (chs l))), (7, .p (pi n)), (8, .p (pi l.length)), (84, .p (pb false))], []⟩) := by
  intro m
  induction m with
  | zero =>
    intro i hi
    have : i = l.length := by omega
    subst this
    rw [List.drop_length, List.any_nil, if_neg (by simp), L_ref17_Check_2, k_loop]
    simp
  | succ m ih =>
    intro i hi
    have h1 : i < l.length := by omega
    have ih' := ih (i+1) (by omega)
    have hg := chs_at l i h1
    have hcs := hc l[i] (List.getElem_mem h1)
    rw [List.drop_eq_getElem_cons h1, List.any_cons]
    generalize l[i] = c at *
    have hpv : c.pv = [pi c.f, pi c.t, .sc (.string c.s)] := rfl
    rw [hpv] at hg
    have n1 := refValid (cp := cp) c.s hcs
    rw [show badS' c = !valid (L c.s) from rfl]
    generalize valid (L c.s) = b1 at *
    cases b1
    · rw [L_ref17_Check_2, k_loop]
      simp (disch := omega) [h1, hg, n1, dec_yes, dec_no, wrap_in, -getElem?_pos]
    · simp only [Bool.not_true, Bool.false_or]
      rw [← ih', L_ref17_Check_2, k_loop]
      simp (disch := omega) [h1, hg, n1, dec_yes, dec_no, wrap_in, -getElem?_pos]
def cutN : Int → List Ch → Int
  | n, [] => n
  | n, c :: l => cutN (n - (c.t - c.f)) l
theorem cut_nloop (l : List Ch) (z : Nat) (hz : z < 1099511627776) (hr : ∀ c ∈ l, 0 ≤ c.f ∧ c.f ≤ c.t ∧ c.t ≤ z) (hl : l.length ≤ 8) : ∀ (m i : Nat) (n : Int), m + i = l.length → n ≤ z → -1099511627776 * i ≤ n →
    Code (EX cp) L_ref17_Check_3 ⟨[(1, .p (.sl 3 (chs l))), (7, .p (pi n)), (9, .p (pi i))], []⟩ =
      some (.ex 6, ⟨[(1, .p (.sl 3 (chs l))), (7, .p (pi (cutN n (l.drop i)))), (9, .p (pi l.length)), (97, .p (pb false))], []⟩) := by
  intro m
  induction m with
  | zero =>
    intro i n hi h1 h2
    have : i = l.length := by omega
    subst this
    rw [List.drop_length, cutN, L_ref17_Check_3, k_loop]
    simp
  | succ m ih =>
    intro i n hi hn1 hn2
    have h1 : i < l.length := by omega
    have hg := chs_at l i h1
    have hcr := hr l[i] (List.getElem_mem h1)
    rw [List.drop_eq_getElem_cons h1, cutN]
    generalize l[i] = c at *
    have hpv : c.pv = [pi c.f, pi c.t, .sc (.string c.s)] := rfl
    rw [hpv] at hg
    rw [← ih (i+1) (n - (c.t - c.f)) (by omega) (by omega) (by omega), L_ref17_Check_3, k_loop]
    simp (disch := omega) [h1, hg, dec_yes, dec_no, wrap_in, -getElem?_pos]
theorem cutN_bound (z : Nat) : ∀ (l : List Ch) (n : Int), (∀ c ∈ l, 0 ≤ c.f ∧ c.f ≤ c.t ∧ c.t ≤ z) → cutN n l ≤ n ∧ n - z * l.length ≤ cutN n l
  | [], n, _ => by simp [cutN]
  | c :: l, n, h => by
    have h1 := h c (by simp)
    have ih := cutN_bound z l (n - (c.t - c.f)) fun c hc => h c (by simp [hc])
    rw [cutN, List.length_cons]
    have : (z : Int) * ((l.length + 1 : Nat) : Int) = z * l.length + z := by rw [Int.natCast_add, Int.mul_add]; simp
    omega
/-- The reference's room: too long? -/
def addN : Int → List Ch → Bool
  | _, [] => false
  | n, c :: l => decide (20000 - n < c.s.size) || addN (n + c.s.size) l
theorem add_nloop (l : List Ch) (hl : l.length ≤ 8) : ∀ (m i : Nat) (n : Int), m + i = l.length → -17592186044416 ≤ n → n ≤ 20000 →
    ∃ k : Int, Code (EX cp) L_ref17_Check_4 ⟨[(1, .p (.sl 3 (chs l))), (7, .p (pi n)), (10, .p (pi i))], []⟩ =
      if addN n (l.drop i) = true then some (.ret, ⟨[(4, .p (pi 13))], []⟩) else some (.ex 8, ⟨[(1, .p (.sl 3 (chs l))), (7, .p (pi k)), (10, .p (pi l.length)), (118, .p (pb false))], []⟩) := by
  intro m
  induction m with
  | zero =>
    intro i n hi h1 h2
    have : i = l.length := by omega
    subst this
    refine ⟨n, ?_⟩
    rw [List.drop_length, addN, if_neg (by simp), L_ref17_Check_4, k_loop]
    simp
  | succ m ih =>
    intro i n hi hn1 hn2
    have h1 : i < l.length := by omega
    have hg := chs_at l i h1
    rw [List.drop_eq_getElem_cons h1, addN]
    generalize l[i] = c at *
    have hpv : c.pv = [pi c.f, pi c.t, .sc (.string c.s)] := rfl
    rw [hpv] at hg
    by_cases c0 : 20000 - n < c.s.size
    · refine ⟨0, ?_⟩
      rw [decide_eq_true c0, L_ref17_Check_4, k_loop]
      simp (disch := omega) [h1, hg, c0, dec_yes, dec_no, wrap_in, -getElem?_pos]
    · obtain ⟨k, hk⟩ := ih (i+1) (n + c.s.size) (by omega) (by omega) (by omega)
      refine ⟨k, ?_⟩
      rw [decide_eq_false c0, Bool.false_or, ← hk, L_ref17_Check_4, k_loop]
      simp (disch := omega) [h1, hg, c0, dec_yes, dec_no, wrap_in, -getElem?_pos]
end Go.Proofs.Ytihgpnfkadldeaa.AM
