/- The reference's Check, Do, and few, on the small machine. -/
import Derived.Test.YtihgpnfkadldeaaAR21
namespace Go.Proofs.Ytihgpnfkadldeaa.AM
set_option linter.unusedSimpArgs false
set_option linter.unusedVariables false
open Go Go.Proofs.Ytihgpnfkadldeaa.U
variable {cp : List PV → Option Ret}
theorem lngA_cut (s : ByteArray) (hs : s.size < 1099511627776) : ∀ (l : List Ch) (n : Int), (∀ c ∈ l, 0 ≤ c.f ∧ c.f ≤ c.t ∧ c.t ≤ s.size) → lngA s (20000 - n) l = 20000 - cutN n l
  | [], n, _ => rfl
  | c :: l, n, h => by
    have h1 := h c (by simp)
    have hw : IntKind.wrap .i64 (c.t - c.f) = c.t - c.f := wrap_in _ (by omega) (by omega)
    have ih := lngA_cut s hs l (n - (c.t - c.f)) fun c hc => h c (by simp [hc])
    rw [lngA, cutN, hw, ← ih]
    congr 1
    omega
theorem lngB_add : ∀ (l : List Ch) (n : Int), n ≤ 20000 → (match lngB (20000 - n) l with | none => true | some k => decide (k < 0)) = addN n l
  | [], n, h => by simp [lngB, addN]; omega
  | c :: l, n, h => by
    rw [lngB, addN]
    by_cases c0 : 20000 - n < c.s.size
    · rw [if_pos c0, decide_eq_true c0]; rfl
    · have ih := lngB_add l (n + c.s.size) (by omega)
      rw [if_neg c0, decide_eq_false c0, Bool.false_or, ← ih, show (20000 : Int) - (n + c.s.size) = 20000 - n - c.s.size by omega]
theorem lngB_neg : ∀ (l : List Ch) (n : Int), n < 0 → (match lngB n l with | none => true | some k => decide (k < 0)) = true
  | [], n, h => by simp [lngB, h]
  | c :: l, n, h => by rw [lngB, if_pos (by omega)]
theorem lng_eq (s : ByteArray) (l : List Ch) (hs : s.size < 1099511627776) (hr : ∀ c ∈ l, 0 ≤ c.f ∧ c.f ≤ c.t ∧ c.t ≤ s.size) : lng s l = (decide (20000 < cutN s.size l) || addN (cutN s.size l) l) := by
  unfold lng
  rw [lngA_cut s hs l s.size hr]
  by_cases c0 : (20000 : Int) < cutN s.size l
  · rw [decide_eq_true c0, Bool.true_or]
    exact lngB_neg l _ (by omega)
  · rw [decide_eq_false c0, Bool.false_or]
    exact lngB_add l _ (by omega)
set_option maxHeartbeats 4000000 in
set_option maxRecDepth 10000 in
theorem refCheck (s : ByteArray) (l : List Ch) (hs : s.size < 1099511627776) (hl : l.length ≤ 9223372036854775807) (hc : ∀ c ∈ l, c.s.size < 1099511627776) : Run (EX cp) 37 [.sc (.string s), .sl 3 (chs l)] = some (.val (pi (chk s l))) := by
  have hv := refValid (cp := cp) s hs
  rw [run_fn _ A_ref17_Check _ rfl rfl rfl]
  unfold chk
  generalize valid (L s) = b at *
  cases b
  · simp (disch := omega) [A_ref17_Check, hv]
  by_cases c8 : l.length ≤ 8
  case neg =>
    rw [if_neg (by simp), if_pos (by omega)]
    simp (disch := omega) [A_ref17_Check, hv, c8, dec_yes, dec_no]
  rw [if_neg (by simp), if_neg (by omega)]
  have l0 := rng_loop (cp := cp) s l c8 l.length 0 (by omega)
  have l1 := edg_loop (cp := cp) s l hs c8 l.length 0 (by omega)
  have l2 := txt_loop (cp := cp) l s.size hc c8 l.length 0 (by omega)
  have f3 := refOrdered (cp := cp) l hl
  rw [List.drop_zero, show ((0 : Nat) : Int) = 0 from rfl] at l0 l1 l2
  by_cases y1 : l.any (rngB s) = true
  · rw [if_pos y1] at l0
    rw [if_pos y1]
    simp (disch := omega) [A_ref17_Check, hv, c8, l0, fstNZ, dec_yes, dec_no]
  rw [if_neg y1] at l0
  rw [if_neg y1]
  by_cases y2 : l.any (edgB s) = true
  · rw [if_pos y2] at l1
    rw [if_pos y2]
    simp (disch := omega) [A_ref17_Check, hv, c8, l0, l1, fstNZ, dec_yes, dec_no]
  rw [if_neg y2] at l1
  rw [if_neg y2]
  by_cases y3 : ordd l = true
  case neg =>
    rw [if_neg y3]
    rw [Bool.not_eq_true] at y3
    rw [y3] at f3
    simp (disch := omega) [A_ref17_Check, hv, c8, l0, l1, f3, fstNZ, dec_yes, dec_no]
  rw [y3] at f3
  rw [if_pos y3]
  by_cases y4 : l.any badS' = true
  · rw [if_pos y4] at l2
    rw [if_pos y4]
    simp (disch := omega) [A_ref17_Check, hv, c8, l0, l1, l2, f3, fstNZ, dec_yes, dec_no]
  rw [if_neg y4] at l2
  rw [if_neg y4]
  have hr : ∀ c ∈ l, 0 ≤ c.f ∧ c.f ≤ c.t ∧ c.t ≤ s.size := by
    rw [Bool.not_eq_true, List.any_eq_false] at y1
    intro c hcl
    have := y1 c hcl
    unfold rngB at this
    simp at this
    omega
  have l3 := cut_nloop (cp := cp) l s.size hs hr c8 l.length 0 s.size (by omega) (by omega) (by omega)
  have hb := cutN_bound s.size l s.size hr
  have hb2 : (s.size : Int) * l.length ≤ 1099511627776 * 8 := by
    have h1 : s.size * l.length ≤ 1099511627776 * 8 := Nat.mul_le_mul (by omega) c8
    have h2 : ((s.size * l.length : Nat) : Int) ≤ ((1099511627776 * 8 : Nat) : Int) := Int.ofNat_le.2 h1
    rw [Int.natCast_mul] at h2
    exact h2
  rw [lng_eq s l hs hr]
  generalize hn : cutN s.size l = n at *
  rw [List.drop_zero, show ((0 : Nat) : Int) = 0 from rfl, hn] at l3
  by_cases y5 : (20000 : Int) < n
  · rw [decide_eq_true y5]
    simp (disch := omega) [A_ref17_Check, hv, c8, l0, l1, l2, l3, f3, y5, fstNZ, dec_yes, dec_no]
  rw [decide_eq_false y5, Bool.false_or]
  obtain ⟨k, l4⟩ := add_nloop (cp := cp) l c8 l.length 0 n (by omega) (by omega) (by omega)
  rw [List.drop_zero, show ((0 : Nat) : Int) = 0 from rfl] at l4
  by_cases y6 : addN n l = true
  · rw [if_pos y6] at l4
    rw [if_pos y6]
    simp (disch := omega) [A_ref17_Check, hv, c8, l0, l1, l2, l3, l4, f3, y5, fstNZ, dec_yes, dec_no]
  · rw [if_neg y6] at l4
    rw [if_neg y6]
    simp (disch := omega) [A_ref17_Check, hv, c8, l0, l1, l2, l3, l4, f3, y5, fstNZ, dec_yes, dec_no]
theorem rdo_loop (s : ByteArray) (l : List Ch) (hs : s.size < 1099511627776) (hl : l.length ≤ 8) (hc : ∀ c ∈ l, c.s.size < 1099511627776) : ∀ (m i : Nat) (acc : ByteArray) (k : Int), m + i = l.length → acc.size ≤ 2199023255552 * i → Chain s (l.drop i) k →
    ∃ (acc' : ByteArray) (k' : Int), acc'.size ≤ 2199023255552 * l.length ∧ 0 ≤ k' ∧ k' ≤ s.size ∧ L acc' ++ (L s).drop k'.toNat = L acc ++ doF s (l.drop i) k ∧
    Code (EX cp) L_ref17_Do_0 ⟨[(0, .p (.sc (.string s))), (1, .p (.sl 3 (chs l))), (5, .p (.sc (.string acc))), (6, .p (pi k)), (7, .p (pi i))], []⟩ =
      some (.ex 0, ⟨[(0, .p (.sc (.string s))), (1, .p (.sl 3 (chs l))), (5, .p (.sc (.string acc'))), (6, .p (pi k')), (7, .p (pi l.length)), (16, .p (pb false))], []⟩) := by
  intro m
  induction m with
  | zero =>
    intro i acc k hi ha hk
    have : i = l.length := by omega
    subst this
    rw [List.drop_length] at hk ⊢
    refine ⟨acc, k, ha, hk.1, hk.2, rfl, ?_⟩
    rw [L_ref17_Do_0, k_loop]
    simp
  | succ m ih =>
    intro i acc k hi ha hk
    have h1 : i < l.length := by omega
    have hg := chs_at l i h1
    have hcs := hc l[i] (List.getElem_mem h1)
    rw [List.drop_eq_getElem_cons h1] at hk ⊢
    generalize l[i] = c at *
    obtain ⟨q0, q1, q2, q3, q4⟩ := hk
    have hpv : c.pv = [pi c.f, pi c.t, .sc (.string c.s)] := rfl
    rw [hpv] at hg
    have hex : (s.extract k.toNat c.f.toNat) = ⟨(((L s).drop k.toNat).take (c.f - k).toNat).toArray⟩ := by
      have := extract_mk s k.toNat (c.f - k).toNat
      rw [show k.toNat + (c.f - k).toNat = c.f.toNat by omega] at this
      exact this
    have hLx : L (s.extract k.toNat c.f.toNat) = ((L s).drop k.toNat).take (c.f - k).toNat := by rw [hex, L_mk]
    have hxz : (s.extract k.toNat c.f.toNat).size ≤ s.size := by rw [ByteArray.size_extract]; omega
    generalize hx : s.extract k.toNat c.f.toNat = x at *
    have hz1 : (acc ++ x).size = acc.size + x.size := ByteArray.size_append
    have hz2 : (acc ++ x ++ c.s).size = acc.size + x.size + c.s.size := by rw [ByteArray.size_append, hz1]
    obtain ⟨acc', k', a1, a2, a3, a4, a5⟩ := ih (i+1) (acc ++ x ++ c.s) c.t (by omega) (by omega) q4
    refine ⟨acc', k', a1, a2, a3, ?_, ?_⟩
    · rw [a4, doF, L_append, L_append, hLx]; simp only [List.append_assoc]
    rw [← a5, L_ref17_Do_0, k_loop]
    simp (disch := omega) [h1, hg, hx, hz1, dec_yes, dec_no, wrap_in, if_yes, -getElem?_pos]
theorem refDo (s : ByteArray) (l : List Ch) (hs : s.size < 1099511627776) (hl : l.length ≤ 9223372036854775807) (hc : ∀ c ∈ l, c.s.size < 1099511627776) : Run (EX cp) 39 [.sc (.string s), .sl 3 (chs l)] = some (.val (.sc (.string (doS s l)))) := by
  have h := refCheck (cp := cp) s l hs hl hc
  rw [run_fn _ A_ref17_Do _ rfl rfl rfl]
  unfold doS
  by_cases c0 : chk s l = 0
  · rw [c0] at h
    have hG := chk_good c0
    obtain ⟨acc', k', a1, a2, a3, a4, a5⟩ := rdo_loop (cp := cp) s l hs hG.len hc l.length 0 ⟨#[]⟩ 0 (by omega) (by decide) hG.chain
    have := hG.len
    rw [List.drop_zero, show L ⟨#[]⟩ = [] from rfl, List.nil_append] at a4
    rw [if_pos c0]
    rw [show ((0 : Nat) : Int) = 0 from rfl] at a5
    have he := extract_end s k'.toNat
    have hxz : (s.extract k'.toNat s.size).size ≤ s.size := by rw [ByteArray.size_extract]; omega
    have hfin : acc' ++ s.extract k'.toNat s.size = ⟨(doF s l 0).toArray⟩ := by
      have e1 := L_mk ((L s).drop k'.toNat)
      have e2 := L_mk (doF s l 0)
      apply L_inj
      rw [L_append, he, e1, e2, a4]
    have hxs : (s.extract k'.toNat s.size).size = min s.size s.size - k'.toNat := ByteArray.size_extract
    simp (disch := omega) [A_ref17_Do, h, a5, hfin, dec_yes, dec_no, wrap_in, if_yes, -getElem?_pos]
  · rw [if_neg c0]
    simp (disch := omega) [A_ref17_Do, h, c0, -getElem?_pos]
theorem few18a_loop (l : List At) (C : List (List PV)) (hl : l.length ≤ 9223372036854775807) : ∀ (m i : Nat), m + i = l.length →
    Code (EX cp) L_law18_few_0 ⟨[(0, .p (.sl 5 (ats l))), (1, .p (.sl 3 C)), (5, .p (pi i))], []⟩ =
      if (l.drop i).all fewA = true then some (.ex 0, ⟨[(0, .p (.sl 5 (ats l))), (1, .p (.sl 3 C)), (5, .p (pi l.length)), (10, .p (pb false))], []⟩) else some (.ret, ⟨[(4, .p (pb false))], []⟩) := by
  intro m
  induction m with
  | zero =>
    intro i hi
    have : i = l.length := by omega
    subst this
    rw [List.drop_length, List.all_nil, if_pos rfl, L_law18_few_0, k_loop]
    simp
  | succ m ih =>
    intro i hi
    have h1 : i < l.length := by omega
    have ih' := ih (i+1) (by omega)
    have hg := ats_at l i h1
    rw [List.drop_eq_getElem_cons h1, List.all_cons]
    generalize l[i] = a at *
    have hp : a.pv = [.sc (.string a.txt), pi a.rv, pi a.gr, pi a.rk, .sl 2 (cutsL a.cuts)] := rfl
    rw [hp] at hg
    rw [show fewA a = (decide (a.cuts.length ≤ 20) && decide (a.txt.size ≤ 20)) from rfl]
    by_cases c0 : a.cuts.length ≤ 20
    · by_cases c1 : a.txt.size ≤ 20
      · rw [decide_eq_true c0, decide_eq_true c1, Bool.true_and, Bool.true_and, ← ih', L_law18_few_0, k_loop]
        simp (disch := omega) [h1, hg, c0, c1, dec_yes, dec_no, wrap_in, -getElem?_pos]
      · rw [decide_eq_false c1, L_law18_few_0, k_loop]
        simp (disch := omega) [h1, hg, c0, c1, dec_yes, dec_no, wrap_in, -getElem?_pos]
    · rw [decide_eq_false c0, L_law18_few_0, k_loop]
      simp (disch := omega) [h1, hg, c0, dec_yes, dec_no, wrap_in, -getElem?_pos]
def fewC (c : Ch) : Bool := decide (c.s.size ≤ 60)
theorem few18c_loop (A : List (List PV)) (l : List Ch) (hl : l.length ≤ 9223372036854775807) : ∀ (m i : Nat), m + i = l.length →
    Code (EX cp) L_law18_few_1 ⟨[(0, .p (.sl 5 A)), (1, .p (.sl 3 (chs l))), (6, .p (pi i))], []⟩ =
      if (l.drop i).all fewC = true then some (.ex 2, ⟨[(0, .p (.sl 5 A)), (1, .p (.sl 3 (chs l))), (6, .p (pi l.length)), (32, .p (pb false))], []⟩) else some (.ret, ⟨[(4, .p (pb false))], []⟩) := by
  intro m
  induction m with
  | zero =>
    intro i hi
    have : i = l.length := by omega
    subst this
    rw [List.drop_length, List.all_nil, if_pos rfl, L_law18_few_1, k_loop]
    simp
  | succ m ih =>
    intro i hi
    have h1 : i < l.length := by omega
    have ih' := ih (i+1) (by omega)
    have hg := chs_at l i h1
    rw [List.drop_eq_getElem_cons h1, List.all_cons]
    generalize l[i] = c at *
    have hp : c.pv = [pi c.f, pi c.t, .sc (.string c.s)] := rfl
    rw [hp] at hg
    rw [show fewC c = decide (c.s.size ≤ 60) from rfl]
    by_cases c0 : c.s.size ≤ 60
    · rw [decide_eq_true c0, Bool.true_and, ← ih', L_law18_few_1, k_loop]
      simp (disch := omega) [h1, hg, c0, dec_yes, dec_no, wrap_in, -getElem?_pos]
    · rw [decide_eq_false c0, L_law18_few_1, k_loop]
      simp (disch := omega) [h1, hg, c0, dec_yes, dec_no, wrap_in, -getElem?_pos]
def few18 (l : List At) (c : List Ch) : Bool := l.all fewA && c.all fewC && decide (l.length ≤ 60) && decide (c.length ≤ 12)
theorem refFew18 (l : List At) (c : List Ch) (hl : l.length ≤ 9223372036854775807) (hc : c.length ≤ 9223372036854775807) : Run (EX cp) 35 [.sl 5 (ats l), .sl 3 (chs c)] = some (.val (pb (few18 l c))) := by
  have h := few18a_loop (cp := cp) l (chs c) hl l.length 0 (by omega)
  have h2 := few18c_loop (cp := cp) (ats l) c hc c.length 0 (by omega)
  rw [List.drop_zero, show ((0 : Nat) : Int) = 0 from rfl] at h h2
  rw [run_fn _ A_law18_few _ rfl rfl rfl]
  unfold few18
  generalize l.all fewA = b at *
  generalize c.all fewC = b2 at *
  cases b
  · simp (disch := omega) [A_law18_few, h]
  cases b2
  · simp (disch := omega) [A_law18_few, h, h2]
  by_cases c0 : l.length ≤ 60
  · by_cases c1 : c.length ≤ 12
    · simp (disch := omega) [A_law18_few, h, h2, c0, c1, dec_yes, dec_no]
    · simp (disch := omega) [A_law18_few, h, h2, c0, c1, dec_yes, dec_no]
  · simp (disch := omega) [A_law18_few, h, h2, c0, dec_yes, dec_no]
end Go.Proofs.Ytihgpnfkadldeaa.AM
