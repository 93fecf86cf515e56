/- The law LinesTell on the small machine. No condition. -/
import Derived.Test.YtomnggbideepeaaRN5
namespace Go.Proofs.Ytomnggbideepeaa.linesTell
set_option linter.unusedSimpArgs false
set_option linter.unusedVariables false
open Go Go.Proofs.Ytomnggbideepeaa.U Go.Proofs.Ytomnggbideepeaa.AM
def shapes : List PSh := [.one (.tx), .one (.i .i64), .one (.i .i64), .one (.i .i64), .one (.i .i64), .one (.i .i64), .one (.tx)]
/-- A place's answer, by where it lies. -/
theorem atSpec_cases {u : ByteArray} (a : Int) :
    ((a < 0 ∨ (u.size : Int) < a) ∧ atSpec u a = (0, 0, 10)) ∨ (¬ (a < 0 ∨ (u.size : Int) < a) ∧ edge u a = false ∧ atSpec u a = (0, 0, 11)) ∨
    (∃ p : Nat, a = p ∧ p ≤ u.size ∧ edge u a = true ∧ atSpec u a = ((nl ((L u).take p) : Int), ((points (L (lineS (u.extract 0 p) (nl ((L u).take p))))).length : Int), 0)) := by
  by_cases c1 : a < 0 ∨ (u.size : Int) < a
  · left
    refine ⟨c1, ?_⟩
    have hf : fromSpec u 3 a = (0, 10) := by unfold fromSpec; rw [if_pos (by omega), if_pos c1]
    unfold atSpec
    rw [hf, if_pos (by simp)]
  · right
    cases he : edge u a
    · left
      refine ⟨c1, rfl, ?_⟩
      have hf : fromSpec u 3 a = (0, 11) := by unfold fromSpec; rw [if_pos (by omega), if_neg c1, he, if_neg (by simp)]
      unfold atSpec
      rw [hf, if_pos (by simp)]
    · right
      obtain ⟨p, rfl⟩ : ∃ p : Nat, a = p := ⟨a.toNat, by omega⟩
      refine ⟨p, rfl, by omega, rfl, ?_⟩
      have hf := fromSpec_edge (s := u) (k := 3) (by omega) p (by omega) he
      unfold atSpec
      rw [hf, if_neg (by simp), Int.toNat_natCast]
theorem lineS_size (s : ByteArray) (n : Nat) : (lineS s n).size ≤ s.size := by
  by_cases h : n ≤ nl (L s)
  · obtain ⟨pre, x, post, e1, e2, _⟩ := lns_at (L s) n h
    have h1 : L (lineS s n) = x := by unfold lineS; rw [e1, L_mkS]; rfl
    rw [← L_len, ← L_len s, h1, e2, List.length_append, List.length_append]; omega
  · have h1 : L (lineS s n) = [] := by
      unfold lineS
      rw [List.getElem?_eq_none (by rw [lns_len]; omega), L_mkS]; rfl
    rw [← L_len, h1]; simp
abbrev S1 (a f o m : Int) (r : PV) (t u : ByteArray) : List (Nat × SV) := [(2, .p (pi a)), (3, .p (pi f)), (4, .p (pi o)), (5, .p (pi m)), (6, .p (.sc (.string t))), (15, .p r), (17, .p (.sc (.string u))), (98, .p (pb false))]
abbrev S2 (f o m : Int) (r : PV) (t u : ByteArray) : List (Nat × SV) := [(3, .p (pi f)), (4, .p (pi o)), (5, .p (pi m)), (6, .p (.sc (.string t))), (15, .p r), (17, .p (.sc (.string u)))]
set_option maxHeartbeats 8000000 in
theorem law (xs : List PV) (h : WTAs shapes xs) : Run EB 14 xs = some (.val (.sc (.bool true))) := by
  cases h with
  | cons h1 h => cases h with
  | cons h2 h => cases h with
  | cons h3 h => cases h with
  | cons h4 h => cases h with
  | cons h5 h => cases h with
  | cons h6 h => cases h with
  | cons h7 h =>
  cases h
  obtain ⟨s, rfl, hs⟩ := wt_str h1
  obtain ⟨n, rfl, hn⟩ := wt_int h2
  obtain ⟨a, rfl, ha⟩ := wt_int h3
  obtain ⟨f, rfl, hf⟩ := wt_int h4
  obtain ⟨o, rfl, ho⟩ := wt_int h5
  obtain ⟨m, rfl, hm⟩ := wt_int h6
  obtain ⟨t, rfl, ht⟩ := wt_str h7
  clear h1 h2 h3 h4 h5 h6 h7
  have kn := known6
  rw [show Run EB 14 [.sc (.string s), pi n, pi a, pi f, pi o, pi m, .sc (.string t)] = _ from run_fn _ A_law6_LinesTell _ rfl rfl rfl, ← show EB = EX cpB from rfl]
  by_cases c0 : s.size ≤ 300
  case neg => simp (disch := omega) [A_law6_LinesTell, kn, c0, dec_yes, dec_no]
  by_cases c1 : t.size ≤ 60
  case neg => simp (disch := omega) [A_law6_LinesTell, kn, c0, c1, dec_yes, dec_no]
  by_cases c2 : f ≤ 1099511627776
  case neg => simp (disch := omega) [A_law6_LinesTell, kn, c0, c1, c2, dec_yes, dec_no]
  have zs := clean_le (L s)
  rw [L_len] at zs
  have zu : (cleanS s).size = (clean (L s)).length := size_mk _
  rcases ropeNew (cp := cpB) s (by omega) with ⟨h2, _⟩ | ⟨_, r, hr, d1⟩
  · omega
  have e1 : Run EB _ _ = _ := refClean (cp := cpB) s (by omega)
  have zz : (cleanS s).size ≤ 1200 := by omega
  clear zs zu
  generalize cleanS s = u at *
  have e2 : Run EB _ _ = _ := ref2Lines (cp := cpB) u (by omega)
  have d2 : Run EB _ _ = _ := linesCount (cp := cpB) hr (by omega)
  have d3 : Run EB _ _ = _ := linesAt (cp := cpB) hr (by omega) a
  have d4 := law6Parts hr (by omega) f o m hm.2
  have d5 := linesFind hr (by omega) t f
  have d6 : Run EB _ _ = _ := law6Find (cp := cpB) u t (by omega) (by omega) f c2
  have d7 : Run EB _ _ = _ := refIsEdge (cp := cpB) u a (by omega)
  have hnl := nl_le (L u)
  rw [L_len] at hnl
  have hll := linesS_len u
  rw [show EX cpB = EB from rfl] at *
  have hp1 : AM.Code EB A_law6_LinesTell.body ⟨entry 0 [.sc (.string s), pi n, pi a, pi f, pi o, pi m, .sc (.string t)], []⟩ = AM.Code EB (tailN 10 A_law6_LinesTell.body) ⟨S1 a f o m r t u, []⟩ := by
    refine split_code EB 10 A_law6_LinesTell.body _ _ ?_
    clear d3 d4 d5 d6 d7
    by_cases cn : 0 ≤ n ∧ n ≤ nl (L u)
    · obtain ⟨k, rfl⟩ : ∃ k : Nat, n = k := ⟨n.toNat, by omega⟩
      have d8 : Run EB _ _ = _ := linesLine (cp := cpB) cpB_all hr (by omega) k (by omega)
      have hgt := strs_at (linesS u) k (by omega)
      rw [linesS_at] at hgt
      have hsl : (strs (linesS u)).length = nl (L u) + 1 := by simp [hll]
      have a1 : k < nl (L u) + 1 := by omega
      have a2 : (k : Int) < (nl (L u) : Int) + 1 := by omega
      clear hll
      generalize lineS u k = x at *
      generalize linesS u = l at *
      generalize strs l = ll at *
      generalize nl (L u) = w at *
      simp (disch := omega) [A_law6_LinesTell, headN, S1, kn, c0, c1, c2, d1, d2, d8, e1, e2, hgt, hsl, a1, a2, dec_yes, dec_no, if_yes, -getElem?_pos]
    · have d8 : Run EB _ _ = _ := linesLineNo (cp := cpB) hr (by omega) n cn
      have hsl : (strs (linesS u)).length = nl (L u) + 1 := by simp [hll]
      clear hll
      generalize linesS u = l at *
      generalize strs l = ll at *
      generalize nl (L u) = w at *
      by_cases cn1 : 0 ≤ n
      · have a2 : ¬ n < (w : Int) + 1 := by omega
        simp (disch := omega) [A_law6_LinesTell, headN, S1, kn, c0, c1, c2, d1, d2, d8, e1, e2, hsl, cn1, a2, dec_yes, dec_no, if_yes, -getElem?_pos]
      · simp (disch := omega) [A_law6_LinesTell, headN, S1, kn, c0, c1, c2, d1, d2, d8, e1, e2, hsl, cn1, dec_yes, dec_no, if_yes, -getElem?_pos]
  rw [hp1]
  clear hp1 d1 d2 e1 e2 hll hnl
  have hp2 : ∃ x : List (Nat × SV), (x = [(149, .p (pb false))] ∨ x = [(164, .p (pb false))] ∨ x = [(130, .p (pb false))]) ∧ AM.Code EB (tailN 10 A_law6_LinesTell.body) ⟨S1 a f o m r t u, []⟩ = AM.Code EB (tailN 12 A_law6_LinesTell.body) ⟨S2 f o m r t u ++ x, []⟩ := by
    clear d4 d5 d6
    rcases atSpec_cases (u := u) a with ⟨ca, hA⟩ | ⟨ca, he, hA⟩ | ⟨p, rfl, hp, he, hA⟩
    · rw [hA] at d3
      refine ⟨_, .inl rfl, split_code EB 2 (tailN 10 A_law6_LinesTell.body) _ _ ?_⟩
      by_cases ca1 : a < 0
      · simp (disch := omega) [A_law6_LinesTell, headN, tailN, S1, d3, ca1, dec_yes, dec_no, if_yes]
      · have ca2 : (u.size : Int) < a := by omega
        simp (disch := omega) [A_law6_LinesTell, headN, tailN, S1, d3, ca1, ca2, dec_yes, dec_no, if_yes]
    · rw [hA] at d3
      rw [he] at d7
      have ca1 : ¬ a < 0 := by omega
      have ca2 : ¬ (u.size : Int) < a := by omega
      refine ⟨_, .inr (.inl rfl), split_code EB 2 (tailN 10 A_law6_LinesTell.body) _ _ ?_⟩
      simp (disch := omega) [A_law6_LinesTell, headN, tailN, S1, d3, d7, ca1, ca2, dec_yes, dec_no, if_yes]
    · rw [hA] at d3
      rw [he] at d7
      have ca1 : ¬ (p : Int) < 0 := by omega
      have ca2 : ¬ (u.size : Int) < (p : Int) := by omega
      have zx : (u.extract 0 p).size = p := ex_take_size u p hp
      have e3 : Run EB _ _ = _ := ref2Lines (cp := cpB) (u.extract 0 p) (by omega)
      have hll := linesS_len (u.extract 0 p)
      rw [ex_take] at hll
      have hgt := strs_at (linesS (u.extract 0 p)) (nl ((L u).take p)) (by omega)
      rw [linesS_at] at hgt
      have hsl : (strs (linesS (u.extract 0 p))).length = nl ((L u).take p) + 1 := by simp [hll]
      have hw := nl_le ((L u).take p)
      rw [← ex_take, L_len, zx, ex_take] at hw
      have hzl : (lineS (u.extract 0 p) (nl ((L u).take p))).size < 68719476736 := by
        have h1 := lineS_size (u.extract 0 p) (nl ((L u).take p))
        omega
      have e4 : Run EB _ _ = _ := refPoints (cp := cpB) (lineS (u.extract 0 p) (nl ((L u).take p))) hzl
      have e5 : ptsS (clean (L (lineS (u.extract 0 p) (nl ((L u).take p))))) = (points (L (lineS (u.extract 0 p) (nl ((L u).take p))))).map chS := by unfold ptsS; rw [pts_clean]
      rw [e5] at e4
      have hpl : (strs ((points (L (lineS (u.extract 0 p) (nl ((L u).take p))))).map chS)).length = (points (L (lineS (u.extract 0 p) (nl ((L u).take p))))).length := by simp
      have hb := points_le (L (lineS (u.extract 0 p) (nl ((L u).take p))))
      rw [L_len] at hb
      clear hll e5 hA zx
      have w1 : IntKind.wrap .i64 ((((nl ((L u).take p) + 1 : Nat)) : Int) - 1) = ((nl ((L u).take p) : Nat) : Int) := by rw [wrap_in _ (by omega) (by omega)]; omega
      have w0 : IntKind.wrap .i64 ((nl ((L u).take p) : Nat) : Int) = ((nl ((L u).take p) : Nat) : Int) := wrap_in _ (by omega) (by omega)
      generalize strs ((points (L (lineS (u.extract 0 p) (nl ((L u).take p))))).map chS) = q1 at *
      generalize (points (L (lineS (u.extract 0 p) (nl ((L u).take p))))).length = q2 at *
      generalize lineS (u.extract 0 p) (nl ((L u).take p)) = q3 at *
      generalize linesS (u.extract 0 p) = q4 at *
      generalize strs q4 = q5 at *
      generalize nl ((L u).take p) = w at *
      generalize hx : u.extract 0 p = x at *
      have a1 : w < w + 1 := by omega
      dsimp only at d3
      refine ⟨_, .inr (.inr rfl), split_code EB 2 (tailN 10 A_law6_LinesTell.body) _ _ ?_⟩
      simp (disch := omega) [A_law6_LinesTell, headN, tailN, S1, d3, d7, e3, e4, hx, hgt, hsl, hpl, a1, w0, w1, hp, ca1, ca2, dec_yes, dec_no, if_yes, -getElem?_pos]
  obtain ⟨x, hx, hp2⟩ := hp2
  rw [hp2]
  clear hp2 d3 d7
  rcases hx with rfl | rfl | rfl
  · simp (disch := omega) [A_law6_LinesTell, tailN, S2, d4, d5, d6, dec_yes, dec_no]
  · simp (disch := omega) [A_law6_LinesTell, tailN, S2, d4, d5, d6, dec_yes, dec_no]
  · simp (disch := omega) [A_law6_LinesTell, tailN, S2, d4, d5, d6, dec_yes, dec_no]
end Go.Proofs.Ytomnggbideepeaa.linesTell
