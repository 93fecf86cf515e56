/- The law LinesEdits on the small machine. No condition. -/
import Derived.Test.YtomnggbideepeaaRN5
namespace Go.Proofs.Ytomnggbideepeaa.linesEdits
set_option linter.unusedSimpArgs false
set_option linter.unusedVariables false
open Go Go.Proofs.Ytomnggbideepeaa.U Go.Proofs.Ytomnggbideepeaa.AM
def shapes : List PSh := [.one (.tx), .one (.i .u8)]
theorem lns_app (a b : List UInt8) : ∃ h t x, lns b = x :: t ∧ lns a = h ++ [(lns a)[nl a]?.getD []] ∧ h.length = nl a ∧ lns (a ++ b) = h ++ ((lns a)[nl a]?.getD [] ++ x) :: t := by
  induction a with
  | nil =>
    cases hb : lns b with
    | nil => exact absurd hb (lns_ne b)
    | cons x t => exact ⟨[], t, x, rfl, rfl, rfl, by rw [List.nil_append, hb]; rfl⟩
  | cons c a ih =>
    obtain ⟨h, t, x, e1, e2, e3, e4⟩ := ih
    rw [List.cons_append, lns, lns, nl]
    by_cases hc : c = 10
    · rw [if_pos hc, if_pos hc, if_pos hc, show 1 + nl a = nl a + 1 by omega, List.getElem?_cons_succ]
      exact ⟨[] :: h, t, x, e1, by rw [List.cons_append, ← e2], by simp [e3], by rw [e4]; rfl⟩
    · rw [if_neg hc, if_neg hc, if_neg hc, Nat.zero_add]
      cases h with
      | nil =>
        have hn : nl a = 0 := by simpa using e3.symm
        rw [hn] at e2 e4 ⊢
        rw [List.nil_append] at e2 e4
        refine ⟨[], t, x, e1, ?_, rfl, ?_⟩
        · rw [e2]; rfl
        · rw [e4]
          generalize hz : (lns a)[0]?.getD [] = z at *
          rw [e2]; rfl
      | cons y h =>
        obtain ⟨n, hn⟩ : ∃ n, nl a = n + 1 := ⟨h.length, by rw [← e3]; rfl⟩
        rw [hn] at e2 e4 ⊢
        generalize hz : (lns a)[n + 1]?.getD [] = z at *
        refine ⟨([c] ++ y) :: h, t, x, e1, ?_, by simp at e3 ⊢; omega, ?_⟩
        · have : (preL [c] (lns a))[n + 1]?.getD [] = z := by
            rw [e2]
            show (([c] ++ y) :: (h ++ [z]))[n + 1]?.getD [] = z
            rw [e2] at hz
            simpa using hz
          rw [this, e2]; rfl
        · have : (preL [c] (lns a))[n + 1]?.getD [] = z := by
            rw [e2]
            show (([c] ++ y) :: (h ++ [z]))[n + 1]?.getD [] = z
            rw [e2] at hz
            simpa using hz
          rw [this, e4]; rfl
theorem ten_clean : cleanS ⟨#[10]⟩ = ⟨#[10]⟩ := L_inj (by
  have h1 : L (⟨#[10]⟩ : ByteArray) = encs [10] := by decide +kernel
  have h2 : L (cleanS ⟨#[10]⟩) = clean (L ⟨#[10]⟩) := L_mk _
  rw [h2, h1]
  exact clean_of_valid _ (valid_encs' _ (by decide)))
/-- A line end put in. -/
def put10 (u : ByteArray) (p : Nat) : ByteArray := mkS ((L u).take p ++ (10 :: (L u).drop p))
theorem put10_L (u : ByteArray) (p : Nat) : L (put10 u p) = (L u).take p ++ (10 :: (L u).drop p) := L_mkS _
theorem repl10 (u : ByteArray) (p : Nat) : replS u p p ⟨#[10]⟩ = put10 u p := by
  apply L_inj
  unfold replS
  rw [ten_clean, L_append, L_append, Int.toNat_natCast, ex_take, ex_drop, put10_L, List.append_assoc]; rfl
theorem put10_size (u : ByteArray) (p : Nat) : (put10 u p).size = u.size + 1 := by
  rw [← L_len, put10_L, List.length_append, List.length_cons, ← Nat.add_assoc, ← List.length_append, List.take_append_drop, L_len]
/-- What the lines are, ahead and behind. -/
theorem edit_lines (u : ByteArray) (p : Nat) (hp : p ≤ u.size) : ∃ la lb : List UInt8, lineS u (nl ((L u).take p)) = mkS (la ++ lb) ∧ lineS (put10 u p) (nl ((L u).take p)) = mkS la ∧ lineS (put10 u p) (nl ((L u).take p) + 1) = mkS lb ∧ nl (L (put10 u p)) = nl (L u) + 1 ∧ nl ((L u).take p) ≤ nl (L u) := by
  obtain ⟨h, t, x, e1, e2, e3, e4⟩ := lns_app ((L u).take p) ((L u).drop p)
  obtain ⟨h', t', x', f1, f2, f3, f4⟩ := lns_app ((L u).take p) (10 :: (L u).drop p)
  rw [List.take_append_drop] at e4
  have hh : h' = h := by
    have := e2.symm.trans f2
    exact ((List.append_inj this (by rw [e3, f3])).1).symm
  subst hh
  rw [lns, if_pos rfl] at f1
  obtain ⟨rfl, rfl⟩ := List.cons.inj f1
  have hn : nl (L u) = nl ((L u).take p) + nl ((L u).drop p) := by rw [← nl_append, List.take_append_drop]
  generalize hz : (lns ((L u).take p))[nl ((L u).take p)]?.getD [] = z at *
  rw [e1] at f4
  refine ⟨z, x, ?_, ?_, ?_, ?_, by omega⟩
  · unfold lineS
    rw [e4, ← e3, List.getElem?_append_right (Nat.le_refl _), Nat.sub_self]; rfl
  · unfold lineS
    rw [put10_L, f4, ← e3, List.getElem?_append_right (Nat.le_refl _), Nat.sub_self]
    show mkS (z ++ []) = _
    rw [List.append_nil]
  · unfold lineS
    rw [put10_L, f4, ← e3, List.getElem?_append_right (by omega), Nat.add_sub_cancel_left]; rfl
  · rw [put10_L, nl_append, nl, if_pos rfl]; omega
theorem at_put10 (u : ByteArray) (hv : valid (L u) = true) (p : Nat) (hp : p ≤ u.size) (he : edge u p = true) : atSpec (put10 u p) ((p + 1 : Nat) : Int) = (((nl ((L u).take p) + 1 : Nat) : Int), 0, 0) := by
  obtain ⟨q, hq, q1, q2, q3⟩ := edge_cut he
  have hqp : q = p := by omega
  subst hqp
  have hl : ((L u).take q).length = q := by rw [List.length_take, L_len]; omega
  have ht : (L (put10 u q)).take (q + 1) = (L u).take q ++ [10] := by
    rw [put10_L, show (L u).take q ++ (10 :: (L u).drop q) = ((L u).take q ++ [10]) ++ (L u).drop q by simp, List.take_left' (by simp [hl])]
  have hd : (L (put10 u q)).drop (q + 1) = (L u).drop q := by
    rw [put10_L, show (L u).take q ++ (10 :: (L u).drop q) = ((L u).take q ++ [10]) ++ (L u).drop q by simp, List.drop_left' (by simp [hl])]
  have hv10 : valid [10] = true := by
    have : ([10] : List UInt8) = encs [10] := by decide +kernel
    rw [this]; exact valid_encs' _ (by decide)
  have he2 : edge (put10 u q) ((q + 1 : Nat) : Int) = true := cut_of_edge (q + 1) (by rw [put10_size]; omega) (by rw [ht, valid_append q2]; exact hv10) (by rw [hd]; exact q3)
  have hf := fromSpec_edge (s := put10 u q) (k := 3) (by omega) (q + 1) (by rw [put10_size]; omega) he2
  unfold atSpec
  rw [hf, if_neg (by simp), Int.toNat_natCast, ht]
  have hn : nl ((L u).take q ++ [10]) = nl ((L u).take q) + 1 := by rw [nl_append]; rfl
  have hx : L (lineS ((put10 u q).extract 0 (q + 1)) (nl ((L u).take q ++ [10]))) = [] := by
    obtain ⟨h', t', x', f1, f2, f3, f4⟩ := lns_app ((L u).take q) [10]
    rw [lns, if_pos rfl] at f1
    obtain ⟨rfl, rfl⟩ := List.cons.inj f1
    unfold lineS
    rw [L_mkS, ex_take, ht, f4, hn, ← f3, List.getElem?_append_right (by omega), Nat.add_sub_cancel_left]; rfl
  rw [hx, points_nil, hn]; rfl
set_option maxHeartbeats 8000000 in
theorem law (xs : List PV) (h : WTAs shapes xs) : Run EB 18 xs = some (.val (.sc (.bool true))) := by
  cases h with
  | cons h1 h => cases h with
  | cons h2 h =>
  cases h
  obtain ⟨s, rfl, hs⟩ := wt_str h1
  obtain ⟨b, rfl⟩ := wt_byte h2
  clear h1 h2
  have kn := known6
  rw [show Run EB 18 [.sc (.string s), .sc (.int .u8 b.toNat)] = _ from run_fn _ A_law6_LinesEdits _ rfl rfl rfl, ← show EB = EX cpB from rfl]
  by_cases c0 : s.size ≤ 200
  case neg => simp (disch := omega) [A_law6_LinesEdits, kn, c0, dec_yes, dec_no]
  have zs := clean_small' s c0
  rcases ropeNew (cp := cpB) s (by omega) with ⟨h2, _⟩ | ⟨_, r, hr, d1⟩
  · omega
  generalize cleanS s = u at *
  have hb := b.toNat_lt
  generalize b.toNat = f at *
  obtain ⟨p, hp⟩ : ∃ p : Nat, p = f % (u.size + 1) := ⟨_, rfl⟩
  have hp1 : p < u.size + 1 := by rw [hp]; exact Nat.mod_lt _ (by omega)
  have w1 : IntKind.wrap .i64 (f : Int) = f := wrap_in _ (by omega) (by omega)
  have w2 : IntKind.wrap .i64 ((u.size : Int) + 1) = (u.size : Int) + 1 := wrap_in _ (by omega) (by omega)
  have w3 : (f : Int).tmod ((u.size : Int) + 1) = (p : Int) := by rw [hp]; exact tmod_nat f (u.size + 1)
  have w4 : IntKind.wrap .i64 ((p : Int) + 1) = ((p + 1 : Nat) : Int) := by rw [wrap_in _ (by omega) (by omega)]; rfl
  have hne : ¬ ((u.size : Int) + 1) = 0 := by omega
  have d2 := ropeLen (cp := cpB) hr
  have d3 := ropeIsEdge (cp := cpB) hr p
  have rep := ropeReplace (cp := cpB) hr (by omega) p p ⟨#[10]⟩ (by decide)
  have d5 := linesAt (cp := cpB) hr (by omega) p
  have hnl := nl_le (L u)
  rw [L_len] at hnl
  cases he : edge u (p : Int)
  · have k1 : chkR u p p = 11 := by unfold chkR; rw [if_neg (by omega), he, if_neg (by simp)]
    rw [k1] at rep
    rcases rep with ⟨_, d4⟩ | ⟨h, _⟩ | ⟨h, _⟩
    case inr.inl => omega
    case inr.inr => omega
    rw [he] at d3
    rw [show EX cpB = EB from rfl] at *
    simp (disch := omega) [A_law6_LinesEdits, kn, c0, w1, w2, w3, hne, d1, d2, d3, d4, dec_yes, dec_no]
  have k1 : chkR u p p = 0 := by unfold chkR; rw [if_neg (by omega), he, if_pos (by simp)]
  rw [repl10] at rep
  have hpz := put10_size u p
  rcases rep with ⟨h, _⟩ | ⟨_, h, _⟩ | ⟨_, _, x, hx, d4⟩
  · exact absurd k1 h
  · omega
  obtain ⟨la, lb, g1, g2, g3, g4, g5⟩ := edit_lines u p (by omega)
  have hat : atSpec u p = ((nl ((L u).take p) : Int), ((points (L (lineS (u.extract 0 p) (nl ((L u).take p))))).length : Int), 0) := by
    have hf := fromSpec_edge (s := u) (k := 3) (by omega) p (by omega) he
    unfold atSpec
    rw [hf, if_neg (by simp), Int.toNat_natCast]
  have d6 := linesAt (cp := cpB) hx (by omega) ((p + 1 : Nat) : Int)
  have d7 := linesLine (cp := cpB) cpB_all hx (by omega) (nl ((L u).take p)) (by omega)
  have d8 := linesLine (cp := cpB) cpB_all hx (by omega) (nl ((L u).take p) + 1) (by omega)
  have d9 := linesLine (cp := cpB) cpB_all hr (by omega) (nl ((L u).take p)) g5
  have d10 := linesCount (cp := cpB) hr (by omega)
  have d11 := linesCount (cp := cpB) hx (by omega)
  rw [hat] at d5
  rw [at_put10 u hr.val p (by omega) he] at d6
  rw [g2] at d7
  rw [g3] at d8
  rw [g1] at d9
  rw [g4] at d11
  rw [he] at d3
  have hcat : mkS la ++ mkS lb = mkS (la ++ lb) := L_inj (by rw [L_append, L_mkS, L_mkS, L_mkS])
  have hzc : (mkS (la ++ lb)).size ≤ u.size := by
    obtain ⟨p', x', _, _, _, _, f4, f5, _⟩ := line_place hr.val (nl ((L u).take p)) g5
    rw [← g1, f5, ← L_len, L_extract, List.length_take, List.length_drop, L_len]; omega
  have hzs : (mkS la).size + (mkS lb).size = (mkS (la ++ lb)).size := by rw [← hcat, ByteArray.size_append]
  have hs1 : ((mkS la).size : Int) + ((mkS lb).size : Int) ≤ 9223372036854775807 := by omega
  have hcn : (0 : Int) ≤ ((points (L (lineS (u.extract 0 p) (nl ((L u).take p))))).length : Int) := by omega
  rw [show EX cpB = EB from rfl] at *
  clear g1 g2 g3 hat
  generalize mkS (la ++ lb) = y0 at *
  generalize mkS la = y1 at *
  generalize mkS lb = y2 at *
  generalize (points (L (lineS (u.extract 0 p) (nl ((L u).take p))))).length = c at *
  generalize nl ((L u).take p) = n at *
  generalize nl (L u) = w at *
  have w5 : IntKind.wrap .i64 ((n : Int) + 1) = ((n + 1 : Nat) : Int) := by rw [wrap_in _ (by omega) (by omega)]; rfl
  have w6 : IntKind.wrap .i64 ((w : Int) + 1 + 1) = (w : Int) + 1 + 1 := wrap_in _ (by omega) (by omega)
  have e11 : (((w + 1 : Nat) : Int)) + 1 = (w : Int) + 1 + 1 := rfl
  rw [e11] at d11
  generalize hA : ((n + 1 : Nat) : Int) = A at *
  generalize hB : ((p + 1 : Nat) : Int) = B at *
  dsimp only at d5 d6
  simp (disch := omega) [A_law6_LinesEdits, kn, c0, w1, w2, w3, w4, w5, w6, hne, d1, d2, d3, d4, d5, d6, d7, d8, d9, d10, d11, hcat, if_pos hs1, hcn, dec_yes, dec_no]
end Go.Proofs.Ytomnggbideepeaa.linesEdits
