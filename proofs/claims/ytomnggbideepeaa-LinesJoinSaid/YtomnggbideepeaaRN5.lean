/- Law 6's parts, and its closed check, on the small machine. For texts of fewer than 2^26 bytes. -/
import Derived.Test.YtomnggbideepeaaRN4
import Derived.Test.YtomnggbideepeaaRW
namespace Go.Proofs.Ytomnggbideepeaa.AM
set_option linter.unusedSimpArgs false
set_option linter.unusedVariables false
open Go Go.Proofs.Ytomnggbideepeaa.U
theorem parts_loop (l : List ByteArray) (hl : l.length < 268435456) : ∀ (k i : Nat), i + k = l.length →
    Code EB L_law6_parts_0 ⟨[(11, .p (.sl 1 (strs l))), (14, .ms 14 0 l.length), (15, .p (pi i))], [(14, .row 9 1 false (strs l))]⟩ =
      some (.ex 1, ⟨[(11, .p (.sl 1 (strs l))), (14, .ms 14 0 l.length), (15, .p (pi l.length)), (74, .p (pb false))], [(14, .row 9 1 false (strs l))]⟩) := by
  intro k
  induction k with
  | zero =>
    intro i hi
    have : i = l.length := by omega
    subst this
    rw [L_law6_parts_0, k_loop]
    simp
  | succ k ih =>
    intro i hi
    have hlt : i < l.length := by omega
    have hg := strs_at l i hlt
    have w1 : IntKind.wrap .i64 ((i : Int) + 1) = (i : Int) + 1 := wrap_in _ (by omega) (by omega)
    rw [← ih (i + 1) (by omega)]
    generalize l[i] = x at *
    conv => lhs; rw [L_law6_parts_0, k_loop]
    simp (disch := omega) [hlt, hg, w1, dec_yes, dec_no, -getElem?_pos]
    rfl
theorem piecesM_few (m : Nat) (hm : 4 ≤ m) : ∀ (n : Nat) (s : ByteArray), s.size ≤ n → valid (L s) = true → (piecesM m s).length ≤ s.size := by
  intro n
  induction n with
  | zero => intro s h _; rw [piecesM_nil m s (by omega)]; simp
  | succ n ih =>
    intro s h hv
    by_cases c : s.size = 0
    · rw [piecesM_nil m s c]; simp
    · obtain ⟨a1, a2, a3, a4, a5, a6⟩ := cutM_ok m hm s hv (by omega)
      have hz : (s.extract (cutM m s) s.size).size = s.size - cutM m s := ex_drop_size s _
      have := ih (s.extract (cutM m s) s.size) (by omega) (by rw [ex_drop]; exact a6)
      rw [piecesM_cons m hm s hv (by omega), List.length_cons]
      omega
set_option maxHeartbeats 4000000 in
theorem law6Parts {r : PV} {s : ByteArray} (h : Rp r s) (hs : s.size < 67108864) (a b m : Int) (hm : m ≤ 9223372036854775807) : Run EB 51 [r, .sc (.string s), pi a, pi b, pi m] = some (.val (pb true)) := by
  have d1 := linesPieces h (by omega) a b m
  have d2 : Run EB _ _ = _ := refIsEdge (cp := cpB) s a (by omega)
  have d3 : Run EB _ _ = _ := refIsEdge (cp := cpB) s b (by omega)
  rw [show Run EB 51 [r, .sc (.string s), pi a, pi b, pi m] = _ from run_fn _ A_law6_parts _ rfl rfl rfl, ← show EB = EX cpB from rfl]
  by_cases c0 : a < 0 ∨ b < a ∨ (s.size : Int) < b
  · have hc : chkR s a b = 10 := by unfold chkR; rw [if_pos c0]
    have hE : piecesE s a b m = ([], 10) := by unfold piecesE; rw [hc, if_pos (by omega)]
    rw [hE] at d1
    by_cases c1 : a < 0
    · simp (disch := omega) [A_law6_parts, d1, c1, dec_yes, dec_no]
    by_cases c2 : b < a
    · simp (disch := omega) [A_law6_parts, d1, c1, c2, dec_yes, dec_no]
    have c3 : (s.size : Int) < b := by omega
    simp (disch := omega) [A_law6_parts, d1, c1, c2, c3, dec_yes, dec_no]
  have c1 : ¬ a < 0 := by omega
  have c2 : ¬ b < a := by omega
  have c3 : ¬ (s.size : Int) < b := by omega
  have hc : chkR s a b = if edge s a = true ∧ edge s b = true then 0 else 11 := by unfold chkR; rw [if_neg c0]
  cases e1 : edge s a
  · have h11 : chkR s a b = 11 := by rw [hc, e1]; simp
    have hE : piecesE s a b m = ([], 11) := by unfold piecesE; rw [h11, if_pos (by omega)]
    rw [hE] at d1
    rw [e1] at d2
    simp (disch := omega) [A_law6_parts, d1, d2, c1, c2, c3, dec_yes, dec_no]
  cases e2 : edge s b
  · have h11 : chkR s a b = 11 := by rw [hc, e2]; simp
    have hE : piecesE s a b m = ([], 11) := by unfold piecesE; rw [h11, if_pos (by omega)]
    rw [hE] at d1
    rw [e1] at d2
    rw [e2] at d3
    simp (disch := omega) [A_law6_parts, d1, d2, d3, c1, c2, c3, dec_yes, dec_no]
  rw [e1] at d2
  rw [e2] at d3
  have hc0 : chkR s a b = 0 := by rw [hc, e1, e2, if_pos (by simp)]
  by_cases c4 : m < 4
  · have hE : piecesE s a b m = ([], 12) := by unfold piecesE; rw [hc0, if_neg (by simp), if_pos c4]
    rw [hE] at d1
    simp (disch := omega) [A_law6_parts, d1, d2, d3, c1, c2, c3, c4, dec_yes, dec_no]
  have hE : piecesE s a b m = (piecesM m.toNat (s.extract a.toNat b.toNat), 0) := by unfold piecesE; rw [hc0, if_neg (by simp), if_neg c4]
  rw [hE] at d1
  obtain ⟨mm, rfl⟩ : ∃ mm : Nat, m = mm := ⟨m.toNat, by omega⟩
  obtain ⟨p, hp, p1, p2, p3⟩ := edge_cut e1
  obtain ⟨q, hq, q1, q2, q3⟩ := edge_cut e2
  subst hp
  subst hq
  rw [Int.toNat_natCast, Int.toNat_natCast, Int.toNat_natCast] at d1
  have hpq : p ≤ q := by omega
  have hv : valid (L (s.extract p q)) = true := by rw [ex_mid s p q hpq]; exact mid_valid hpq p2 q2
  have hz : (s.extract p q).size ≤ s.size := by rw [← L_len, L_extract, List.length_take, List.length_drop, L_len]; omega
  have d4 : Run EB _ _ = _ := law6Pieces (cp := cpB) (s.extract p q) (by omega) hv mm (by omega) (by omega)
  have hfew := piecesM_few mm (by omega) _ (s.extract p q) (Nat.le_refl _) hv
  have lp := parts_loop (piecesM mm (s.extract p q)) (by omega) (piecesM mm (s.extract p q)).length 0 (by omega)
  rw [show ((0 : Nat) : Int) = 0 from rfl] at lp
  dsimp only at d1
  generalize hx : s.extract p q = x at *
  generalize piecesM mm x = l at *
  have hsl : (strs l).length = l.length := by simp
  simp (disch := omega) [A_law6_parts, d1, d2, d3, d4, c1, c2, c3, c4, hpq, q1, hx, lp, hsl, dec_yes, dec_no]
/-! ### the closed check -/
/-- "a\nbé\n". -/
def tx6 : ByteArray := ⟨#[97, 10, 98, 195, 169, 10]⟩
theorem tx6_L : L tx6 = encs [97, 10, 98, 233, 10] := by decide +kernel
theorem tx6_sc : ∀ v ∈ ([97, 10, 98, 233, 10] : List Int), sc v := by decide
theorem tx6_valid : valid (L tx6) = true := by rw [tx6_L]; exact valid_encs' _ tx6_sc
theorem tx6_clean : cleanS tx6 = tx6 := L_inj (by
  have : L (cleanS tx6) = clean (L tx6) := L_mk _
  rw [this, clean_of_valid _ tx6_valid])
theorem tx6_at : atSpec tx6 5 = (1, 2, 0) := by
  have h1 : (L tx6).take 5 = encs [97, 10, 98, 233] := by decide +kernel
  have h2 : (L tx6).drop 5 = encs [10] := by decide +kernel
  have he : edge tx6 ((5 : Nat) : Int) = true := cut_of_edge (s := tx6) 5 (by decide) (by rw [h1]; exact valid_encs' _ (by decide)) (by rw [h2]; exact valid_encs' _ (by decide))
  have hf := fromSpec_edge (s := tx6) (k := 3) (by omega) 5 (by decide) he
  unfold atSpec
  rw [show (5 : Int) = ((5 : Nat) : Int) from rfl, hf, if_neg (by simp), Int.toNat_natCast]
  have h3 : nl ((L tx6).take 5) = 1 := by decide +kernel
  have h4 : L (lineS (tx6.extract 0 5) 1) = encs [98, 233] := by decide +kernel
  rw [h3, h4, points_encs' _ (by decide)]; rfl
theorem tx6_pieces : piecesM 4 tx6 = [⟨#[97, 10, 98]⟩, ⟨#[195, 169, 10]⟩] := by decide +kernel
set_option maxHeartbeats 4000000 in
theorem known6 : Run EB 45 [] = some (.val (pb true)) := by
  rcases ropeNew (cp := cpB) tx6 (by decide) with ⟨h2, _⟩ | ⟨_, r, hr, d1⟩
  · rw [tx6_clean] at h2; exact absurd h2 (by decide)
  rw [tx6_clean] at hr
  have d2 := linesLine (cp := cpB) cpB_all hr (by decide) 1 (by decide +kernel)
  have e2 : lineS tx6 1 = ⟨#[98, 195, 169]⟩ := by decide +kernel
  rw [e2, show ((1 : Nat) : Int) = 1 from rfl] at d2
  have d3 := linesAt (cp := cpB) hr (by decide) 5
  rw [tx6_at] at d3
  have hz : tx6.size = 6 := by decide
  have e0 : edge tx6 0 = true := cut_of_edge (s := tx6) 0 (by omega) (by rw [List.take_zero]; exact valid_nil) (by rw [List.drop_zero]; exact tx6_valid)
  have e9 := edge_last tx6_valid
  have hc : chkR tx6 0 6 = 0 := by
    rw [hz] at e9
    unfold chkR
    rw [hz, if_neg (by decide), e0, if_pos ⟨rfl, e9⟩]
  have d4 := linesPieces hr (by decide) 0 6 4
  have d5 := linesPieces hr (by decide) 0 6 3
  have e4 : piecesE tx6 0 6 4 = ([⟨#[97, 10, 98]⟩, ⟨#[195, 169, 10]⟩], 0) := by
    unfold piecesE
    rw [hc, if_neg (by simp), if_neg (by omega)]
    have : tx6.extract (0 : Int).toNat (6 : Int).toNat = tx6 := ex_whole tx6
    rw [this]
    exact congrArg (fun x => (x, (0 : Int))) tx6_pieces
  have e5 : piecesE tx6 0 6 3 = ([], 12) := by
    unfold piecesE
    rw [hc, if_neg (by simp), if_pos (by omega)]
  rw [e4] at d4
  rw [e5] at d5
  have d6 := linesCount (cp := cpB) hr (by decide)
  have e6 : nl (L tx6) = 2 := by decide +kernel
  rw [e6, show (((2 : Nat) : Int) + 1) = 3 from rfl] at d6
  have d7 := linesFind hr (by decide) ⟨#[98]⟩ 0
  have d8 := linesFind hr (by decide) ⟨#[]⟩ 0
  have e7 : findP tx6 ⟨#[98]⟩ 0 = 2 := by decide +kernel
  have e8 : findP tx6 ⟨#[]⟩ 0 = -1 := by decide +kernel
  rw [e7] at d7
  rw [e8] at d8
  unfold tx6 at d1
  rw [show EX cpB = EB from rfl] at *
  rw [show Run EB 45 [] = _ from run_fn _ A_law6_known _ rfl rfl rfl, ← show EB = EX cpB from rfl]
  simp (disch := omega) [A_law6_known, d1, d2, d3, d4, d5, d6, d7, d8, strs]
end Go.Proofs.Ytomnggbideepeaa.AM
