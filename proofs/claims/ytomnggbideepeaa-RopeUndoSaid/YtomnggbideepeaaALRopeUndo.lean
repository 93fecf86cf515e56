/- The law RopeUndo on the small machine. No condition. -/
import Derived.Test.YtomnggbideepeaaQ10
import Derived.Test.YtomnggbideepeaaAT1
import Derived.Test.YtomnggbideepeaaRW
namespace Go.Proofs.Ytomnggbideepeaa.ropeUndo
set_option linter.unusedSimpArgs false
set_option linter.unusedVariables false
open Go Go.Proofs.Ytomnggbideepeaa.U Go.Proofs.Ytomnggbideepeaa.AM
def shapes : List PSh := [.one (.tx), .one (.i .u16), .one (.i .u16), .one (.tx)]
theorem wt_u16 {x : PV} (h : WTA (.one (.i .u16)) x) : ∃ n : Nat, x = .sc (.int .u16 n) ∧ n < 65536 := by
  cases h with
  | one h =>
    cases h with
    | i hw =>
      rename_i n
      have h1 : 0 ≤ n ∧ n ≤ 65535 := by
        simp [Lit.wf, IntKind.min, IntKind.max, IntKind.signed, IntKind.bits] at hw
        exact hw
      exact ⟨n.toNat, by congr 2; omega, by omega⟩
theorem clean_same {s : ByteArray} (h : valid (L s) = true) : cleanS s = s := L_inj (by
  have : L (cleanS s) = clean (L s) := L_mk _
  rw [this, clean_of_valid _ h])
/-- Replaced, and replaced back. -/
theorem undo_plain (s t : ByteArray) (p q : Nat) (hpq : p ≤ q) (hq : q ≤ s.size) (hs : valid (L s) = true) (ht : valid (L t) = true) (ep : edge s p = true) (eq : edge s q = true) :
    chkR s p q = 0 ∧ (replS s p q t).size = s.size - (q - p) + t.size ∧ chkR (replS s p q t) p (p + t.size) = 0 ∧ replS (replS s p q t) p (p + t.size) (s.extract p q) = s := by
  obtain ⟨k, hk, k1, k2, k3⟩ := edge_cut ep
  obtain rfl : p = k := by omega
  obtain ⟨k, hk, q1, q2, q3⟩ := edge_cut eq
  obtain rfl : q = k := by omega
  have ct := clean_same ht
  have hX : replS s p q t = s.extract 0 p ++ t ++ s.extract q s.size := by unfold replS; rw [ct]; rfl
  have hL : L (replS s p q t) = (L s).take p ++ (L t ++ (L s).drop q) := by rw [hX, L_append, L_append, ex_take, ex_drop, List.append_assoc]
  have hsz : (replS s p q t).size = s.size - (q - p) + t.size := by
    rw [← L_len, hL, List.length_append, List.length_append, List.length_take, List.length_drop, L_len, L_len]; omega
  have hlp : ((L s).take p).length = p := by rw [List.length_take, L_len]; omega
  have hlt : (L t).length = t.size := L_len t
  have t1 : (L (replS s p q t)).take p = (L s).take p := by rw [hL, List.take_left' hlp]
  have t2 : (L (replS s p q t)).drop p = L t ++ (L s).drop q := by rw [hL, List.drop_left' hlp]
  have t3 : (L (replS s p q t)).take (p + t.size) = (L s).take p ++ L t := by
    rw [hL, ← List.append_assoc, List.take_left' (by rw [List.length_append, hlp, hlt])]
  have t4 : (L (replS s p q t)).drop (p + t.size) = (L s).drop q := by
    rw [hL, ← List.append_assoc, List.drop_left' (by rw [List.length_append, hlp, hlt])]
  have e1 : edge (replS s p q t) p = true := cut_of_edge p (by omega) (by rw [t1]; exact k2) (by rw [t2, valid_append ht]; exact q3)
  have e2 : edge (replS s p q t) ((p + t.size : Nat) : Int) = true := cut_of_edge (p + t.size) (by omega) (by rw [t3, valid_append k2]; exact ht) (by rw [t4]; exact q3)
  have hmid : valid (L (s.extract p q)) = true := by rw [ex_mid s p q hpq]; exact mid_valid hpq k2 q2
  refine ⟨?_, hsz, ?_, ?_⟩
  · unfold chkR
    rw [if_neg (by omega), if_pos ⟨ep, eq⟩]
  · unfold chkR
    rw [if_neg (by omega), if_pos ⟨e1, e2⟩]
  · refine L_inj ?_
    clear hX hL hsz e1 e2 t2 t3
    generalize replS s p q t = R at *
    unfold replS
    rw [clean_same hmid, L_append, L_append, ← Int.natCast_add]
    simp only [Int.toNat_natCast]
    rw [ex_take, ex_drop, t1, t4, ex_mid s p q hpq]
    have e3 := List.take_append_drop p ((L s).take q)
    rw [List.take_take, Nat.min_eq_left hpq] at e3
    rw [e3, List.take_append_drop]
set_option maxHeartbeats 4000000 in
theorem law (xs : List PV) (h : WTAs shapes xs) : Run EA 3 xs = some (.val (.sc (.bool true))) := by
  cases h with
  | cons h1 h => cases h with
  | cons h2 h => cases h with
  | cons h3 h => cases h with
  | cons h4 h =>
  cases h
  obtain ⟨s, rfl, hs⟩ := wt_str h1
  obtain ⟨f, rfl, hf⟩ := wt_u16 h2
  obtain ⟨g, rfl, hg⟩ := wt_u16 h3
  obtain ⟨t, rfl, ht⟩ := wt_str h4
  clear h1 h2 h3 h4
  have hk : Run EA 19 [] = some (.val (pb true)) := known4
  rw [show Run EA 3 [.sc (.string s), .sc (.int .u16 f), .sc (.int .u16 g), .sc (.string t)] = _ from run_fn _ A_law4_RopeUndo _ rfl rfl rfl, ← show EA = EX cpA from rfl]
  by_cases c0 : s.size ≤ 400
  case neg => simp (disch := omega) [A_law4_RopeUndo, hk, c0, dec_yes, dec_no]
  by_cases c1 : t.size ≤ 200
  case neg => simp (disch := omega) [A_law4_RopeUndo, hk, c0, c1, dec_yes, dec_no]
  have v1 : Run EA 20 _ = _ := refValid (cp := cpA) s (by omega)
  by_cases c2 : valid (L s) = true
  case neg =>
    rw [Bool.not_eq_true] at c2
    rw [c2] at v1
    simp (disch := omega) [A_law4_RopeUndo, hk, c0, c1, v1, dec_yes, dec_no]
  rw [c2] at v1
  have v2 : Run EA 20 _ = _ := refValid (cp := cpA) t (by omega)
  by_cases c3 : valid (L t) = true
  case neg =>
    rw [Bool.not_eq_true] at c3
    rw [c3] at v2
    simp (disch := omega) [A_law4_RopeUndo, hk, c0, c1, v1, v2, dec_yes, dec_no]
  rw [c3] at v2
  have cs := clean_same c2
  have ct := clean_same c3
  rcases ropeNew (cp := cpA) s (by omega) with ⟨h2, _⟩ | ⟨_, r, hr, d1⟩
  · rw [cs] at h2; omega
  rw [cs] at hr
  obtain ⟨x, hx⟩ : ∃ x, x = f % (s.size + 1) := ⟨_, rfl⟩
  obtain ⟨y, hy⟩ : ∃ y, y = g % (s.size + 1) := ⟨_, rfl⟩
  have hx1 : x ≤ s.size := by have : x < s.size + 1 := by rw [hx]; exact Nat.mod_lt _ (by omega)
                              omega
  have hy1 : y ≤ s.size := by have : y < s.size + 1 := by rw [hy]; exact Nat.mod_lt _ (by omega)
                              omega
  have tx : (f : Int).tmod ((s.size : Int) + 1) = (x : Int) := by
    have := tmod_nat f (s.size + 1)
    rw [← hx] at this; exact this
  have ty : (g : Int).tmod ((s.size : Int) + 1) = (y : Int) := by
    have := tmod_nat g (s.size + 1)
    rw [← hy] at this; exact this
  have w1 : IntKind.wrap .i64 (f : Int) = (f : Int) := wrap_in _ (by omega) (by omega)
  have w2 : IntKind.wrap .i64 (g : Int) = (g : Int) := wrap_in _ (by omega) (by omega)
  have w3 : IntKind.wrap .i64 ((s.size : Int) + 1) = (s.size : Int) + 1 := wrap_in _ (by omega) (by omega)
  have hne : ¬ ((s.size : Int) + 1 = 0) := by omega
  obtain ⟨p, hp⟩ : ∃ p, p = min x y := ⟨_, rfl⟩
  obtain ⟨q, hq⟩ : ∃ q, q = max x y := ⟨_, rfl⟩
  have m1 : mnmxs false (pi x) [pi y] = some (pi p) := by
    simp only [mnmxs, mnmx, Bool.false_eq_true, if_false]
    congr 2
    simp
    omega
  have m2 : mnmxs true (pi x) [pi y] = some (pi q) := by
    simp only [mnmxs, mnmx, if_true]
    congr 2
    simp
    omega
  have d2 := ropeIsEdge (cp := cpA) hr p
  have d3 := ropeIsEdge (cp := cpA) hr q
  rw [show EX cpA = EA from rfl] at *
  cases e1 : edge s p
  · rw [e1] at d2
    simp (disch := omega) [A_law4_RopeUndo, hk, c0, c1, v1, v2, d1, d2, tx, ty, w1, w2, w3, hne, m1, m2, -mnmxs, dec_yes, dec_no]
  cases e2 : edge s q
  · rw [e1] at d2
    rw [e2] at d3
    simp (disch := omega) [A_law4_RopeUndo, hk, c0, c1, v1, v2, d1, d2, d3, tx, ty, w1, w2, w3, hne, m1, m2, -mnmxs, dec_yes, dec_no]
  rw [e1] at d2
  rw [e2] at d3
  obtain ⟨u1, u2, u3, u4⟩ := undo_plain s t p q (by omega) (by omega) c2 c3 e1 e2
  rcases ropeReplace (cp := cpA) hr (by omega) p q t (by omega) with ⟨h3, _⟩ | ⟨_, h3, _⟩ | ⟨_, _, X, hX, d4⟩
  · exact absurd u1 h3
  · omega
  have hmz : (s.extract p q).size ≤ 400 := by rw [← L_len, L_extract, List.length_take, List.length_drop, L_len]; omega
  rcases ropeReplace (cp := cpA) hX (by omega) p (p + t.size) (s.extract p q) (by omega) with ⟨h3, _⟩ | ⟨_, h3, _⟩ | ⟨_, _, Y, hY, d5⟩
  · exact absurd u3 h3
  · rw [u4] at h3; omega
  rw [u4] at hY
  have d6 := ropeSame cpA_all hY hr
  rw [decide_eq_true rfl] at d6
  have d7 := ropeLen (cp := cpA) hX
  have d8 := ropeString cpA_all hr
  have hz : ((replS s p q t).size : Int) = (s.size : Int) - ((q : Int) - p) + t.size := by omega
  rw [hz] at d7
  rw [show EX cpA = EA from rfl] at *
  have hpq : p ≤ q := by omega
  have hqs : q ≤ s.size := by omega
  simp (disch := omega) [A_law4_RopeUndo, hk, c0, c1, v1, v2, d1, d2, d3, d4, d5, d6, d7, d8, tx, ty, w1, w2, w3, hne, m1, m2, hpq, hqs, -mnmxs, dec_yes, dec_no, wrap_in]
end Go.Proofs.Ytomnggbideepeaa.ropeUndo
