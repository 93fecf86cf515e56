/- UtfJoin walked: two texts that are valid are so together; edges of the first are edges of both. No conditions. -/
import Derived.Test.YtgepcdpnjinadaaC1
import Derived.OpenShut
namespace Go.Proofs.Ytgepcdpnjinadaa.V
open Go.RowKit Go.Proofs.Ytgepcdpnjinadaa.PX Go.Proofs.YtgepcdpnjinadaaW.PrintWords Go.Proofs.YtgepcdpnjinadaaW.PrintLast Go.Proofs.YtgepcdpnjinadaaW.PrintMore Go.Proofs.Ytgepcdpnjinadaa.U Go.Lib
set_option linter.unusedVariables false
set_option linter.unusedSimpArgs false

theorem bt_append (a b : ByteArray) (i : Nat) (h : i < a.size) : bt (a ++ b) (i : Int) = bt a (i : Int) := by
  obtain ⟨x, t, hd, hb, _⟩ := at_head a i h
  have e : L (a ++ b) = (L a).take i ++ x :: (t ++ L b) := by
    rw [L_append]
    conv => lhs; rw [← List.take_append_drop i (L a)]
    rw [hd, List.append_assoc]; rfl
  rw [hb]
  exact bt_nth (a ++ b) _ _ x e i (by rw [List.length_take, L_len]; omega)
theorem size_append (a b : ByteArray) : (a ++ b).size = a.size + b.size := by rw [L_size, L_append, List.length_append, ← L_size, ← L_size]
theorem edge_append (a b : ByteArray) (ha : valid (L a) = true) (hb : valid (L b) = true) (i : Int) (h0 : 0 ≤ i) (h1 : i ≤ a.size) : edge (a ++ b) i = edge a i := by
  have hv : valid (L (a ++ b)) = true := by rw [L_append, valid_append ha]; exact hb
  by_cases c : i = a.size
  · subst c
    have ea : edge a (a.size : Int) = true := by unfold edge; rw [ha]; simp
    rw [ea]
    have e1 := clean_of_valid _ ha
    have e2 := clean_of_valid _ hb
    unfold clean at e1 e2
    have := edge_at (a ++ b) (points (L a)) (points (L b)) (points_sc _) (points_sc _) (by rw [e1, e2, L_append])
    rw [e1, ← L_size] at this
    exact this
  · obtain ⟨n, rfl⟩ : ∃ n : Nat, i = n := ⟨i.toNat, by omega⟩
    unfold edge
    rw [hv, ha, bt_append a b n (by omega), decide_eq_false c, decide_eq_false (show ¬ (n : Int) = ((a ++ b).size : Int) by rw [size_append]; omega), decide_eq_true h1, decide_eq_true (show (n : Int) ≤ ((a ++ b).size : Int) by rw [size_append]; omega)]
theorem make_points (a : ByteArray) (ha : valid (L a) = true) : (⟨(U.encs ((points (L a)).map utf_mk)).toArray⟩ : ByteArray) = a := by
  apply L_inj
  rw [L_mk, ← mks_eq, mks_sc _ (points_sc _)]
  exact clean_of_valid _ ha
set_option maxHeartbeats 8000000 in
set_option maxRecDepth 100000 in
theorem join_early (a b : ByteArray) (at_ : Int) (w : World) (c : (100 < a.size) ∨ (100 < b.size) ∨ valid (L a) = false ∨ valid (L b) = false) :
    Calls Try.prog 8 #[.string a, .string b, .int .u8 at_] w fun e w' => e = .returned (.bool true) ∧ Below w.heap.size w w' := by
  by_cases c1 : 100 < a.size
  · have c1b : decide ((100 : Int) < (a.size : Int)) = true := decide_eq_true (by omega)
    have c1c : decide (100 < a.size) = true := decide_eq_true c1
    clear c
    go_enter Try.func8, Try.ntmps8
    go_wp2_with (go_at_call 17; refine (cKnown1 _).mono ?_; rintro e w1 ⟨rfl, b1⟩)
    go_ret
    exact ⟨rfl, b1⟩
  have c1b : decide ((100 : Int) < (a.size : Int)) = false := decide_eq_false (by omega)
  have c1c : decide (100 < a.size) = false := decide_eq_false c1
  by_cases c2 : 100 < b.size
  · have c2b : decide ((100 : Int) < (b.size : Int)) = true := decide_eq_true (by omega)
    have c2c : decide (100 < b.size) = true := decide_eq_true c2
    clear c c1
    go_enter Try.func8, Try.ntmps8
    go_wp2_with (go_at_call 17; refine (cKnown1 _).mono ?_; rintro e w1 ⟨rfl, b1⟩)
    go_ret
    exact ⟨rfl, b1⟩
  have c2b : decide ((100 : Int) < (b.size : Int)) = false := decide_eq_false (by omega)
  have c2c : decide (100 < b.size) = false := decide_eq_false c2
  have hva := cValid a (by omega)
  have hvb := cValid b (by omega)
  by_cases c3 : valid (L a) = true
  · have c4 : valid (L b) = false := by rcases c with c | c | c | c; omega; omega; rw [c3] at c; cases c; exact c
    rw [c3] at hva
    rw [c4] at hvb
    clear c c1 c2 c3 c4
    go_enter Try.func8, Try.ntmps8
    go_wp2_with (first | (go_at_call 17; refine (cKnown1 _).mono ?_; rintro e w1 ⟨rfl, b1⟩) | (go_at_call 24; (with_reducible refine (hva _).mono ?_); rintro e w2 ⟨rfl, b2⟩) | (go_at_call 24; (with_reducible refine (hvb _).mono ?_); rintro e w3 ⟨rfl, b3⟩))
    go_ret
    exact ⟨rfl, below_step (below_step b1 b2) b3⟩
  · rw [Bool.not_eq_true] at c3
    rw [c3] at hva
    clear c c1 c2 c3 hvb
    go_enter Try.func8, Try.ntmps8
    go_wp2_with (first | (go_at_call 17; refine (cKnown1 _).mono ?_; rintro e w1 ⟨rfl, b1⟩) | (go_at_call 24; (with_reducible refine (hva _).mono ?_); rintro e w2 ⟨rfl, b2⟩))
    go_ret
    exact ⟨rfl, below_step b1 b2⟩
set_option maxHeartbeats 8000000 in
set_option maxRecDepth 100000 in
theorem join_main (a b : ByteArray) (at_ : Int) (h0 : 0 ≤ at_) (h1 : at_ < 256) (w : World) (c1 : a.size ≤ 100) (c2 : b.size ≤ 100) (c3 : valid (L a) = true) (c4 : valid (L b) = true) :
    Calls Try.prog 8 #[.string a, .string b, .int .u8 at_] w fun e w' => e = .returned (.bool true) ∧ Below w.heap.size w w' := by
  have hz := size_append a b
  have c1b : decide ((100 : Int) < (a.size : Int)) = false := decide_eq_false (by omega)
  have c1c : decide (100 < a.size) = false := decide_eq_false (by omega)
  have c2b : decide ((100 : Int) < (b.size : Int)) = false := decide_eq_false (by omega)
  have c2c : decide (100 < b.size) = false := decide_eq_false (by omega)
  have k0 : 0 ≤ at_ % ((a.size : Int) + 1) := Int.emod_nonneg _ (by omega)
  have k1 : at_ % ((a.size : Int) + 1) < (a.size : Int) + 1 := Int.emod_lt_of_pos _ (by omega)
  have hva := cValid a (by omega)
  have hvb := cValid b (by omega)
  have hvab := cValid (a ++ b) (by omega)
  rw [c3] at hva
  rw [c4] at hvb
  rw [L_append, valid_append c3, c4] at hvab
  have he1 := cIsEdge (a ++ b) (at_ % ((a.size : Int) + 1)) (by omega)
  rw [edge_append a b c3 c4 _ k0 (by omega)] at he1
  have he2 := cIsEdge a (at_ % ((a.size : Int) + 1)) (by omega)
  have he3 := cIsEdge (a ++ b) (a.size : Int) (by omega)
  rw [edge_append a b c3 c4 _ (by omega) (by omega), show edge a (a.size : Int) = true by unfold edge; rw [c3]; simp] at he3
  generalize edge a (at_ % ((a.size : Int) + 1)) = ed at he1 he2
  have hp1 := cPoints (a ++ b) (by omega)
  have hp2 := cPoints a (by omega)
  have hp3 := cPoints b (by omega)
  have hpl : (points (L (a ++ b))).length = (points (L a)).length + (points (L b)).length := by rw [L_append, points_append c3, List.length_append]
  have l1 := points_le (L a)
  have l2 := points_le (L b)
  rw [L_len] at l1 l2
  have hmk := make_points a c3
  rw [hpl] at hp1
  have hm := fun A c w hC hc => cMake A c (points (L a)) (by omega) w hC hc
  rw [hmk] at hm
  have hmod : 0 < (a.size : Int) + 1 := by omega
  have hmod2 : ¬ ((a.size : Int) + 1 = 0) := by omega
  have hsz64 : a.size + b.size ≤ 9223372036854775807 := by omega
  have hszL : a.size + b.size ≤ maxLen := by unfold maxLen; omega
  have hpl64 : ((points (L a)).length : Int) + ((points (L b)).length : Int) ≤ 200 := by omega
  clear c3 c4 k0 k1 hmk hpl l1 l2 hz
  go_enter Try.func8, Try.ntmps8
  go_wp2_with (first | (go_at_call 17; (with_reducible refine (cKnown1 _).mono ?_); rintro e w1 ⟨rfl, b1⟩) | (go_at_call 24; (with_reducible refine (hva _).mono ?_); rintro e w2 ⟨rfl, b2⟩) | (go_at_call 24; (with_reducible refine (hvb _).mono ?_); rintro e w3 ⟨rfl, b3⟩) | (go_at_call 24; (with_reducible refine (hvab _).mono ?_); rintro e w4 ⟨rfl, b4⟩) | (go_at_call 28; (with_reducible refine (he1 _).mono ?_); rintro e w5 ⟨rfl, b5⟩) | (go_at_call 28; (with_reducible refine (he2 _).mono ?_); rintro e w6 ⟨rfl, b6⟩) | (go_at_call 28; (with_reducible refine (he3 _).mono ?_); rintro e w7 ⟨rfl, b7⟩) | (go_at_call 19; (with_reducible refine (hp1 _).mono ?_); rintro e w8 ⟨A8, C8, rfl, _, _, b8⟩) | (go_at_call 19; (with_reducible refine (hp2 _).mono ?_); rintro e w9 ⟨A9, C9, rfl, k9, r9, b9⟩) | (go_at_call 19; (with_reducible refine (hp3 _).mono ?_); rintro e w10 ⟨A10, C10, rfl, _, _, b10⟩) | (go_at_call 32; (with_reducible refine (hm _ _ _ r9.out k9.out).mono ?_); rintro e w11 ⟨rfl, b11⟩))
  go_ret
  exact ⟨rfl, by repeat (first | assumption | refine below_step ?_ (by assumption))⟩

end Go.Proofs.Ytgepcdpnjinadaa.V
namespace Go.Proofs.Ytgepcdpnjinadaa
open Go.RowKit V U
theorem Pure.UtfJoin : True := trivial
theorem PX.palinodelaw1_UtfJoin.walk (_ : True) (a0 a1 : ByteArray) (a2 : Int) (w : World) (_ : a0.size ≤ 140737488351232) (_ : a1.size ≤ 140737488351232) (w2 : (Lit.int .u8 a2).wf = true) :
    Calls Try.prog 8 #[.string a0, .string a1, .int .u8 a2] w fun e w' => e = .returned (.bool true) ∧ Below w.heap.size w w' := by
  have hb := bounds_u8 w2
  by_cases c1 : 100 < a0.size
  · exact join_early a0 a1 a2 w (.inl c1)
  by_cases c2 : 100 < a1.size
  · exact join_early a0 a1 a2 w (.inr (.inl c2))
  by_cases c3 : valid (L a0) = true
  · by_cases c4 : valid (L a1) = true
    · exact join_main a0 a1 a2 hb.1 (by omega) w (by omega) (by omega) c3 c4
    · exact join_early a0 a1 a2 w (.inr (.inr (.inr (by simpa using c4))))
  · exact join_early a0 a1 a2 w (.inr (.inr (.inl (by simpa using c3))))
end Go.Proofs.Ytgepcdpnjinadaa
