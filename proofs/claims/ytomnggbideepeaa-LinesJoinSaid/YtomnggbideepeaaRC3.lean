/- Plain: from counts to bytes, from bytes to counts, over a text and over its pieces. No condition. -/
import Derived.Test.YtomnggbideepeaaQ10
namespace Go.Proofs.Ytomnggbideepeaa.AM
set_option linter.unusedSimpArgs false
set_option linter.unusedVariables false
open Go Go.Proofs.Ytomnggbideepeaa.U
/-- The first counts from which on there are at least so many of a kind. -/
def stopAt (k n : Int) : List Int → C4 → C4
  | [], c => c
  | v :: l, c => if n ≤ get4 c k then c else stopAt k n l (add4 c (one4 v))
def toEnd (c : C4) (k n : Int) : Int × Int := if get4 c k = n then (c.1, 0) else if k = 2 then (0, 50) else (0, 11)
def toSpec (s : ByteArray) (k n : Int) : Int × Int :=
  if (0 ≤ k ∧ k ≤ 3) then (if n < 0 ∨ get4 (cntS s) k < n then (0, 10) else toEnd (stopAt k n (points (L s)) (0, 0, 0, 0)) k n) else (0, 12)
def fromSpec (s : ByteArray) (k a : Int) : Int × Int :=
  if (0 ≤ k ∧ k ≤ 3) then (if a < 0 ∨ (s.size : Int) < a then (0, 10) else if edge s a = true then (get4 (cntS (s.extract 0 a.toNat)) k, 0) else (0, 11)) else (0, 12)
def convSpec (s : ByteArray) (k j n : Int) : Int × Int :=
  if (0 ≤ k ∧ k ≤ 3) ∧ (0 ≤ j ∧ j ≤ 3) then (if (toSpec s k n).2 ≠ 0 then (0, (toSpec s k n).2) else fromSpec s j (toSpec s k n).1) else (0, 12)
/-- Nothing, where there is an error. -/
def toldP (n e : Int) : Int × Int := if e = 0 then (n, 0) else (0, e)
theorem get4_zero (k : Int) : get4 (0, 0, 0, 0) k = 0 := by unfold get4; simp
theorem get4_one (v k : Int) : 0 ≤ get4 (one4 v) k ∧ ((k = 1 ∨ k = 3) → get4 (one4 v) k ≤ 1) := by
  have a := enc_len v
  have b := cu_range v
  have c := cl_range v
  unfold get4 one4
  by_cases h0 : k = 0
  · simp [h0]
  by_cases h1 : k = 1
  · simp [h1]
  by_cases h2 : k = 2
  · simp [h2]; omega
  by_cases h3 : k = 3
  · simp [h3]; omega
  · simp [h0, h1, h2, h3]
theorem get4_cnt (l : List Int) (k : Int) : 0 ≤ get4 (cnt l) k ∧ get4 (cnt l) k ≤ 4 * l.length := by
  have r := cnt_range l
  exact get4_range _ _ _ (by omega) (by omega) (by omega) (by omega)
theorem get4_cntP (l : List ByteArray) (k : Int) : 0 ≤ get4 (cntP l) k ∧ get4 (cntP l) k ≤ 4 * (flat l).length := by
  have r := cntP_range l
  exact get4_range _ _ _ (by omega) (by omega) (by omega) (by omega)
theorem get4_cntS (s : ByteArray) (k : Int) : 0 ≤ get4 (cntS s) k ∧ get4 (cntS s) k ≤ 4 * s.size := by
  have r := cntS_range s
  exact get4_range _ _ _ (by omega) (by omega) (by omega) (by omega)
theorem stopAt_skip (k n : Int) : ∀ (us vs : List Int) (c : C4), get4 (add4 c (cnt us)) k < n → stopAt k n (us ++ vs) c = stopAt k n vs (add4 c (cnt us)) := by
  intro us
  induction us with
  | nil => intro vs c _; rw [List.nil_append, cnt, add4_zero]
  | cons v us ih =>
    intro vs c h
    have h' := h
    rw [cnt, get4_add, get4_add] at h
    have p := (get4_one v k).1
    have q := (get4_cnt us k).1
    rw [List.cons_append, stopAt, if_neg (by omega), ih vs (add4 c (one4 v)) (by rw [add4_assoc, ← cnt]; exact h'), cnt, add4_assoc]
theorem stopAt_in (k n : Int) : ∀ (us vs : List Int) (c : C4), n ≤ get4 (add4 c (cnt us)) k → stopAt k n (us ++ vs) c = stopAt k n us c := by
  intro us
  induction us with
  | nil =>
    intro vs c h
    rw [cnt, add4_zero] at h
    rw [List.nil_append, stopAt]
    cases vs with
    | nil => rfl
    | cons v vs => rw [stopAt, if_pos h]
  | cons v us ih =>
    intro vs c h
    rw [List.cons_append, stopAt, stopAt]
    split
    · rfl
    · exact ih vs _ (by rw [add4_assoc, ← cnt]; exact h)
theorem stopAt_shift (k n : Int) (a : C4) : ∀ (us : List Int) (c : C4), stopAt k n us (add4 a c) = add4 a (stopAt k (n - get4 a k) us c) := by
  intro us
  induction us with
  | nil => intro c; rfl
  | cons v us ih =>
    intro c
    rw [stopAt, stopAt, get4_add]
    by_cases h : n - get4 a k ≤ get4 c k
    · rw [if_pos h, if_pos (by omega)]
    · rw [if_neg h, if_neg (by omega), add4_assoc, ih]
theorem toEnd_shift (k n : Int) (a c : C4) : toEnd (add4 a c) k n = toldP (a.1 + (toEnd c k (n - get4 a k)).1) (toEnd c k (n - get4 a k)).2 := by
  unfold toEnd toldP
  rw [get4_add]
  by_cases h : get4 c k = n - get4 a k
  · rw [if_pos h, if_pos (by omega)]; simp [add4]
  · rw [if_neg h, if_neg (by omega)]
    by_cases h2 : k = 2
    · rw [if_pos h2]; simp
    · rw [if_neg h2]; simp
/-- How the counts of a row of valid texts are those of its bytes. -/
theorem cntS_flat {P : List ByteArray} {s : ByteArray} (h : okP P) (hf : flat P = L s) : cntS s = cntP P := by
  rw [cntP_flat P fun x hx => (h.val x hx).1, hf]; rfl
theorem points_flat_cut {P : List ByteArray} (h : okP P) (i : Nat) (hi : i < P.length) : points (flat P) = points (flat (P.take i)) ++ (points (L P[i]) ++ points (flat (P.drop (i + 1)))) := by
  have hsp : flat P = flat (P.take i) ++ (L P[i] ++ flat (P.drop (i + 1))) := by
    conv => lhs; rw [← List.take_append_drop i P, flat_append, List.drop_eq_getElem_cons hi, flat_cons]
  rw [hsp, points_append (valid_flat _ fun x hx => (h.val x (List.mem_of_mem_take hx)).1), points_append (h.val _ (List.getElem_mem hi)).1]
/-- To, over the pieces. -/
theorem to_pieces {P : List ByteArray} {s : ByteArray} (h : okP P) (hf : flat P = L s) (k n : Int) (hk : 0 ≤ k ∧ k ≤ 3) (i : Nat) (hi : i < P.length) (h1 : get4 (cntP (P.take i)) k < n) (h2 : n ≤ get4 (cntP (P.take (i + 1))) k) (hn : n ≤ get4 (cntS s) k) :
    toSpec s k n = toldP ((cntP (P.take i)).1 + (toSpec P[i] k (n - get4 (cntP (P.take i)) k)).1) (toSpec P[i] k (n - get4 (cntP (P.take i)) k)).2 := by
  have g0 := (get4_cntP (P.take i) k).1
  have e1 : cntP (P.take (i + 1)) = add4 (cntP (P.take i)) (cntS P[i]) := by
    rw [List.take_succ_eq_append_getElem hi, cntP_append, cntP, cntP, add4_zero]
  rw [e1, get4_add] at h2
  have c1 : cnt (points (flat (P.take i))) = cntP (P.take i) := (cntP_flat _ fun x hx => (h.val x (List.mem_of_mem_take hx)).1).symm
  unfold toSpec
  rw [if_pos hk, if_pos hk, if_neg (by omega), if_neg (by omega), ← hf, points_flat_cut h i hi, stopAt_skip _ _ _ _ _ (by rw [zero_add4, c1]; exact h1), zero_add4, c1, ← toEnd_shift, stopAt_in _ _ _ _ _ (by rw [get4_add]; show _ ≤ _ + get4 (cntS P[i]) k; omega)]
  rw [← stopAt_shift, add4_zero]
theorem edge_piece {P : List ByteArray} {s : ByteArray} (h : okP P) (hf : flat P = L s) (i : Nat) (hi : i < P.length) (a : Nat) (h1 : 1 ≤ a) (h2 : a ≤ P[i].size) : edge s (((flat (P.take i)).length + a : Nat) : Int) = edge P[i] (a : Int) := by
  have hsp : L s = flat (P.take i) ++ (L P[i] ++ flat (P.drop (i + 1))) := by
    rw [← hf]
    conv => lhs; rw [← List.take_append_drop i P, flat_append, List.drop_eq_getElem_cons hi, flat_cons]
  have hv1 : valid (flat (P.take i)) = true := valid_flat _ fun x hx => (h.val x (List.mem_of_mem_take hx)).1
  have hv2 := (h.val _ (List.getElem_mem hi)).1
  have hv3 : valid (flat (P.drop (i + 1))) = true := valid_flat _ fun x hx => (h.val x (List.mem_of_mem_drop hx)).1
  have hvs : valid (L s) = true := by rw [hsp, valid_append hv1, valid_append hv2]; exact hv3
  have hz : s.size = (flat (P.take i)).length + (P[i].size + (flat (P.drop (i + 1))).length) := by rw [← L_len s, hsp, List.length_append, List.length_append, L_len]
  unfold edge
  rw [hvs, hv2, Int.toNat_natCast, Int.toNat_natCast, decide_eq_true (show (0 : Int) ≤ (((flat (P.take i)).length + a : Nat) : Int) ∧ (((flat (P.take i)).length + a : Nat) : Int) ≤ s.size by omega), decide_eq_true (show (0 : Int) ≤ (a : Int) ∧ (a : Int) ≤ P[i].size by omega)]
  rcases Nat.lt_or_ge a P[i].size with hlt | hge
  · rw [decide_eq_false (show ¬ (a : Int) = P[i].size by omega), decide_eq_false (show ¬ (((flat (P.take i)).length + a : Nat) : Int) = s.size by omega), hsp, List.getElem?_append_right (by omega), Nat.add_sub_cancel_left, List.getElem?_append_left (by rw [L_len]; exact hlt)]
  · have : a = P[i].size := by omega
    subst this
    rw [decide_eq_true (show (P[i].size : Int) = P[i].size from rfl)]
    simp only [Bool.true_or, Bool.and_true, Bool.true_and]
    rcases Nat.eq_zero_or_pos (flat (P.drop (i + 1))).length with h0 | h0
    · rw [decide_eq_true (by omega)]; rfl
    · rw [hsp, List.getElem?_append_right (by omega), Nat.add_sub_cancel_left, List.getElem?_append_right (by rw [L_len]; exact Nat.le_refl _), L_len, Nat.sub_self]
      cases hd : flat (P.drop (i + 1)) with
      | nil => rw [hd] at h0; simp at h0
      | cons b t =>
        rw [hd] at hv3
        have := valid_head2 hv3
        simp [this]
theorem ahead_piece {P : List ByteArray} {s : ByteArray} (h : okP P) (hf : flat P = L s) (i : Nat) (hi : i < P.length) (a : Nat) (h2 : a ≤ P[i].size) : cntS (s.extract 0 ((flat (P.take i)).length + a)) = add4 (cntP (P.take i)) (cntS (P[i].extract 0 a)) := by
  have hsp : L s = flat (P.take i) ++ (L P[i] ++ flat (P.drop (i + 1))) := by
    rw [← hf]
    conv => lhs; rw [← List.take_append_drop i P, flat_append, List.drop_eq_getElem_cons hi, flat_cons]
  have hv1 : valid (flat (P.take i)) = true := valid_flat _ fun x hx => (h.val x (List.mem_of_mem_take hx)).1
  unfold cntS
  rw [ex_take, ex_take, hsp, List.take_length_add_append, List.take_append_of_le_length (by rw [L_len]; exact h2), points_append hv1, cnt_append, cntP_flat _ fun x hx => (h.val x (List.mem_of_mem_take hx)).1]
theorem fromSpec_in {s : ByteArray} {k : Int} (hk : 0 ≤ k ∧ k ≤ 3) (a : Nat) (h : a ≤ s.size) : fromSpec s k a = if edge s a = true then (get4 (cntS (s.extract 0 a)) k, 0) else (0, 11) := by
  unfold fromSpec
  rw [if_pos hk, if_neg (by omega), Int.toNat_natCast]
/-- From, over the pieces. -/
theorem from_pieces {P : List ByteArray} {s : ByteArray} (h : okP P) (hf : flat P = L s) (k : Int) (hk : 0 ≤ k ∧ k ≤ 3) (i : Nat) (hi : i < P.length) (a : Nat) (h1 : 1 ≤ a) (h2 : a ≤ P[i].size) :
    fromSpec s k (((flat (P.take i)).length + a : Nat) : Int) = toldP (get4 (cntP (P.take i)) k + (fromSpec P[i] k a).1) (fromSpec P[i] k a).2 := by
  have hz : (flat (P.take i)).length + a ≤ s.size := by
    rw [← L_len s, ← hf]
    conv => rhs; rw [← List.take_append_drop i P, flat_append, List.drop_eq_getElem_cons hi, flat_cons, List.length_append, List.length_append, L_len]
    omega
  rw [fromSpec_in hk _ hz, fromSpec_in hk _ h2, edge_piece h hf i hi a h1 h2, ahead_piece h hf i hi a h2, get4_add]
  unfold toldP
  by_cases e : edge P[i] (a : Int) = true
  · rw [if_pos e, if_pos e, if_pos rfl]
  · rw [if_neg e, if_neg e, if_neg (by simp)]
end Go.Proofs.Ytomnggbideepeaa.AM
