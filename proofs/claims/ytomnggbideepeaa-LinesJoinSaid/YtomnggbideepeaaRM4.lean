/- Plain: from counts to an edge and back. No condition. -/
import Derived.Test.YtomnggbideepeaaRM3
namespace Go.Proofs.Ytomnggbideepeaa.AM
set_option linter.unusedSimpArgs false
set_option linter.unusedVariables false
open Go Go.Proofs.Ytomnggbideepeaa.U
theorem stopAt_prefix (k n : Int) : ∀ (us : List Int) (c : C4), ∃ u1 u2, us = u1 ++ u2 ∧ stopAt k n us c = add4 c (cnt u1) := by
  intro us
  induction us with
  | nil => intro c; exact ⟨[], [], rfl, by rw [cnt, add4_zero]; rfl⟩
  | cons v us ih =>
    intro c
    rw [stopAt]
    split
    · exact ⟨[], v :: us, rfl, by rw [cnt, add4_zero]⟩
    · obtain ⟨u1, u2, h1, h2⟩ := ih (add4 c (one4 v))
      exact ⟨v :: u1, u2, by rw [h1]; rfl, by rw [h2, cnt, add4_assoc]⟩
theorem get4_pos (v k : Int) (h : k = 0 ∨ k = 1 ∨ k = 2) : 1 ≤ get4 (one4 v) k := by
  have a := (enc_len v).1
  have b := (cu_range v).1
  unfold get4 one4
  rcases h with rfl | rfl | rfl
  · simp; omega
  · simp
  · simp; exact b
theorem stop_strict (k n : Int) (hk : k = 0 ∨ k = 1 ∨ k = 2) : ∀ (us vs : List Int) (c : C4), n = get4 (add4 c (cnt us)) k → stopAt k n (us ++ vs) c = add4 c (cnt us) := by
  intro us
  induction us with
  | nil =>
    intro vs c h
    rw [cnt, add4_zero] at h ⊢
    rw [List.nil_append]
    cases vs with
    | nil => rfl
    | cons v vs => rw [stopAt, if_pos (by omega)]
  | cons v us ih =>
    intro vs c h
    have h' := h
    rw [cnt, get4_add, get4_add] at h
    have p := get4_pos v k hk
    have q := (get4_cnt us k).1
    rw [List.cons_append, stopAt, if_neg (by omega), ih vs (add4 c (one4 v)) (by rw [h', cnt, add4_assoc]), cnt, add4_assoc]
/-- A text's code points, cut: the bytes ahead and behind. -/
theorem cut_points {s : ByteArray} (hv : valid (L s) = true) {u1 u2 : List Int} (h : points (L s) = u1 ++ u2) : ∃ p : Nat, (cnt u1).1 = p ∧ p ≤ s.size ∧ edge s p = true ∧ cntS (s.extract 0 p) = cnt u1 ∧ points (L (s.extract 0 p)) = u1 ∧ points (L (s.extract p s.size)) = u2 := by
  have hsc := points_sc (L s)
  rw [h] at hsc
  have h1 : ∀ v ∈ u1, sc v := fun v hv => hsc v (by simp [hv])
  have h2 : ∀ v ∈ u2, sc v := fun v hv => hsc v (by simp [hv])
  have hL : L s = encs u1 ++ encs u2 := by rw [← encs_append, ← h]; exact (clean_of_valid _ hv).symm
  have hp : (encs u1).length ≤ s.size := by rw [← L_len s, hL, List.length_append]; omega
  have ht : (L s).take (encs u1).length = encs u1 := by rw [hL, List.take_left]
  have hd : (L s).drop (encs u1).length = encs u2 := by rw [hL, List.drop_left]
  refine ⟨(encs u1).length, cnt_bytes u1, hp, ?_, ?_, ?_, ?_⟩
  · exact cut_of_edge _ hp (by rw [ht]; exact valid_encs' _ h1) (by rw [hd]; exact valid_encs' _ h2)
  · unfold cntS; rw [ex_take, ht, points_encs' _ h1]
  · rw [ex_take, ht, points_encs' _ h1]
  · rw [ex_drop, hd, points_encs' _ h2]
/-- What To tells: an edge of so many ahead, or an error. -/
theorem toSpec_ok {s : ByteArray} (hv : valid (L s) = true) {k n : Int} (hk : 0 ≤ k ∧ k ≤ 3) (h0 : 0 ≤ n) (h1 : n ≤ get4 (cntS s) k) : ((∃ p : Nat, toSpec s k n = ((p : Int), 0) ∧ p ≤ s.size ∧ edge s p = true ∧ get4 (cntS (s.extract 0 p)) k = n) ∨ toSpec s k n = (0, 50) ∨ toSpec s k n = (0, 11)) := by
  obtain ⟨u1, u2, e1, e2⟩ := stopAt_prefix k n (points (L s)) (0, 0, 0, 0)
  rw [zero_add4] at e2
  obtain ⟨p, p1, p2, p3, p4, p5, p6⟩ := cut_points hv e1
  unfold toSpec
  rw [if_pos hk, if_neg (by omega), e2]
  unfold toEnd
  by_cases c : get4 (cnt u1) k = n
  · left
    refine ⟨p, by rw [if_pos c, p1], p2, p3, by rw [p4]; exact c⟩
  · right
    rw [if_neg c]
    by_cases c2 : k = 2
    · rw [if_pos c2]; exact .inl rfl
    · rw [if_neg c2]; exact .inr rfl
/-- From an edge's counts to the edge. -/
theorem toSpec_edge {s : ByteArray} (hv : valid (L s) = true) {k : Int} (hk : k = 0 ∨ k = 1 ∨ k = 2) (p : Nat) (hp : edge s p = true) : toSpec s k (get4 (cntS (s.extract 0 p)) k) = ((p : Int), 0) := by
  obtain ⟨q, hq, q1, q2, q3⟩ := edge_cut hp
  have : q = p := by omega
  subst this
  have hpts : points (L s) = points ((L s).take q) ++ points ((L s).drop q) := by rw [← points_append q2, List.take_append_drop]
  have hc : cntS (s.extract 0 q) = cnt (points ((L s).take q)) := by unfold cntS; rw [ex_take]
  have hb : (cnt (points ((L s).take q))).1 = q := by
    rw [cnt_bytes]
    have : encs (points ((L s).take q)) = (L s).take q := clean_of_valid _ q2
    rw [this, List.length_take, L_len]; omega
  have g1 := (get4_cnt (points ((L s).take q)) k).1
  have g2 := (get4_cnt (points ((L s).drop q)) k).1
  have g3 : get4 (cntS s) k = get4 (cnt (points ((L s).take q))) k + get4 (cnt (points ((L s).drop q))) k := by
    unfold cntS; rw [hpts, cnt_append, get4_add]
  unfold toSpec
  rw [if_pos (by omega), hc, if_neg (by omega), hpts, stop_strict k _ hk _ _ _ (by rw [zero_add4]), zero_add4]
  unfold toEnd
  rw [if_pos rfl, hb]
theorem fromSpec_edge {s : ByteArray} {k : Int} (hk : 0 ≤ k ∧ k ≤ 3) (p : Nat) (h : p ≤ s.size) (hp : edge s p = true) : fromSpec s k p = (get4 (cntS (s.extract 0 p)) k, 0) := by
  unfold fromSpec
  rw [if_pos hk, if_neg (by omega), if_pos hp, Int.toNat_natCast]
theorem fromSpec_split {s : ByteArray} {k : Int} (hk : 0 ≤ k ∧ k ≤ 3) (p : Nat) (h : p ≤ s.size) (hp : edge s p = false) : fromSpec s k p = (0, 11) := by
  unfold fromSpec
  rw [if_pos hk, if_neg (by omega), hp, if_neg (by simp)]
theorem edge_last {s : ByteArray} (hv : valid (L s) = true) : edge s (s.size : Int) = true :=
  cut_of_edge s.size (Nat.le_refl _) (by rw [← L_len, List.take_length]; exact hv) (by rw [← L_len, List.drop_length]; exact valid_nil)
theorem ex_whole (s : ByteArray) : s.extract 0 s.size = s := L_inj (by rw [ex_take, ← L_len, List.take_length])
theorem cntS_cut {s : ByteArray} (p : Nat) (hp : p ≤ s.size) (he : edge s p = true) : cntS s = add4 (cntS (s.extract 0 p)) (cntS (s.extract p s.size)) := by
  obtain ⟨q, hq, q1, q2, q3⟩ := edge_cut he
  have : q = p := by omega
  subst this
  unfold cntS
  rw [ex_take, ex_drop, ← cnt_append, ← points_append q2, List.take_append_drop]
theorem clean_small' {n : Nat} (a : ByteArray) (h : a.size ≤ n) : (cleanS a).size ≤ 4 * n := by
  have e : L (cleanS a) = clean (L a) := L_mk _
  have hcl := clean_le (L a)
  rw [L_len, ← e, L_len] at hcl
  omega
/-- From counts to counts. -/
theorem conv_ok {s : ByteArray} (hv : valid (L s) = true) {a b : Int} (ha : a = 0 ∨ a = 1 ∨ a = 2) (hb : b = 0 ∨ b = 1 ∨ b = 2) (n : Int) (h0 : 0 ≤ n) (h1 : n ≤ get4 (cntS s) a) :
    (convSpec s a b n).2 ≠ 0 ∨ ((convSpec s a b n).2 = 0 ∧ convSpec s b a (convSpec s a b n).1 = (n, 0)) := by
  have hka : 0 ≤ a ∧ a ≤ 3 := by omega
  have hkb : 0 ≤ b ∧ b ≤ 3 := by omega
  rcases toSpec_ok hv hka h0 h1 with ⟨p, e1, e2, e3, e4⟩ | e | e
  · right
    have f1 : convSpec s a b n = (get4 (cntS (s.extract 0 p)) b, 0) := by
      unfold convSpec
      rw [if_pos ⟨hka, hkb⟩, e1, if_neg (by simp)]
      exact fromSpec_edge hkb p e2 e3
    rw [f1]
    refine ⟨rfl, ?_⟩
    unfold convSpec
    rw [if_pos ⟨hkb, hka⟩]
    dsimp only
    rw [toSpec_edge hv hb p e3, if_neg (by simp)]
    dsimp only
    rw [fromSpec_edge hka p e2 e3, e4]
  · left
    unfold convSpec
    rw [if_pos ⟨hka, hkb⟩, e]; simp
  · left
    unfold convSpec
    rw [if_pos ⟨hka, hkb⟩, e]; simp
theorem conv_end {s : ByteArray} (hv : valid (L s) = true) {a b : Int} (ha : a = 0 ∨ a = 1 ∨ a = 2) (hb : b = 0 ∨ b = 1 ∨ b = 2) : convSpec s a b (get4 (cntS s) a) = (get4 (cntS s) b, 0) := by
  have h := toSpec_edge hv ha s.size (edge_last hv)
  rw [ex_whole] at h
  unfold convSpec
  rw [if_pos (by omega), h, if_neg (by simp)]
  dsimp only
  rw [fromSpec_edge (by omega) _ (Nat.le_refl _) (edge_last hv), ex_whole]
theorem conv_over {s : ByteArray} {a b : Int} (ha : a = 0 ∨ a = 1 ∨ a = 2) (hb : b = 0 ∨ b = 1 ∨ b = 2) : (convSpec s a b (get4 (cntS s) a + 1)).2 = 10 := by
  have e : toSpec s a (get4 (cntS s) a + 1) = (0, 10) := by
    unfold toSpec
    rw [if_pos (by omega), if_pos (by omega)]
  unfold convSpec
  rw [if_pos (by omega), e, if_pos (by simp)]
end Go.Proofs.Ytomnggbideepeaa.AM
