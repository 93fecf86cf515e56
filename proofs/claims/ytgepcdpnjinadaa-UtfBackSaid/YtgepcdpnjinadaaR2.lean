/- The printed reference of layer 1, part two: Valid, Clean, Points, Number, IsEdge, Back, Make. For strings of at most a million bytes. -/
import Derived.Test.YtgepcdpnjinadaaR
namespace Go.Proofs.Ytgepcdpnjinadaa.V
open Go.RowKit Go.Proofs.Ytgepcdpnjinadaa.PX Go.Proofs.YtgepcdpnjinadaaW.PrintWords Go.Proofs.YtgepcdpnjinadaaW.PrintLast Go.Proofs.Ytgepcdpnjinadaa.U Go.Lib
set_option linter.unusedVariables false

theorem rValid_l (s : ByteArray) (hs : s.size ≤ 1000000) (d : Nat) : ∀ (k i : Nat), s.size ≤ i + d → i ≤ s.size → d + 12 ≤ k → palinoderef1_Valid.l0 k s i = some (valid ((L s).drop i)) := by
  induction d with
  | zero =>
    intro k i h1 h2 hk
    obtain ⟨k, rfl⟩ : ∃ m, k = m + 1 := ⟨k - 1, by omega⟩
    simp only [palinoderef1_Valid.l0]
    rw [if_neg (by omega), L_drop_nil s i (by omega), valid_nil]
  | succ d ih =>
    intro k i h1 h2 hk
    obtain ⟨k, rfl⟩ : ∃ m, k = m + 1 := ⟨k - 1, by omega⟩
    simp only [palinoderef1_Valid.l0]
    by_cases hlt : i < s.size
    · have hl := sizeAt_le s i h2
      rw [if_pos (by omega), rSize_eq k (by omega) s (by omega), Option.bind_some, step_valid s i hlt]
      by_cases c : sizeAt s i = 0
      · rw [if_pos (by rw [c]; rfl), if_pos c]
      · rw [if_neg (by omega), if_neg c, w64 (by omega) (by omega)]
        exact ih k (i + sizeAt s i) (by omega) hl (by omega)
    · rw [if_neg (by omega), L_drop_nil s i (by omega), valid_nil]
theorem rValid_eq (k : Nat) (s : ByteArray) (hs : s.size ≤ 1000000) (hk : s.size + 12 ≤ k) : palinoderef1_Valid.f k s = some (valid (L s)) := by
  unfold palinoderef1_Valid.f
  exact rValid_l s hs s.size k 0 (by omega) (by omega) hk
theorem L_extract (s : ByteArray) (i j : Nat) : L (s.extract i j) = ((L s).drop i).take (j - i) := Lib.extract_data s i j
theorem L_size (s : ByteArray) : s.size = (L s).length := (L_len s).symm
theorem step_clean (s : ByteArray) (i : Nat) (h : i < s.size) : clean ((L s).drop i) = if sizeAt s i = 0 then [239, 191, 189] ++ clean ((L s).drop (i + 1)) else ((L s).drop i).take (sizeAt s i) ++ clean ((L s).drop (i + sizeAt s i)) := by
  obtain ⟨a, t, hd, _, ht⟩ := at_head s i h
  rw [sizeAt_in]
  by_cases c : (dec ((L s).drop i)).1 = 0
  · rw [if_pos c, ht, hd, clean_none (by rw [← hd]; exact c)]; rfl
  · rw [if_neg c]
    obtain ⟨hs, r, hl, hn⟩ := dec_enc ((L s).drop i) _ _ (Prod.eta (dec ((L s).drop i))).symm c
    have h2 : (L s).drop (i + (dec ((L s).drop i)).1) = r := by
      rw [← List.drop_drop]; conv => lhs; arg 2; rw [hl]
      rw [← hn]; exact List.drop_left
    have h3 : ((L s).drop i).take (dec ((L s).drop i)).1 = enc (dec ((L s).drop i)).2 := by
      conv => lhs; arg 2; rw [hl]
      rw [← hn]; exact List.take_left
    rw [h2, h3]
    conv => lhs; rw [hl]
    exact clean_enc1 hs r
theorem rClean_l (s : ByteArray) (hs : s.size ≤ 1000000) (d : Nat) : ∀ (k i : Nat) (acc : ByteArray), s.size ≤ i + d → i ≤ s.size → d + 12 ≤ k → acc.size ≤ 4 * i → palinoderef1_Clean.l0 k s acc i = some ⟨(L acc ++ clean ((L s).drop i)).toArray⟩ := by
  induction d with
  | zero =>
    intro k i acc h1 h2 hk ha
    obtain ⟨k, rfl⟩ : ∃ m, k = m + 1 := ⟨k - 1, by omega⟩
    simp only [palinoderef1_Clean.l0]
    rw [if_neg (by omega), L_drop_nil s i (by omega), show clean [] = [] by unfold clean; rw [points_nil]; rfl, List.append_nil, mk_L]
  | succ d ih =>
    intro k i acc h1 h2 hk ha
    obtain ⟨k, rfl⟩ : ∃ m, k = m + 1 := ⟨k - 1, by omega⟩
    simp only [palinoderef1_Clean.l0]
    by_cases hlt : i < s.size
    · have hl := sizeAt_le s i h2
      rw [if_pos (by omega), rSize_eq k (by omega) s (by omega), Option.bind_some, step_clean s i hlt]
      by_cases c : sizeAt s i = 0
      · have e1 : (acc ++ (⟨#[239, 191, 189]⟩ : ByteArray)).size = acc.size + 3 := by rw [L_size, L_append, List.length_append, ← L_size]; rfl
        rw [if_pos (by rw [c]; rfl), if_pos c, if_pos (by omega), w64 (by omega) (by omega)]
        rw [show ((i : Int) + 1) = ((i + 1 : Nat) : Int) from rfl, ih _ (i + 1) _ (by omega) (by omega) (by omega) (by rw [e1]; omega)]
        rw [L_append, List.append_assoc]; rfl
      · have e0 : (L (s.extract i (i + sizeAt s i))) = ((L s).drop i).take (sizeAt s i) := by rw [L_extract, Nat.add_sub_cancel_left]
        have e2 : (s.extract i (i + sizeAt s i)).size = sizeAt s i := by rw [L_size, e0, List.length_take, List.length_drop, L_len]; omega
        have e3 : sizeAt s i ≤ 4 := by rw [sizeAt_in]; exact (dec_le _).2
        have e1 : (acc ++ s.extract i (i + sizeAt s i)).size = acc.size + sizeAt s i := by rw [L_size, L_append, List.length_append, ← L_size, ← L_size, e2]
        rw [if_neg (by omega), if_neg c, if_pos (by omega), w64 (by omega) (by omega), if_pos (by omega), if_pos (by omega)]
        rw [show ((i : Int) + (sizeAt s i : Int)) = ((i + sizeAt s i : Nat) : Int) from rfl, Int.toNat_natCast, Int.toNat_natCast, if_pos (by omega), ih _ (i + sizeAt s i) _ (by omega) hl (by omega) (by omega)]
        rw [L_append, List.append_assoc, e0]
    · rw [if_neg (by omega), L_drop_nil s i (by omega), show clean [] = [] by unfold clean; rw [points_nil]; rfl, List.append_nil, mk_L]
theorem rClean_eq (k : Nat) (s : ByteArray) (hs : s.size ≤ 1000000) (hk : s.size + 12 ≤ k) : palinoderef1_Clean.f k s = some (cleanS s) := by
  unfold palinoderef1_Clean.f
  rw [rValid_eq k s hs hk, Option.bind_some]
  by_cases c : valid (L s) = true
  · rw [if_pos c]
    refine congrArg some (L_inj ?_)
    rw [L_clean, clean_of_valid _ c]
  · rw [if_neg c]
    exact rClean_l s hs s.size k 0 ⟨#[]⟩ (by omega) (by omega) hk (by simp [ByteArray.size])
/-- A code point's text. -/
def encS (v : Int) : ByteArray := ⟨(enc v).toArray⟩
theorem L_encS (v : Int) : L (encS v) = enc v := L_mk _
theorem rPoints_l (s : ByteArray) (hs : s.size ≤ 1000000) (d : Nat) : ∀ (k i : Nat) (acc : List ByteArray), valid ((L s).drop i) = true → s.size ≤ i + d → i ≤ s.size → d + 12 ≤ k → acc.length ≤ i → palinoderef1_Points.l0 k s acc i = some (acc ++ (points ((L s).drop i)).map encS) := by
  induction d with
  | zero =>
    intro k i acc hv h1 h2 hk ha
    obtain ⟨k, rfl⟩ : ∃ m, k = m + 1 := ⟨k - 1, by omega⟩
    simp only [palinoderef1_Points.l0]
    rw [if_neg (by omega), L_drop_nil s i (by omega), points_nil, List.map_nil, List.append_nil]
  | succ d ih =>
    intro k i acc hv h1 h2 hk ha
    obtain ⟨k, rfl⟩ : ∃ m, k = m + 1 := ⟨k - 1, by omega⟩
    simp only [palinoderef1_Points.l0]
    by_cases hlt : i < s.size
    · have hl := sizeAt_le s i h2
      have hv2 := hv
      rw [step_valid s i hlt] at hv2
      by_cases c : sizeAt s i = 0
      · rw [if_pos c] at hv2; cases hv2
      · rw [if_neg c] at hv2
        have e0 : (L (s.extract i (i + sizeAt s i))) = ((L s).drop i).take (sizeAt s i) := by rw [L_extract, Nat.add_sub_cancel_left]
        have c' : (dec ((L s).drop i)).1 ≠ 0 := by rw [← sizeAt_in]; exact c
        obtain ⟨hsc, r, hlr, hn⟩ := dec_enc ((L s).drop i) _ _ (Prod.eta (dec ((L s).drop i))).symm c'
        have h3 : ((L s).drop i).take (sizeAt s i) = enc (dec ((L s).drop i)).2 := by
          rw [sizeAt_in]; conv => lhs; arg 2; rw [hlr]
          rw [← hn]; exact List.take_left
        have e4 : s.extract i (i + sizeAt s i) = encS (dec ((L s).drop i)).2 := L_inj (by rw [e0, h3, L_encS])
        rw [if_pos (by omega), rSize_eq k (by omega) s (by omega), Option.bind_some, step_points s i hlt, if_neg c, if_pos (by omega), w64 (by omega) (by omega), if_pos (by omega), if_pos (by omega), if_pos (by omega)]
        rw [show ((i : Int) + (sizeAt s i : Int)) = ((i + sizeAt s i : Nat) : Int) from rfl, Int.toNat_natCast, Int.toNat_natCast, e4, ih _ (i + sizeAt s i) _ hv2 (by omega) hl (by omega) (by simp; omega)]
        simp
    · rw [if_neg (by omega), L_drop_nil s i (by omega), points_nil, List.map_nil, List.append_nil]
theorem points_clean (l : List UInt8) : points (clean l) = points l := points_encs' _ (points_sc l)
theorem cleanS_size (s : ByteArray) : (cleanS s).size ≤ 4 * s.size := by
  rw [L_size, L_clean, L_size s]; exact clean_le _
theorem rPoints_eq (k : Nat) (s : ByteArray) (hs : s.size ≤ 100000) (hk : 4 * s.size + 12 ≤ k) : palinoderef1_Points.f k s = some ((points (L s)).map encS) := by
  unfold palinoderef1_Points.f
  have h := cleanS_size s
  rw [rClean_eq k s (by omega) (by omega), Option.bind_some]
  have := rPoints_l (cleanS s) (by omega) (cleanS s).size k 0 [] (by rw [List.drop_zero, L_clean]; exact clean_valid _) (by omega) (by omega) (by omega) (by simp)
  rw [show ((0 : Nat) : Int) = 0 from rfl] at this
  rw [this, List.drop_zero, L_clean, points_clean]; rfl
theorem bt_nth (s : ByteArray) (l r : List UInt8) (a : UInt8) (h : L s = l ++ a :: r) (i : Int) (hi : i = l.length) : bt s i = bi a := by
  subst hi
  have := L_get s l.length a r (by rw [h]; exact List.drop_left)
  exact this.2.1
theorem num_step (k : Nat) (s : ByteArray) (v i c : Int) (h : i < s.size) (h0 : 0 ≤ i) (h1 : i < 1000) (hc : bt s i = c) (hv : 0 ≤ v) (hv2 : v < 1000000) : palinoderef1_Number.l0 (k + 1) s v i = palinoderef1_Number.l0 k s (v * 64 + c % 64) (i + 1) := by
  have hb := bt_range s i
  simp only [palinoderef1_Number.l0]
  rw [if_pos h, if_pos h0, hc, w64 (x := c) (by omega) (by omega), w64 (x := v * 64) (by omega) (by omega), w64 (x := i + 1) (by omega) (by omega), i64_63 _ (by omega) (by omega), i64_or6 _ _ (by omega) (by omega) (by omega) (by omega) (by omega)]
theorem num_end (k : Nat) (s : ByteArray) (v i : Int) (h : ¬ i < s.size) : palinoderef1_Number.l0 (k + 1) s v i = some v := by
  simp only [palinoderef1_Number.l0]
  rw [if_neg h]
theorem Number_eq (k : Nat) (hk : 6 ≤ k) (v : Int) (hv : sc v) : palinoderef1_Number.f k (encS v) = some v := by
  obtain ⟨k, rfl⟩ : ∃ m, k = m + 6 := ⟨k - 6, by omega⟩
  have hv' := hv
  unfold sc at hv'
  have hL := L_encS v
  have hz := L_size (encS v)
  unfold palinoderef1_Number.f
  by_cases c1 : v < 128
  · rw [enc_one (by omega) c1] at hL
    rw [hL] at hz
    simp only [List.length_cons, List.length_nil] at hz
    have b0 := bt_nth (encS v) [] [] _ hL 0 rfl
    rw [bi_of (by omega) (by omega)] at b0
    rw [if_pos (by omega), if_neg (by omega), if_neg (by omega), if_neg (by omega), b0, w64 (by omega) (by omega)]
    simp only [palinoderef1_Number.j0]
    rw [num_end _ _ _ _ (by omega)]
  by_cases c2 : v < 2048
  · rw [enc_two (by omega) c2] at hL
    rw [hL] at hz
    simp only [List.length_cons, List.length_nil] at hz
    have b0 := bt_nth (encS v) [] [_] _ hL 0 rfl
    have b1 := bt_nth (encS v) [_] [] _ hL 1 rfl
    rw [bi_of (by omega) (by omega)] at b0 b1
    rw [if_pos (by omega), if_pos (by omega), b0, w64 (by omega) (by omega), i64_31 _ (by omega) (by omega)]
    simp only [palinoderef1_Number.j0]
    rw [num_step _ _ _ _ _ (by omega) (by omega) (by omega) b1 (by omega) (by omega), num_end _ _ _ _ (by omega)]
    exact congrArg some (by omega)
  by_cases c3 : v < 65536
  · rw [enc_three (by omega) c3 hv] at hL
    rw [hL] at hz
    simp only [List.length_cons, List.length_nil] at hz
    have b0 := bt_nth (encS v) [] [_, _] _ hL 0 rfl
    have b1 := bt_nth (encS v) [_] [_] _ hL 1 rfl
    have b2 := bt_nth (encS v) [_, _] [] _ hL (1 + 1) rfl
    rw [bi_of (by omega) (by omega)] at b0 b1 b2
    rw [if_pos (by omega), if_neg (by omega), if_pos (by omega), b0, w64 (by omega) (by omega), i64_15 _ (by omega) (by omega)]
    simp only [palinoderef1_Number.j0]
    rw [num_step _ _ _ _ _ (by omega) (by omega) (by omega) b1 (by omega) (by omega), num_step _ _ _ _ _ (by omega) (by omega) (by omega) b2 (by omega) (by omega), num_end _ _ _ _ (by omega)]
    exact congrArg some (by omega)
  · rw [enc_four (by omega) (by omega)] at hL
    rw [hL] at hz
    simp only [List.length_cons, List.length_nil] at hz
    have b0 := bt_nth (encS v) [] [_, _, _] _ hL 0 rfl
    have b1 := bt_nth (encS v) [_] [_, _] _ hL 1 rfl
    have b2 := bt_nth (encS v) [_, _] [_] _ hL (1 + 1) rfl
    have b3 := bt_nth (encS v) [_, _, _] [] _ hL (1 + 1 + 1) rfl
    rw [bi_of (by omega) (by omega)] at b0 b1 b2 b3
    rw [if_pos (by omega), if_neg (by omega), if_neg (by omega), if_pos (by omega), b0, w64 (by omega) (by omega), i64_7 _ (by omega) (by omega)]
    simp only [palinoderef1_Number.j0]
    rw [num_step _ _ _ _ _ (by omega) (by omega) (by omega) b1 (by omega) (by omega), num_step _ _ _ _ _ (by omega) (by omega) (by omega) b2 (by omega) (by omega), num_step _ _ _ _ _ (by omega) (by omega) (by omega) b3 (by omega) (by omega), num_end _ _ _ _ (by omega)]
    exact congrArg some (by omega)
theorem rIsEdge_eq (k : Nat) (s : ByteArray) (hs : s.size ≤ 1000000) (hk : s.size + 12 ≤ k) (i : Int) : palinoderef1_IsEdge.f k s i = some (edge s i) := by
  have hb := bt_range s i
  unfold palinoderef1_IsEdge.f edge
  rw [rValid_eq k s hs hk]
  by_cases a : i < 0
  · rw [if_pos a, decide_eq_false (show ¬ 0 ≤ i by omega)]; simp
  · rw [if_neg a]
    by_cases b : i > s.size
    · rw [if_pos b, decide_eq_false (show ¬ i ≤ s.size by omega)]; simp
    · rw [if_neg b, Option.bind_some, decide_eq_true (show 0 ≤ i by omega), decide_eq_true (show i ≤ s.size by omega)]
      by_cases v : valid (L s) = true
      · rw [if_pos v, v]
        by_cases c : i = s.size
        · rw [if_pos c]; simp [c]
        · rw [if_neg c, if_pos (by omega), if_pos (by omega), w64 (by omega) (by omega), decide_eq_false c]
          by_cases d : 128 ≤ bt s i ∧ bt s i < 192
          · rw [decide_eq_true d, show bt s i / 64 = 2 by omega]; rfl
          · rw [decide_eq_false d, show (bt s i / 64 != 2) = true by rw [bne_iff_ne]; omega]; rfl
      · rw [if_neg v]
        rw [Bool.not_eq_true] at v
        rw [v]; simp
theorem rBack_l (s : ByteArray) (hs : s.size ≤ 1000000) (n : Nat) : ∀ k, n < s.size → n + 1 ≤ k → palinoderef1_Back.l0 k s n = some (bk s n : Int) := by
  induction n with
  | zero =>
    intro k h hk
    obtain ⟨k, rfl⟩ : ∃ m, k = m + 1 := ⟨k - 1, by omega⟩
    simp only [palinoderef1_Back.l0]
    rw [if_neg (by omega)]; rfl
  | succ n ih =>
    intro k h hk
    obtain ⟨k, rfl⟩ : ∃ m, k = m + 1 := ⟨k - 1, by omega⟩
    have hb := bt_range s ((n + 1 : Nat) : Int)
    simp only [palinoderef1_Back.l0]
    rw [if_pos (by omega), if_pos (by omega), if_pos (by omega), w64 (x := bt s ((n + 1 : Nat) : Int)) (by omega) (by omega), bk]
    by_cases c : 128 ≤ bt s ((n + 1 : Nat) : Int) ∧ bt s ((n + 1 : Nat) : Int) < 192
    · rw [if_pos (by omega), if_pos c, w64 (by omega) (by omega), show ((n + 1 : Nat) : Int) - 1 = (n : Int) by omega]
      exact ih k (by omega) (by omega)
    · rw [if_neg (by omega), if_neg c]
theorem rBack_eq (k : Nat) (s : ByteArray) (hs : s.size ≤ 1000000) (hk : s.size + 12 ≤ k) (i : Int) : palinoderef1_Back.f k s i = some (back s i) := by
  obtain ⟨k', rfl⟩ : ∃ m, k = m + 1 := ⟨k - 1, by omega⟩
  unfold palinoderef1_Back.f back
  by_cases a : i < 1
  · rw [if_pos a, if_pos (.inl a)]; simp only [palinoderef1_Back.j0, if_true]
  · rw [if_neg a]
    by_cases b : i > s.size
    · have he : edge s i = false := by unfold edge; rw [decide_eq_false (show ¬ i ≤ s.size by omega)]; simp
      rw [if_pos b, if_pos (.inr he)]; simp only [palinoderef1_Back.j0, if_true]
    rw [if_neg b, rIsEdge_eq (k' + 1) s hs hk, Option.bind_some]
    by_cases c : edge s i = true
    · have he := edge_valid c
      rw [if_neg (by rw [c]; simp; omega), c]
      simp only [palinoderef1_Back.j0]
      rw [if_neg (by simp), w64 (by omega) (by omega)]
      obtain ⟨n, hn⟩ : ∃ n : Nat, i - 1 = n := ⟨(i - 1).toNat, by omega⟩
      rw [hn, Int.toNat_natCast]
      exact rBack_l s hs n k' (by omega) (by omega)
    · rw [Bool.not_eq_true] at c
      rw [if_pos (.inr c), c]
      simp only [palinoderef1_Back.j0]
      rfl
theorem L_nums (l : List Int) : L (strOfNums l) = l.map fun x => x.toNat.toUInt8 := rfl
theorem o192 {y : Int} (h0 : 0 ≤ y) (h1 : y < 64) : bits .or .i64 192 y = 192 + y := i64_or6 192 y (by omega) (by omega) (by omega) h0 h1
theorem o128 {y : Int} (h0 : 0 ≤ y) (h1 : y < 64) : bits .or .i64 128 y = 128 + y := i64_or6 128 y (by omega) (by omega) (by omega) h0 h1
theorem o224 {y : Int} (h0 : 0 ≤ y) (h1 : y < 32) : bits .or .i64 224 y = 224 + y := bits_join .i64 63 (by decide) wraps_i64 5 224 y (by omega) (by omega) (by omega) h0 (by omega) (by omega)
theorem o240 {y : Int} (h0 : 0 ≤ y) (h1 : y < 16) : bits .or .i64 240 y = 240 + y := bits_join .i64 63 (by decide) wraps_i64 4 240 y (by omega) (by omega) (by omega) h0 (by omega) (by omega)
theorem rMake_eq (k : Nat) (hk : 4 ≤ k) (v : Int) : palinoderef1_Make.f k v = some (encS (utf_mk v)) := by
  obtain ⟨k, rfl⟩ : ∃ m, k = m + 4 := ⟨k - 4, by omega⟩
  have hbad : ∀ w : Int, ¬ sc w → (⟨#[239, 191, 189]⟩ : ByteArray) = encS (utf_mk w) := by
    intro w hw
    rw [mk_not hw]
    rfl
  unfold palinoderef1_Make.f
  by_cases a : v ≥ 0
  · rw [if_pos a]
    simp only [palinoderef1_Make.j0]
    by_cases c1 : v < 128
    · rw [decide_eq_true c1, if_pos rfl]
      refine congrArg some (L_inj ?_)
      rw [mk_sc (by unfold sc; omega), L_encS, enc_one a c1, L_nums, Int.emod_eq_of_lt (by omega) (by omega)]; rfl
    rw [decide_eq_false c1, if_neg (by simp), if_pos (by omega)]
    simp only [palinoderef1_Make.j1]
    by_cases c2 : v < 2048
    · rw [decide_eq_true c2, if_pos rfl]
      refine congrArg some (L_inj ?_)
      rw [mk_sc (by unfold sc; omega), L_encS, enc_two (by omega) c2, L_nums, i64_63 _ (by omega) (by omega), o192 (by omega) (by omega), o128 (by omega) (by omega), Int.emod_eq_of_lt (by omega) (by omega), Int.emod_eq_of_lt (a := 128 + v % 64) (by omega) (by omega)]; rfl
    rw [decide_eq_false c2, if_neg (by simp), if_pos (by omega)]
    by_cases c3 : v < 65536
    · rw [if_pos c3]
      have main : sc v → palinoderef1_Make.j2 (k + 2) v true = some (encS (utf_mk v)) := by
        intro hs
        simp only [palinoderef1_Make.j2]
        rw [if_pos trivial]
        refine congrArg some (L_inj ?_)
        rw [mk_sc hs, L_encS, enc_three (by omega) c3 hs, L_nums, i64_63 _ (by omega) (by omega), i64_63 _ (by omega) (by omega), o224 (by omega) (by omega), o128 (by omega) (by omega), o128 (by omega) (by omega), Int.emod_eq_of_lt (by omega) (by omega), Int.emod_eq_of_lt (a := 128 + v / 64 % 64) (by omega) (by omega), Int.emod_eq_of_lt (a := 128 + v % 64) (by omega) (by omega)]; rfl
      by_cases c4 : v < 55296
      · rw [if_pos c4]; exact main (by unfold sc; omega)
      · rw [if_neg c4]
        by_cases c5 : v ≥ 57344
        · rw [decide_eq_true c5]; exact main (by unfold sc; omega)
        · rw [decide_eq_false c5]
          simp only [palinoderef1_Make.j2]
          rw [if_neg (by simp), if_neg (by omega)]
          exact congrArg some (hbad v (by unfold sc; omega))
    · rw [if_neg c3]
      simp only [palinoderef1_Make.j2]
      rw [if_neg (by simp), if_pos (by omega)]
      by_cases c6 : v ≤ 1114111
      · rw [if_pos c6]
        refine congrArg some (L_inj ?_)
        rw [mk_sc (by unfold sc; omega), L_encS, enc_four (by omega) c6, L_nums, i64_63 _ (by omega) (by omega), i64_63 _ (by omega) (by omega), i64_63 _ (by omega) (by omega), o240 (by omega) (by omega), o128 (by omega) (by omega), o128 (by omega) (by omega), o128 (by omega) (by omega), Int.emod_eq_of_lt (by omega) (by omega), Int.emod_eq_of_lt (a := 128 + v / 4096 % 64) (by omega) (by omega), Int.emod_eq_of_lt (a := 128 + v / 64 % 64) (by omega) (by omega), Int.emod_eq_of_lt (a := 128 + v % 64) (by omega) (by omega)]; rfl
      · rw [if_neg c6]
        exact congrArg some (hbad v (by unfold sc; omega))
  · rw [if_neg a]
    simp only [palinoderef1_Make.j0]
    rw [if_neg (by simp), if_neg (by omega)]
    simp only [palinoderef1_Make.j1]
    rw [if_neg (by simp), if_neg (by omega)]
    simp only [palinoderef1_Make.j2]
    rw [if_neg (by simp), if_neg (by omega)]
    exact congrArg some (hbad v (by unfold sc; omega))

end Go.Proofs.Ytgepcdpnjinadaa.V
