/- The printed Valid, IsEdge, Back, Points, Make, Clean of package utf, against the plain law. For strings of at most a million bytes. -/
import Derived.Test.YtgepcdpnjinadaaV2
namespace Go.Proofs.Ytgepcdpnjinadaa.V
open Go.RowKit Go.Proofs.Ytgepcdpnjinadaa.PX Go.Proofs.YtgepcdpnjinadaaW.PrintWords Go.Proofs.YtgepcdpnjinadaaW.PrintLast Go.Proofs.Ytgepcdpnjinadaa.U Go.Lib
set_option linter.unusedVariables false

theorem sizeAt_in (s : ByteArray) (i : Nat) : sizeAt s i = (dec ((L s).drop i)).1 := by
  unfold sizeAt; rw [if_neg (by omega), Int.toNat_natCast]
theorem sizeAt_le (s : ByteArray) (i : Nat) (h : i ≤ s.size) : i + sizeAt s i ≤ s.size := by
  rw [sizeAt_in]
  have := (dec_le ((L s).drop i)).1
  rw [List.length_drop, L_len] at this
  omega
/-- What stands at a place, told by the size there. -/
theorem step_valid (s : ByteArray) (i : Nat) (h : i < s.size) : valid ((L s).drop i) = if sizeAt s i = 0 then false else valid ((L s).drop (i + sizeAt s i)) := by
  obtain ⟨a, t, hd, _, _⟩ := at_head s i h
  rw [sizeAt_in]
  by_cases c : (dec ((L s).drop i)).1 = 0
  · rw [if_pos c, hd, valid_none (by rw [← hd]; exact c)]
  · rw [if_neg c]
    conv => lhs; rw [hd, valid_cons]
    rw [dif_neg (by rw [← hd]; exact c), ← hd, List.drop_drop]
theorem step_points (s : ByteArray) (i : Nat) (h : i < s.size) : points ((L s).drop i) = if sizeAt s i = 0 then 65533 :: points ((L s).drop (i + 1)) else (dec ((L s).drop i)).2 :: points ((L s).drop (i + sizeAt s i)) := by
  obtain ⟨a, t, hd, _, ht⟩ := at_head s i h
  rw [sizeAt_in]
  by_cases c : (dec ((L s).drop i)).1 = 0
  · rw [if_pos c, ht, hd, points_none (by rw [← hd]; exact c)]
  · rw [if_neg c]
    conv => lhs; rw [hd, points_cons]
    rw [dif_neg (by rw [← hd]; exact c), ← hd, List.drop_drop]
theorem Valid_l (s : ByteArray) (hs : s.size ≤ 1000000) (d : Nat) : ∀ (k i : Nat), s.size ≤ i + d → i ≤ s.size → d + 8 ≤ k → utf_Valid.l0 k s i = some (valid ((L s).drop i)) := by
  induction d with
  | zero =>
    intro k i h1 h2 hk
    obtain ⟨k, rfl⟩ : ∃ m, k = m + 1 := ⟨k - 1, by omega⟩
    simp only [utf_Valid.l0]
    rw [if_neg (by omega), L_drop_nil s i (by omega), valid_nil]
  | succ d ih =>
    intro k i h1 h2 hk
    obtain ⟨k, rfl⟩ : ∃ m, k = m + 1 := ⟨k - 1, by omega⟩
    simp only [utf_Valid.l0]
    by_cases hlt : i < s.size
    · have hl := sizeAt_le s i h2
      rw [if_pos (by omega), Size_eq k (by omega) s (by omega), Option.bind_some, step_valid s i hlt]
      by_cases c : sizeAt s i = 0
      · rw [if_pos (by rw [c]; rfl), if_pos c]
      · rw [if_neg (by omega), if_neg c, w64 (by omega) (by omega)]
        exact ih k (i + sizeAt s i) (by omega) hl (by omega)
    · rw [if_neg (by omega), L_drop_nil s i (by omega), valid_nil]
theorem Valid_eq (k : Nat) (s : ByteArray) (hs : s.size ≤ 1000000) (hk : s.size + 8 ≤ k) : utf_Valid.f k s = some (valid (L s)) := by
  unfold utf_Valid.f
  exact Valid_l s hs s.size k 0 (by omega) (by omega) hk
theorem Points_l (s : ByteArray) (hs : s.size ≤ 1000000) (d : Nat) : ∀ (k i : Nat) (acc : List Int), s.size ≤ i + d → i ≤ s.size → d + 8 ≤ k → acc.length ≤ i → utf_Points.l0 k s acc i = some (acc ++ points ((L s).drop i)) := by
  induction d with
  | zero =>
    intro k i acc h1 h2 hk ha
    obtain ⟨k, rfl⟩ : ∃ m, k = m + 1 := ⟨k - 1, by omega⟩
    simp only [utf_Points.l0]
    rw [if_neg (by omega), L_drop_nil s i (by omega), points_nil, List.append_nil]
  | succ d ih =>
    intro k i acc h1 h2 hk ha
    obtain ⟨k, rfl⟩ : ∃ m, k = m + 1 := ⟨k - 1, by omega⟩
    simp only [utf_Points.l0]
    by_cases hlt : i < s.size
    · have hl := sizeAt_le s i h2
      obtain ⟨k', rfl⟩ : ∃ m, k = m + 6 := ⟨k - 6, by omega⟩
      rw [if_pos (by omega), point_in k' s (by omega) i hlt, Option.bind_some, step_points s i hlt, ← sizeAt_in]
      dsimp only
      by_cases c : sizeAt s i = 0
      · rw [if_pos (by rw [c]; rfl), if_pos c, if_pos (by omega), w64 (by omega) (by omega)]
        rw [show ((i : Int) + 1) = ((i + 1 : Nat) : Int) from rfl, ih _ (i + 1) (acc ++ [65533]) (by omega) (by omega) (by omega) (by simp; omega)]
        simp
      · have hv := dec_sc ((L s).drop i) (by rw [← sizeAt_in]; exact c)
        unfold sc at hv
        rw [if_neg (by omega), if_neg c, if_pos (by omega), w64 (by omega) (by omega), w64 (by omega) (by omega)]
        rw [show ((i : Int) + (sizeAt s i : Int)) = ((i + sizeAt s i : Nat) : Int) from rfl, ih _ (i + sizeAt s i) (acc ++ [(dec ((L s).drop i)).2]) (by omega) hl (by omega) (by simp; omega)]
        simp
    · rw [if_neg (by omega), L_drop_nil s i (by omega), points_nil, List.append_nil]
theorem Points_eq (k : Nat) (s : ByteArray) (hs : s.size ≤ 1000000) (hk : s.size + 8 ≤ k) : utf_Points.f k s = some (points (L s)) := by
  unfold utf_Points.f
  have := Points_l s hs s.size k 0 [] (by omega) (by omega) hk (by simp)
  simpa using this
theorem mk_sc {v : Int} (h : sc v) : utf_mk v = v := by
  unfold sc at h
  unfold utf_mk
  rcases h with h | h
  · rw [if_pos h.1, if_pos (by omega), if_pos h.2]
  · rw [if_pos (by omega), if_pos h.2, if_neg (by omega), if_pos h.1]
theorem mk_not {v : Int} (h : ¬ sc v) : utf_mk v = 65533 := by
  unfold sc at h
  unfold utf_mk
  by_cases a : 0 ≤ v
  · rw [if_pos a]
    by_cases b : v ≤ 1114111
    · rw [if_pos b, if_neg (by omega), if_neg (by omega)]
    · rw [if_neg b]
  · rw [if_neg a]
theorem sc_mk (v : Int) : sc (utf_mk v) := by
  by_cases h : sc v
  · rw [mk_sc h]; exact h
  · rw [mk_not h]; exact sc_bad
theorem mks_eq (l : List Int) : utf_mks l = encs (l.map utf_mk) := by
  induction l with
  | nil => rfl
  | cons v l ih => rw [List.map_cons, encs_cons, ← ih]; rfl
theorem mks_sc (l : List Int) (h : ∀ v ∈ l, sc v) : utf_mks l = encs l := by
  rw [mks_eq]
  congr 1
  conv => rhs; rw [← List.map_id l]
  exact List.map_congr_left (fun v hv => mk_sc (h v hv))
theorem Make_eq (l : List Int) (h : l.length ≤ 1000000) : utf_Make.f l = some ⟨(encs (l.map utf_mk)).toArray⟩ := by
  unfold utf_Make.f
  rw [if_pos (by omega), mks_eq]
theorem Make_sc (l : List Int) (h : l.length ≤ 1000000) (hs : ∀ v ∈ l, sc v) : utf_Make.f l = some ⟨(encs l).toArray⟩ := by
  unfold utf_Make.f
  rw [if_pos (by omega), mks_sc l hs]
/-- A cleaned string. -/
def cleanS (s : ByteArray) : ByteArray := ⟨(clean (L s)).toArray⟩
theorem L_clean (s : ByteArray) : L (cleanS s) = clean (L s) := L_mk _
theorem Clean_eq (k : Nat) (s : ByteArray) (hs : s.size ≤ 1000000) (hk : s.size + 8 ≤ k) : utf_Clean.f k s = some (cleanS s) := by
  unfold utf_Clean.f
  rw [Valid_eq k s hs hk, Option.bind_some]
  by_cases c : valid (L s) = true
  · rw [if_pos c]
    refine congrArg some (L_inj ?_)
    rw [L_clean, clean_of_valid _ c]
  · rw [if_neg c, Points_eq k s hs hk, Option.bind_some, Make_sc _ _ (points_sc _)]
    · rfl
    · have := points_le (L s); rw [L_len] at this; omega
/-- Is a place an edge? -/
def edge (s : ByteArray) (i : Int) : Bool := decide (0 ≤ i) && decide (i ≤ s.size) && (decide (i = s.size) || !decide (128 ≤ bt s i ∧ bt s i < 192)) && valid (L s)
theorem IsEdge_eq (k : Nat) (s : ByteArray) (hs : s.size ≤ 1000000) (hk : s.size + 8 ≤ k) (i : Int) : utf_IsEdge.f k s i = some (edge s i) := by
  have hb := bt_range s i
  unfold utf_IsEdge.f edge
  rw [Valid_eq k s hs hk, n192 hb.1 hb.2]
  by_cases a : i ≥ 0
  · rw [if_pos a]
    by_cases b : i ≤ s.size
    · rw [if_pos b]
      by_cases c : i = s.size
      · rw [if_pos c]; simp [c]
      · rw [if_neg c, if_pos a, if_pos (by omega)]
        by_cases d : 128 ≤ bt s i ∧ bt s i < 192
        · rw [if_pos (by omega)]; simp [c, d]
        · rw [if_neg (by omega)]; simp only [Option.bind_some]; rw [decide_eq_true a, decide_eq_true b, decide_eq_false c, decide_eq_false d]; simp
    · rw [if_neg b, decide_eq_false b]; simp
  · rw [if_neg a, decide_eq_false (show ¬ 0 ≤ i by omega)]; simp
/-- Back over bytes that go on. -/
def bk (s : ByteArray) : Nat → Nat
  | 0 => 0
  | n + 1 => if 128 ≤ bt s ((n + 1 : Nat) : Int) ∧ bt s ((n + 1 : Nat) : Int) < 192 then bk s n else n + 1
def back (s : ByteArray) (i : Int) : Int := if i < 1 ∨ edge s i = false then i else (bk s (i - 1).toNat : Int)
theorem first_edge (s : ByteArray) (hv : valid (L s) = true) (h : 0 < s.size) : ¬ (128 ≤ bt s 0 ∧ bt s 0 < 192) := by
  obtain ⟨a, t, hd, hb, _⟩ := at_head s 0 h
  intro hc
  rw [List.drop_zero] at hd
  rw [hd, valid_none (dec_cont (by unfold cont; rw [← hb]; exact hc) t)] at hv
  cases hv
theorem Back_l (s : ByteArray) (hs : s.size ≤ 1000000) (hv : valid (L s) = true) (n : Nat) : ∀ k, n < s.size → n + 1 ≤ k → utf_Back.l0 k s n = some (bk s n : Int) := by
  induction n with
  | zero =>
    intro k h hk
    obtain ⟨k, rfl⟩ : ∃ m, k = m + 1 := ⟨k - 1, by omega⟩
    have hb := bt_range s ((0 : Nat) : Int)
    have hf : ¬ (128 ≤ bt s ((0 : Nat) : Int) ∧ bt s ((0 : Nat) : Int) < 192) := first_edge s hv h
    simp only [utf_Back.l0]
    rw [if_pos (by omega), if_pos (by omega), n192 hb.1 hb.2, if_neg (by omega)]; rfl
  | succ n ih =>
    intro k h hk
    obtain ⟨k, rfl⟩ : ∃ m, k = m + 1 := ⟨k - 1, by omega⟩
    have hb := bt_range s ((n + 1 : Nat) : Int)
    simp only [utf_Back.l0]
    rw [if_pos (by omega), if_pos (by omega), n192 hb.1 hb.2, bk]
    by_cases c : 128 ≤ bt s ((n + 1 : Nat) : Int) ∧ bt s ((n + 1 : Nat) : Int) < 192
    · rw [if_pos (by omega), if_pos c, w64 (by omega) (by omega), show ((n + 1 : Nat) : Int) - 1 = (n : Int) by omega]
      exact ih k (by omega) (by omega)
    · rw [if_neg (by omega), if_neg c]
theorem edge_valid {s : ByteArray} {i : Int} (h : edge s i = true) : valid (L s) = true ∧ 0 ≤ i ∧ i ≤ s.size := by
  unfold edge at h
  simp only [Bool.and_eq_true, decide_eq_true_eq] at h
  exact ⟨h.2, h.1.1.1, h.1.1.2⟩
theorem Back_eq (k : Nat) (s : ByteArray) (hs : s.size ≤ 1000000) (hk : s.size + 8 ≤ k) (i : Int) : utf_Back.f k s i = some (back s i) := by
  obtain ⟨k', rfl⟩ : ∃ m, k = m + 1 := ⟨k - 1, by omega⟩
  unfold utf_Back.f back
  by_cases a : i < 1
  · rw [if_pos a, if_pos (.inl a)]; simp only [utf_Back.j0, if_true]
  · rw [if_neg a, IsEdge_eq (k' + 1) s hs hk, Option.bind_some]
    by_cases c : edge s i = true
    · have he := edge_valid c
      rw [if_neg (by rw [c]; simp; omega), c]
      simp only [utf_Back.j0]
      rw [if_neg (by simp), w64 (by omega) (by omega)]
      obtain ⟨n, hn⟩ : ∃ n : Nat, i - 1 = n := ⟨(i - 1).toNat, by omega⟩
      rw [hn, Int.toNat_natCast]
      exact Back_l s hs he.1 n k' (by omega) (by omega)
    · rw [Bool.not_eq_true] at c
      rw [if_pos (.inr c), c]
      simp only [utf_Back.j0]
      rfl

end Go.Proofs.Ytgepcdpnjinadaa.V
