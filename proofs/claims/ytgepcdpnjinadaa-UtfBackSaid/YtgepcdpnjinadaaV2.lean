/- The printed point, Size of package utf, against the plain law. No conditions but a string's size. -/
import Derived.Test.YtgepcdpnjinadaaV
namespace Go.Proofs.Ytgepcdpnjinadaa.V
open Go.RowKit Go.Proofs.Ytgepcdpnjinadaa.PX Go.Proofs.YtgepcdpnjinadaaW.PrintWords Go.Proofs.YtgepcdpnjinadaaW.PrintLast Go.Proofs.Ytgepcdpnjinadaa.U Go.Lib
set_option linter.unusedVariables false

theorem isPoint_eq (v : Int) : utf_isPoint.f v = some (decide (sc v)) := by
  unfold utf_isPoint.f
  by_cases a : v ≥ 0
  · rw [if_pos a]
    by_cases b : v ≤ 1114111
    · rw [if_pos b]
      by_cases c : v < 55296
      · rw [if_pos c, decide_eq_true (show sc v by unfold sc; omega)]
      · rw [if_neg c]
        exact congrArg some (decide_eq_decide.2 (by unfold sc; omega))
    · rw [if_neg b, decide_eq_false (show ¬ sc v by unfold sc; omega)]
  · rw [if_neg a, decide_eq_false (show ¬ sc v by unfold sc; omega)]
theorem w64 {x : Int} (h0 : -9223372036854775808 ≤ x) (h1 : x ≤ 9223372036854775807) : wrap64 x = x := by unfold wrap64; omega
theorem w32 {x : Int} (h0 : -2147483648 ≤ x) (h1 : x ≤ 2147483647) : wrap32 x = x := by unfold wrap32; omega
theorem long_step (k : Nat) (s : ByteArray) (hs : s.size ≤ 140737488351232) (i x2 x10 x11 m f ls : Int) (h : x11 < x2) (h0 : 0 ≤ x11) (h3 : x11 ≤ 3) (hi : 0 ≤ i) (hj : i + x11 < s.size) (a0 : 0 ≤ x10) (a1 : x10 < 1000000) :
    utf_long.l0 (k + 1) s i x2 x10 x11 m f ls = if 128 ≤ bt s (i + x11) ∧ bt s (i + x11) < 192 then utf_long.l0 k s i x2 (x10 * 64 + (bt s (i + x11) - 128)) (x11 + 1) m f ls else some (0, 0) := by
  have hb := bt_range s (i + x11)
  simp only [utf_long.l0]
  rw [if_pos h, w64 (x := i + x11) (by omega) (by omega), if_pos (by omega), if_pos hj, n192 hb.1 hb.2, m192 hb.1 hb.2]
  by_cases c : 128 ≤ bt s (i + x11) ∧ bt s (i + x11) < 192
  · rw [if_pos c, if_pos (by omega), w64 (x := x11 + 1) (by omega) (by omega), w32 (x := x10 * 64) (by omega) (by omega), w32 (x := bt s (i + x11) % 64) (by omega) (by omega), i32_or6 (x := x10 * 64) (y := bt s (i + x11) % 64) (by omega) (by omega) (by omega) (by omega) (by omega)]
    rw [show bt s (i + x11) % 64 = bt s (i + x11) - 128 by omega]
  · rw [if_neg c, if_neg (by omega)]
theorem long_end (k : Nat) (s : ByteArray) (i x2 x10 x11 m f ls : Int) (h : ¬ x11 < x2) :
    utf_long.l0 (k + 1) s i x2 x10 x11 m f ls = if ls ≤ x10 ∧ sc x10 then some (x10, x2) else some (0, 0) := by
  simp only [utf_long.l0]
  rw [if_neg h]
  by_cases c : x10 < ls
  · rw [if_pos c, if_neg (by omega)]
  · rw [if_neg c, isPoint_eq, Option.bind_some]
    by_cases d : sc x10
    · rw [if_pos (by simpa using d), if_pos ⟨by omega, d⟩]
    · rw [if_neg (by simpa using d), if_neg (by intro h; exact d h.2)]
/-- The head of what stands at a place. -/
theorem at_head (s : ByteArray) (i : Nat) (h : i < s.size) : ∃ a t, (L s).drop i = a :: t ∧ bt s i = bi a ∧ (L s).drop (i + 1) = t := by
  obtain ⟨a, e, hb⟩ := L_drop s i h
  exact ⟨a, _, e, hb.symm, rfl⟩
theorem dsize (s : ByteArray) (i : Nat) (l : List UInt8) (h : (L s).drop i = l) (hi : i ≤ s.size) : s.size = i + l.length := by
  have := congrArg List.length h
  rw [List.length_drop, L_len] at this
  omega
theorem long1 (k : Nat) (s : ByteArray) (hs : s.size ≤ 140737488351232) (i : Nat) (a : UInt8) (t : List UInt8) (hd : (L s).drop i = a :: t) (ha : bi a < 128) : utf_long.f (k + 6) s i 1 128 0 0 = some (bi a, 1) := by
  obtain ⟨hi, hb, _⟩ := L_get s i a t hd
  have hr := bi_range a
  unfold utf_long.f
  rw [w64 (by omega) (by omega), if_neg (by omega), if_pos (by omega), if_pos (by omega), hb, m128 hr.1 hr.2, w32 (by omega) (by omega), long_end _ _ _ _ _ _ _ _ _ (by omega)]
  rw [show bi a % 128 = bi a by omega, if_pos ⟨by omega, Or.inl ⟨by omega, by omega⟩⟩]
theorem long2 (k : Nat) (s : ByteArray) (hs : s.size ≤ 140737488351232) (i : Nat) (a : UInt8) (t : List UInt8) (hd : (L s).drop i = a :: t) (h0 : 192 ≤ bi a) (h1 : bi a < 224) :
    utf_long.f (k + 6) s i 2 224 192 128 = some ((dec (a :: t)).2, ((dec (a :: t)).1 : Int)) := by
  obtain ⟨hi, hb, hd1⟩ := L_get s i a t hd
  have hr := bi_range a
  have hl := dsize s i _ hd (by omega)
  rw [dec.eq_def]
  simp only
  rw [if_neg (by omega), if_neg (by omega), if_pos h1]
  unfold utf_long.f
  rw [w64 (by omega) (by omega)]
  match t, hd1, hl with
  | [], _, hl => rw [if_pos (by simp at hl; omega)]; rfl
  | p :: t, hd1, hl =>
    dsimp only
    obtain ⟨hi1, hb1, _⟩ := L_get s (i + 1) p t hd1
    have hb1' : bt s ((i : Int) + 1) = bi p := by rw [← hb1]; rfl
    rw [if_neg (by simp at hl; omega), if_pos (by omega), if_pos (by omega), hb, m224 hr.1 hr.2, w32 (by omega) (by omega), long_step _ s hs _ _ _ _ _ _ _ (by omega) (by omega) (by omega) (by omega) (by omega) (by omega) (by omega), hb1', long_end _ _ _ _ _ _ _ _ _ (by omega)]
    have hp := bi_range p
    have e : (bi a % 32) * 64 + (bi p - 128) = v2 a p := by unfold v2; omega
    rw [e]
    unfold cont
    by_cases c : 128 ≤ bi p ∧ bi p < 192
    · rw [if_pos c]
      by_cases d : 128 ≤ v2 a p
      · rw [if_pos ⟨d, Or.inl ⟨by omega, by rw [← e]; omega⟩⟩, if_pos ⟨c, d⟩]; rfl
      · rw [if_neg (by omega), if_neg (by omega)]; rfl
    · rw [if_neg c, if_neg (by omega)]; rfl
theorem long3 (k : Nat) (s : ByteArray) (hs : s.size ≤ 140737488351232) (i : Nat) (a : UInt8) (t : List UInt8) (hd : (L s).drop i = a :: t) (h0 : 224 ≤ bi a) (h1 : bi a < 240) :
    utf_long.f (k + 6) s i 3 240 224 2048 = some ((dec (a :: t)).2, ((dec (a :: t)).1 : Int)) := by
  obtain ⟨hi, hb, hd1⟩ := L_get s i a t hd
  have hr := bi_range a
  have hl := dsize s i _ hd (by omega)
  rw [dec.eq_def]
  simp only
  rw [if_neg (by omega), if_neg (by omega), if_neg (by omega), if_pos h1]
  unfold utf_long.f
  rw [w64 (by omega) (by omega)]
  match t, hd1, hl with
  | [], _, hl => rw [if_pos (by simp at hl; omega)]; rfl
  | [p], _, hl => rw [if_pos (by simp at hl; omega)]; rfl
  | p :: q :: t, hd1, hl =>
    dsimp only
    obtain ⟨hi1, hb1, hd2⟩ := L_get s (i + 1) p _ hd1
    obtain ⟨hi2, hb2, _⟩ := L_get s (i + 1 + 1) q t hd2
    have hb1' : bt s ((i : Int) + 1) = bi p := by rw [← hb1]; rfl
    have hb2' : bt s ((i : Int) + (1 + 1)) = bi q := by rw [← hb2]; congr 1
    have hp := bi_range p
    have hq := bi_range q
    rw [if_neg (by simp at hl; omega), if_pos (by omega), if_pos (by omega), hb, m240 hr.1 hr.2, w32 (by omega) (by omega), long_step _ s hs _ _ _ _ _ _ _ (by omega) (by omega) (by omega) (by omega) (by omega) (by omega) (by omega), hb1']
    unfold cont
    by_cases c : 128 ≤ bi p ∧ bi p < 192
    · rw [if_pos c, long_step _ s hs _ _ _ _ _ _ _ (by omega) (by omega) (by omega) (by omega) (by omega) (by omega) (by omega), hb2', long_end _ _ _ _ _ _ _ _ _ (by omega)]
      have e : ((bi a % 16) * 64 + (bi p - 128)) * 64 + (bi q - 128) = v3 a p q := by unfold v3; omega
      rw [e]
      by_cases c2 : 128 ≤ bi q ∧ bi q < 192
      · rw [if_pos c2]
        by_cases d : 2048 ≤ v3 a p q ∧ ¬ (55296 ≤ v3 a p q ∧ v3 a p q ≤ 57343)
        · rw [if_pos ⟨d.1, by unfold sc; omega⟩, if_pos ⟨c, c2, d.1, d.2⟩]; rfl
        · rw [if_neg (by unfold sc; omega), if_neg (by intro h; exact d ⟨h.2.2.1, h.2.2.2⟩)]; rfl
      · rw [if_neg c2, if_neg (by intro h; exact c2 h.2.1)]; rfl
    · rw [if_neg c, if_neg (by intro h; exact c h.1)]; rfl
theorem long4 (k : Nat) (s : ByteArray) (hs : s.size ≤ 140737488351232) (i : Nat) (a : UInt8) (t : List UInt8) (hd : (L s).drop i = a :: t) (h0 : 240 ≤ bi a) (h1 : bi a < 248) :
    utf_long.f (k + 6) s i 4 248 240 65536 = some ((dec (a :: t)).2, ((dec (a :: t)).1 : Int)) := by
  obtain ⟨hi, hb, hd1⟩ := L_get s i a t hd
  have hr := bi_range a
  have hl := dsize s i _ hd (by omega)
  rw [dec.eq_def]
  simp only
  rw [if_neg (by omega), if_neg (by omega), if_neg (by omega), if_neg (by omega), if_pos h1]
  unfold utf_long.f
  rw [w64 (by omega) (by omega)]
  match t, hd1, hl with
  | [], _, hl => rw [if_pos (by simp at hl; omega)]; rfl
  | [p], _, hl => rw [if_pos (by simp at hl; omega)]; rfl
  | [p, q], _, hl => rw [if_pos (by simp at hl; omega)]; rfl
  | p :: q :: r :: t, hd1, hl =>
    dsimp only
    obtain ⟨hi1, hb1, hd2⟩ := L_get s (i + 1) p _ hd1
    obtain ⟨hi2, hb2, hd3⟩ := L_get s (i + 1 + 1) q _ hd2
    obtain ⟨hi3, hb3, _⟩ := L_get s (i + 1 + 1 + 1) r t hd3
    have hb1' : bt s ((i : Int) + 1) = bi p := by rw [← hb1]; rfl
    have hb2' : bt s ((i : Int) + (1 + 1)) = bi q := by rw [← hb2]; congr 1
    have hb3' : bt s ((i : Int) + (1 + 1 + 1)) = bi r := by rw [← hb3]; congr 1
    have hp := bi_range p
    have hq := bi_range q
    have hr3 := bi_range r
    rw [if_neg (by simp at hl; omega), if_pos (by omega), if_pos (by omega), hb, m248 hr.1 hr.2, w32 (by omega) (by omega), long_step _ s hs _ _ _ _ _ _ _ (by omega) (by omega) (by omega) (by omega) (by omega) (by omega) (by omega), hb1']
    unfold cont
    by_cases c : 128 ≤ bi p ∧ bi p < 192
    · rw [if_pos c, long_step _ s hs _ _ _ _ _ _ _ (by omega) (by omega) (by omega) (by omega) (by omega) (by omega) (by omega), hb2']
      by_cases c2 : 128 ≤ bi q ∧ bi q < 192
      · rw [if_pos c2, long_step _ s hs _ _ _ _ _ _ _ (by omega) (by omega) (by omega) (by omega) (by omega) (by omega) (by omega), hb3', long_end _ _ _ _ _ _ _ _ _ (by omega)]
        have e : (((bi a % 8) * 64 + (bi p - 128)) * 64 + (bi q - 128)) * 64 + (bi r - 128) = v4 a p q r := by unfold v4; omega
        rw [e]
        by_cases c3 : 128 ≤ bi r ∧ bi r < 192
        · rw [if_pos c3]
          by_cases d : 65536 ≤ v4 a p q r ∧ v4 a p q r ≤ 1114111
          · rw [if_pos ⟨d.1, by unfold sc; omega⟩, if_pos ⟨c, c2, c3, d.1, d.2⟩]; rfl
          · rw [if_neg (by unfold sc; omega), if_neg (by intro h; exact d ⟨h.2.2.2.1, h.2.2.2.2⟩)]; rfl
        · rw [if_neg c3, if_neg (by intro h; exact c3 h.2.2.1)]; rfl
      · rw [if_neg c2, if_neg (by intro h; exact c2 h.2.1)]; rfl
    · rw [if_neg c, if_neg (by intro h; exact c h.1)]; rfl
theorem point_in (k : Nat) (s : ByteArray) (hs : s.size ≤ 140737488351232) (i : Nat) (hi : i < s.size) : utf_point.f (k + 6) s i = some ((dec ((L s).drop i)).2, ((dec ((L s).drop i)).1 : Int)) := by
  obtain ⟨a, t, hd, hb, _⟩ := at_head s i hi
  have hr := bi_range a
  unfold utf_point.f
  rw [if_neg (by omega), if_neg (by omega), utf_point.t, hb, n128 hr.1 hr.2, hd]
  by_cases c1 : bi a < 128
  · rw [if_pos (by omega), long1 k s hs i a t hd c1, dec.eq_def]
    simp only
    rw [if_pos c1]; rfl
  rw [if_neg (by omega), utf_point.t, hb, n224 hr.1 hr.2]
  by_cases c3 : 192 ≤ bi a ∧ bi a < 224
  · rw [if_pos (by omega), long2 k s hs i a t hd c3.1 c3.2]
  rw [if_neg (by omega), utf_point.t, hb, n240 hr.1 hr.2]
  by_cases c4 : 224 ≤ bi a ∧ bi a < 240
  · rw [if_pos (by omega), long3 k s hs i a t hd c4.1 c4.2]
  rw [if_neg (by omega), utf_point.t, hb, n248 hr.1 hr.2]
  by_cases c5 : 240 ≤ bi a ∧ bi a < 248
  · rw [if_pos (by omega), long4 k s hs i a t hd c5.1 c5.2]
  rw [if_neg (by omega), utf_point.t, dec.eq_def]
  simp only
  by_cases c2 : bi a < 192
  · rw [if_neg (by omega), if_pos c2]; rfl
  · rw [if_neg (by omega), if_neg c2, if_neg (by omega), if_neg (by omega), if_neg (by omega)]; rfl
theorem point_out (k : Nat) (s : ByteArray) (i : Int) (hi : i < 0 ∨ (s.size : Int) ≤ i) : utf_point.f k s i = some (0, 0) := by
  unfold utf_point.f
  by_cases c : i < 0
  · rw [if_pos c]
  · rw [if_neg c, if_pos (by omega)]
/-- The size that Go's Size tells. -/
def sizeAt (s : ByteArray) (i : Int) : Nat := if i < 0 then 0 else (dec ((L s).drop i.toNat)).1
theorem Size_eq (k : Nat) (hk : 6 ≤ k) (s : ByteArray) (hs : s.size ≤ 140737488351232) (i : Int) : utf_Size.f k s i = some (sizeAt s i : Int) := by
  obtain ⟨k, rfl⟩ : ∃ m, k = m + 6 := ⟨k - 6, by omega⟩
  unfold utf_Size.f sizeAt
  by_cases c : i < 0
  · rw [point_out _ _ _ (.inl c), if_pos c]; rfl
  rw [if_neg c]
  by_cases d : i < (s.size : Int)
  · obtain ⟨n, rfl⟩ : ∃ n : Nat, i = n := ⟨i.toNat, by omega⟩
    rw [point_in k s hs n (by omega), Option.bind_some, Int.toNat_natCast]
  · rw [point_out _ _ _ (.inr (by omega)), L_drop_nil s _ (by omega)]; rfl

end Go.Proofs.Ytgepcdpnjinadaa.V
