/- The printed reference of layer 1 (Size, Valid, Clean, Points, Number, IsEdge, Back, Make), against the plain law. For strings of at most a million bytes. -/
import Derived.Test.YtgepcdpnjinadaaV3
import Derived.Test.YtgepcdpnjinadaaPXx10
import Derived.Test.YtgepcdpnjinadaaPXx11
import Derived.Test.YtgepcdpnjinadaaPXx12
import Derived.Test.YtgepcdpnjinadaaPXx14
namespace Go.Proofs.Ytgepcdpnjinadaa.V
open Go.RowKit Go.Proofs.Ytgepcdpnjinadaa.PX Go.Proofs.YtgepcdpnjinadaaW.PrintWords Go.Proofs.YtgepcdpnjinadaaW.PrintLast Go.Proofs.Ytgepcdpnjinadaa.U Go.Lib
set_option linter.unusedVariables false

theorem wraps_i64 (n : Int) (h₀ : 0 ≤ n) (h₁ : n < 2 ^ 63) : IntKind.i64.wrap n = n := by rw [IntKind.wrap_i64]; omega
theorem i64_63 (x : Int) (h₀ : 0 ≤ x) (h₁ : x < 1099511627776) : bits .and .i64 x 63 = x % 64 := bits_mask .i64 63 (by decide) wraps_i64 6 (by decide) x h₀ (by omega)
theorem i64_31 (x : Int) (h₀ : 0 ≤ x) (h₁ : x < 1099511627776) : bits .and .i64 x 31 = x % 32 := bits_mask .i64 63 (by decide) wraps_i64 5 (by decide) x h₀ (by omega)
theorem i64_15 (x : Int) (h₀ : 0 ≤ x) (h₁ : x < 1099511627776) : bits .and .i64 x 15 = x % 16 := bits_mask .i64 63 (by decide) wraps_i64 4 (by decide) x h₀ (by omega)
theorem i64_7 (x : Int) (h₀ : 0 ≤ x) (h₁ : x < 1099511627776) : bits .and .i64 x 7 = x % 8 := bits_mask .i64 63 (by decide) wraps_i64 3 (by decide) x h₀ (by omega)
theorem i64_or6 (x y : Int) (hx₀ : 0 ≤ x) (hx : x % 64 = 0) (hx₁ : x < 1099511627776) (h₀ : 0 ≤ y) (h₁ : y < 64) : bits .or .i64 x y = x + y :=
  bits_join .i64 63 (by decide) wraps_i64 6 x y hx₀ hx (by omega) h₀ h₁ (by omega)
theorem rlong_step (k : Nat) (s : ByteArray) (hs : s.size ≤ 140737488351232) (i x6 x7 x8 x9 : Int) (h : x9 < x6) (h0 : 0 ≤ x9) (h3 : x9 ≤ 3) (hi : 0 ≤ i) (hj : i + x9 < s.size) (a0 : 0 ≤ x7) (a1 : x7 < 1000000) :
    palinoderef1_Size.l0 (k + 1) s i x6 x7 x8 x9 = if 128 ≤ bt s (i + x9) ∧ bt s (i + x9) < 192 then palinoderef1_Size.l0 k s i x6 (x7 * 64 + (bt s (i + x9) - 128)) x8 (x9 + 1) else some 0 := by
  have hb := bt_range s (i + x9)
  simp only [palinoderef1_Size.l0]
  rw [if_pos h, w64 (x := i + x9) (by omega) (by omega), if_pos (by omega), if_pos hj, w64 (x := bt s (i + x9)) (by omega) (by omega)]
  by_cases c : 128 ≤ bt s (i + x9) ∧ bt s (i + x9) < 192
  · rw [if_pos c, if_pos (by omega), w64 (x := x9 + 1) (by omega) (by omega), w64 (x := x7 * 64) (by omega) (by omega), i64_63 _ (by omega) (by omega), i64_or6 (x7 * 64) (bt s (i + x9) % 64) (by omega) (by omega) (by omega) (by omega) (by omega)]
    rw [show bt s (i + x9) % 64 = bt s (i + x9) - 128 by omega]
  · rw [if_neg c, if_neg (by omega)]
theorem rlong_end (k : Nat) (s : ByteArray) (i x6 x7 x8 x9 : Int) (h : ¬ x9 < x6) (a0 : 0 ≤ x7) :
    palinoderef1_Size.l0 (k + 1) s i x6 x7 x8 x9 = if x8 ≤ x7 ∧ sc x7 then some x6 else some 0 := by
  simp only [palinoderef1_Size.l0]
  unfold sc
  rw [if_neg h]
  by_cases c : x7 < x8
  · rw [if_pos c, if_neg (by omega)]
  · rw [if_neg c]
    by_cases d : x7 > 1114111
    · rw [if_pos d, if_neg (by omega)]
    · rw [if_neg d]
      by_cases e : x7 ≥ 55296
      · rw [if_pos e]
        by_cases f : x7 < 57344
        · rw [if_pos f, if_neg (by omega)]
        · rw [if_neg f, if_pos (by omega)]
      · rw [if_neg e, if_pos (by omega)]
theorem r2 (k : Nat) (s : ByteArray) (hs : s.size ≤ 140737488351232) (i : Nat) (a : UInt8) (t : List UInt8) (hd : (L s).drop i = a :: t) (h0 : 192 ≤ bi a) (h1 : bi a < 224) :
    palinoderef1_Size.j3 (k + 6) s i 2 (bi a % 32) 128 = some ((dec (a :: t)).1 : Int) := by
  obtain ⟨hi, hb, hd1⟩ := L_get s i a t hd
  have hr := bi_range a
  have hl := dsize s i _ hd (by omega)
  rw [dec.eq_def]
  simp only
  rw [if_neg (by omega), if_neg (by omega), if_pos h1]
  simp only [palinoderef1_Size.j3]
  rw [w64 (by omega) (by omega)]
  match t, hd1, hl with
  | [], _, hl => rw [if_pos (by simp at hl; omega)]; rfl
  | p :: t, hd1, hl =>
    dsimp only
    obtain ⟨hi1, hb1, _⟩ := L_get s (i + 1) p t hd1
    have hb1' : bt s ((i : Int) + 1) = bi p := by rw [← hb1]; rfl
    rw [if_neg (by simp at hl; omega), rlong_step _ s hs _ _ _ _ _ (by omega) (by omega) (by omega) (by omega) (by omega) (by omega) (by omega), hb1']
    have hp := bi_range p
    have e : (bi a % 32) * 64 + (bi p - 128) = v2 a p := by unfold v2; omega
    rw [e]
    unfold cont
    by_cases c : 128 ≤ bi p ∧ bi p < 192
    · rw [if_pos c, rlong_end _ _ _ _ _ _ _ (by omega) (by omega)]
      by_cases d : 128 ≤ v2 a p
      · rw [if_pos ⟨d, Or.inl ⟨by omega, by rw [← e]; omega⟩⟩, if_pos ⟨c, d⟩]; rfl
      · rw [if_neg (by omega), if_neg (by omega)]; rfl
    · rw [if_neg c, if_neg (by omega)]; rfl
theorem r3 (k : Nat) (s : ByteArray) (hs : s.size ≤ 140737488351232) (i : Nat) (a : UInt8) (t : List UInt8) (hd : (L s).drop i = a :: t) (h0 : 224 ≤ bi a) (h1 : bi a < 240) :
    palinoderef1_Size.j3 (k + 6) s i 3 (bi a % 16) 2048 = some ((dec (a :: t)).1 : Int) := by
  obtain ⟨hi, hb, hd1⟩ := L_get s i a t hd
  have hr := bi_range a
  have hl := dsize s i _ hd (by omega)
  rw [dec.eq_def]
  simp only
  rw [if_neg (by omega), if_neg (by omega), if_neg (by omega), if_pos h1]
  simp only [palinoderef1_Size.j3]
  rw [w64 (by omega) (by omega)]
  match t, hd1, hl with
  | [], _, hl => rw [if_pos (by simp at hl; omega)]; rfl
  | [p], _, hl => rw [if_pos (by simp at hl; omega)]; rfl
  | p :: q :: t, hd1, hl =>
    dsimp only
    obtain ⟨hi1, hb1, hd2⟩ := L_get s (i + 1) p _ hd1
    obtain ⟨hi2, hb2, _⟩ := L_get s (i + 1 + 1) q t hd2
    have hb1' : bt s ((i : Int) + 1) = bi p := by rw [← hb1]; rfl
    have hb2' : bt s ((i : Int) + (1 + 1)) = bi q := by rw [← hb2]; congr 1
    have hp := bi_range p
    have hq := bi_range q
    rw [if_neg (by simp at hl; omega), rlong_step _ s hs _ _ _ _ _ (by omega) (by omega) (by omega) (by omega) (by omega) (by omega) (by omega), hb1']
    unfold cont
    by_cases c : 128 ≤ bi p ∧ bi p < 192
    · rw [if_pos c, rlong_step _ s hs _ _ _ _ _ (by omega) (by omega) (by omega) (by omega) (by omega) (by omega) (by omega), hb2']
      have e : ((bi a % 16) * 64 + (bi p - 128)) * 64 + (bi q - 128) = v3 a p q := by unfold v3; omega
      rw [e]
      by_cases c2 : 128 ≤ bi q ∧ bi q < 192
      · rw [if_pos c2, rlong_end _ _ _ _ _ _ _ (by omega) (by omega)]
        by_cases d : 2048 ≤ v3 a p q ∧ ¬ (55296 ≤ v3 a p q ∧ v3 a p q ≤ 57343)
        · rw [if_pos ⟨d.1, by unfold sc; omega⟩, if_pos ⟨c, c2, d.1, d.2⟩]; rfl
        · rw [if_neg (by unfold sc; omega), if_neg (by intro h; exact d ⟨h.2.2.1, h.2.2.2⟩)]; rfl
      · rw [if_neg c2, if_neg (by intro h; exact c2 h.2.1)]; rfl
    · rw [if_neg c, if_neg (by intro h; exact c h.1)]; rfl
theorem r4 (k : Nat) (s : ByteArray) (hs : s.size ≤ 140737488351232) (i : Nat) (a : UInt8) (t : List UInt8) (hd : (L s).drop i = a :: t) (h0 : 240 ≤ bi a) (h1 : bi a < 248) :
    palinoderef1_Size.j3 (k + 6) s i 4 (bi a % 8) 65536 = some ((dec (a :: t)).1 : Int) := by
  obtain ⟨hi, hb, hd1⟩ := L_get s i a t hd
  have hr := bi_range a
  have hl := dsize s i _ hd (by omega)
  rw [dec.eq_def]
  simp only
  rw [if_neg (by omega), if_neg (by omega), if_neg (by omega), if_neg (by omega), if_pos h1]
  simp only [palinoderef1_Size.j3]
  rw [w64 (by omega) (by omega)]
  match t, hd1, hl with
  | [], _, hl => rw [if_pos (by simp at hl; omega)]; rfl
  | [p], _, hl => rw [if_pos (by simp at hl; omega)]; rfl
  | [p, q], _, hl => rw [if_pos (by simp at hl; omega)]; rfl
  | p :: q :: r :: t, hd1, hl =>
    dsimp only
    obtain ⟨hi1, hb1, hd2⟩ := L_get s (i + 1) p _ hd1
    obtain ⟨hi2, hb2, hd3⟩ := L_get s (i + 1 + 1) q _ hd2
    obtain ⟨hi3, hb3, _⟩ := L_get s (i + 1 + 1 + 1) r t hd3
    have hb1' : bt s ((i : Int) + 1) = bi p := by rw [← hb1]; rfl
    have hb2' : bt s ((i : Int) + (1 + 1)) = bi q := by rw [← hb2]; congr 1
    have hb3' : bt s ((i : Int) + (1 + 1 + 1)) = bi r := by rw [← hb3]; congr 1
    have hp := bi_range p
    have hq := bi_range q
    have hr3 := bi_range r
    rw [if_neg (by simp at hl; omega), rlong_step _ s hs _ _ _ _ _ (by omega) (by omega) (by omega) (by omega) (by omega) (by omega) (by omega), hb1']
    unfold cont
    by_cases c : 128 ≤ bi p ∧ bi p < 192
    · rw [if_pos c, rlong_step _ s hs _ _ _ _ _ (by omega) (by omega) (by omega) (by omega) (by omega) (by omega) (by omega), hb2']
      by_cases c2 : 128 ≤ bi q ∧ bi q < 192
      · rw [if_pos c2, rlong_step _ s hs _ _ _ _ _ (by omega) (by omega) (by omega) (by omega) (by omega) (by omega) (by omega), hb3']
        have e : (((bi a % 8) * 64 + (bi p - 128)) * 64 + (bi q - 128)) * 64 + (bi r - 128) = v4 a p q r := by unfold v4; omega
        rw [e]
        by_cases c3 : 128 ≤ bi r ∧ bi r < 192
        · rw [if_pos c3, rlong_end _ _ _ _ _ _ _ (by omega) (by omega)]
          by_cases d : 65536 ≤ v4 a p q r ∧ v4 a p q r ≤ 1114111
          · rw [if_pos ⟨d.1, by unfold sc; omega⟩, if_pos ⟨c, c2, c3, d.1, d.2⟩]; rfl
          · rw [if_neg (by unfold sc; omega), if_neg (by intro h; exact d ⟨h.2.2.2.1, h.2.2.2.2⟩)]; rfl
        · rw [if_neg c3, if_neg (by intro h; exact c3 h.2.2.1)]; rfl
      · rw [if_neg c2, if_neg (by intro h; exact c2 h.2.1)]; rfl
    · rw [if_neg c, if_neg (by intro h; exact c h.1)]; rfl
theorem rSize_eq (k : Nat) (hk : 9 ≤ k) (s : ByteArray) (hs : s.size ≤ 140737488351232) (i : Int) : palinoderef1_Size.f k s i = some (sizeAt s i : Int) := by
  obtain ⟨k, rfl⟩ : ∃ m, k = m + 9 := ⟨k - 9, by omega⟩
  unfold palinoderef1_Size.f sizeAt
  by_cases c : i < 0
  · rw [if_pos c, if_pos c]
    simp only [palinoderef1_Size.j0, if_true]
    rfl
  rw [if_neg c, if_neg c]
  by_cases d : i < (s.size : Int)
  · obtain ⟨n, rfl⟩ : ∃ n : Nat, i = n := ⟨i.toNat, by omega⟩
    obtain ⟨a, t, hd, hb, _⟩ := at_head s n (by omega)
    have hr := bi_range a
    rw [decide_eq_false (by omega), Int.toNat_natCast, hd]
    simp only [palinoderef1_Size.j0]
    rw [if_neg (by simp), if_pos (by omega), if_pos d, hb, w64 (x := bi a) (by omega) (by omega)]
    by_cases c1 : bi a < 128
    · rw [if_pos c1, dec.eq_def]
      simp only
      rw [if_pos c1]; rfl
    rw [if_neg c1]
    by_cases c2 : bi a ≥ 192
    · rw [if_pos c2]
      simp only [palinoderef1_Size.j1]
      by_cases c3 : bi a < 224
      · rw [decide_eq_true c3, if_pos rfl, i64_31 _ (by omega) (by omega), r2 (k + 1) s hs n a t hd c2 c3]
      · rw [decide_eq_false c3, if_neg (by simp), if_pos (by omega)]
        simp only [palinoderef1_Size.j2]
        by_cases c4 : bi a < 240
        · rw [decide_eq_true c4, if_pos rfl, i64_15 _ (by omega) (by omega), r3 k s hs n a t hd (by omega) c4]
        · rw [decide_eq_false c4, if_neg (by simp), if_pos (by omega)]
          by_cases c5 : bi a < 248
          · rw [if_pos c5, i64_7 _ (by omega) (by omega), r4 k s hs n a t hd (by omega) c5]
          · rw [if_neg c5, dec.eq_def]
            simp only
            rw [if_neg (by omega), if_neg (by omega), if_neg (by omega), if_neg (by omega), if_neg (by omega)]; rfl
    · rw [if_neg c2]
      simp only [palinoderef1_Size.j1]
      rw [if_neg (by simp), if_neg (by omega)]
      simp only [palinoderef1_Size.j2]
      rw [if_neg (by simp), if_neg (by omega), dec.eq_def]
      simp only
      rw [if_neg (by omega), if_pos (by omega)]; rfl
  · rw [decide_eq_true (by omega), L_drop_nil s _ (by omega)]
    simp only [palinoderef1_Size.j0, if_true]
    rfl

end Go.Proofs.Ytgepcdpnjinadaa.V
