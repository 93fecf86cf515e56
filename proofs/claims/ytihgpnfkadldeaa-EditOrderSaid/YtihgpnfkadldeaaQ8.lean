/- MADE BY sync2.py: AR2, AR3, AR4, AR5, AR6, AR7, one behind the other. No condition but what they say. -/
import Derived.Test.YtihgpnfkadldeaaQ7
section
/- utf.point on the small machine: the code point that stands at a place, and its size. For texts of less than 2^40 bytes. -/
namespace Go.Proofs.Ytihgpnfkadldeaa.AM
set_option linter.unusedSimpArgs false
set_option linter.unusedVariables false
open Go Go.Proofs.Ytihgpnfkadldeaa.U
variable {cp : List PV → Option Ret}
def big : Nat := 1099511627776
def rDec (d : Nat × Int) : Option Ret := some (.val (.tu [pI .i32 d.2, pi d.1]))

theorem long1 (s : ByteArray) (i : Nat) (hs : s.size < 1099511627776) (a : UInt8) (t : List UInt8) (hd : (L s).drop i = a :: t) (ha : bi a < 128) :
    Run (EX cp) 92 [.sc (.string s), pi i, pi 1, .st [pI .u8 128, pI .u8 0, pI .i32 0]] = rDec (dec (a :: t)) := by
  have hr := bi_range a
  have hlt := (bt_at s i a t hd).2.1
  have e := m128 a
  rw [long_ex s i 1 128 0 0 (bi a) 1 (by omega) hs a t hd (bi a) (by omega) hr.1 hr.2 (by omega) (long_end s i 1 128 0 0 (bi a) 1 (by omega)), if_pos ⟨hr.1, .inl ⟨hr.1, by omega⟩⟩]
  rw [dec.eq_def]; simp only; rw [if_pos ha]; rfl
theorem long2 (s : ByteArray) (i : Nat) (hs : s.size < 1099511627776) (a : UInt8) (t : List UInt8) (hd : (L s).drop i = a :: t) (h0 : 192 ≤ bi a) (h1 : bi a < 224) :
    Run (EX cp) 92 [.sc (.string s), pi i, pi 2, .st [pI .u8 224, pI .u8 192, pI .i32 128]] = rDec (dec (a :: t)) := by
  obtain ⟨_, hi, hd1⟩ := bt_at s i a t hd
  have hr := bi_range a
  have hl := drop_len s i _ hd (by omega)
  have e := m224 a
  rw [dec.eq_def]; simp only
  rw [if_neg (by omega), if_neg (by omega), if_pos h1]
  match t, hd, hd1, hl with
  | [], hd, _, hl => exact long_short s i 2 224 192 128 (by omega) hs (by simp at hl; omega)
  | p :: t, hd, hd1, hl =>
    have hp := bi_range p
    have e2 : (bi a % 32) * 64 + (bi p - 128) = v2 a p := by unfold v2; omega
    have hst := long_step (cp := cp) s i 2 224 192 128 (bi a % 32) 1 (by omega) (by omega) (by omega) p t hd1 (by omega) (by omega)
    dsimp only
    by_cases c : cont p
    · rw [if_pos c, e2] at hst
      unfold cont at c
      rw [show ((1 : Nat) : Int) + 1 = ((2 : Nat) : Int) from rfl, long_end s i 2 224 192 128 (v2 a p) 2 (by omega)] at hst
      rw [long_ex s i 2 224 192 128 (v2 a p) 2 (by omega) hs a (p :: t) hd (bi a % 32) e (by omega) (by omega) (by simp at hl; omega) hst]
      by_cases d : 128 ≤ v2 a p
      · rw [if_pos ⟨d, .inl ⟨by omega, by rw [← e2]; omega⟩⟩, if_pos ⟨c, d⟩]; rfl
      · rw [if_neg (fun h => d h.1), if_neg (fun h => d h.2)]; rfl
    · rw [if_neg c] at hst
      rw [long_ret s i 2 224 192 128 (by omega) hs a (p :: t) hd (bi a % 32) e (by omega) (by omega) (by simp at hl; omega) hst, if_neg (fun h => c h.1)]; rfl
theorem long3 (s : ByteArray) (i : Nat) (hs : s.size < 1099511627776) (a : UInt8) (t : List UInt8) (hd : (L s).drop i = a :: t) (h0 : 224 ≤ bi a) (h1 : bi a < 240) :
    Run (EX cp) 92 [.sc (.string s), pi i, pi 3, .st [pI .u8 240, pI .u8 224, pI .i32 2048]] = rDec (dec (a :: t)) := by
  obtain ⟨_, hi, hd1⟩ := bt_at s i a t hd
  have hr := bi_range a
  have hl := drop_len s i _ hd (by omega)
  have e := m240 a
  rw [dec.eq_def]; simp only
  rw [if_neg (by omega), if_neg (by omega), if_neg (by omega), if_pos h1]
  match t, hd, hd1, hl with
  | [], hd, _, hl => exact long_short s i 3 240 224 2048 (by omega) hs (by simp at hl; omega)
  | [p], hd, _, hl => exact long_short s i 3 240 224 2048 (by omega) hs (by simp at hl; omega)
  | p :: q :: t, hd, hd1, hl =>
    obtain ⟨_, hi1, hd2⟩ := bt_at s (i + 1) p _ hd1
    have hp := bi_range p
    have hq := bi_range q
    have e2 : ((bi a % 16) * 64 + (bi p - 128)) * 64 + (bi q - 128) = v3 a p q := by unfold v3; omega
    have hst := long_step (cp := cp) s i 3 240 224 2048 (bi a % 16) 1 (by omega) (by omega) (by omega) p _ hd1 (by omega) (by omega)
    dsimp only
    by_cases c : cont p
    · rw [if_pos c] at hst
      have c' := c
      unfold cont at c'
      rw [show ((1 : Nat) : Int) + 1 = ((2 : Nat) : Int) from rfl, long_step s i 3 240 224 2048 _ 2 (by omega) (by omega) (by omega) q _ hd2 (by omega) (by omega), e2] at hst
      by_cases c2 : cont q
      · rw [if_pos c2] at hst
        have c2' := c2
        unfold cont at c2'
        rw [show ((2 : Nat) : Int) + 1 = ((3 : Nat) : Int) from rfl, long_end s i 3 240 224 2048 (v3 a p q) 3 (by omega)] at hst
        rw [long_ex s i 3 240 224 2048 (v3 a p q) 3 (by omega) hs a (p :: q :: t) hd (bi a % 16) e (by omega) (by omega) (by simp at hl; omega) hst]
        by_cases d : 2048 ≤ v3 a p q ∧ ¬ (55296 ≤ v3 a p q ∧ v3 a p q ≤ 57343)
        · rw [if_pos ⟨d.1, by unfold sc; omega⟩, if_pos ⟨c, c2, d.1, d.2⟩]; rfl
        · rw [if_neg (by unfold sc; omega), if_neg (fun h => d ⟨h.2.2.1, h.2.2.2⟩)]; rfl
      · rw [if_neg c2] at hst
        rw [long_ret s i 3 240 224 2048 (by omega) hs a (p :: q :: t) hd (bi a % 16) e (by omega) (by omega) (by simp at hl; omega) hst, if_neg (fun h => c2 h.2.1)]; rfl
    · rw [if_neg c] at hst
      rw [long_ret s i 3 240 224 2048 (by omega) hs a (p :: q :: t) hd (bi a % 16) e (by omega) (by omega) (by simp at hl; omega) hst, if_neg (fun h => c h.1)]; rfl
theorem long4 (s : ByteArray) (i : Nat) (hs : s.size < 1099511627776) (a : UInt8) (t : List UInt8) (hd : (L s).drop i = a :: t) (h0 : 240 ≤ bi a) (h1 : bi a < 248) :
    Run (EX cp) 92 [.sc (.string s), pi i, pi 4, .st [pI .u8 248, pI .u8 240, pI .i32 65536]] = rDec (dec (a :: t)) := by
  obtain ⟨_, hi, hd1⟩ := bt_at s i a t hd
  have hr := bi_range a
  have hl := drop_len s i _ hd (by omega)
  have e := m248 a
  rw [dec.eq_def]; simp only
  rw [if_neg (by omega), if_neg (by omega), if_neg (by omega), if_neg (by omega), if_pos h1]
  match t, hd, hd1, hl with
  | [], hd, _, hl => exact long_short s i 4 248 240 65536 (by omega) hs (by simp at hl; omega)
  | [p], hd, _, hl => exact long_short s i 4 248 240 65536 (by omega) hs (by simp at hl; omega)
  | [p, q], hd, _, hl => exact long_short s i 4 248 240 65536 (by omega) hs (by simp at hl; omega)
  | p :: q :: r :: t, hd, hd1, hl =>
    obtain ⟨_, hi1, hd2⟩ := bt_at s (i + 1) p _ hd1
    obtain ⟨_, hi2, hd3⟩ := bt_at s (i + 1 + 1) q _ hd2
    have hp := bi_range p
    have hq := bi_range q
    have hr3 := bi_range r
    have e2 : (((bi a % 8) * 64 + (bi p - 128)) * 64 + (bi q - 128)) * 64 + (bi r - 128) = v4 a p q r := by unfold v4; omega
    have hst := long_step (cp := cp) s i 4 248 240 65536 (bi a % 8) 1 (by omega) (by omega) (by omega) p _ hd1 (by omega) (by omega)
    dsimp only
    by_cases c : cont p
    · rw [if_pos c] at hst
      have c' := c
      unfold cont at c'
      rw [show ((1 : Nat) : Int) + 1 = ((2 : Nat) : Int) from rfl, long_step s i 4 248 240 65536 _ 2 (by omega) (by omega) (by omega) q _ hd2 (by omega) (by omega)] at hst
      by_cases c2 : cont q
      · rw [if_pos c2] at hst
        have c2' := c2
        unfold cont at c2'
        rw [show ((2 : Nat) : Int) + 1 = ((3 : Nat) : Int) from rfl, long_step s i 4 248 240 65536 _ 3 (by omega) (by omega) (by omega) r _ hd3 (by omega) (by omega), e2] at hst
        by_cases c3 : cont r
        · rw [if_pos c3] at hst
          have c3' := c3
          unfold cont at c3'
          rw [show ((3 : Nat) : Int) + 1 = ((4 : Nat) : Int) from rfl, long_end s i 4 248 240 65536 (v4 a p q r) 4 (by omega)] at hst
          rw [long_ex s i 4 248 240 65536 (v4 a p q r) 4 (by omega) hs a (p :: q :: r :: t) hd (bi a % 8) e (by omega) (by omega) (by simp at hl; omega) hst]
          by_cases d : 65536 ≤ v4 a p q r ∧ v4 a p q r ≤ 1114111
          · rw [if_pos ⟨d.1, by unfold sc; omega⟩, if_pos ⟨c, c2, c3, d.1, d.2⟩]; rfl
          · rw [if_neg (by unfold sc; omega), if_neg (fun h => d ⟨h.2.2.2.1, h.2.2.2.2⟩)]; rfl
        · rw [if_neg c3] at hst
          rw [long_ret s i 4 248 240 65536 (by omega) hs a (p :: q :: r :: t) hd (bi a % 8) e (by omega) (by omega) (by simp at hl; omega) hst, if_neg (fun h => c3 h.2.2.1)]; rfl
      · rw [if_neg c2] at hst
        rw [long_ret s i 4 248 240 65536 (by omega) hs a (p :: q :: r :: t) hd (bi a % 8) e (by omega) (by omega) (by simp at hl; omega) hst, if_neg (fun h => c2 h.2.1)]; rfl
    · rw [if_neg c] at hst
      rw [long_ret s i 4 248 240 65536 (by omega) hs a (p :: q :: r :: t) hd (bi a % 8) e (by omega) (by omega) (by simp at hl; omega) hst, if_neg (fun h => c h.1)]; rfl

def formsV : List PV := [pI .u8 128, pI .u8 0, pI .i32 0, pI .u8 224, pI .u8 192, pI .i32 128, pI .u8 240, pI .u8 224, pI .i32 2048, pI .u8 248, pI .u8 240, pI .i32 65536]
def stPoint (s : ByteArray) (i k : Int) : St := ⟨[(0, .p (.sc (.string s))), (1, .p (pi i)), (16, .p (.st formsV)), (17, .p (pi k))], []⟩
theorem point_hit (s : ByteArray) (i : Nat) (k : Nat) (hk : k < 4) (m f ls : Int) (hf : (formsV.drop (k * 3)).take 3 = [pI .u8 m, pI .u8 f, pI .i32 ls]) (a : UInt8) (t : List UInt8) (hd : (L s).drop i = a :: t) (hx : bits .and .u8 (bi a) m = f) (d : Nat × Int)
    (hr : Run (EX cp) 92 [.sc (.string s), pi i, pi ((k : Int) + 1), .st [pI .u8 m, pI .u8 f, pI .i32 ls]] = rDec d) :
    Code (EX cp) L_utf_point_0 (stPoint s i k) = some (.ret, ⟨[(4, .p (pI .i32 d.2)), (5, .p (pi d.1))], []⟩) := by
  obtain ⟨hb, _⟩ := bt_at s i a t hd
  unfold rDec at hr
  have hfl : k * 3 + 3 ≤ formsV.length := by simp [formsV]; omega
  rw [L_utf_point_0, k_loop, stPoint]
  simp (disch := omega) [dec_yes, dec_no, wrap_in, hf, hfl, hk, hb, hx, hr]
theorem point_miss (s : ByteArray) (i : Nat) (k : Nat) (hk : k < 4) (m f ls : Int) (hf : (formsV.drop (k * 3)).take 3 = [pI .u8 m, pI .u8 f, pI .i32 ls]) (a : UInt8) (t : List UInt8) (hd : (L s).drop i = a :: t) (hx : ¬ bits .and .u8 (bi a) m = f) :
    Code (EX cp) L_utf_point_0 (stPoint s i k) = Code (EX cp) L_utf_point_0 (stPoint s i ((k : Int) + 1)) := by
  obtain ⟨hb, _⟩ := bt_at s i a t hd
  have hfl : k * 3 + 3 ≤ formsV.length := by simp [formsV]; omega
  conv => lhs; rw [L_utf_point_0, k_loop, stPoint]
  simp (disch := omega) [dec_yes, dec_no, wrap_in, hf, hfl, hk, hb, hx]
  rw [L_utf_point_0, stPoint]
theorem point_end (s : ByteArray) (i : Int) : Code (EX cp) L_utf_point_0 (stPoint s i (4 : Nat)) = some (.ex 0, ⟨[(0, .p (.sc (.string s))), (1, .p (pi i)), (16, .p (.st formsV)), (17, .p (pi 4)), (18, .p (pb false))], []⟩) := by
  rw [L_utf_point_0, k_loop, stPoint]
  simp

theorem point_fst (s : ByteArray) (i : Nat) (a : UInt8) (t : List UInt8) (hd : (L s).drop i = a :: t) (hs : s.size < 1099511627776) :
    Code (EX cp) L_utf_point_0 (stPoint s i (0 : Nat)) = (if bi a < 128 ∨ 192 ≤ bi a ∧ bi a < 248 then some (.ret, ⟨[(4, .p (pI .i32 (dec (a :: t)).2)), (5, .p (pi (dec (a :: t)).1))], []⟩) else some (.ex 0, ⟨[(0, .p (.sc (.string s))), (1, .p (pi i)), (16, .p (.st formsV)), (17, .p (pi 4)), (18, .p (pb false))], []⟩)) := by
  have hr := bi_range a
  have e1 := n128 a
  have e2 := n224 a
  have e3 := n240 a
  have e4 := n248 a
  by_cases c1 : bi a < 128
  · rw [if_pos (.inl c1)]
    exact point_hit s i 0 (by omega) 128 0 0 rfl a t hd (by omega) _ (long1 s i hs a t hd c1)
  rw [point_miss s i 0 (by omega) 128 0 0 rfl a t hd (by omega)]
  by_cases c2 : 192 ≤ bi a ∧ bi a < 224
  · rw [if_pos (.inr ⟨c2.1, by omega⟩)]
    exact point_hit s i 1 (by omega) 224 192 128 rfl a t hd (by omega) _ (long2 s i hs a t hd c2.1 c2.2)
  rw [show ((0 : Nat) : Int) + 1 = ((1 : Nat) : Int) from rfl, point_miss s i 1 (by omega) 224 192 128 rfl a t hd (by omega)]
  by_cases c3 : 224 ≤ bi a ∧ bi a < 240
  · rw [if_pos (.inr ⟨by omega, by omega⟩)]
    exact point_hit s i 2 (by omega) 240 224 2048 rfl a t hd (by omega) _ (long3 s i hs a t hd c3.1 c3.2)
  rw [show ((1 : Nat) : Int) + 1 = ((2 : Nat) : Int) from rfl, point_miss s i 2 (by omega) 240 224 2048 rfl a t hd (by omega)]
  by_cases c4 : 240 ≤ bi a ∧ bi a < 248
  · rw [if_pos (.inr ⟨by omega, by omega⟩)]
    exact point_hit s i 3 (by omega) 248 240 65536 rfl a t hd (by omega) _ (long4 s i hs a t hd c4.1 c4.2)
  rw [show ((2 : Nat) : Int) + 1 = ((3 : Nat) : Int) from rfl, point_miss s i 3 (by omega) 248 240 65536 rfl a t hd (by omega)]
  rw [if_neg (by omega)]
  exact point_end s i
/-- The code point at a place. -/
def decAt (s : ByteArray) (i : Int) : Nat × Int := if i < 0 then (0, 0) else dec ((L s).drop i.toNat)
theorem point (s : ByteArray) (i : Int) (hs : s.size < 1099511627776) : Run (EX cp) 88 [.sc (.string s), pi i] = rDec (decAt s i) := by
  unfold decAt
  rw [run_fn _ A_utf_point _ rfl rfl rfl]
  by_cases c0 : i < 0
  · rw [if_pos c0]
    simp (disch := omega) [A_utf_point, dec_yes, dec_no, rDec]
  rw [if_neg c0]
  by_cases c1 : (s.size : Int) ≤ i
  · have h0 : dec ((L s).drop i.toNat) = (0, 0) := by rw [drop_end s _ (by omega)]; rfl
    simp (disch := omega) [A_utf_point, dec_yes, dec_no, rDec, h0]
  obtain ⟨n, rfl⟩ : ∃ n : Nat, i = n := ⟨i.toNat, by omega⟩
  simp only [Int.toNat_natCast]
  obtain ⟨a, t, hd⟩ := drop_at s n (by omega)
  have hl := point_fst (cp := cp) s n a t hd hs
  rw [hd]
  simp only [stPoint, Int.ofNat_zero, formsV] at hl
  by_cases c2 : bi a < 128 ∨ 192 ≤ bi a ∧ bi a < 248
  · rw [if_pos c2] at hl
    simp (disch := omega) [A_utf_point, dec_yes, dec_no, rDec, hl]
  · rw [if_neg c2] at hl
    have : dec (a :: t) = (0, 0) := by
      rw [dec.eq_def]; simp only
      by_cases c5 : bi a < 192
      · rw [if_neg (by omega), if_pos c5]
      · rw [if_neg (by omega), if_neg c5, if_neg (by omega), if_neg (by omega), if_neg (by omega)]
    simp (disch := omega) [A_utf_point, dec_yes, dec_no, rDec, hl, this]
/-- The size of the code point at a place. -/
def sizeAt (s : ByteArray) (i : Int) : Nat := (decAt s i).1
theorem utfSize (s : ByteArray) (i : Int) (hs : s.size < 1099511627776) : Run (EX cp) 80 [.sc (.string s), pi i] = some (.val (pi (sizeAt s i))) := by
  have h := point (cp := cp) s i hs
  unfold rDec at h
  rw [run_fn _ A_utf_Size _ rfl rfl rfl]
  simp [A_utf_Size, h, sizeAt]
end Go.Proofs.Ytihgpnfkadldeaa.AM

end
section
/- Package utf on the small machine: Valid, IsEdge, Points, Make, Clean. For texts of less than 2^40 bytes. -/
namespace Go.Proofs.Ytihgpnfkadldeaa.AM
set_option linter.unusedSimpArgs false
set_option linter.unusedVariables false
open Go Go.Proofs.Ytihgpnfkadldeaa.U
variable {cp : List PV → Option Ret}

theorem decAt_nat (s : ByteArray) (i : Nat) : decAt s (i : Int) = dec ((L s).drop i) := by
  unfold decAt
  rw [if_neg (by omega), Int.toNat_natCast]
theorem sizeAt_le (s : ByteArray) (i : Nat) (h : i ≤ s.size) : i + sizeAt s i ≤ s.size ∧ sizeAt s i ≤ 4 := by
  unfold sizeAt
  rw [decAt_nat]
  have := dec_le ((L s).drop i)
  rw [List.length_drop, L_len] at this
  omega
theorem valid_at (s : ByteArray) (i : Nat) (h : i < s.size) : valid ((L s).drop i) = if sizeAt s i = 0 then false else valid ((L s).drop (i + sizeAt s i)) := by
  obtain ⟨a, t, hd⟩ := drop_at s i h
  unfold sizeAt
  rw [decAt_nat, hd, valid_cons]
  by_cases c : (dec (a :: t)).1 = 0
  · rw [dif_pos c, if_pos c]
  · rw [dif_neg c, if_neg c, ← hd, List.drop_drop]
theorem points_at (s : ByteArray) (i : Nat) (h : i < s.size) : points ((L s).drop i) = if sizeAt s i = 0 then 65533 :: points ((L s).drop (i + 1)) else (decAt s i).2 :: points ((L s).drop (i + sizeAt s i)) := by
  obtain ⟨a, t, hd⟩ := drop_at s i h
  have ht := (bt_at s i a t hd).2.2
  unfold sizeAt
  rw [decAt_nat, hd, points_cons]
  by_cases c : (dec (a :: t)).1 = 0
  · rw [dif_pos c, if_pos c, ht]
  · rw [dif_neg c, if_neg c, ← hd, List.drop_drop]
theorem dec_range (s : ByteArray) (i : Int) : 0 ≤ (decAt s i).2 ∧ (decAt s i).2 ≤ 1114111 ∨ (decAt s i).1 = 0 := by
  by_cases c : (decAt s i).1 = 0
  · exact .inr c
  · left
    unfold decAt at c ⊢
    split at c
    · simp at c
    · rename_i h
      rw [if_neg h]
      have := dec_sc _ c
      unfold sc at this
      omega

theorem valid_loop (s : ByteArray) (hs : s.size < 1099511627776) : ∀ (m i : Nat), s.size ≤ i + m → i ≤ s.size → Code (EX cp) L_utf_Valid_0 ⟨[(0, .p (.sc (.string s))), (3, .p (pi i))], []⟩ =
    if valid ((L s).drop i) = true then some (.ex 0, ⟨[(0, .p (.sc (.string s))), (3, .p (pi s.size)), (8, .p (pb false))], []⟩) else some (.ret, ⟨[(2, .p (pb false))], []⟩) := by
  intro m
  induction m with
  | zero =>
    intro i h1 h2
    have : i = s.size := by omega
    subst this
    rw [drop_end s _ (Nat.le_refl _), valid_nil, L_utf_Valid_0, k_loop]
    simp
  | succ m ih =>
    intro i h1 h2
    by_cases hlt : i < s.size
    · have hz := utfSize (cp := cp) s i hs
      have hle := sizeAt_le s i h2
      rw [valid_at s i hlt]
      by_cases c : sizeAt s i = 0
      · rw [if_pos c, L_utf_Valid_0, k_loop]
        simp (disch := omega) [dec_yes, dec_no, hlt, hz, c]
      · have ih' := ih (i + sizeAt s i) (by omega) (by omega)
        have hc : ¬ ((sizeAt s i : Nat) : Int) = 0 := by omega
        rw [if_neg c, ← ih', L_utf_Valid_0, k_loop]
        simp (disch := omega) [dec_yes, dec_no, hlt, hz, hc, wrap_in, c]
    · have : i = s.size := by omega
      subst this
      rw [drop_end s _ (Nat.le_refl _), valid_nil, L_utf_Valid_0, k_loop]
      simp
theorem utfValid (s : ByteArray) (hs : s.size < 1099511627776) : Run (EX cp) 64 [.sc (.string s)] = some (.val (pb (valid (L s)))) := by
  have h := valid_loop (cp := cp) s hs s.size 0 (by omega) (by omega)
  rw [run_fn _ A_utf_Valid _ rfl rfl rfl]
  simp only [List.drop_zero, Int.ofNat_zero, Int.natCast_zero] at h
  cases hv : valid (L s) with
  | true => rw [hv, if_pos rfl] at h; simp [A_utf_Valid, h]
  | false => rw [hv, if_neg (by simp)] at h; simp [A_utf_Valid, h]

/-- Is a place an edge? -/
def edge (s : ByteArray) (i : Int) : Bool := decide (0 ≤ i ∧ i ≤ s.size) && (decide (i = s.size) || (match (L s)[i.toNat]? with | some b => !decide (cont b) | none => false)) && valid (L s)
theorem edge_at (s : ByteArray) (i : Nat) (a : UInt8) (t : List UInt8) (hd : (L s).drop i = a :: t) : edge s i = (!decide (cont a) && valid (L s)) := by
  obtain ⟨_, hlt, _⟩ := bt_at s i a t hd
  have hg : (L s)[i]? = some a := by
    have := congrArg (·[0]?) hd
    simpa using this
  unfold edge
  rw [Int.toNat_natCast, hg, decide_eq_true (show (0 : Int) ≤ (i : Int) ∧ (i : Int) ≤ (s.size : Int) by omega), decide_eq_false (show ¬ (i : Int) = (s.size : Int) by omega)]
  simp
theorem edge_out (s : ByteArray) (i : Int) (h : ¬ (0 ≤ i ∧ i ≤ s.size)) : edge s i = false := by
  unfold edge; rw [decide_eq_false h]; rfl
theorem edge_end (s : ByteArray) : edge s s.size = valid (L s) := by
  unfold edge
  rw [decide_eq_true (show (0 : Int) ≤ (s.size : Int) ∧ (s.size : Int) ≤ (s.size : Int) by omega), decide_eq_true (show (s.size : Int) = (s.size : Int) from rfl)]
  simp
theorem utfIsEdge (s : ByteArray) (i : Int) (hs : s.size < 1099511627776) : Run (EX cp) 66 [.sc (.string s), pi i] = some (.val (pb (edge s i))) := by
  have hv := utfValid (cp := cp) s hs
  rw [run_fn _ A_utf_IsEdge _ rfl rfl rfl]
  by_cases c0 : 0 ≤ i
  · by_cases c1 : i ≤ s.size
    · by_cases c2 : i = s.size
      · subst c2
        rw [edge_end]
        simp (disch := omega) [A_utf_IsEdge, dec_yes, dec_no, hv]
      · obtain ⟨n, rfl⟩ : ∃ n : Nat, i = n := ⟨i.toNat, by omega⟩
        obtain ⟨a, t, hd⟩ := drop_at s n (by omega)
        have hb := (bt_at s n a t hd).1
        have hr := bi_range a
        rw [edge_at s n a t hd]
        by_cases c : cont a
        · have e3 : bi a / 64 * 64 = 128 := by unfold cont at c; omega
          simp (disch := omega) [A_utf_IsEdge, dec_yes, dec_no, hv, hb, n192, e3, c]
        · have e3 : ¬ bi a / 64 * 64 = 128 := by unfold cont at c; omega
          simp (disch := omega) [A_utf_IsEdge, dec_yes, dec_no, hv, hb, n192, e3, c]
    · rw [edge_out s i (by omega)]
      simp (disch := omega) [A_utf_IsEdge, dec_yes, dec_no]
  · rw [edge_out s i (by omega)]
    simp (disch := omega) [A_utf_IsEdge, dec_yes, dec_no]

/-! ### whole numbers in a row -/
def ints (l : List Int) : List (List PV) := l.map fun x => [pi x]
@[simp] theorem ints_len (l : List Int) : (ints l).length = l.length := by simp [ints]
@[simp] theorem ints_nil : ints [] = [] := rfl
@[simp] theorem ints_snoc (l : List Int) (x : Int) : ints l ++ [[pi x]] = ints (l ++ [x]) := by simp [ints]
@[simp] theorem ints_take (l : List Int) : (ints l).take l.length = ints l := by rw [List.take_of_length_le (by simp)]
theorem ints_get (l : List Int) (n : Nat) : (ints l)[n]? = (l[n]?).map fun x => [pi x] := by simp [ints]
theorem ints_at (l : List Int) (n : Nat) (h : n < l.length) : (ints l)[n]? = some [pi l[n]] := by rw [ints_get, List.getElem?_eq_getElem h]; rfl
theorem mb (n : Nat) (h : n < 1099511627776) : n ≤ maxBytes := by unfold maxBytes; omega

theorem points_loop (s : ByteArray) (hs : s.size < 1099511627776) : ∀ (m i : Nat) (acc : List Int), s.size ≤ i + m → i ≤ s.size → acc.length ≤ i → Code (EX cp) L_utf_Points_0 ⟨[(0, .p (.sc (.string s))), (3, .ms 3 0 acc.length), (4, .p (pi i))], [(3, .row 3 1 false (ints acc))]⟩ =
    some (.ex 0, ⟨[(0, .p (.sc (.string s))), (3, .ms 3 0 (acc ++ points ((L s).drop i)).length), (4, .p (pi s.size)), (10, .p (pb false))], [(3, .row 3 1 false (ints (acc ++ points ((L s).drop i))))]⟩) := by
  intro m
  induction m with
  | zero =>
    intro i acc h1 h2 h3
    have : i = s.size := by omega
    subst this
    rw [drop_end s _ (Nat.le_refl _), points_nil, L_utf_Points_0, k_loop]
    simp
  | succ m ih =>
    intro i acc h1 h2 h3
    by_cases hlt : i < s.size
    · have hz := point (cp := cp) s i hs
      have hle := sizeAt_le s i h2
      have hr := dec_range s i
      have hcap : (acc.length + 1) * 8 ≤ maxBytes ∧ acc.length + 1 ≤ 9223372036854775807 := by unfold maxBytes; omega
      rw [points_at s i hlt]
      unfold rDec at hz
      by_cases c : sizeAt s i = 0
      · have ih' := ih (i + 1) (acc ++ [65533]) (by omega) (by omega) (by simp; omega)
        have c' : (decAt s i).1 = 0 := c
        rw [if_pos c]
        have e : acc ++ 65533 :: points ((L s).drop (i + 1)) = (acc ++ [65533]) ++ points ((L s).drop (i + 1)) := by simp
        rw [e, ← ih', L_utf_Points_0, k_loop]
        simp (disch := omega) [dec_yes, dec_no, hlt, hz, c', wrap_in, hcap]
      · have ih' := ih (i + sizeAt s i) (acc ++ [(decAt s i).2]) (by omega) (by omega) (by simp; omega)
        have hsz : (decAt s i).1 = sizeAt s i := rfl
        have hc : ¬ ((sizeAt s i : Nat) : Int) = 0 := by omega
        rw [if_neg c]
        have e : acc ++ (decAt s i).2 :: points ((L s).drop (i + sizeAt s i)) = (acc ++ [(decAt s i).2]) ++ points ((L s).drop (i + sizeAt s i)) := by simp
        rw [e, ← ih', L_utf_Points_0, k_loop]
        simp (disch := omega) [dec_yes, dec_no, hlt, hz, hsz, hc, c, wrap_in, hcap]
    · have : i = s.size := by omega
      subst this
      rw [drop_end s _ (Nat.le_refl _), points_nil, L_utf_Points_0, k_loop]
      simp
theorem utfPoints (s : ByteArray) (hs : s.size < 1099511627776) : Run (EX cp) 78 [.sc (.string s)] = some (.own 3 1 (ints (points (L s)))) := by
  have h := points_loop (cp := cp) s hs s.size 0 [] (by omega) (by omega) (by simp)
  rw [run_fn _ A_utf_Points _ rfl rfl rfl]
  simp at h
  simp [A_utf_Points, h]

/-! ### utf.Make -/
def mk1 (n : Int) : Int := if sc n then n else 65533
def mks (l : List Int) : List UInt8 := encs (l.map mk1)
theorem mk1_sc (n : Int) : sc (mk1 n) := by unfold mk1; split; assumption; exact sc_bad
theorem mks_snoc (l : List Int) (n : Int) : mks (l ++ [n]) = mks l ++ enc (mk1 n) := by simp [mks, encs]
theorem mks_len (l : List Int) : (mks l).length ≤ 4 * l.length := by
  induction l with
  | nil => simp [mks]
  | cons a l ih =>
    have := (enc_len (mk1 a)).2
    simp only [mks, List.map_cons, encs_cons, List.length_append, List.length_cons] at ih ⊢
    omega
theorem mks_pts (l : List Int) (h : ∀ v ∈ l, sc v) : mks l = encs l := by
  unfold mks
  congr 1
  conv => rhs; rw [← List.map_id l]
  refine List.map_congr_left fun v hv => ?_
  unfold mk1; rw [if_pos (h v hv)]; rfl
set_option maxHeartbeats 2000000 in
theorem make_loop (l : List Int) (hl : l.length < 1099511627776) : ∀ (m i : Nat), l.length ≤ i + m → i ≤ l.length → Code (EX cp) L_utf_Make_0 ⟨[(3, .mp 3 0 0), (7, .p (.sl 1 (ints l))), (8, .p (pi l.length)), (9, .p (pi i))], [(3, .dp 78 2 (sbRow 5 (bRows (mks (l.take i)))))]⟩ =
    some (.ex 0, ⟨[(3, .mp 3 0 0), (7, .p (.sl 1 (ints l))), (8, .p (pi l.length)), (9, .p (pi l.length)), (10, .p (pb false))], [(3, .dp 78 2 (sbRow 5 (bRows (mks l))))]⟩) := by
  intro m
  induction m with
  | zero =>
    intro i h1 h2
    have : i = l.length := by omega
    subst this
    rw [List.take_length, L_utf_Make_0, k_loop]
    simp
  | succ m ih =>
    intro i h1 h2
    by_cases hlt : i < l.length
    · have ih' := ih (i + 1) (by omega) (by omega)
      have e : l.take (i + 1) = l.take i ++ [l[i]] := List.take_succ_eq_append_getElem hlt
      rw [e, mks_snoc] at ih'
      have hm := mks_len (l.take i)
      have hm2 : (l.take i).length ≤ i := List.length_take_le _ _
      have hen := (enc_len (mk1 l[i])).2
      have hg := ints_at l i hlt
      generalize l[i] = v at *
      generalize hacc : mks (l.take i) = acc at *
      have hp := isPoint (cp := cp) v
      have hcap : acc.length + (enc (mk1 v)).length + 4 ≤ maxBytes := by unfold maxBytes; omega
      rw [← ih', L_utf_Make_0, k_loop]
      by_cases c : sc v
      · have e1 : mk1 v = v := if_pos c
        have c' := c
        unfold sc at c'
        rw [e1] at hcap ⊢
        have hcap2 : acc.length + (Lib.encodeRune v).length + 4 ≤ maxBytes := hcap
        simp (disch := omega) [dec_yes, dec_no, hlt, hg, hp, c, wrap_in, wrap32_in, hcap2, if_yes, enc]
      · have e1 : mk1 v = 65533 := if_neg c
        rw [e1] at hcap ⊢
        have hcap2 : acc.length + (Lib.encodeRune 65533).length + 4 ≤ maxBytes := hcap
        by_cases c0 : 0 ≤ v
        · by_cases c1 : v ≤ 1114111
          · simp (disch := omega) [dec_yes, dec_no, hlt, hg, hp, c, wrap_in, wrap32_in, hcap2, if_yes, enc]
          · simp (disch := omega) [dec_yes, dec_no, hlt, hg, hp, c, wrap_in, wrap32_in, hcap2, if_yes, enc]
        · simp (disch := omega) [dec_yes, dec_no, hlt, hg, hp, c, wrap_in, wrap32_in, hcap2, if_yes, enc]
    · have : i = l.length := by omega
      subst this
      rw [List.take_length, L_utf_Make_0, k_loop]
      simp
theorem utfMake (l : List Int) (hl : l.length < 1099511627776) : Run (EX cp) 77 [.sl 1 (ints l)] = some (.val (.sc (.string ⟨(mks l).toArray⟩))) := by
  have h := make_loop (cp := cp) l hl l.length 0 (by omega) (by omega)
  rw [run_fn _ A_utf_Make _ rfl rfl rfl]
  simp [mks] at h
  simp [A_utf_Make, h, mks]
/-- A clean text. -/
def cleanS (s : ByteArray) : ByteArray := ⟨(clean (L s)).toArray⟩
theorem utfClean (s : ByteArray) (hs : s.size < 1099511627776) : Run (EX cp) 55 [.sc (.string s)] = some (.val (.sc (.string (cleanS s)))) := by
  have h1 := utfValid (cp := cp) s hs
  have h2 := utfPoints (cp := cp) s hs
  have hle := points_le (L s)
  rw [L_len] at hle
  have h3 := utfMake (cp := cp) (points (L s)) (by omega)
  rw [mks_pts _ (points_sc _)] at h3
  rw [run_fn _ A_utf_Clean _ rfl rfl rfl]
  cases hv : valid (L s) with
  | true =>
    rw [hv] at h1
    have : cleanS s = s := by unfold cleanS; rw [clean_of_valid _ hv, mk_L]
    simp [A_utf_Clean, h1, this]
  | false =>
    rw [hv] at h1
    simp [A_utf_Clean, h1, h2, h3, cleanS, clean]
end Go.Proofs.Ytihgpnfkadldeaa.AM

end
section
/- The reference's code points (palinoderef1) on the small machine. For texts of less than 2^40 bytes. -/
namespace Go.Proofs.Ytihgpnfkadldeaa.AM
set_option linter.unusedSimpArgs false
set_option linter.unusedVariables false
open Go Go.Proofs.Ytihgpnfkadldeaa.U
variable {cp : List PV → Option Ret}

theorem w63 : ∀ n : Nat, n < 256 → bits .and .i64 (n : Int) 63 = (n % 64 : Nat) := by decide +kernel
theorem w31 : ∀ n : Nat, n < 256 → bits .and .i64 (n : Int) 31 = (n % 32 : Nat) := by decide +kernel
theorem w15 : ∀ n : Nat, n < 256 → bits .and .i64 (n : Int) 15 = (n % 16 : Nat) := by decide +kernel
theorem w7 : ∀ n : Nat, n < 256 → bits .and .i64 (n : Int) 7 = (n % 8 : Nat) := by decide +kernel
theorem a63 (a : UInt8) : bits .and .i64 (bi a) 63 = bi a % 64 := by have := w63 a.toNat a.toNat_lt; unfold bi; omega
theorem a31 (a : UInt8) : bits .and .i64 (bi a) 31 = bi a % 32 := by have := w31 a.toNat a.toNat_lt; unfold bi; omega
theorem a15 (a : UInt8) : bits .and .i64 (bi a) 15 = bi a % 16 := by have := w15 a.toNat a.toNat_lt; unfold bi; omega
theorem a7 (a : UInt8) : bits .and .i64 (bi a) 7 = bi a % 8 := by have := w7 a.toNat a.toNat_lt; unfold bi; omega
theorem wraps_i64 (n : Int) (h0 : 0 ≤ n) (h1 : n < 2 ^ 62) : IntKind.wrap .i64 n = n := wrap_in n (by omega) (by omega)
theorem or6 (x y : Int) (hx₀ : 0 ≤ x) (hx : x % 64 = 0) (hx₁ : x < 4611686018427387904) (h₀ : 0 ≤ y) (h₁ : y < 64) : bits .or .i64 x y = x + y :=
  bits_join .i64 62 (by decide) wraps_i64 6 x y hx₀ hx hx₁ h₀ h₁ (by omega)
theorem fdiv6 (a : UInt8) : (bi a).fdiv 64 = bi a / 64 := by
  have := bi_range a
  rw [Int.fdiv_eq_ediv_of_nonneg _ (by omega)]

def stSize (s : ByteArray) (i n v ls j : Int) : St := ⟨[(0, .p (.sc (.string s))), (1, .p (pi i)), (6, .p (pi n)), (7, .p (pi v)), (8, .p (pi ls)), (9, .p (pi j))], []⟩
theorem size_step (s : ByteArray) (i : Nat) (n v ls : Int) (j : Nat) (h : (j : Int) < n) (hi : i < 1099511627776) (hj : j ≤ 3) (b : UInt8) (t : List UInt8) (hb : (L s).drop (i + j) = b :: t) (v0 : 0 ≤ v) (v1 : v < 1000000) :
    Code (EX cp) L_ref1_Size_0 (stSize s i n v ls j) = if cont b then Code (EX cp) L_ref1_Size_0 (stSize s i n (v * 64 + (bi b - 128)) ls (j + 1)) else some (.ret, ⟨[(4, .p (pi 0))], []⟩) := by
  have hb1 := bt_atI s ((i : Int) + j) (i + j) (by omega) b t hb
  have hr := bi_range b
  have e1 := a63 b
  have e4 := fdiv6 b
  rw [L_ref1_Size_0, k_loop, stSize]
  by_cases c : cont b
  · rw [if_pos c]
    unfold cont at c
    have e2 : bits .or .i64 (v * 64) (bi b % 64) = v * 64 + (bi b - 128) := by
      rw [or6 (v * 64) (bi b % 64) (by omega) (by omega) (by omega) (by omega) (by omega)]; omega
    have e3 : bi b / 64 = 2 := by omega
    simp (disch := omega) [dec_yes, dec_no, wrap_in, hb1, a63, e1, e2, e3, e4, IntKind.bits, stSize]
  · rw [if_neg c]
    unfold cont at c
    have e3 : ¬ bi b / 64 = 2 := by omega
    simp (disch := omega) [dec_yes, dec_no, wrap_in, hb1, e3, e4, IntKind.bits]
theorem size_end (s : ByteArray) (i n v ls j : Int) (h : ¬ j < n) : Code (EX cp) L_ref1_Size_0 (stSize s i n v ls j) = some (.ex 1, ⟨[(0, .p (.sc (.string s))), (1, .p (pi i)), (6, .p (pi n)), (7, .p (pi v)), (8, .p (pi ls)), (9, .p (pi j)), (61, .p (pb false))], []⟩) := by
  rw [L_ref1_Size_0, k_loop, stSize]
  simp (disch := omega) [dec_yes, dec_no]

/-- How the first byte is read. -/
inductive Head (a : UInt8) : Int → Int → Int → Prop
  | two : 192 ≤ bi a → bi a < 224 → Head a 2 (bi a % 32) 128
  | three : 224 ≤ bi a → bi a < 240 → Head a 3 (bi a % 16) 2048
  | four : 240 ≤ bi a → bi a < 248 → Head a 4 (bi a % 8) 65536
set_option maxHeartbeats 2000000 in
theorem size_head (s : ByteArray) (i : Nat) (hs : s.size < 1099511627776) (a : UInt8) (t : List UInt8) (hd : (L s).drop i = a :: t) (n v ls : Int) (hh : Head a n v ls) :
    Code (EX cp) A_ref1_Size.body ⟨entry 0 [.sc (.string s), pi i], []⟩ = Code (EX cp) (tailN 5 A_ref1_Size.body) ⟨[(0, .p (.sc (.string s))), (1, .p (pi i)), (6, .p (pi n)), (7, .p (pi v)), (8, .p (pi ls))], []⟩ := by
  obtain ⟨hb, hlt, _⟩ := bt_at s i a t hd
  have hr := bi_range a
  have e1 := a31 a; have e2 := a15 a; have e3 := a7 a
  refine split_code _ 5 _ _ _ ?_
  cases hh with
  | two h0 h1 => simp (disch := omega) [A_ref1_Size, headN, dec_yes, dec_no, wrap_in, hb, e1]
  | three h0 h1 => simp (disch := omega) [A_ref1_Size, headN, dec_yes, dec_no, wrap_in, hb, e2]
  | four h0 h1 => simp (disch := omega) [A_ref1_Size, headN, dec_yes, dec_no, wrap_in, hb, e3]
theorem size_short (s : ByteArray) (i : Nat) (hs : s.size < 1099511627776) (a : UInt8) (t : List UInt8) (hd : (L s).drop i = a :: t) (n v ls : Int) (hh : Head a n v ls) (c : (s.size : Int) - i < n) : Run (EX cp) 59 [.sc (.string s), pi i] = some (.val (pi 0)) := by
  obtain ⟨hb, hlt, _⟩ := bt_at s i a t hd
  rw [run_fn _ A_ref1_Size _ rfl rfl rfl, size_head s i hs a t hd n v ls hh]
  simp (disch := omega) [A_ref1_Size, tailN, dec_yes, dec_no, wrap_in]
theorem size_ret (s : ByteArray) (i : Nat) (hs : s.size < 1099511627776) (a : UInt8) (t : List UInt8) (hd : (L s).drop i = a :: t) (n v ls : Int) (hh : Head a n v ls) (c : ¬ (s.size : Int) - i < n)
    (hl : Code (EX cp) L_ref1_Size_0 (stSize s i n v ls (1 : Nat)) = some (.ret, ⟨[(4, .p (pi 0))], []⟩)) : Run (EX cp) 59 [.sc (.string s), pi i] = some (.val (pi 0)) := by
  obtain ⟨hb, hlt, _⟩ := bt_at s i a t hd
  simp only [stSize, Int.ofNat_one] at hl
  rw [run_fn _ A_ref1_Size _ rfl rfl rfl, size_head s i hs a t hd n v ls hh]
  simp (disch := omega) [A_ref1_Size, tailN, dec_yes, dec_no, wrap_in, hl]
def okv (ls v : Int) : Prop := ls ≤ v ∧ v ≤ 1114111 ∧ ¬ (55296 ≤ v ∧ v < 57344)
instance (ls v : Int) : Decidable (okv ls v) := by unfold okv; exact inferInstance
set_option maxHeartbeats 4000000 in
theorem size_ex (s : ByteArray) (i : Nat) (hs : s.size < 1099511627776) (a : UInt8) (t : List UInt8) (hd : (L s).drop i = a :: t) (n v ls : Int) (hh : Head a n v ls) (c : ¬ (s.size : Int) - i < n) (x : Int) (j : Int)
    (hl : Code (EX cp) L_ref1_Size_0 (stSize s i n v ls (1 : Nat)) = some (.ex 1, ⟨[(0, .p (.sc (.string s))), (1, .p (pi i)), (6, .p (pi n)), (7, .p (pi x)), (8, .p (pi ls)), (9, .p (pi j)), (61, .p (pb false))], []⟩)) : Run (EX cp) 59 [.sc (.string s), pi i] = some (.val (pi (if okv ls x then n else 0))) := by
  obtain ⟨hb, hlt, _⟩ := bt_at s i a t hd
  simp only [stSize, Int.ofNat_one] at hl
  rw [run_fn _ A_ref1_Size _ rfl rfl rfl, size_head s i hs a t hd n v ls hh]
  by_cases c1 : x < ls
  · rw [if_neg (fun h => by unfold okv at h; omega)]
    simp (disch := omega) [A_ref1_Size, tailN, dec_yes, dec_no, wrap_in, hl]
  by_cases c2 : 1114111 < x
  · rw [if_neg (fun h => by unfold okv at h; omega)]
    simp (disch := omega) [A_ref1_Size, tailN, dec_yes, dec_no, wrap_in, hl]
  by_cases c3 : 55296 ≤ x
  · by_cases c4 : x < 57344
    · rw [if_neg (fun h => by unfold okv at h; omega)]
      simp (disch := omega) [A_ref1_Size, tailN, dec_yes, dec_no, wrap_in, hl]
    · rw [if_pos (by unfold okv; omega)]
      simp (disch := omega) [A_ref1_Size, tailN, dec_yes, dec_no, wrap_in, hl]
  · rw [if_pos (by unfold okv; omega)]
    simp (disch := omega) [A_ref1_Size, tailN, dec_yes, dec_no, wrap_in, hl]
set_option maxHeartbeats 2000000 in
theorem refSize (s : ByteArray) (i : Int) (hs : s.size < 1099511627776) : Run (EX cp) 59 [.sc (.string s), pi i] = some (.val (pi (sizeAt s i))) := by
  unfold sizeAt decAt
  by_cases c0 : i < 0
  · rw [if_pos c0, run_fn _ A_ref1_Size _ rfl rfl rfl]
    simp (disch := omega) [A_ref1_Size, dec_yes, dec_no]
  rw [if_neg c0]
  by_cases c1 : (s.size : Int) ≤ i
  · have h0 : dec ((L s).drop i.toNat) = (0, 0) := by rw [drop_end s _ (by omega)]; rfl
    rw [h0, run_fn _ A_ref1_Size _ rfl rfl rfl]
    simp (disch := omega) [A_ref1_Size, dec_yes, dec_no]
  obtain ⟨k, rfl⟩ : ∃ n : Nat, i = n := ⟨i.toNat, by omega⟩
  simp only [Int.toNat_natCast]
  obtain ⟨a, t, hd⟩ := drop_at s k (by omega)
  obtain ⟨hb, hlt, hd1⟩ := bt_at s k a t hd
  have hr := bi_range a
  have hlen := drop_len s k _ hd (by omega)
  rw [hd]
  by_cases b1 : bi a < 128
  · have : dec (a :: t) = (1, bi a) := by rw [dec.eq_def]; simp only; rw [if_pos b1]
    rw [this, run_fn _ A_ref1_Size _ rfl rfl rfl]
    simp (disch := omega) [A_ref1_Size, dec_yes, dec_no, wrap_in, hb]
  by_cases b2 : bi a < 192
  · have : dec (a :: t) = (0, 0) := by rw [dec.eq_def]; simp only; rw [if_neg b1, if_pos b2]
    rw [this, run_fn _ A_ref1_Size _ rfl rfl rfl]
    simp (disch := omega) [A_ref1_Size, dec_yes, dec_no, wrap_in, hb]
  by_cases b3 : bi a < 224
  · have hh : Head a 2 (bi a % 32) 128 := .two (by omega) b3
    rw [dec.eq_def]; simp only; rw [if_neg b1, if_neg b2, if_pos b3]
    match t, hd, hd1, hlen with
    | [], hd, _, hlen => exact size_short s k hs a _ hd _ _ _ hh (by simp at hlen; omega)
    | p :: t, hd, hd1, hlen =>
      have hp := bi_range p
      have e2 : (bi a % 32) * 64 + (bi p - 128) = v2 a p := by unfold v2; omega
      have hst := size_step (cp := cp) s k 2 (bi a % 32) 128 1 (by omega) (by omega) (by omega) p t hd1 (by omega) (by omega)
      dsimp only
      have hc : ¬ (s.size : Int) - k < 2 := by simp at hlen; omega
      by_cases c : cont p
      · rw [if_pos c, e2, show ((1 : Nat) : Int) + 1 = 2 from rfl, size_end s k 2 _ 128 2 (by omega)] at hst
        rw [size_ex s k hs a _ hd _ _ _ hh hc _ _ hst]
        have c' := c
        unfold cont at c'
        by_cases d : 128 ≤ v2 a p
        · rw [if_pos (by unfold okv; omega), if_pos ⟨c, d⟩]; rfl
        · rw [if_neg (fun h => d h.1), if_neg (fun h => d h.2)]; rfl
      · rw [if_neg c] at hst
        rw [size_ret s k hs a _ hd _ _ _ hh hc hst, if_neg (fun h => c h.1)]; rfl
  by_cases b4 : bi a < 240
  · have hh : Head a 3 (bi a % 16) 2048 := .three (by omega) b4
    rw [dec.eq_def]; simp only; rw [if_neg b1, if_neg b2, if_neg b3, if_pos b4]
    match t, hd, hd1, hlen with
    | [], hd, _, hlen => exact size_short s k hs a _ hd _ _ _ hh (by simp at hlen; omega)
    | [p], hd, _, hlen => exact size_short s k hs a _ hd _ _ _ hh (by simp at hlen; omega)
    | p :: q :: t, hd, hd1, hlen =>
      obtain ⟨_, _, hd2⟩ := bt_at s (k + 1) p _ hd1
      have hp := bi_range p
      have hq := bi_range q
      have e2 : ((bi a % 16) * 64 + (bi p - 128)) * 64 + (bi q - 128) = v3 a p q := by unfold v3; omega
      have hst := size_step (cp := cp) s k 3 (bi a % 16) 2048 1 (by omega) (by omega) (by omega) p _ hd1 (by omega) (by omega)
      dsimp only
      have hc : ¬ (s.size : Int) - k < 3 := by simp at hlen; omega
      by_cases c : cont p
      · have c' := c
        unfold cont at c'
        rw [if_pos c, show ((1 : Nat) : Int) + 1 = ((2 : Nat) : Int) from rfl, size_step s k 3 _ 2048 2 (by omega) (by omega) (by omega) q _ hd2 (by omega) (by omega), e2] at hst
        by_cases c2 : cont q
        · have c2' := c2
          unfold cont at c2'
          rw [if_pos c2, show ((2 : Nat) : Int) + 1 = 3 from rfl, size_end s k 3 _ 2048 3 (by omega)] at hst
          rw [size_ex s k hs a _ hd _ _ _ hh hc _ _ hst]
          by_cases d : 2048 ≤ v3 a p q ∧ ¬ (55296 ≤ v3 a p q ∧ v3 a p q ≤ 57343)
          · rw [if_pos (by unfold okv; omega), if_pos ⟨c, c2, d.1, d.2⟩]; rfl
          · rw [if_neg (by unfold okv; omega), if_neg (fun h => d ⟨h.2.2.1, h.2.2.2⟩)]; rfl
        · rw [if_neg c2] at hst
          rw [size_ret s k hs a _ hd _ _ _ hh hc hst, if_neg (fun h => c2 h.2.1)]; rfl
      · rw [if_neg c] at hst
        rw [size_ret s k hs a _ hd _ _ _ hh hc hst, if_neg (fun h => c h.1)]; rfl
  by_cases b5 : bi a < 248
  · have hh : Head a 4 (bi a % 8) 65536 := .four (by omega) b5
    rw [dec.eq_def]; simp only; rw [if_neg b1, if_neg b2, if_neg b3, if_neg b4, if_pos b5]
    match t, hd, hd1, hlen with
    | [], hd, _, hlen => exact size_short s k hs a _ hd _ _ _ hh (by simp at hlen; omega)
    | [p], hd, _, hlen => exact size_short s k hs a _ hd _ _ _ hh (by simp at hlen; omega)
    | [p, q], hd, _, hlen => exact size_short s k hs a _ hd _ _ _ hh (by simp at hlen; omega)
    | p :: q :: r :: t, hd, hd1, hlen =>
      obtain ⟨_, _, hd2⟩ := bt_at s (k + 1) p _ hd1
      obtain ⟨_, _, hd3⟩ := bt_at s (k + 1 + 1) q _ hd2
      have hp := bi_range p
      have hq := bi_range q
      have hr3 := bi_range r
      have e2 : (((bi a % 8) * 64 + (bi p - 128)) * 64 + (bi q - 128)) * 64 + (bi r - 128) = v4 a p q r := by unfold v4; omega
      have hst := size_step (cp := cp) s k 4 (bi a % 8) 65536 1 (by omega) (by omega) (by omega) p _ hd1 (by omega) (by omega)
      dsimp only
      have hc : ¬ (s.size : Int) - k < 4 := by simp at hlen; omega
      by_cases c : cont p
      · have c' := c
        unfold cont at c'
        rw [if_pos c, show ((1 : Nat) : Int) + 1 = ((2 : Nat) : Int) from rfl, size_step s k 4 _ 65536 2 (by omega) (by omega) (by omega) q _ hd2 (by omega) (by omega)] at hst
        by_cases c2 : cont q
        · have c2' := c2
          unfold cont at c2'
          rw [if_pos c2, show ((2 : Nat) : Int) + 1 = ((3 : Nat) : Int) from rfl, size_step s k 4 _ 65536 3 (by omega) (by omega) (by omega) r _ hd3 (by omega) (by omega), e2] at hst
          by_cases c3 : cont r
          · have c3' := c3
            unfold cont at c3'
            rw [if_pos c3, show ((3 : Nat) : Int) + 1 = 4 from rfl, size_end s k 4 _ 65536 4 (by omega)] at hst
            rw [size_ex s k hs a _ hd _ _ _ hh hc _ _ hst]
            by_cases d : 65536 ≤ v4 a p q r ∧ v4 a p q r ≤ 1114111
            · rw [if_pos (by unfold okv; omega), if_pos ⟨c, c2, c3, d.1, d.2⟩]; rfl
            · rw [if_neg (by unfold okv; omega), if_neg (fun h => d ⟨h.2.2.2.1, h.2.2.2.2⟩)]; rfl
          · rw [if_neg c3] at hst
            rw [size_ret s k hs a _ hd _ _ _ hh hc hst, if_neg (fun h => c3 h.2.2.1)]; rfl
        · rw [if_neg c2] at hst
          rw [size_ret s k hs a _ hd _ _ _ hh hc hst, if_neg (fun h => c2 h.2.1)]; rfl
      · rw [if_neg c] at hst
        rw [size_ret s k hs a _ hd _ _ _ hh hc hst, if_neg (fun h => c h.1)]; rfl
  have : dec (a :: t) = (0, 0) := by rw [dec.eq_def]; simp only; rw [if_neg b1, if_neg b2, if_neg b3, if_neg b4, if_neg b5]
  rw [this, run_fn _ A_ref1_Size _ rfl rfl rfl]
  simp (disch := omega) [A_ref1_Size, dec_yes, dec_no, wrap_in, hb]
end Go.Proofs.Ytihgpnfkadldeaa.AM

end
section
/- The reference's code points on the small machine: Valid, IsEdge, Clean, Points. For texts of less than 2^36 bytes. -/
namespace Go.Proofs.Ytihgpnfkadldeaa.AM
set_option linter.unusedSimpArgs false
set_option linter.unusedVariables false
open Go Go.Proofs.Ytihgpnfkadldeaa.U
variable {cp : List PV → Option Ret}

theorem refValid_loop (s : ByteArray) (hs : s.size < 1099511627776) : ∀ (m i : Nat), s.size ≤ i + m → i ≤ s.size → Code (EX cp) L_ref1_Valid_0 ⟨[(0, .p (.sc (.string s))), (3, .p (pi i))], []⟩ =
    if valid ((L s).drop i) = true then some (.ex 0, ⟨[(0, .p (.sc (.string s))), (3, .p (pi s.size)), (8, .p (pb false))], []⟩) else some (.ret, ⟨[(2, .p (pb false))], []⟩) := by
  intro m
  induction m with
  | zero =>
    intro i h1 h2
    have : i = s.size := by omega
    subst this
    rw [drop_end s _ (Nat.le_refl _), valid_nil, L_ref1_Valid_0, k_loop]
    simp
  | succ m ih =>
    intro i h1 h2
    by_cases hlt : i < s.size
    · have hz := refSize (cp := cp) s i hs
      have hle := sizeAt_le s i h2
      rw [valid_at s i hlt]
      by_cases c : sizeAt s i = 0
      · rw [if_pos c, L_ref1_Valid_0, k_loop]
        simp (disch := omega) [dec_yes, dec_no, hlt, hz, c]
      · have ih' := ih (i + sizeAt s i) (by omega) (by omega)
        have hc : ¬ ((sizeAt s i : Nat) : Int) = 0 := by omega
        rw [if_neg c, ← ih', L_ref1_Valid_0, k_loop]
        simp (disch := omega) [dec_yes, dec_no, hlt, hz, hc, wrap_in, c]
    · have : i = s.size := by omega
      subst this
      rw [drop_end s _ (Nat.le_refl _), valid_nil, L_ref1_Valid_0, k_loop]
      simp
theorem refValid (s : ByteArray) (hs : s.size < 1099511627776) : Run (EX cp) 47 [.sc (.string s)] = some (.val (pb (valid (L s)))) := by
  have h := refValid_loop (cp := cp) s hs s.size 0 (by omega) (by omega)
  rw [run_fn _ A_ref1_Valid _ rfl rfl rfl]
  simp only [List.drop_zero, Int.ofNat_zero, Int.natCast_zero] at h
  cases hv : valid (L s) with
  | true => rw [hv, if_pos rfl] at h; simp [A_ref1_Valid, h]
  | false => rw [hv, if_neg (by simp)] at h; simp [A_ref1_Valid, h]

theorem refIsEdge (s : ByteArray) (i : Int) (hs : s.size < 1099511627776) : Run (EX cp) 48 [.sc (.string s), pi i] = some (.val (pb (edge s i))) := by
  have hv := refValid (cp := cp) s hs
  rw [run_fn _ A_ref1_IsEdge _ rfl rfl rfl]
  by_cases c0 : i < 0
  · rw [edge_out s i (by omega)]
    simp (disch := omega) [A_ref1_IsEdge, dec_yes, dec_no]
  by_cases c1 : (s.size : Int) < i
  · rw [edge_out s i (by omega)]
    simp (disch := omega) [A_ref1_IsEdge, dec_yes, dec_no]
  by_cases c2 : i = s.size
  · subst c2
    rw [edge_end]
    cases hvv : valid (L s) <;> rw [hvv] at hv <;> simp (disch := omega) [A_ref1_IsEdge, dec_yes, dec_no, hv]
  · obtain ⟨n, rfl⟩ : ∃ n : Nat, i = n := ⟨i.toNat, by omega⟩
    obtain ⟨a, t, hd⟩ := drop_at s n (by omega)
    have hb := (bt_at s n a t hd).1
    have hr := bi_range a
    have e4 := fdiv6 a
    rw [edge_at s n a t hd]
    cases hvv : valid (L s) <;> rw [hvv] at hv
    · simp (disch := omega) [A_ref1_IsEdge, dec_yes, dec_no, hv]
    · by_cases c : cont a
      · have e3 : bi a / 64 = 2 := by unfold cont at c; omega
        simp (disch := omega) [A_ref1_IsEdge, dec_yes, dec_no, hv, hb, e3, e4, c, wrap_in, IntKind.bits]
      · have e3 : ¬ bi a / 64 = 2 := by unfold cont at c; omega
        simp (disch := omega) [A_ref1_IsEdge, dec_yes, dec_no, hv, hb, e3, e4, c, wrap_in, IntKind.bits]

theorem clean_at (s : ByteArray) (i : Nat) (h : i < s.size) : clean ((L s).drop i) = if sizeAt s i = 0 then enc 65533 ++ clean ((L s).drop (i + 1)) else ((L s).drop i).take (sizeAt s i) ++ clean ((L s).drop (i + sizeAt s i)) := by
  obtain ⟨a, t, hd⟩ := drop_at s i h
  have ht := (bt_at s i a t hd).2.2
  unfold sizeAt
  rw [decAt_nat]
  by_cases c : (dec ((L s).drop i)).1 = 0
  · rw [if_pos c, hd]
    rw [hd] at c
    rw [clean_none c, ht]
  · rw [if_neg c]
    obtain ⟨hs, r, hr, hn⟩ := dec_enc ((L s).drop i) _ _ (Prod.eta _).symm c
    have e1 : ((L s).drop i).take (dec ((L s).drop i)).1 = enc (dec ((L s).drop i)).2 := by
      conv => lhs; arg 2; rw [hr]
      rw [← hn, List.take_left]
    have e2 : (L s).drop (i + (dec ((L s).drop i)).1) = r := by
      rw [← List.drop_drop]
      conv => lhs; arg 2; rw [hr]
      rw [← hn, List.drop_left]
    rw [e1, e2]
    conv => lhs; rw [hr]
    exact clean_enc1 hs r
theorem enc_bad3 : enc 65533 = [239, 191, 189] := by decide
theorem badS : (⟨#[239, 191, 189]⟩ : ByteArray) = ⟨(enc 65533).toArray⟩ := by rw [enc_bad3]
theorem append_mk (t : ByteArray) (l : List UInt8) : t ++ ⟨l.toArray⟩ = ⟨(L t ++ l).toArray⟩ := by
  apply L_inj; rw [L_append, L_mk l, L_mk (L t ++ l)]
theorem size_mk (l : List UInt8) : (⟨l.toArray⟩ : ByteArray).size = l.length := by rw [← L_len, L_mk]
theorem extract_mk (s : ByteArray) (i n : Nat) : s.extract i (i + n) = ⟨(((L s).drop i).take n).toArray⟩ := by
  apply L_inj; rw [L_extract, L_mk (((L s).drop i).take n), Nat.add_sub_cancel_left]

set_option maxHeartbeats 1000000 in
theorem refClean_loop (s : ByteArray) (hs : s.size < 68719476736) : ∀ (m i : Nat) (acc : List UInt8), s.size ≤ i + m → i ≤ s.size → acc.length ≤ 4 * i → Code (EX cp) L_ref1_Clean_0 ⟨[(0, .p (.sc (.string s))), (3, .p (.sc (.string ⟨acc.toArray⟩))), (4, .p (pi i))], []⟩ =
    some (.ex 0, ⟨[(0, .p (.sc (.string s))), (3, .p (.sc (.string ⟨(acc ++ clean ((L s).drop i)).toArray⟩))), (4, .p (pi s.size)), (12, .p (pb false))], []⟩) := by
  intro m
  induction m with
  | zero =>
    intro i acc h1 h2 h3
    have : i = s.size := by omega
    subst this
    rw [drop_end s _ (Nat.le_refl _), L_ref1_Clean_0, k_loop]
    simp [clean, points_nil]
  | succ m ih =>
    intro i acc h1 h2 h3
    by_cases hlt : i < s.size
    · have hz := refSize (cp := cp) s i (by omega)
      have hle := sizeAt_le s i h2
      rw [clean_at s i hlt]
      have hsz := size_mk acc
      by_cases c : sizeAt s i = 0
      · obtain ⟨bd, hbd, hbl, hbs⟩ : ∃ bd, enc 65533 = bd ∧ bd.length = 3 ∧ (⟨#[239, 191, 189]⟩ : ByteArray) = ⟨bd.toArray⟩ := ⟨_, rfl, by rw [enc_bad3]; rfl, badS⟩
        rw [hbd]
        have ih' := ih (i + 1) (acc ++ bd) (by omega) (by omega) (by simp; omega)
        have hm := append_mk ⟨acc.toArray⟩ bd
        rw [L_mk acc] at hm
        have h3s : (⟨bd.toArray⟩ : ByteArray).size = 3 := by rw [size_mk, hbl]
        rw [if_pos c, ← List.append_assoc, ← ih', L_ref1_Clean_0, k_loop]
        simp (disch := omega) [dec_yes, dec_no, hlt, hz, c, wrap_in, hbs, hsz, h3s, hm, if_yes]
      · have hc : ¬ ((sizeAt s i : Nat) : Int) = 0 := by omega
        have hx := extract_mk s i (sizeAt s i)
        generalize hn : sizeAt s i = n at *
        have htl : (((L s).drop i).take n).length = n := by rw [List.length_take, List.length_drop, L_len]; omega
        generalize ((L s).drop i).take n = seg at *
        have ih' := ih (i + n) (acc ++ seg) (by omega) (by omega) (by simp; omega)
        have hm := append_mk ⟨acc.toArray⟩ seg
        have hss := size_mk seg
        rw [L_mk acc] at hm
        have e9 : ((i : Int) + (n : Int)).toNat = i + n := by omega
        have e8 : i + n ≤ s.size := by omega
        rw [if_neg c, ← List.append_assoc, ← ih', L_ref1_Clean_0, k_loop]
        simp (disch := omega) [dec_yes, dec_no, hlt, hz, hc, c, wrap_in, hsz, hss, htl, hm, hx, e9, e8, if_yes]
    · have : i = s.size := by omega
      subst this
      rw [drop_end s _ (Nat.le_refl _), L_ref1_Clean_0, k_loop]
      simp [clean, points_nil]
theorem refClean (s : ByteArray) (hs : s.size < 68719476736) : Run (EX cp) 33 [.sc (.string s)] = some (.val (.sc (.string (cleanS s)))) := by
  have h1 := refValid (cp := cp) s (by omega)
  have h2 := refClean_loop (cp := cp) s hs s.size 0 [] (by omega) (by omega) (by simp)
  simp only [List.drop_zero, Int.ofNat_zero, Int.natCast_zero, List.nil_append] at h2
  rw [run_fn _ A_ref1_Clean _ rfl rfl rfl]
  cases hv : valid (L s) with
  | true =>
    rw [hv] at h1
    have : cleanS s = s := by unfold cleanS; rw [clean_of_valid _ hv, mk_L]
    simp [A_ref1_Clean, h1, this]
  | false =>
    rw [hv] at h1
    simp [A_ref1_Clean, h1, h2, cleanS]

/-! ### texts in a row -/
def strs (l : List ByteArray) : List (List PV) := l.map fun x => [.sc (.string x)]
@[simp] theorem strs_len (l : List ByteArray) : (strs l).length = l.length := by simp [strs]
@[simp] theorem strs_nil : strs [] = [] := rfl
@[simp] theorem strs_snoc (l : List ByteArray) (x : ByteArray) : strs l ++ [[.sc (.string x)]] = strs (l ++ [x]) := by simp [strs]
theorem strs_at (l : List ByteArray) (n : Nat) (h : n < l.length) : (strs l)[n]? = some [.sc (.string l[n])] := by simp [strs, List.getElem?_eq_getElem h]
/-- A code point's text. -/
def chS (v : Int) : ByteArray := ⟨(enc v).toArray⟩
def ptsS (l : List UInt8) : List ByteArray := (points l).map chS
theorem ptsS_at (s : ByteArray) (i : Nat) (h : i < s.size) (hv : valid ((L s).drop i) = true) : sizeAt s i ≠ 0 ∧ ptsS ((L s).drop i) = (⟨(((L s).drop i).take (sizeAt s i)).toArray⟩ : ByteArray) :: ptsS ((L s).drop (i + sizeAt s i)) ∧ valid ((L s).drop (i + sizeAt s i)) = true := by
  rw [valid_at s i h] at hv
  by_cases c : sizeAt s i = 0
  · rw [if_pos c] at hv; simp at hv
  · rw [if_neg c] at hv
    refine ⟨c, ?_, hv⟩
    unfold ptsS
    rw [points_at s i h, if_neg c, List.map_cons]
    congr 1
    unfold sizeAt at c ⊢
    rw [decAt_nat] at c ⊢
    obtain ⟨hs, r, hr, hn⟩ := dec_enc ((L s).drop i) _ _ (Prod.eta _).symm c
    have e1 : ((L s).drop i).take (dec ((L s).drop i)).1 = enc (dec ((L s).drop i)).2 := by
      conv => lhs; arg 2; rw [hr]
      rw [← hn, List.take_left]
    rw [e1]; rfl
set_option maxHeartbeats 1000000 in
theorem refPoints_loop (s : ByteArray) (hs : s.size < 1099511627776) : ∀ (m i : Nat) (acc : List ByteArray), s.size ≤ i + m → i ≤ s.size → acc.length ≤ i → valid ((L s).drop i) = true → Code (EX cp) L_ref1_Points_0 ⟨[(3, .p (.sc (.string s))), (4, .ms 4 0 acc.length), (5, .p (pi i))], [(4, .row 9 1 false (strs acc))]⟩ =
    some (.ex 0, ⟨[(3, .p (.sc (.string s))), (4, .ms 4 0 (acc ++ ptsS ((L s).drop i)).length), (5, .p (pi s.size)), (12, .p (pb false))], [(4, .row 9 1 false (strs (acc ++ ptsS ((L s).drop i))))]⟩) := by
  intro m
  induction m with
  | zero =>
    intro i acc h1 h2 h3 h4
    have : i = s.size := by omega
    subst this
    rw [drop_end s _ (Nat.le_refl _), L_ref1_Points_0, k_loop]
    simp [ptsS, points_nil]
  | succ m ih =>
    intro i acc h1 h2 h3 h4
    by_cases hlt : i < s.size
    · have hz := refSize (cp := cp) s i hs
      have hle := sizeAt_le s i h2
      obtain ⟨c, hp, hv⟩ := ptsS_at s i hlt h4
      have hx := extract_mk s i (sizeAt s i)
      rw [hp]
      generalize hn : sizeAt s i = n at *
      generalize (⟨(((L s).drop i).take n).toArray⟩ : ByteArray) = seg at *
      have ih' := ih (i + n) (acc ++ [seg]) (by omega) (by omega) (by simp; omega) hv
      have e9 : ((i : Int) + (n : Int)).toNat = i + n := by omega
      have e8 : i + n ≤ s.size := by omega
      have hcap : (acc.length + 1) * 16 ≤ maxBytes ∧ acc.length + 1 ≤ 9223372036854775807 := by unfold maxBytes; omega
      have e : acc ++ seg :: ptsS ((L s).drop (i + n)) = (acc ++ [seg]) ++ ptsS ((L s).drop (i + n)) := by simp
      rw [e, ← ih', L_ref1_Points_0, k_loop]
      simp (disch := omega) [dec_yes, dec_no, hlt, hz, wrap_in, hx, e9, e8, hcap, if_yes]
    · have : i = s.size := by omega
      subst this
      rw [drop_end s _ (Nat.le_refl _), L_ref1_Points_0, k_loop]
      simp [ptsS, points_nil]
theorem refPoints (s : ByteArray) (hs : s.size < 68719476736) : Run (EX cp) 32 [.sc (.string s)] = some (.own 9 1 (strs (ptsS (clean (L s))))) := by
  have h1 := refClean (cp := cp) s hs
  have hle := clean_le (L s)
  rw [L_len] at hle
  have hsz : (cleanS s).size = (clean (L s)).length := size_mk _
  have h2 := refPoints_loop (cp := cp) (cleanS s) (by omega) (cleanS s).size 0 [] (by omega) (by omega) (by simp) (by rw [List.drop_zero]; unfold cleanS; rw [L_mk]; exact clean_valid _)
  rw [run_fn _ A_ref1_Points _ rfl rfl rfl]
  have e : L (cleanS s) = clean (L s) := L_mk _
  rw [List.drop_zero, e] at h2
  simp at h2
  simp [A_ref1_Points, h1, h2]
theorem pts_clean (l : List UInt8) : points (clean l) = points l := points_encs' _ (points_sc l)
end Go.Proofs.Ytihgpnfkadldeaa.AM

end
section
/- Atoms on the small machine: whether one is seen; where each stands; what can be read. For rows of at most 2^40 atoms, cuts, groups, and texts of less than 2^46 bytes. -/
namespace Go.Proofs.Ytihgpnfkadldeaa.AM
set_option linter.unusedSimpArgs false
set_option linter.unusedVariables false
open Go Go.Proofs.Ytihgpnfkadldeaa.U
variable {cp : List PV → Option Ret}

/-! ### slices.IndexFunc, ContainsFunc, Index, Contains -/
theorem indexFuncC_loop (l : List (List PV)) (fid : FuncId) (cs : List PV) (p : List PV → Bool) (hl : l.length ≤ 9223372036854775807) (hp : ∀ c ∈ l, c.length = 2 ∧ Run (EX cp) fid (.st c :: cs) = some (.val (pb (p c)))) : ∀ (m i : Nat), m + i = l.length →
    Code (EX cp) L_slices_IndexFunc_api_Cut_api_Cut_0 ⟨[(0, .p (.sl 2 l)), (1, .p (.fn fid cs)), (7, .p (pi l.length)), (8, .p (pi i))], []⟩ =
      some (match (l.drop i).findIdx? p with
        | some j => (.ret, ⟨[(4, .p (pi ((i + j : Nat) : Int)))], []⟩)
        | none => (.ex 0, ⟨[(0, .p (.sl 2 l)), (1, .p (.fn fid cs)), (7, .p (pi l.length)), (8, .p (pi l.length)), (9, .p (pb false))], []⟩)) := by
  intro m
  induction m with
  | zero =>
    intro i hi
    have : i = l.length := by omega
    subst this
    rw [L_slices_IndexFunc_api_Cut_api_Cut_0, k_loop]
    simp
  | succ m ih =>
    intro i hi
    have hlt : i < l.length := by omega
    obtain ⟨h2, hr⟩ := hp l[i] (List.getElem_mem hlt)
    have hg : l[i]? = some l[i] := List.getElem?_eq_getElem hlt
    rw [List.drop_eq_getElem_cons hlt, List.findIdx?_cons]
    generalize hge : l[i] = c at *
    have htk : c.take 2 = c := List.take_of_length_le (by omega)
    cases hpc : p c with
    | true =>
      rw [hpc] at hr
      rw [L_slices_IndexFunc_api_Cut_api_Cut_0, k_loop]
      simp (disch := omega) [dec_yes, hlt, hg, hge, hr, h2, htk, if_yes]
    | false =>
      have ih' := ih (i+1) (by omega)
      rw [hpc] at hr
      have e : (some (match (if (false : Bool) = true then some 0 else Option.map (fun i => i + 1) ((l.drop (i+1)).findIdx? p)) with
        | some j => (Out.ret, (⟨[(4, .p (pi ((i + j : Nat) : Int)))], []⟩ : St))
        | none => (.ex 0, ⟨[(0, .p (.sl 2 l)), (1, .p (.fn fid cs)), (7, .p (pi l.length)), (8, .p (pi l.length)), (9, .p (pb false))], []⟩))) = Code (EX cp) L_slices_IndexFunc_api_Cut_api_Cut_0 ⟨[(0, .p (.sl 2 l)), (1, .p (.fn fid cs)), (7, .p (pi l.length)), (8, .p (pi ((i + 1 : Nat) : Int)))], []⟩ := by
        rw [ih']
        cases (l.drop (i+1)).findIdx? p with
        | none => rfl
        | some j => simp; omega
      rw [e]
      conv => lhs; rw [L_slices_IndexFunc_api_Cut_api_Cut_0, k_loop]
      simp (disch := omega) [dec_yes, hlt, hg, hge, hr, h2, htk, if_yes, wrap_in]
      rw [L_slices_IndexFunc_api_Cut_api_Cut_0]
theorem containsFuncC (l : List (List PV)) (fid : FuncId) (cs : List PV) (p : List PV → Bool) (hl : l.length ≤ 9223372036854775807) (hp : ∀ c ∈ l, c.length = 2 ∧ Run (EX cp) fid (.st c :: cs) = some (.val (pb (p c)))) :
    Run (EX cp) 51 [.sl 2 l, .fn fid cs] = some (.val (pb (l.any p))) := by
  have h := indexFuncC_loop l fid cs p hl hp l.length 0 (by omega)
  have hi : Run (EX cp) 76 [.sl 2 l, .fn fid cs] = some (.val (pi (match l.findIdx? p with | some j => (j : Int) | none => -1))) := by
    rw [run_fn _ A_slices_IndexFunc_api_Cut_api_Cut _ rfl rfl rfl]
    simp only [List.drop_zero, Nat.zero_add, Int.ofNat_zero, Int.natCast_zero] at h
    cases hf : l.findIdx? p <;> rw [hf] at h <;> simp [A_slices_IndexFunc_api_Cut_api_Cut, h]
  rw [run_fn _ A_slices_ContainsFunc_api_Cut_api_Cut _ rfl rfl rfl]
  simp [A_slices_ContainsFunc_api_Cut_api_Cut, hi]
  cases hf : l.findIdx? p with
  | none =>
    rw [List.findIdx?_eq_none_iff] at hf
    simp
    intro c hc
    simpa using hf c hc
  | some j =>
    obtain ⟨h1, h2, _⟩ := List.findIdx?_eq_some_iff_getElem.1 hf
    simp
    exact ⟨_, List.getElem_mem h1, h2⟩

theorem index_loop (l : List Int) (v : Int) (hl : l.length ≤ 9223372036854775807) : ∀ (m i : Nat), m + i = l.length →
    Code (EX cp) L_slices_Index_int_int_0 ⟨[(0, .p (.sl 1 (ints l))), (1, .p (pi v)), (7, .p (pi l.length)), (8, .p (pi i))], []⟩ =
      if (l.drop i).any (fun y => y == v) then some (.ret, ⟨[(4, .p (pi ((i + (l.drop i).findIdx (fun y => y == v) : Nat) : Int)))], []⟩)
      else some (.ex 0, ⟨[(0, .p (.sl 1 (ints l))), (1, .p (pi v)), (7, .p (pi l.length)), (8, .p (pi l.length)), (9, .p (pb false))], []⟩) := by
  intro m
  induction m with
  | zero =>
    intro i hi
    have : i = l.length := by omega
    subst this
    rw [L_slices_Index_int_int_0, k_loop]
    simp
  | succ m ih =>
    intro i hi
    have hlt : i < l.length := by omega
    have hg := ints_at l i hlt
    rw [List.drop_eq_getElem_cons hlt, List.any_cons, List.findIdx_cons]
    generalize l[i] = x at *
    by_cases hv : v = x
    · subst hv
      rw [L_slices_Index_int_int_0, k_loop]
      simp (disch := omega) [dec_yes, hlt, hg]
    · have hv' : (x == v) = false := by simpa using fun e => hv e.symm
      have ih' := ih (i+1) (by omega)
      rw [hv', Bool.false_or, cond_false]
      have e : ((i + ((l.drop (i+1)).findIdx (fun y => y == v) + 1) : Nat) : Int) = ((i + 1 + (l.drop (i+1)).findIdx (fun y => y == v) : Nat) : Int) := by omega
      rw [e, ← ih', L_slices_Index_int_int_0, k_loop]
      simp (disch := omega) [dec_yes, hlt, hg, hv, wrap_in]
theorem contains (l : List Int) (v : Int) (hl : l.length ≤ 9223372036854775807) : Run (EX cp) 75 [.sl 1 (ints l), pi v] = some (.val (pb (l.any fun y => y == v))) := by
  have h := index_loop (cp := cp) l v hl l.length 0 (by omega)
  simp only [List.drop_zero, Nat.zero_add, Int.ofNat_zero, Int.natCast_zero] at h
  have hi : Run (EX cp) 85 [.sl 1 (ints l), pi v] = some (.val (pi (if l.any (fun y => y == v) then (l.findIdx (fun y => y == v) : Int) else -1))) := by
    rw [run_fn _ A_slices_Index_int_int _ rfl rfl rfl]
    cases hf : l.any (fun y => y == v) <;> rw [hf] at h <;> simp at h <;> simp [A_slices_Index_int_int, h]
  rw [run_fn _ A_slices_Contains_int_int _ rfl rfl rfl]
  cases hf : l.any (fun y => y == v) <;> rw [hf] at hi
  · simp only [Bool.false_eq_true, if_false] at hi
    simp [A_slices_Contains_int_int, hi]
  · simp only [if_true] at hi
    simp (disch := omega) [A_slices_Contains_int_int, hi, dec_yes]
theorem refIn_loop (l : List Int) (v : Int) (hl : l.length ≤ 9223372036854775807) : ∀ (m i : Nat), m + i = l.length →
    Code (EX cp) L_ref17_In_0 ⟨[(0, .p (.sl 1 (ints l))), (1, .p (pi v)), (5, .p (pi i))], []⟩ =
      if (l.drop i).any (fun y => y == v) then some (.ret, ⟨[(4, .p (pb true))], []⟩)
      else some (.ex 0, ⟨[(0, .p (.sl 1 (ints l))), (1, .p (pi v)), (5, .p (pi l.length)), (9, .p (pb false))], []⟩) := by
  intro m
  induction m with
  | zero =>
    intro i hi
    have : i = l.length := by omega
    subst this
    rw [L_ref17_In_0, k_loop]
    simp
  | succ m ih =>
    intro i hi
    have hlt : i < l.length := by omega
    have hg := ints_at l i hlt
    rw [List.drop_eq_getElem_cons hlt, List.any_cons]
    generalize l[i] = x at *
    by_cases hv : x = v
    · subst hv
      rw [L_ref17_In_0, k_loop]
      simp (disch := omega) [dec_yes, hlt, hg]
    · have hv' : (x == v) = false := by simpa using hv
      have ih' := ih (i+1) (by omega)
      rw [hv', Bool.false_or, ← ih', L_ref17_In_0, k_loop]
      simp (disch := omega) [dec_yes, hlt, hg, hv, wrap_in]
theorem refIn (l : List Int) (v : Int) (hl : l.length ≤ 9223372036854775807) : Run (EX cp) 49 [.sl 1 (ints l), pi v] = some (.val (pb (l.any fun y => y == v))) := by
  have h := refIn_loop (cp := cp) l v hl l.length 0 (by omega)
  simp only [List.drop_zero, Int.ofNat_zero, Int.natCast_zero] at h
  rw [run_fn _ A_ref17_In _ rfl rfl rfl]
  cases hf : l.any (fun y => y == v) <;> rw [hf] at h <;> simp at h <;> simp [A_ref17_In, h]

/-! ### is what a group did there? -/
def holdsF (g : Int) (u : List Int) : Bool := g == -1 || !(u.any fun y => y == g)
theorem holds (g : Int) (u : List Int) (hl : u.length ≤ 9223372036854775807) : Run (EX cp) 50 [pi g, .sl 1 (ints u)] = some (.val (pb (holdsF g u))) := by
  have h := contains (cp := cp) u g hl
  rw [run_fn _ A_atom_holds _ rfl rfl rfl]
  by_cases hg : g = -1
  · simp [A_atom_holds, hg, holdsF]
  · simp [A_atom_holds, hg, holdsF, h]
theorem refUndone (g : Int) (u : List Int) (hl : u.length ≤ 9223372036854775807) : Run (EX cp) 53 [.sl 1 (ints u), pi g] = some (.val (pb (!holdsF g u))) := by
  have h := refIn (cp := cp) u g hl
  rw [run_fn _ A_ref17_Undone _ rfl rfl rfl]
  by_cases hg : g = -1
  · simp [A_ref17_Undone, hg, holdsF]
  · simp [A_ref17_Undone, hg, holdsF, h]

/-! ### atoms -/
structure At where
  txt : ByteArray
  rv : Int
  gr : Int
  rk : Int
  cuts : List (Int × Int)
def cutV (q : Int × Int) : List PV := [pi q.1, pi q.2]
def cutsL (c : List (Int × Int)) : List (List PV) := c.map cutV
@[simp] theorem cutsL_len (c : List (Int × Int)) : (cutsL c).length = c.length := by simp [cutsL]
@[simp] theorem cutsL_nil : cutsL [] = [] := rfl
theorem cutsL_at (c : List (Int × Int)) (n : Nat) (h : n < c.length) : (cutsL c)[n]? = some [pi c[n].1, pi c[n].2] := by simp [cutsL, cutV, List.getElem?_eq_getElem h]
def At.pv (a : At) : List PV := [.sc (.string a.txt), pi a.rv, pi a.gr, pi a.rk, .sl 2 (cutsL a.cuts)]
def ats (l : List At) : List (List PV) := l.map At.pv
@[simp] theorem ats_len (l : List At) : (ats l).length = l.length := by simp [ats]
@[simp] theorem ats_nil : ats [] = [] := rfl
theorem ats_at (l : List At) (n : Nat) (h : n < l.length) : (ats l)[n]? = some l[n].pv := by simp [ats, List.getElem?_eq_getElem h]
@[simp] theorem ats_take (l : List At) : (ats l).take l.length = ats l := by rw [List.take_of_length_le (by simp)]
theorem ats_append (a b : List At) : ats a ++ ats b = ats (a ++ b) := by simp [ats]
@[simp] theorem ats_snoc (l : List At) (x : At) : ats l ++ [x.pv] = ats (l ++ [x]) := by simp [ats]
def cutP (rev : Int) (u : List Int) : List PV → Bool
  | [.sc (.int _ a), .sc (.int _ b)] => decide (a ≤ rev) && holdsF b u
  | _ => false
def At.vis (a : At) (rev : Int) (u : List Int) : Bool := decide (a.rv ≤ rev) && holdsF a.gr u && !(a.cuts.any fun q => decide (q.1 ≤ rev) && holdsF q.2 u)
theorem visible1 (cr cg rev : Int) (u : List Int) (hl : u.length ≤ 9223372036854775807) : Run (EX cp) 52 [.st [pi cr, pi cg], .pt [pi rev], .pt [.sl 1 (ints u)]] = some (.val (pb (decide (cr ≤ rev) && holdsF cg u))) := by
  have h := holds (cp := cp) cg u hl
  rw [run_fn _ A_atom_Visible_1 _ rfl rfl rfl]
  by_cases hg : cr ≤ rev
  · simp [A_atom_Visible_1, hg, h]
  · simp [A_atom_Visible_1, hg, h]
theorem visible (a : At) (rev : Int) (u : List Int) (hl : u.length ≤ 9223372036854775807) (hc : a.cuts.length ≤ 9223372036854775807) :
    Run (EX cp) 20 [.st a.pv, pi rev, .sl 1 (ints u)] = some (.val (pb (a.vis rev u))) := by
  have h1 := holds (cp := cp) a.gr u hl
  have h2 := containsFuncC (cp := cp) (cutsL a.cuts) 52 [.pt [pi rev], .pt [.sl 1 (ints u)]] (cutP rev u) (by simpa using hc) (fun r hr => by
    obtain ⟨q, hq, rfl⟩ := List.mem_map.1 hr
    exact ⟨rfl, visible1 q.1 q.2 rev u hl⟩)
  have h3 : (cutsL a.cuts).any (cutP rev u) = a.cuts.any fun q => decide (q.1 ≤ rev) && holdsF q.2 u := by
    simp [cutsL, cutV, List.any_map, Function.comp_def, cutP]
  rw [h3] at h2
  rw [run_fn _ A_atom_Visible _ rfl rfl rfl, At.pv, At.vis]
  by_cases hg : a.rv ≤ rev
  · cases hh : holdsF a.gr u <;> rw [hh] at h1 <;> simp (disch := omega) [A_atom_Visible, hg, h1, h2, dec_yes, dec_no]
  · simp (disch := omega) [A_atom_Visible, hg, dec_yes, dec_no]
theorem refVisible_loop (a : At) (rev : Int) (u : List Int) (hl : u.length ≤ 9223372036854775807) (hc : a.cuts.length ≤ 9223372036854775807) : ∀ (m i : Nat), m + i = a.cuts.length →
    Code (EX cp) L_ref17_Visible_0 ⟨[(1, .p (pi rev)), (2, .p (.sl 1 (ints u))), (3, .mp 3 0 0), (7, .p (pi i))], [(3, .row 31 5 false [a.pv])]⟩ =
      if (a.cuts.drop i).any (fun q => decide (q.1 ≤ rev) && holdsF q.2 u) then some (.ret, ⟨[(6, .p (pb false))], []⟩)
      else some (.ex 0, ⟨[(1, .p (pi rev)), (2, .p (.sl 1 (ints u))), (3, .mp 3 0 0), (7, .p (pi a.cuts.length)), (22, .p (pb false))], [(3, .row 31 5 false [a.pv])]⟩) := by
  intro m
  induction m with
  | zero =>
    intro i hi
    have : i = a.cuts.length := by omega
    subst this
    rw [L_ref17_Visible_0, k_loop]
    simp [At.pv]
  | succ m ih =>
    intro i hi
    have hlt : i < a.cuts.length := by omega
    have hg := cutsL_at a.cuts i hlt
    have h1 := refUndone (cp := cp) a.cuts[i].2 u hl
    rw [List.drop_eq_getElem_cons hlt, List.any_cons]
    generalize a.cuts[i] = q at *
    have ih' := ih (i+1) (by omega)
    by_cases c : q.1 ≤ rev
    · cases hh : holdsF q.2 u <;> rw [hh] at h1
      · simp only [Bool.and_false, Bool.false_or]
        rw [← ih', L_ref17_Visible_0, k_loop]
        simp (disch := omega) [At.pv, hlt, hg, c, h1, dec_yes, dec_no, wrap_in]
      · simp only [c, decide_true, Bool.and_true, Bool.true_or, if_true]
        rw [L_ref17_Visible_0, k_loop]
        simp (disch := omega) [At.pv, hlt, hg, c, h1, dec_yes, dec_no, wrap_in]
    · simp only [c, decide_false, Bool.false_and, Bool.false_or]
      rw [← ih', L_ref17_Visible_0, k_loop]
      simp (disch := omega) [At.pv, hlt, hg, c, dec_yes, dec_no, wrap_in]
theorem refVisible (a : At) (rev : Int) (u : List Int) (hl : u.length ≤ 9223372036854775807) (hc : a.cuts.length ≤ 9223372036854775807) :
    Run (EX cp) 21 [.st a.pv, pi rev, .sl 1 (ints u)] = some (.val (pb (a.vis rev u))) := by
  have h1 := refUndone (cp := cp) a.gr u hl
  have h2 := refVisible_loop (cp := cp) a rev u hl hc a.cuts.length 0 (by omega)
  simp only [List.drop_zero, Int.ofNat_zero, Int.natCast_zero] at h2
  simp only [At.pv] at h2
  rw [run_fn _ A_ref17_Visible _ rfl rfl rfl, At.pv, At.vis]
  by_cases hg : a.rv ≤ rev
  · cases hh : holdsF a.gr u <;> rw [hh] at h1
    · simp (disch := omega) [A_ref17_Visible, hg, h1, dec_yes, dec_no]
    · cases hh2 : a.cuts.any (fun q => decide (q.1 ≤ rev) && holdsF q.2 u)
      · simp only [hh2, Bool.false_eq_true, if_false] at h2
        simp (disch := omega) [A_ref17_Visible, hg, h1, h2, dec_yes, dec_no]
      · simp only [hh2, if_true] at h2
        simp (disch := omega) [A_ref17_Visible, hg, h1, h2, dec_yes, dec_no]
  · simp (disch := omega) [A_ref17_Visible, hg, dec_yes, dec_no]
end Go.Proofs.Ytihgpnfkadldeaa.AM

end
section
/- Atoms on the small machine: where each stands (Places), what can be read (Text). For rows of fewer than 2^40 atoms with texts of less than 2^45 bytes together. -/
namespace Go.Proofs.Ytihgpnfkadldeaa.AM
set_option linter.unusedSimpArgs false
set_option linter.unusedVariables false
open Go Go.Proofs.Ytihgpnfkadldeaa.U
variable {cp : List PV → Option Ret}

def sumT (l : List At) : Nat := (l.map fun a => a.txt.size).sum
theorem sumT_cons (a : At) (l : List At) : sumT (a :: l) = a.txt.size + sumT l := by simp [sumT]
theorem sumT_append (a b : List At) : sumT (a ++ b) = sumT a + sumT b := by simp [sumT]
theorem sumT_drop (l : List At) (i : Nat) : sumT (l.drop i) ≤ sumT l := by
  conv => rhs; rw [← List.take_append_drop i l]
  rw [sumT_append]; omega
theorem sumT_take (l : List At) (i : Nat) : sumT (l.take i) ≤ sumT l := by
  conv => rhs; rw [← List.take_append_drop i l]
  rw [sumT_append]; omega
/-- What atoms may be here. -/
structure Fit (l : List At) : Prop where
  len : l.length < 1099511627776
  sum : sumT l < 35184372088832
  cuts : ∀ a ∈ l, a.cuts.length < 1099511627776
theorem Fit.get {l : List At} (h : Fit l) (i : Nat) (hi : i < l.length) : l[i].cuts.length ≤ 9223372036854775807 ∧ l[i].txt.size < 35184372088832 := by
  have h1 := h.cuts _ (List.getElem_mem hi)
  refine ⟨by omega, ?_⟩
  have h2 := h.sum
  have h3 : sumT (l.drop i) ≤ sumT l := sumT_drop l i
  rw [List.drop_eq_getElem_cons hi, sumT_cons] at h3
  omega
/-- Where each atom stands, and the end. -/
def plcs (rev : Int) (u : List Int) : List At → Nat → List Int
  | [], _ => []
  | a :: l, n => (n : Int) :: plcs rev u l (if a.vis rev u then n + a.txt.size else n)
def plcE (rev : Int) (u : List Int) : List At → Nat → Nat
  | [], n => n
  | a :: l, n => plcE rev u l (if a.vis rev u then n + a.txt.size else n)
def places (rev : Int) (u : List Int) (l : List At) : List Int := plcs rev u l 0 ++ [(plcE rev u l 0 : Int)]
theorem plcs_len (rev : Int) (u : List Int) : ∀ (l : List At) (n : Nat), (plcs rev u l n).length = l.length
  | [], _ => rfl
  | a :: l, n => by simp [plcs, plcs_len rev u l]
theorem places_len (rev : Int) (u : List Int) (l : List At) : (places rev u l).length = l.length + 1 := by simp [places, plcs_len]
theorem plcE_le (rev : Int) (u : List Int) : ∀ (l : List At) (n : Nat), plcE rev u l n ≤ n + sumT l
  | [], n => by simp [plcE, sumT]
  | a :: l, n => by
    have := plcE_le rev u l (if a.vis rev u then n + a.txt.size else n)
    rw [sumT_cons]; simp only [plcE]
    split at this <;> simp_all <;> omega

set_option maxHeartbeats 1000000 in
theorem places_loop (l : List At) (rev : Int) (u : List Int) (hf : Fit l) (hu : u.length ≤ 9223372036854775807) : ∀ (m i n : Nat) (acc : List Int), m + i = l.length → acc.length = i → n + sumT (l.drop i) < 35184372088832 →
    Code (EX cp) L_atom_Places_0 ⟨[(1, .p (pi rev)), (2, .p (.sl 1 (ints u))), (7, .ms 7 0 acc.length), (8, .p (pi n)), (15, .p (.sl 5 (ats l))), (16, .p (pi l.length)), (17, .p (pi i))], [(7, .row 3 1 false (ints acc))]⟩ =
      some (.ex 0, ⟨[(1, .p (pi rev)), (2, .p (.sl 1 (ints u))), (7, .ms 7 0 (acc ++ plcs rev u (l.drop i) n).length), (8, .p (pi (plcE rev u (l.drop i) n))), (15, .p (.sl 5 (ats l))), (16, .p (pi l.length)), (17, .p (pi l.length)), (18, .p (pb false))], [(7, .row 3 1 false (ints (acc ++ plcs rev u (l.drop i) n)))]⟩) := by
  intro m
  induction m with
  | zero =>
    intro i n acc hi ha hb
    have : i = l.length := by omega
    subst this
    rw [L_atom_Places_0, k_loop]
    simp [plcs, plcE]
  | succ m ih =>
    intro i n acc hi ha hb
    have hlt : i < l.length := by omega
    have hl := hf.len
    have hg := ats_at l i hlt
    obtain ⟨hc, hz⟩ := hf.get i hlt
    have hv := visible (cp := cp) l[i] rev u hu hc
    rw [List.drop_eq_getElem_cons hlt] at hb ⊢
    rw [sumT_cons] at hb
    have hcap : (acc.length + 1) * 8 ≤ maxBytes ∧ acc.length + 1 ≤ 9223372036854775807 := by unfold maxBytes; omega
    generalize l[i] = a at *
    cases hvis : a.vis rev u with
    | false =>
      rw [hvis] at hv
      have ih' := ih (i+1) n (acc ++ [(n : Int)]) (by omega) (by simp; omega) (by omega)
      have e : acc ++ plcs rev u (a :: l.drop (i+1)) n = (acc ++ [(n : Int)]) ++ plcs rev u (l.drop (i+1)) n := by simp [plcs, hvis]
      have e2 : plcE rev u (a :: l.drop (i+1)) n = plcE rev u (l.drop (i+1)) n := by simp [plcE, hvis]
      rw [e, e2, ← ih', L_atom_Places_0, k_loop]
      simp only [At.pv] at hv hg
      simp (disch := omega) [hlt, hg, hv, wrap_in, hcap, dec_yes]
    | true =>
      rw [hvis] at hv
      have ih' := ih (i+1) (n + a.txt.size) (acc ++ [(n : Int)]) (by omega) (by simp; omega) (by omega)
      have e : acc ++ plcs rev u (a :: l.drop (i+1)) n = (acc ++ [(n : Int)]) ++ plcs rev u (l.drop (i+1)) (n + a.txt.size) := by simp [plcs, hvis]
      have e2 : plcE rev u (a :: l.drop (i+1)) n = plcE rev u (l.drop (i+1)) (n + a.txt.size) := by simp [plcE, hvis]
      rw [e, e2, ← ih', L_atom_Places_0, k_loop]
      simp only [At.pv] at hv hg
      simp (disch := omega) [hlt, hg, hv, wrap_in, hcap, dec_yes]
theorem atomPlaces (l : List At) (rev : Int) (u : List Int) (hf : Fit l) (hu : u.length ≤ 9223372036854775807) : Run (EX cp) 18 [.sl 5 (ats l), pi rev, .sl 1 (ints u)] = some (.own 3 1 (ints (places rev u l))) := by
  have h := places_loop (cp := cp) l rev u hf hu l.length 0 0 [] (by omega) rfl (by simpa using hf.sum)
  have hl := hf.len
  have hcap : (l.length + 1) * 8 ≤ maxBytes ∧ l.length + 1 ≤ 9223372036854775807 := by unfold maxBytes; omega
  have hpl := plcs_len rev u l 0
  have hE : ((plcs rev u l 0).length + 1) * 8 ≤ maxBytes ∧ (plcs rev u l 0).length + 1 ≤ 9223372036854775807 := by unfold maxBytes; omega
  rw [run_fn _ A_atom_Places _ rfl rfl rfl]
  simp at h
  simp (disch := omega) [A_atom_Places, h, wrap_in, hcap, hE, if_yes, places]

set_option maxHeartbeats 1000000 in
theorem refPlaces_loop (l : List At) (rev : Int) (u : List Int) (hf : Fit l) (hu : u.length ≤ 9223372036854775807) : ∀ (m i n : Nat) (acc : List Int), m + i = l.length → acc.length = i → n + sumT (l.drop i) < 35184372088832 →
    Code (EX cp) L_ref17_Places_0 ⟨[(0, .p (.sl 5 (ats l))), (1, .p (pi rev)), (2, .p (.sl 1 (ints u))), (7, .p (pi n)), (8, .ms 8 0 (acc ++ [(n : Int)]).length), (9, .p (pi i))], [(8, .row 3 1 false (ints (acc ++ [(n : Int)])))]⟩ =
      some (.ex 0, ⟨[(0, .p (.sl 5 (ats l))), (1, .p (pi rev)), (2, .p (.sl 1 (ints u))), (7, .p (pi (plcE rev u (l.drop i) n))), (8, .ms 8 0 (acc ++ plcs rev u (l.drop i) n ++ [(plcE rev u (l.drop i) n : Int)]).length), (9, .p (pi l.length)), (14, .p (pb false))], [(8, .row 3 1 false (ints (acc ++ plcs rev u (l.drop i) n ++ [(plcE rev u (l.drop i) n : Int)])))]⟩) := by
  intro m
  induction m with
  | zero =>
    intro i n acc hi ha hb
    have : i = l.length := by omega
    subst this
    rw [L_ref17_Places_0, k_loop]
    simp [plcs, plcE]
  | succ m ih =>
    intro i n acc hi ha hb
    have hlt : i < l.length := by omega
    have hl := hf.len
    have hg := ats_at l i hlt
    obtain ⟨hc, hz⟩ := hf.get i hlt
    have hv := refVisible (cp := cp) l[i] rev u hu hc
    rw [List.drop_eq_getElem_cons hlt] at hb ⊢
    rw [sumT_cons] at hb
    have hcap : (acc.length + 1 + 1) * 8 ≤ maxBytes ∧ acc.length + 1 + 1 ≤ 9223372036854775807 := by unfold maxBytes; omega
    generalize l[i] = a at *
    cases hvis : a.vis rev u with
    | false =>
      rw [hvis] at hv
      have ih' := ih (i+1) n (acc ++ [(n : Int)]) (by omega) (by simp; omega) (by omega)
      have e : acc ++ plcs rev u (a :: l.drop (i+1)) n = (acc ++ [(n : Int)]) ++ plcs rev u (l.drop (i+1)) n := by simp [plcs, hvis]
      have e2 : plcE rev u (a :: l.drop (i+1)) n = plcE rev u (l.drop (i+1)) n := by simp [plcE, hvis]
      rw [e, e2, ← ih', L_ref17_Places_0, k_loop]
      simp only [At.pv] at hv hg
      simp (disch := omega) [hlt, hg, hv, wrap_in, hcap, dec_yes]
    | true =>
      rw [hvis] at hv
      have ih' := ih (i+1) (n + a.txt.size) (acc ++ [(n : Int)]) (by omega) (by simp; omega) (by omega)
      have e : acc ++ plcs rev u (a :: l.drop (i+1)) n = (acc ++ [(n : Int)]) ++ plcs rev u (l.drop (i+1)) (n + a.txt.size) := by simp [plcs, hvis]
      have e2 : plcE rev u (a :: l.drop (i+1)) n = plcE rev u (l.drop (i+1)) (n + a.txt.size) := by simp [plcE, hvis]
      rw [e, e2, ← ih', L_ref17_Places_0, k_loop]
      simp only [At.pv] at hv hg
      simp (disch := omega) [hlt, hg, hv, wrap_in, hcap, dec_yes]
theorem refPlaces (l : List At) (rev : Int) (u : List Int) (hf : Fit l) (hu : u.length ≤ 9223372036854775807) : Run (EX cp) 19 [.sl 5 (ats l), pi rev, .sl 1 (ints u)] = some (.own 3 1 (ints (places rev u l))) := by
  have h := refPlaces_loop (cp := cp) l rev u hf hu l.length 0 0 [] (by omega) rfl (by simpa using hf.sum)
  have e0 : ints [0] = [[pi 0]] := rfl
  rw [run_fn _ A_ref17_Places _ rfl rfl rfl]
  simp at h
  rw [e0] at h
  simp [A_ref17_Places, h, places]

/-! ### what can be read -/
def txtF (rev : Int) (u : List Int) : List At → List UInt8
  | [] => []
  | a :: l => (if a.vis rev u then L a.txt else []) ++ txtF rev u l
def txtS (rev : Int) (u : List Int) (l : List At) : ByteArray := ⟨(txtF rev u l).toArray⟩
theorem txtF_append (rev : Int) (u : List Int) : ∀ (a b : List At), txtF rev u (a ++ b) = txtF rev u a ++ txtF rev u b
  | [], b => rfl
  | x :: a, b => by simp [txtF, txtF_append rev u a b]
theorem txtF_len (rev : Int) (u : List Int) : ∀ (l : List At), (txtF rev u l).length ≤ sumT l
  | [] => by simp [txtF]
  | a :: l => by
    have := txtF_len rev u l
    rw [sumT_cons, txtF, List.length_append]
    split <;> simp [L_len] <;> omega
theorem plcE_txt (rev : Int) (u : List Int) : ∀ (l : List At) (n : Nat), plcE rev u l n = n + (txtF rev u l).length
  | [], n => by simp [plcE, txtF]
  | a :: l, n => by
    rw [plcE, plcE_txt rev u l, txtF, List.length_append]
    split <;> simp [L_len] <;> omega
theorem plcs_at (rev : Int) (u : List Int) : ∀ (l : List At) (n i : Nat), i < l.length → (plcs rev u l n)[i]? = some ((n + (txtF rev u (l.take i)).length : Nat) : Int)
  | [], n, i, h => by simp at h
  | a :: l, n, 0, h => by simp [plcs, txtF]
  | a :: l, n, i + 1, h => by
    have := plcs_at rev u l (if a.vis rev u then n + a.txt.size else n) i (by simpa using h)
    rw [plcs, List.getElem?_cons_succ, this, List.take_succ_cons, txtF, List.length_append]
    split <;> simp [L_len] <;> omega
theorem places_at (rev : Int) (u : List Int) (l : List At) (i : Nat) (h : i ≤ l.length) : (places rev u l)[i]? = some (((txtF rev u (l.take i)).length : Nat) : Int) := by
  unfold places
  rcases Nat.lt_or_ge i l.length with h' | h'
  · rw [List.getElem?_append_left (by rw [plcs_len]; exact h'), plcs_at rev u l 0 i h', Nat.zero_add]
  · have : i = l.length := by omega
    subst this
    rw [List.getElem?_append_right (by rw [plcs_len]; exact Nat.le_refl _), plcs_len, Nat.sub_self, plcE_txt, List.take_length, Nat.zero_add]
    rfl

set_option maxHeartbeats 1000000 in
theorem text_loop (l : List At) (rev : Int) (u : List Int) (hf : Fit l) (hu : u.length ≤ 9223372036854775807) : ∀ (m i : Nat) (acc : List UInt8), m + i = l.length → acc.length + sumT (l.drop i) < 35184372088832 →
    Code (EX cp) L_atom_Text_0 ⟨[(1, .p (pi rev)), (2, .p (.sl 1 (ints u))), (7, .mp 7 0 0), (10, .p (.sl 5 (ats l))), (11, .p (pi l.length)), (12, .p (pi i))], [(7, .dp 78 2 (sbRow 5 (bRows acc)))]⟩ =
      some (.ex 0, ⟨[(1, .p (pi rev)), (2, .p (.sl 1 (ints u))), (7, .mp 7 0 0), (10, .p (.sl 5 (ats l))), (11, .p (pi l.length)), (12, .p (pi l.length)), (13, .p (pb false))], [(7, .dp 78 2 (sbRow 5 (bRows (acc ++ txtF rev u (l.drop i)))))]⟩) := by
  intro m
  induction m with
  | zero =>
    intro i acc hi hb
    have : i = l.length := by omega
    subst this
    rw [L_atom_Text_0, k_loop]
    simp [txtF]
  | succ m ih =>
    intro i acc hi hb
    have hlt : i < l.length := by omega
    have hl := hf.len
    have hg := ats_at l i hlt
    obtain ⟨hc, hz⟩ := hf.get i hlt
    have hv := visible (cp := cp) l[i] rev u hu hc
    rw [List.drop_eq_getElem_cons hlt] at hb ⊢
    rw [sumT_cons] at hb
    generalize l[i] = a at *
    have hln : a.txt.data.toList.length = a.txt.size := by simp
    have hcap : acc.length + a.txt.size + 4 ≤ maxBytes := by unfold maxBytes; omega
    cases hvis : a.vis rev u with
    | false =>
      rw [hvis] at hv
      have ih' := ih (i+1) acc (by omega) (by omega)
      have e : acc ++ txtF rev u (a :: l.drop (i+1)) = acc ++ txtF rev u (l.drop (i+1)) := by simp [txtF, hvis]
      rw [e, ← ih', L_atom_Text_0, k_loop]
      simp only [At.pv] at hv hg
      simp (disch := omega) [hlt, hg, hv, wrap_in, dec_yes]
    | true =>
      rw [hvis] at hv
      have ih' := ih (i+1) (acc ++ L a.txt) (by omega) (by rw [List.length_append, L_len]; omega)
      have e : acc ++ txtF rev u (a :: l.drop (i+1)) = (acc ++ L a.txt) ++ txtF rev u (l.drop (i+1)) := by simp [txtF, hvis]
      rw [e, ← ih', L_atom_Text_0, k_loop]
      simp only [At.pv] at hv hg
      simp (disch := omega) [hlt, hg, hv, wrap_in, dec_yes, hcap, hln, if_yes, L]
theorem atomText (l : List At) (rev : Int) (u : List Int) (hf : Fit l) (hu : u.length ≤ 9223372036854775807) : Run (EX cp) 27 [.sl 5 (ats l), pi rev, .sl 1 (ints u)] = some (.val (.sc (.string (txtS rev u l)))) := by
  have h := text_loop (cp := cp) l rev u hf hu l.length 0 [] (by omega) (by simpa using hf.sum)
  rw [run_fn _ A_atom_Text _ rfl rfl rfl]
  simp at h
  simp [A_atom_Text, h, txtS]
set_option maxHeartbeats 1000000 in
theorem refText_loop (l : List At) (rev : Int) (u : List Int) (hf : Fit l) (hu : u.length ≤ 9223372036854775807) : ∀ (m i : Nat) (acc : List UInt8), m + i = l.length → acc.length + sumT (l.drop i) < 35184372088832 →
    Code (EX cp) L_ref17_Text_0 ⟨[(0, .p (.sl 5 (ats l))), (1, .p (pi rev)), (2, .p (.sl 1 (ints u))), (7, .ms 7 0 acc.length), (8, .p (pi i))], [(7, .row 5 1 false (bRows acc))]⟩ =
      some (.ex 0, ⟨[(0, .p (.sl 5 (ats l))), (1, .p (pi rev)), (2, .p (.sl 1 (ints u))), (7, .ms 7 0 (acc ++ txtF rev u (l.drop i)).length), (8, .p (pi l.length)), (12, .p (pb false))], [(7, .row 5 1 false (bRows (acc ++ txtF rev u (l.drop i))))]⟩) := by
  intro m
  induction m with
  | zero =>
    intro i acc hi hb
    have : i = l.length := by omega
    subst this
    rw [L_ref17_Text_0, k_loop]
    simp [txtF]
  | succ m ih =>
    intro i acc hi hb
    have hlt : i < l.length := by omega
    have hl := hf.len
    have hg := ats_at l i hlt
    obtain ⟨hc, hz⟩ := hf.get i hlt
    have hv := refVisible (cp := cp) l[i] rev u hu hc
    rw [List.drop_eq_getElem_cons hlt] at hb ⊢
    rw [sumT_cons] at hb
    generalize l[i] = a at *
    have hcap : acc.length + a.txt.size ≤ maxBytes ∧ acc.length + a.txt.size ≤ 9223372036854775807 := by unfold maxBytes; omega
    cases hvis : a.vis rev u with
    | false =>
      rw [hvis] at hv
      have ih' := ih (i+1) acc (by omega) (by omega)
      have e : acc ++ txtF rev u (a :: l.drop (i+1)) = acc ++ txtF rev u (l.drop (i+1)) := by simp [txtF, hvis]
      rw [e, ← ih', L_ref17_Text_0, k_loop]
      simp only [At.pv] at hv hg
      simp (disch := omega) [hlt, hg, hv, wrap_in, dec_yes]
    | true =>
      rw [hvis] at hv
      have ih' := ih (i+1) (acc ++ L a.txt) (by omega) (by rw [List.length_append, L_len]; omega)
      have e : acc ++ txtF rev u (a :: l.drop (i+1)) = (acc ++ L a.txt) ++ txtF rev u (l.drop (i+1)) := by simp [txtF, hvis]
      have eb : (a.txt.data.toList.map fun b => [PV.sc (.int .u8 b.toNat)]) = bRows (L a.txt) := rfl
      have el : (L a.txt).length = a.txt.size := L_len _
      rw [e, ← ih', L_ref17_Text_0, k_loop]
      simp only [At.pv] at hv hg
      simp (disch := omega) [hlt, hg, hv, wrap_in, dec_yes, hcap, eb, el]
theorem bytesL_rows : ∀ l : List UInt8, eff.bytesL (bRows l) = some l
  | [] => rfl
  | b :: l => by
    show (eff.bytesL (bRows l)).map (UInt8.ofNat (b.toNat : Int).toNat :: ·) = some (b :: l)
    rw [bytesL_rows l]; simp
@[simp] theorem bytesOf_rows (l : List UInt8) : eff.bytesOf (bRows l) = some ⟨l.toArray⟩ := by
  unfold eff.bytesOf; rw [bytesL_rows]; rfl
@[simp] theorem bRows_take (l : List UInt8) : (bRows l).take l.length = bRows l := by rw [List.take_of_length_le (by simp)]
theorem refText (l : List At) (rev : Int) (u : List Int) (hf : Fit l) (hu : u.length ≤ 9223372036854775807) : Run (EX cp) 28 [.sl 5 (ats l), pi rev, .sl 1 (ints u)] = some (.val (.sc (.string (txtS rev u l)))) := by
  have h := refText_loop (cp := cp) l rev u hf hu l.length 0 [] (by omega) (by simpa using hf.sum)
  rw [run_fn _ A_ref17_Text _ rfl rfl rfl]
  simp at h
  simp [A_ref17_Text, h, txtS]
end Go.Proofs.Ytihgpnfkadldeaa.AM

end
