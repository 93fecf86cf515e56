/- utf.point on the small machine: the code point that stands at a place, and its size. For texts of less than 2^40 bytes. -/
import Derived.Test.YtihgpnfkadldeaaAR1
namespace Go.Proofs.Ytihgpnfkadldeaa.AM
set_option linter.unusedSimpArgs false
set_option linter.unusedVariables false
open Go Go.Proofs.Ytihgpnfkadldeaa.U
variable {cp : List PV → Option Ret}
def big : Nat := 1099511627776
def rDec (d : Nat × Int) : Option Ret := some (.val (.tu [pI .i32 d.2, pi d.1]))

theorem long1 (s : ByteArray) (i : Nat) (hs : s.size < 1099511627776) (a : UInt8) (t : List UInt8) (hd : (L s).drop i = a :: t) (ha : bi a < 128) :
    Run (EX cp) 92 [.sc (.string s), pi i, pi 1, .st [pI .u8 128, pI .u8 0, pI .i32 0]] = rDec (dec (a :: t)) := by
  have hr := bi_range a
  have hlt := (bt_at s i a t hd).2.1
  have e := m128 a
  rw [long_ex s i 1 128 0 0 (bi a) 1 (by omega) hs a t hd (bi a) (by omega) hr.1 hr.2 (by omega) (long_end s i 1 128 0 0 (bi a) 1 (by omega)), if_pos ⟨hr.1, .inl ⟨hr.1, by omega⟩⟩]
  rw [dec.eq_def]; simp only; rw [if_pos ha]; rfl
theorem long2 (s : ByteArray) (i : Nat) (hs : s.size < 1099511627776) (a : UInt8) (t : List UInt8) (hd : (L s).drop i = a :: t) (h0 : 192 ≤ bi a) (h1 : bi a < 224) :
    Run (EX cp) 92 [.sc (.string s), pi i, pi 2, .st [pI .u8 224, pI .u8 192, pI .i32 128]] = rDec (dec (a :: t)) := by
  obtain ⟨_, hi, hd1⟩ := bt_at s i a t hd
  have hr := bi_range a
  have hl := drop_len s i _ hd (by omega)
  have e := m224 a
  rw [dec.eq_def]; simp only
  rw [if_neg (by omega), if_neg (by omega), if_pos h1]
  match t, hd, hd1, hl with
  | [], hd, _, hl => exact long_short s i 2 224 192 128 (by omega) hs (by simp at hl; omega)
  | p :: t, hd, hd1, hl =>
    have hp := bi_range p
    have e2 : (bi a % 32) * 64 + (bi p - 128) = v2 a p := by unfold v2; omega
    have hst := long_step (cp := cp) s i 2 224 192 128 (bi a % 32) 1 (by omega) (by omega) (by omega) p t hd1 (by omega) (by omega)
    dsimp only
    by_cases c : cont p
    · rw [if_pos c, e2] at hst
      unfold cont at c
      rw [show ((1 : Nat) : Int) + 1 = ((2 : Nat) : Int) from rfl, long_end s i 2 224 192 128 (v2 a p) 2 (by omega)] at hst
      rw [long_ex s i 2 224 192 128 (v2 a p) 2 (by omega) hs a (p :: t) hd (bi a % 32) e (by omega) (by omega) (by simp at hl; omega) hst]
      by_cases d : 128 ≤ v2 a p
      · rw [if_pos ⟨d, .inl ⟨by omega, by rw [← e2]; omega⟩⟩, if_pos ⟨c, d⟩]; rfl
      · rw [if_neg (fun h => d h.1), if_neg (fun h => d h.2)]; rfl
    · rw [if_neg c] at hst
      rw [long_ret s i 2 224 192 128 (by omega) hs a (p :: t) hd (bi a % 32) e (by omega) (by omega) (by simp at hl; omega) hst, if_neg (fun h => c h.1)]; rfl
theorem long3 (s : ByteArray) (i : Nat) (hs : s.size < 1099511627776) (a : UInt8) (t : List UInt8) (hd : (L s).drop i = a :: t) (h0 : 224 ≤ bi a) (h1 : bi a < 240) :
    Run (EX cp) 92 [.sc (.string s), pi i, pi 3, .st [pI .u8 240, pI .u8 224, pI .i32 2048]] = rDec (dec (a :: t)) := by
  obtain ⟨_, hi, hd1⟩ := bt_at s i a t hd
  have hr := bi_range a
  have hl := drop_len s i _ hd (by omega)
  have e := m240 a
  rw [dec.eq_def]; simp only
  rw [if_neg (by omega), if_neg (by omega), if_neg (by omega), if_pos h1]
  match t, hd, hd1, hl with
  | [], hd, _, hl => exact long_short s i 3 240 224 2048 (by omega) hs (by simp at hl; omega)
  | [p], hd, _, hl => exact long_short s i 3 240 224 2048 (by omega) hs (by simp at hl; omega)
  | p :: q :: t, hd, hd1, hl =>
    obtain ⟨_, hi1, hd2⟩ := bt_at s (i + 1) p _ hd1
    have hp := bi_range p
    have hq := bi_range q
    have e2 : ((bi a % 16) * 64 + (bi p - 128)) * 64 + (bi q - 128) = v3 a p q := by unfold v3; omega
    have hst := long_step (cp := cp) s i 3 240 224 2048 (bi a % 16) 1 (by omega) (by omega) (by omega) p _ hd1 (by omega) (by omega)
    dsimp only
    by_cases c : cont p
    · rw [if_pos c] at hst
      have c' := c
      unfold cont at c'
      rw [show ((1 : Nat) : Int) + 1 = ((2 : Nat) : Int) from rfl, long_step s i 3 240 224 2048 _ 2 (by omega) (by omega) (by omega) q _ hd2 (by omega) (by omega), e2] at hst
      by_cases c2 : cont q
      · rw [if_pos c2] at hst
        have c2' := c2
        unfold cont at c2'
        rw [show ((2 : Nat) : Int) + 1 = ((3 : Nat) : Int) from rfl, long_end s i 3 240 224 2048 (v3 a p q) 3 (by omega)] at hst
        rw [long_ex s i 3 240 224 2048 (v3 a p q) 3 (by omega) hs a (p :: q :: t) hd (bi a % 16) e (by omega) (by omega) (by simp at hl; omega) hst]
        by_cases d : 2048 ≤ v3 a p q ∧ ¬ (55296 ≤ v3 a p q ∧ v3 a p q ≤ 57343)
        · rw [if_pos ⟨d.1, by unfold sc; omega⟩, if_pos ⟨c, c2, d.1, d.2⟩]; rfl
        · rw [if_neg (by unfold sc; omega), if_neg (fun h => d ⟨h.2.2.1, h.2.2.2⟩)]; rfl
      · rw [if_neg c2] at hst
        rw [long_ret s i 3 240 224 2048 (by omega) hs a (p :: q :: t) hd (bi a % 16) e (by omega) (by omega) (by simp at hl; omega) hst, if_neg (fun h => c2 h.2.1)]; rfl
    · rw [if_neg c] at hst
      rw [long_ret s i 3 240 224 2048 (by omega) hs a (p :: q :: t) hd (bi a % 16) e (by omega) (by omega) (by simp at hl; omega) hst, if_neg (fun h => c h.1)]; rfl
theorem long4 (s : ByteArray) (i : Nat) (hs : s.size < 1099511627776) (a : UInt8) (t : List UInt8) (hd : (L s).drop i = a :: t) (h0 : 240 ≤ bi a) (h1 : bi a < 248) :
    Run (EX cp) 92 [.sc (.string s), pi i, pi 4, .st [pI .u8 248, pI .u8 240, pI .i32 65536]] = rDec (dec (a :: t)) := by
  obtain ⟨_, hi, hd1⟩ := bt_at s i a t hd
  have hr := bi_range a
  have hl := drop_len s i _ hd (by omega)
  have e := m248 a
  rw [dec.eq_def]; simp only
  rw [if_neg (by omega), if_neg (by omega), if_neg (by omega), if_neg (by omega), if_pos h1]
  match t, hd, hd1, hl with
  | [], hd, _, hl => exact long_short s i 4 248 240 65536 (by omega) hs (by simp at hl; omega)
  | [p], hd, _, hl => exact long_short s i 4 248 240 65536 (by omega) hs (by simp at hl; omega)
  | [p, q], hd, _, hl => exact long_short s i 4 248 240 65536 (by omega) hs (by simp at hl; omega)
  | p :: q :: r :: t, hd, hd1, hl =>
    obtain ⟨_, hi1, hd2⟩ := bt_at s (i + 1) p _ hd1
    obtain ⟨_, hi2, hd3⟩ := bt_at s (i + 1 + 1) q _ hd2
    have hp := bi_range p
    have hq := bi_range q
    have hr3 := bi_range r
    have e2 : (((bi a % 8) * 64 + (bi p - 128)) * 64 + (bi q - 128)) * 64 + (bi r - 128) = v4 a p q r := by unfold v4; omega
    have hst := long_step (cp := cp) s i 4 248 240 65536 (bi a % 8) 1 (by omega) (by omega) (by omega) p _ hd1 (by omega) (by omega)
    dsimp only
    by_cases c : cont p
    · rw [if_pos c] at hst
      have c' := c
      unfold cont at c'
      rw [show ((1 : Nat) : Int) + 1 = ((2 : Nat) : Int) from rfl, long_step s i 4 248 240 65536 _ 2 (by omega) (by omega) (by omega) q _ hd2 (by omega) (by omega)] at hst
      by_cases c2 : cont q
      · rw [if_pos c2] at hst
        have c2' := c2
        unfold cont at c2'
        rw [show ((2 : Nat) : Int) + 1 = ((3 : Nat) : Int) from rfl, long_step s i 4 248 240 65536 _ 3 (by omega) (by omega) (by omega) r _ hd3 (by omega) (by omega), e2] at hst
        by_cases c3 : cont r
        · rw [if_pos c3] at hst
          have c3' := c3
          unfold cont at c3'
          rw [show ((3 : Nat) : Int) + 1 = ((4 : Nat) : Int) from rfl, long_end s i 4 248 240 65536 (v4 a p q r) 4 (by omega)] at hst
          rw [long_ex s i 4 248 240 65536 (v4 a p q r) 4 (by omega) hs a (p :: q :: r :: t) hd (bi a % 8) e (by omega) (by omega) (by simp at hl; omega) hst]
          by_cases d : 65536 ≤ v4 a p q r ∧ v4 a p q r ≤ 1114111
          · rw [if_pos ⟨d.1, by unfold sc; omega⟩, if_pos ⟨c, c2, c3, d.1, d.2⟩]; rfl
          · rw [if_neg (by unfold sc; omega), if_neg (fun h => d ⟨h.2.2.2.1, h.2.2.2.2⟩)]; rfl
        · rw [if_neg c3] at hst
          rw [long_ret s i 4 248 240 65536 (by omega) hs a (p :: q :: r :: t) hd (bi a % 8) e (by omega) (by omega) (by simp at hl; omega) hst, if_neg (fun h => c3 h.2.2.1)]; rfl
      · rw [if_neg c2] at hst
        rw [long_ret s i 4 248 240 65536 (by omega) hs a (p :: q :: r :: t) hd (bi a % 8) e (by omega) (by omega) (by simp at hl; omega) hst, if_neg (fun h => c2 h.2.1)]; rfl
    · rw [if_neg c] at hst
      rw [long_ret s i 4 248 240 65536 (by omega) hs a (p :: q :: r :: t) hd (bi a % 8) e (by omega) (by omega) (by simp at hl; omega) hst, if_neg (fun h => c h.1)]; rfl

def formsV : List PV := [pI .u8 128, pI .u8 0, pI .i32 0, pI .u8 224, pI .u8 192, pI .i32 128, pI .u8 240, pI .u8 224, pI .i32 2048, pI .u8 248, pI .u8 240, pI .i32 65536]
def stPoint (s : ByteArray) (i k : Int) : St := ⟨[(0, .p (.sc (.string s))), (1, .p (pi i)), (16, .p (.st formsV)), (17, .p (pi k))], []⟩
theorem point_hit (s : ByteArray) (i : Nat) (k : Nat) (hk : k < 4) (m f ls : Int) (hf : (formsV.drop (k * 3)).take 3 = [pI .u8 m, pI .u8 f, pI .i32 ls]) (a : UInt8) (t : List UInt8) (hd : (L s).drop i = a :: t) (hx : bits .and .u8 (bi a) m = f) (d : Nat × Int)
    (hr : Run (EX cp) 92 [.sc (.string s), pi i, pi ((k : Int) + 1), .st [pI .u8 m, pI .u8 f, pI .i32 ls]] = rDec d) :
    Code (EX cp) L_utf_point_0 (stPoint s i k) = some (.ret, ⟨[(4, .p (pI .i32 d.2)), (5, .p (pi d.1))], []⟩) := by
  obtain ⟨hb, _⟩ := bt_at s i a t hd
  unfold rDec at hr
  have hfl : k * 3 + 3 ≤ formsV.length := by simp [formsV]; omega
  rw [L_utf_point_0, k_loop, stPoint]
  simp (disch := omega) [dec_yes, dec_no, wrap_in, hf, hfl, hk, hb, hx, hr]
theorem point_miss (s : ByteArray) (i : Nat) (k : Nat) (hk : k < 4) (m f ls : Int) (hf : (formsV.drop (k * 3)).take 3 = [pI .u8 m, pI .u8 f, pI .i32 ls]) (a : UInt8) (t : List UInt8) (hd : (L s).drop i = a :: t) (hx : ¬ bits .and .u8 (bi a) m = f) :
    Code (EX cp) L_utf_point_0 (stPoint s i k) = Code (EX cp) L_utf_point_0 (stPoint s i ((k : Int) + 1)) := by
  obtain ⟨hb, _⟩ := bt_at s i a t hd
  have hfl : k * 3 + 3 ≤ formsV.length := by simp [formsV]; omega
  conv => lhs; rw [L_utf_point_0, k_loop, stPoint]
  simp (disch := omega) [dec_yes, dec_no, wrap_in, hf, hfl, hk, hb, hx]
  rw [L_utf_point_0, stPoint]
theorem point_end (s : ByteArray) (i : Int) : Code (EX cp) L_utf_point_0 (stPoint s i (4 : Nat)) = some (.ex 0, ⟨[(0, .p (.sc (.string s))), (1, .p (pi i)), (16, .p (.st formsV)), (17, .p (pi 4)), (18, .p (pb false))], []⟩) := by
  rw [L_utf_point_0, k_loop, stPoint]
  simp

theorem point_fst (s : ByteArray) (i : Nat) (a : UInt8) (t : List UInt8) (hd : (L s).drop i = a :: t) (hs : s.size < 1099511627776) :
    Code (EX cp) L_utf_point_0 (stPoint s i (0 : Nat)) = (if bi a < 128 ∨ 192 ≤ bi a ∧ bi a < 248 then some (.ret, ⟨[(4, .p (pI .i32 (dec (a :: t)).2)), (5, .p (pi (dec (a :: t)).1))], []⟩) else some (.ex 0, ⟨[(0, .p (.sc (.string s))), (1, .p (pi i)), (16, .p (.st formsV)), (17, .p (pi 4)), (18, .p (pb false))], []⟩)) := by
  have hr := bi_range a
  have e1 := n128 a
  have e2 := n224 a
  have e3 := n240 a
  have e4 := n248 a
  by_cases c1 : bi a < 128
  · rw [if_pos (.inl c1)]
    exact point_hit s i 0 (by omega) 128 0 0 rfl a t hd (by omega) _ (long1 s i hs a t hd c1)
  rw [point_miss s i 0 (by omega) 128 0 0 rfl a t hd (by omega)]
  by_cases c2 : 192 ≤ bi a ∧ bi a < 224
  · rw [if_pos (.inr ⟨c2.1, by omega⟩)]
    exact point_hit s i 1 (by omega) 224 192 128 rfl a t hd (by omega) _ (long2 s i hs a t hd c2.1 c2.2)
  rw [show ((0 : Nat) : Int) + 1 = ((1 : Nat) : Int) from rfl, point_miss s i 1 (by omega) 224 192 128 rfl a t hd (by omega)]
  by_cases c3 : 224 ≤ bi a ∧ bi a < 240
  · rw [if_pos (.inr ⟨by omega, by omega⟩)]
    exact point_hit s i 2 (by omega) 240 224 2048 rfl a t hd (by omega) _ (long3 s i hs a t hd c3.1 c3.2)
  rw [show ((1 : Nat) : Int) + 1 = ((2 : Nat) : Int) from rfl, point_miss s i 2 (by omega) 240 224 2048 rfl a t hd (by omega)]
  by_cases c4 : 240 ≤ bi a ∧ bi a < 248
  · rw [if_pos (.inr ⟨by omega, by omega⟩)]
    exact point_hit s i 3 (by omega) 248 240 65536 rfl a t hd (by omega) _ (long4 s i hs a t hd c4.1 c4.2)
  rw [show ((2 : Nat) : Int) + 1 = ((3 : Nat) : Int) from rfl, point_miss s i 3 (by omega) 248 240 65536 rfl a t hd (by omega)]
  rw [if_neg (by omega)]
  exact point_end s i
/-- The code point at a place. -/
def decAt (s : ByteArray) (i : Int) : Nat × Int := if i < 0 then (0, 0) else dec ((L s).drop i.toNat)
theorem point (s : ByteArray) (i : Int) (hs : s.size < 1099511627776) : Run (EX cp) 88 [.sc (.string s), pi i] = rDec (decAt s i) := by
  unfold decAt
  rw [run_fn _ A_utf_point _ rfl rfl rfl]
  by_cases c0 : i < 0
  · rw [if_pos c0]
    simp (disch := omega) [A_utf_point, dec_yes, dec_no, rDec]
  rw [if_neg c0]
  by_cases c1 : (s.size : Int) ≤ i
  · have h0 : dec ((L s).drop i.toNat) = (0, 0) := by rw [drop_end s _ (by omega)]; rfl
    simp (disch := omega) [A_utf_point, dec_yes, dec_no, rDec, h0]
  obtain ⟨n, rfl⟩ : ∃ n : Nat, i = n := ⟨i.toNat, by omega⟩
  simp only [Int.toNat_natCast]
  obtain ⟨a, t, hd⟩ := drop_at s n (by omega)
  have hl := point_fst (cp := cp) s n a t hd hs
  rw [hd]
  simp only [stPoint, Int.ofNat_zero, formsV] at hl
  by_cases c2 : bi a < 128 ∨ 192 ≤ bi a ∧ bi a < 248
  · rw [if_pos c2] at hl
    simp (disch := omega) [A_utf_point, dec_yes, dec_no, rDec, hl]
  · rw [if_neg c2] at hl
    have : dec (a :: t) = (0, 0) := by
      rw [dec.eq_def]; simp only
      by_cases c5 : bi a < 192
      · rw [if_neg (by omega), if_pos c5]
      · rw [if_neg (by omega), if_neg c5, if_neg (by omega), if_neg (by omega), if_neg (by omega)]
    simp (disch := omega) [A_utf_point, dec_yes, dec_no, rDec, hl, this]
/-- The size of the code point at a place. -/
def sizeAt (s : ByteArray) (i : Int) : Nat := (decAt s i).1
theorem utfSize (s : ByteArray) (i : Int) (hs : s.size < 1099511627776) : Run (EX cp) 80 [.sc (.string s), pi i] = some (.val (pi (sizeAt s i))) := by
  have h := point (cp := cp) s i hs
  unfold rDec at h
  rw [run_fn _ A_utf_Size _ rfl rfl rfl]
  simp [A_utf_Size, h, sizeAt]
end Go.Proofs.Ytihgpnfkadldeaa.AM
