/- MADE BY sync2.py: AR1, AR2, AR3, AR4, AR5, AXA, AXG, AE, RC1, RC2, one behind the other. No condition but what they say. -/
import Derived.Test.YtomnggbideepeaaQ7
import Derived.Test.YtomnggbideepeaaAFok
section
/- Package utf on the small machine: what each function comes to. For texts of at most 2^40 bytes. -/
namespace Go.Proofs.Ytomnggbideepeaa.AM
set_option linter.unusedSimpArgs false
set_option linter.unusedVariables false
open Go Go.Proofs.Ytomnggbideepeaa.U
variable {cp : List PV → Option Ret}

theorem isPoint (v : Int) : Run (EX cp) 97 [pI .i32 v] = some (.val (pb (decide (sc v)))) := by
  rw [run_fn _ A_utf_isPoint _ rfl rfl rfl]
  by_cases h0 : 0 ≤ v
  · by_cases h1 : v ≤ 1114111
    · by_cases h2 : v < 55296
      · simp (disch := omega) [A_utf_isPoint, dec_yes, dec_no]
        unfold sc; omega
      · simp (disch := omega) [A_utf_isPoint, dec_yes, dec_no]
        unfold sc; omega
    · simp (disch := omega) [A_utf_isPoint, dec_yes, dec_no]
      intro h; unfold sc at h; omega
  · simp (disch := omega) [A_utf_isPoint, dec_yes, dec_no]
    intro h; unfold sc at h; omega

/-! ### bits of bytes -/
theorem u128 : ∀ n : Nat, n < 256 → bits .and .u8 (n : Int) 128 = (n / 128 * 128 : Nat) := by decide +kernel
theorem u224 : ∀ n : Nat, n < 256 → bits .and .u8 (n : Int) 224 = (n / 32 * 32 : Nat) := by decide +kernel
theorem u240 : ∀ n : Nat, n < 256 → bits .and .u8 (n : Int) 240 = (n / 16 * 16 : Nat) := by decide +kernel
theorem u248 : ∀ n : Nat, n < 256 → bits .and .u8 (n : Int) 248 = (n / 8 * 8 : Nat) := by decide +kernel
theorem u192 : ∀ n : Nat, n < 256 → bits .and .u8 (n : Int) 192 = (n / 64 * 64 : Nat) := by decide +kernel
theorem v192 : ∀ n : Nat, n < 256 → bits .andNot .u8 (n : Int) 192 = (n % 64 : Nat) := by decide +kernel
theorem v128 : ∀ n : Nat, n < 256 → bits .andNot .u8 (n : Int) 128 = (n % 128 : Nat) := by decide +kernel
theorem v224 : ∀ n : Nat, n < 256 → bits .andNot .u8 (n : Int) 224 = (n % 32 : Nat) := by decide +kernel
theorem v240 : ∀ n : Nat, n < 256 → bits .andNot .u8 (n : Int) 240 = (n % 16 : Nat) := by decide +kernel
theorem v248 : ∀ n : Nat, n < 256 → bits .andNot .u8 (n : Int) 248 = (n % 8 : Nat) := by decide +kernel
theorem n128 (a : UInt8) : bits .and .u8 (bi a) 128 = bi a / 128 * 128 := by have := u128 a.toNat a.toNat_lt; unfold bi; omega
theorem n224 (a : UInt8) : bits .and .u8 (bi a) 224 = bi a / 32 * 32 := by have := u224 a.toNat a.toNat_lt; unfold bi; omega
theorem n240 (a : UInt8) : bits .and .u8 (bi a) 240 = bi a / 16 * 16 := by have := u240 a.toNat a.toNat_lt; unfold bi; omega
theorem n248 (a : UInt8) : bits .and .u8 (bi a) 248 = bi a / 8 * 8 := by have := u248 a.toNat a.toNat_lt; unfold bi; omega
theorem n192 (a : UInt8) : bits .and .u8 (bi a) 192 = bi a / 64 * 64 := by have := u192 a.toNat a.toNat_lt; unfold bi; omega
theorem m192 (a : UInt8) : bits .andNot .u8 (bi a) 192 = bi a % 64 := by have := v192 a.toNat a.toNat_lt; unfold bi; omega
theorem m128 (a : UInt8) : bits .andNot .u8 (bi a) 128 = bi a % 128 := by have := v128 a.toNat a.toNat_lt; unfold bi; omega
theorem m224 (a : UInt8) : bits .andNot .u8 (bi a) 224 = bi a % 32 := by have := v224 a.toNat a.toNat_lt; unfold bi; omega
theorem m240 (a : UInt8) : bits .andNot .u8 (bi a) 240 = bi a % 16 := by have := v240 a.toNat a.toNat_lt; unfold bi; omega
theorem m248 (a : UInt8) : bits .andNot .u8 (bi a) 248 = bi a % 8 := by have := v248 a.toNat a.toNat_lt; unfold bi; omega

/-! ### utf.long -/
def stLong (s : ByteArray) (at_ n : Int) (m f ls : Int) (r i : Int) : St :=
  ⟨[(0, .p (.sc (.string s))), (1, .p (pi at_)), (2, .p (pi n)), (7, .mp 7 0 0), (10, .p (pI .i32 r)), (11, .p (pi i))], [(7, .row 154 3 false [[pI .u8 m, pI .u8 f, pI .i32 ls]])]⟩
theorem long_step (s : ByteArray) (at_ : Nat) (n m f ls r : Int) (i : Nat) (h : (i : Int) < n) (hat : at_ < 1099511627776) (hi : i ≤ 3) (b : UInt8) (t : List UInt8) (hb : (L s).drop (at_ + i) = b :: t) (r0 : 0 ≤ r) (r1 : r < 1000000) :
    Code (EX cp) L_utf_long_0 (stLong s at_ n m f ls r i) = if cont b then Code (EX cp) L_utf_long_0 (stLong s at_ n m f ls (r * 64 + (bi b - 128)) (i + 1)) else some (.ret, ⟨[(8, .p (pI .i32 0)), (9, .p (pi 0))], []⟩) := by
  have hb1 := bt_atI s ((at_ : Int) + i) (at_ + i) (by omega) b t hb
  have hr := bi_range b
  have e1 := m192 b
  rw [L_utf_long_0, k_loop, stLong]
  by_cases c : cont b
  · rw [if_pos c]
    unfold cont at c
    have e2 : bits .or .i32 (r * 64) (bi b % 64) = r * 64 + (bi b - 128) := by
      rw [i32_or6 (r * 64) (bi b % 64) (by omega) (by omega) (by omega) (by omega) (by omega)]; omega
    have e3 : bi b / 64 * 64 = 128 := by omega
    simp (disch := omega) [dec_yes, dec_no, wrap_in, wrap32_in, hb1, n192, m192, e3, e2, IntKind.bits, stLong]
  · rw [if_neg c]
    unfold cont at c
    have e3 : ¬ bi b / 64 * 64 = 128 := by omega
    simp (disch := omega) [dec_yes, dec_no, wrap_in, wrap32_in, hb1, n192, m192, e3]
theorem long_end (s : ByteArray) (at_ : Nat) (n m f ls r : Int) (i : Nat) (h : ¬ (i : Int) < n) :
    Code (EX cp) L_utf_long_0 (stLong s at_ n m f ls r i) = some (.ex 0, ⟨[(0, .p (.sc (.string s))), (1, .p (pi at_)), (2, .p (pi n)), (7, .mp 7 0 0), (10, .p (pI .i32 r)), (11, .p (pi i)), (28, .p (pb false))], [(7, .row 154 3 false [[pI .u8 m, pI .u8 f, pI .i32 ls]])]⟩) := by
  rw [L_utf_long_0, k_loop, stLong]
  simp (disch := omega) [dec_yes, dec_no]

theorem long_short (s : ByteArray) (at_ : Nat) (n m f ls : Int) (hat : at_ < 1099511627776) (hsz : s.size < 1099511627776) (c : (s.size : Int) - at_ < n) :
    Run (EX cp) 115 [.sc (.string s), pi at_, pi n, .st [pI .u8 m, pI .u8 f, pI .i32 ls]] = some (.val (.tu [pI .i32 0, pi 0])) := by
  rw [run_fn _ A_utf_long _ rfl rfl rfl]
  simp (disch := omega) [A_utf_long, dec_yes, dec_no, wrap_in, c]
theorem long_ret (s : ByteArray) (at_ : Nat) (n m f ls : Int) (hat : at_ < 1099511627776) (hsz : s.size < 1099511627776) (a : UInt8) (t : List UInt8) (hd : (L s).drop at_ = a :: t) (x : Int) (hx : bits .andNot .u8 (bi a) m = x) (x0 : 0 ≤ x) (x1 : x < 256) (c : ¬ (s.size : Int) - at_ < n)
    (hl : Code (EX cp) L_utf_long_0 (stLong s at_ n m f ls x (1 : Nat)) = some (.ret, ⟨[(8, .p (pI .i32 0)), (9, .p (pi 0))], []⟩)) :
    Run (EX cp) 115 [.sc (.string s), pi at_, pi n, .st [pI .u8 m, pI .u8 f, pI .i32 ls]] = some (.val (.tu [pI .i32 0, pi 0])) := by
  obtain ⟨hb1, hlt, _⟩ := bt_at s at_ a t hd
  simp only [stLong, Int.ofNat_one] at hl
  rw [run_fn _ A_utf_long _ rfl rfl rfl]
  simp (disch := omega) [A_utf_long, dec_yes, dec_no, wrap_in, wrap32_in, c, hb1, hx, hl]
theorem long_ex (s : ByteArray) (at_ : Nat) (n m f ls r : Int) (i : Nat) (hat : at_ < 1099511627776) (hsz : s.size < 1099511627776) (a : UInt8) (t : List UInt8) (hd : (L s).drop at_ = a :: t) (x : Int) (hx : bits .andNot .u8 (bi a) m = x) (x0 : 0 ≤ x) (x1 : x < 256) (c : ¬ (s.size : Int) - at_ < n)
    (hl : Code (EX cp) L_utf_long_0 (stLong s at_ n m f ls x (1 : Nat)) = some (.ex 0, ⟨[(0, .p (.sc (.string s))), (1, .p (pi at_)), (2, .p (pi n)), (7, .mp 7 0 0), (10, .p (pI .i32 r)), (11, .p (pi i)), (28, .p (pb false))], [(7, .row 154 3 false [[pI .u8 m, pI .u8 f, pI .i32 ls]])]⟩)) :
    Run (EX cp) 115 [.sc (.string s), pi at_, pi n, .st [pI .u8 m, pI .u8 f, pI .i32 ls]] = if ls ≤ r ∧ sc r then some (.val (.tu [pI .i32 r, pi n])) else some (.val (.tu [pI .i32 0, pi 0])) := by
  obtain ⟨hb1, hlt, _⟩ := bt_at s at_ a t hd
  have hp := isPoint (cp := cp) r
  simp only [stLong, Int.ofNat_one] at hl
  rw [run_fn _ A_utf_long _ rfl rfl rfl]
  by_cases c1 : r < ls
  · rw [if_neg (by omega)]
    simp (disch := omega) [A_utf_long, dec_yes, dec_no, wrap_in, wrap32_in, c, hb1, hx, hl, c1]
  · by_cases c2 : sc r
    · rw [if_pos ⟨by omega, c2⟩]
      simp (disch := omega) [A_utf_long, dec_yes, dec_no, wrap_in, wrap32_in, c, hb1, hx, hl, c1, hp, c2]
    · rw [if_neg (fun h => c2 h.2)]
      simp (disch := omega) [A_utf_long, dec_yes, dec_no, wrap_in, wrap32_in, c, hb1, hx, hl, c1, hp, c2]
end Go.Proofs.Ytomnggbideepeaa.AM

end
section
/- utf.point on the small machine: the code point that stands at a place, and its size. For texts of less than 2^40 bytes. -/
namespace Go.Proofs.Ytomnggbideepeaa.AM
set_option linter.unusedSimpArgs false
set_option linter.unusedVariables false
open Go Go.Proofs.Ytomnggbideepeaa.U
variable {cp : List PV → Option Ret}
def big : Nat := 1099511627776
def rDec (d : Nat × Int) : Option Ret := some (.val (.tu [pI .i32 d.2, pi d.1]))

theorem long1 (s : ByteArray) (i : Nat) (hs : s.size < 1099511627776) (a : UInt8) (t : List UInt8) (hd : (L s).drop i = a :: t) (ha : bi a < 128) :
    Run (EX cp) 115 [.sc (.string s), pi i, pi 1, .st [pI .u8 128, pI .u8 0, pI .i32 0]] = rDec (dec (a :: t)) := by
  have hr := bi_range a
  have hlt := (bt_at s i a t hd).2.1
  have e := m128 a
  rw [long_ex s i 1 128 0 0 (bi a) 1 (by omega) hs a t hd (bi a) (by omega) hr.1 hr.2 (by omega) (long_end s i 1 128 0 0 (bi a) 1 (by omega)), if_pos ⟨hr.1, .inl ⟨hr.1, by omega⟩⟩]
  rw [dec.eq_def]; simp only; rw [if_pos ha]; rfl
theorem long2 (s : ByteArray) (i : Nat) (hs : s.size < 1099511627776) (a : UInt8) (t : List UInt8) (hd : (L s).drop i = a :: t) (h0 : 192 ≤ bi a) (h1 : bi a < 224) :
    Run (EX cp) 115 [.sc (.string s), pi i, pi 2, .st [pI .u8 224, pI .u8 192, pI .i32 128]] = rDec (dec (a :: t)) := by
  obtain ⟨_, hi, hd1⟩ := bt_at s i a t hd
  have hr := bi_range a
  have hl := drop_len s i _ hd (by omega)
  have e := m224 a
  rw [dec.eq_def]; simp only
  rw [if_neg (by omega), if_neg (by omega), if_pos h1]
  match t, hd, hd1, hl with
  | [], hd, _, hl => exact long_short s i 2 224 192 128 (by omega) hs (by simp at hl; omega)
  | p :: t, hd, hd1, hl =>
    have hp := bi_range p
    have e2 : (bi a % 32) * 64 + (bi p - 128) = v2 a p := by unfold v2; omega
    have hst := long_step (cp := cp) s i 2 224 192 128 (bi a % 32) 1 (by omega) (by omega) (by omega) p t hd1 (by omega) (by omega)
    dsimp only
    by_cases c : cont p
    · rw [if_pos c, e2] at hst
      unfold cont at c
      rw [show ((1 : Nat) : Int) + 1 = ((2 : Nat) : Int) from rfl, long_end s i 2 224 192 128 (v2 a p) 2 (by omega)] at hst
      rw [long_ex s i 2 224 192 128 (v2 a p) 2 (by omega) hs a (p :: t) hd (bi a % 32) e (by omega) (by omega) (by simp at hl; omega) hst]
      by_cases d : 128 ≤ v2 a p
      · rw [if_pos ⟨d, .inl ⟨by omega, by rw [← e2]; omega⟩⟩, if_pos ⟨c, d⟩]; rfl
      · rw [if_neg (fun h => d h.1), if_neg (fun h => d h.2)]; rfl
    · rw [if_neg c] at hst
      rw [long_ret s i 2 224 192 128 (by omega) hs a (p :: t) hd (bi a % 32) e (by omega) (by omega) (by simp at hl; omega) hst, if_neg (fun h => c h.1)]; rfl
theorem long3 (s : ByteArray) (i : Nat) (hs : s.size < 1099511627776) (a : UInt8) (t : List UInt8) (hd : (L s).drop i = a :: t) (h0 : 224 ≤ bi a) (h1 : bi a < 240) :
    Run (EX cp) 115 [.sc (.string s), pi i, pi 3, .st [pI .u8 240, pI .u8 224, pI .i32 2048]] = rDec (dec (a :: t)) := by
  obtain ⟨_, hi, hd1⟩ := bt_at s i a t hd
  have hr := bi_range a
  have hl := drop_len s i _ hd (by omega)
  have e := m240 a
  rw [dec.eq_def]; simp only
  rw [if_neg (by omega), if_neg (by omega), if_neg (by omega), if_pos h1]
  match t, hd, hd1, hl with
  | [], hd, _, hl => exact long_short s i 3 240 224 2048 (by omega) hs (by simp at hl; omega)
  | [p], hd, _, hl => exact long_short s i 3 240 224 2048 (by omega) hs (by simp at hl; omega)
  | p :: q :: t, hd, hd1, hl =>
    obtain ⟨_, hi1, hd2⟩ := bt_at s (i + 1) p _ hd1
    have hp := bi_range p
    have hq := bi_range q
    have e2 : ((bi a % 16) * 64 + (bi p - 128)) * 64 + (bi q - 128) = v3 a p q := by unfold v3; omega
    have hst := long_step (cp := cp) s i 3 240 224 2048 (bi a % 16) 1 (by omega) (by omega) (by omega) p _ hd1 (by omega) (by omega)
    dsimp only
    by_cases c : cont p
    · rw [if_pos c] at hst
      have c' := c
      unfold cont at c'
      rw [show ((1 : Nat) : Int) + 1 = ((2 : Nat) : Int) from rfl, long_step s i 3 240 224 2048 _ 2 (by omega) (by omega) (by omega) q _ hd2 (by omega) (by omega), e2] at hst
      by_cases c2 : cont q
      · rw [if_pos c2] at hst
        have c2' := c2
        unfold cont at c2'
        rw [show ((2 : Nat) : Int) + 1 = ((3 : Nat) : Int) from rfl, long_end s i 3 240 224 2048 (v3 a p q) 3 (by omega)] at hst
        rw [long_ex s i 3 240 224 2048 (v3 a p q) 3 (by omega) hs a (p :: q :: t) hd (bi a % 16) e (by omega) (by omega) (by simp at hl; omega) hst]
        by_cases d : 2048 ≤ v3 a p q ∧ ¬ (55296 ≤ v3 a p q ∧ v3 a p q ≤ 57343)
        · rw [if_pos ⟨d.1, by unfold sc; omega⟩, if_pos ⟨c, c2, d.1, d.2⟩]; rfl
        · rw [if_neg (by unfold sc; omega), if_neg (fun h => d ⟨h.2.2.1, h.2.2.2⟩)]; rfl
      · rw [if_neg c2] at hst
        rw [long_ret s i 3 240 224 2048 (by omega) hs a (p :: q :: t) hd (bi a % 16) e (by omega) (by omega) (by simp at hl; omega) hst, if_neg (fun h => c2 h.2.1)]; rfl
    · rw [if_neg c] at hst
      rw [long_ret s i 3 240 224 2048 (by omega) hs a (p :: q :: t) hd (bi a % 16) e (by omega) (by omega) (by simp at hl; omega) hst, if_neg (fun h => c h.1)]; rfl
theorem long4 (s : ByteArray) (i : Nat) (hs : s.size < 1099511627776) (a : UInt8) (t : List UInt8) (hd : (L s).drop i = a :: t) (h0 : 240 ≤ bi a) (h1 : bi a < 248) :
    Run (EX cp) 115 [.sc (.string s), pi i, pi 4, .st [pI .u8 248, pI .u8 240, pI .i32 65536]] = rDec (dec (a :: t)) := by
  obtain ⟨_, hi, hd1⟩ := bt_at s i a t hd
  have hr := bi_range a
  have hl := drop_len s i _ hd (by omega)
  have e := m248 a
  rw [dec.eq_def]; simp only
  rw [if_neg (by omega), if_neg (by omega), if_neg (by omega), if_neg (by omega), if_pos h1]
  match t, hd, hd1, hl with
  | [], hd, _, hl => exact long_short s i 4 248 240 65536 (by omega) hs (by simp at hl; omega)
  | [p], hd, _, hl => exact long_short s i 4 248 240 65536 (by omega) hs (by simp at hl; omega)
  | [p, q], hd, _, hl => exact long_short s i 4 248 240 65536 (by omega) hs (by simp at hl; omega)
  | p :: q :: r :: t, hd, hd1, hl =>
    obtain ⟨_, hi1, hd2⟩ := bt_at s (i + 1) p _ hd1
    obtain ⟨_, hi2, hd3⟩ := bt_at s (i + 1 + 1) q _ hd2
    have hp := bi_range p
    have hq := bi_range q
    have hr3 := bi_range r
    have e2 : (((bi a % 8) * 64 + (bi p - 128)) * 64 + (bi q - 128)) * 64 + (bi r - 128) = v4 a p q r := by unfold v4; omega
    have hst := long_step (cp := cp) s i 4 248 240 65536 (bi a % 8) 1 (by omega) (by omega) (by omega) p _ hd1 (by omega) (by omega)
    dsimp only
    by_cases c : cont p
    · rw [if_pos c] at hst
      have c' := c
      unfold cont at c'
      rw [show ((1 : Nat) : Int) + 1 = ((2 : Nat) : Int) from rfl, long_step s i 4 248 240 65536 _ 2 (by omega) (by omega) (by omega) q _ hd2 (by omega) (by omega)] at hst
      by_cases c2 : cont q
      · rw [if_pos c2] at hst
        have c2' := c2
        unfold cont at c2'
        rw [show ((2 : Nat) : Int) + 1 = ((3 : Nat) : Int) from rfl, long_step s i 4 248 240 65536 _ 3 (by omega) (by omega) (by omega) r _ hd3 (by omega) (by omega), e2] at hst
        by_cases c3 : cont r
        · rw [if_pos c3] at hst
          have c3' := c3
          unfold cont at c3'
          rw [show ((3 : Nat) : Int) + 1 = ((4 : Nat) : Int) from rfl, long_end s i 4 248 240 65536 (v4 a p q r) 4 (by omega)] at hst
          rw [long_ex s i 4 248 240 65536 (v4 a p q r) 4 (by omega) hs a (p :: q :: r :: t) hd (bi a % 8) e (by omega) (by omega) (by simp at hl; omega) hst]
          by_cases d : 65536 ≤ v4 a p q r ∧ v4 a p q r ≤ 1114111
          · rw [if_pos ⟨d.1, by unfold sc; omega⟩, if_pos ⟨c, c2, c3, d.1, d.2⟩]; rfl
          · rw [if_neg (by unfold sc; omega), if_neg (fun h => d ⟨h.2.2.2.1, h.2.2.2.2⟩)]; rfl
        · rw [if_neg c3] at hst
          rw [long_ret s i 4 248 240 65536 (by omega) hs a (p :: q :: r :: t) hd (bi a % 8) e (by omega) (by omega) (by simp at hl; omega) hst, if_neg (fun h => c3 h.2.2.1)]; rfl
      · rw [if_neg c2] at hst
        rw [long_ret s i 4 248 240 65536 (by omega) hs a (p :: q :: r :: t) hd (bi a % 8) e (by omega) (by omega) (by simp at hl; omega) hst, if_neg (fun h => c2 h.2.1)]; rfl
    · rw [if_neg c] at hst
      rw [long_ret s i 4 248 240 65536 (by omega) hs a (p :: q :: r :: t) hd (bi a % 8) e (by omega) (by omega) (by simp at hl; omega) hst, if_neg (fun h => c h.1)]; rfl

def formsV : List PV := [pI .u8 128, pI .u8 0, pI .i32 0, pI .u8 224, pI .u8 192, pI .i32 128, pI .u8 240, pI .u8 224, pI .i32 2048, pI .u8 248, pI .u8 240, pI .i32 65536]
def stPoint (s : ByteArray) (i k : Int) : St := ⟨[(0, .p (.sc (.string s))), (1, .p (pi i)), (16, .p (.st formsV)), (17, .p (pi k))], []⟩
theorem point_hit (s : ByteArray) (i : Nat) (k : Nat) (hk : k < 4) (m f ls : Int) (hf : (formsV.drop (k * 3)).take 3 = [pI .u8 m, pI .u8 f, pI .i32 ls]) (a : UInt8) (t : List UInt8) (hd : (L s).drop i = a :: t) (hx : bits .and .u8 (bi a) m = f) (d : Nat × Int)
    (hr : Run (EX cp) 115 [.sc (.string s), pi i, pi ((k : Int) + 1), .st [pI .u8 m, pI .u8 f, pI .i32 ls]] = rDec d) :
    Code (EX cp) L_utf_point_0 (stPoint s i k) = some (.ret, ⟨[(4, .p (pI .i32 d.2)), (5, .p (pi d.1))], []⟩) := by
  obtain ⟨hb, _⟩ := bt_at s i a t hd
  unfold rDec at hr
  have hfl : k * 3 + 3 ≤ formsV.length := by simp [formsV]; omega
  rw [L_utf_point_0, k_loop, stPoint]
  simp (disch := omega) [dec_yes, dec_no, wrap_in, hf, hfl, hk, hb, hx, hr]
theorem point_miss (s : ByteArray) (i : Nat) (k : Nat) (hk : k < 4) (m f ls : Int) (hf : (formsV.drop (k * 3)).take 3 = [pI .u8 m, pI .u8 f, pI .i32 ls]) (a : UInt8) (t : List UInt8) (hd : (L s).drop i = a :: t) (hx : ¬ bits .and .u8 (bi a) m = f) :
    Code (EX cp) L_utf_point_0 (stPoint s i k) = Code (EX cp) L_utf_point_0 (stPoint s i ((k : Int) + 1)) := by
  obtain ⟨hb, _⟩ := bt_at s i a t hd
  have hfl : k * 3 + 3 ≤ formsV.length := by simp [formsV]; omega
  conv => lhs; rw [L_utf_point_0, k_loop, stPoint]
  simp (disch := omega) [dec_yes, dec_no, wrap_in, hf, hfl, hk, hb, hx]
  rw [L_utf_point_0, stPoint]
theorem point_end (s : ByteArray) (i : Int) : Code (EX cp) L_utf_point_0 (stPoint s i (4 : Nat)) = some (.ex 0, ⟨[(0, .p (.sc (.string s))), (1, .p (pi i)), (16, .p (.st formsV)), (17, .p (pi 4)), (18, .p (pb false))], []⟩) := by
  rw [L_utf_point_0, k_loop, stPoint]
  simp

theorem point_fst (s : ByteArray) (i : Nat) (a : UInt8) (t : List UInt8) (hd : (L s).drop i = a :: t) (hs : s.size < 1099511627776) :
    Code (EX cp) L_utf_point_0 (stPoint s i (0 : Nat)) = (if bi a < 128 ∨ 192 ≤ bi a ∧ bi a < 248 then some (.ret, ⟨[(4, .p (pI .i32 (dec (a :: t)).2)), (5, .p (pi (dec (a :: t)).1))], []⟩) else some (.ex 0, ⟨[(0, .p (.sc (.string s))), (1, .p (pi i)), (16, .p (.st formsV)), (17, .p (pi 4)), (18, .p (pb false))], []⟩)) := by
  have hr := bi_range a
  have e1 := n128 a
  have e2 := n224 a
  have e3 := n240 a
  have e4 := n248 a
  by_cases c1 : bi a < 128
  · rw [if_pos (.inl c1)]
    exact point_hit s i 0 (by omega) 128 0 0 rfl a t hd (by omega) _ (long1 s i hs a t hd c1)
  rw [point_miss s i 0 (by omega) 128 0 0 rfl a t hd (by omega)]
  by_cases c2 : 192 ≤ bi a ∧ bi a < 224
  · rw [if_pos (.inr ⟨c2.1, by omega⟩)]
    exact point_hit s i 1 (by omega) 224 192 128 rfl a t hd (by omega) _ (long2 s i hs a t hd c2.1 c2.2)
  rw [show ((0 : Nat) : Int) + 1 = ((1 : Nat) : Int) from rfl, point_miss s i 1 (by omega) 224 192 128 rfl a t hd (by omega)]
  by_cases c3 : 224 ≤ bi a ∧ bi a < 240
  · rw [if_pos (.inr ⟨by omega, by omega⟩)]
    exact point_hit s i 2 (by omega) 240 224 2048 rfl a t hd (by omega) _ (long3 s i hs a t hd c3.1 c3.2)
  rw [show ((1 : Nat) : Int) + 1 = ((2 : Nat) : Int) from rfl, point_miss s i 2 (by omega) 240 224 2048 rfl a t hd (by omega)]
  by_cases c4 : 240 ≤ bi a ∧ bi a < 248
  · rw [if_pos (.inr ⟨by omega, by omega⟩)]
    exact point_hit s i 3 (by omega) 248 240 65536 rfl a t hd (by omega) _ (long4 s i hs a t hd c4.1 c4.2)
  rw [show ((2 : Nat) : Int) + 1 = ((3 : Nat) : Int) from rfl, point_miss s i 3 (by omega) 248 240 65536 rfl a t hd (by omega)]
  rw [if_neg (by omega)]
  exact point_end s i
/-- The code point at a place. -/
def decAt (s : ByteArray) (i : Int) : Nat × Int := if i < 0 then (0, 0) else dec ((L s).drop i.toNat)
theorem point (s : ByteArray) (i : Int) (hs : s.size < 1099511627776) : Run (EX cp) 99 [.sc (.string s), pi i] = rDec (decAt s i) := by
  unfold decAt
  rw [run_fn _ A_utf_point _ rfl rfl rfl]
  by_cases c0 : i < 0
  · rw [if_pos c0]
    simp (disch := omega) [A_utf_point, dec_yes, dec_no, rDec]
  rw [if_neg c0]
  by_cases c1 : (s.size : Int) ≤ i
  · have h0 : dec ((L s).drop i.toNat) = (0, 0) := by rw [drop_end s _ (by omega)]; rfl
    simp (disch := omega) [A_utf_point, dec_yes, dec_no, rDec, h0]
  obtain ⟨n, rfl⟩ : ∃ n : Nat, i = n := ⟨i.toNat, by omega⟩
  simp only [Int.toNat_natCast]
  obtain ⟨a, t, hd⟩ := drop_at s n (by omega)
  have hl := point_fst (cp := cp) s n a t hd hs
  rw [hd]
  simp only [stPoint, Int.ofNat_zero, formsV] at hl
  by_cases c2 : bi a < 128 ∨ 192 ≤ bi a ∧ bi a < 248
  · rw [if_pos c2] at hl
    simp (disch := omega) [A_utf_point, dec_yes, dec_no, rDec, hl]
  · rw [if_neg c2] at hl
    have : dec (a :: t) = (0, 0) := by
      rw [dec.eq_def]; simp only
      by_cases c5 : bi a < 192
      · rw [if_neg (by omega), if_pos c5]
      · rw [if_neg (by omega), if_neg c5, if_neg (by omega), if_neg (by omega), if_neg (by omega)]
    simp (disch := omega) [A_utf_point, dec_yes, dec_no, rDec, hl, this]
/-- The size of the code point at a place. -/
def sizeAt (s : ByteArray) (i : Int) : Nat := (decAt s i).1
theorem utfSize (s : ByteArray) (i : Int) (hs : s.size < 1099511627776) : Run (EX cp) 96 [.sc (.string s), pi i] = some (.val (pi (sizeAt s i))) := by
  have h := point (cp := cp) s i hs
  unfold rDec at h
  rw [run_fn _ A_utf_Size _ rfl rfl rfl]
  simp [A_utf_Size, h, sizeAt]
end Go.Proofs.Ytomnggbideepeaa.AM

end
section
/- Package utf on the small machine: Valid, IsEdge, Points, Make, Clean. For texts of less than 2^40 bytes. -/
namespace Go.Proofs.Ytomnggbideepeaa.AM
set_option linter.unusedSimpArgs false
set_option linter.unusedVariables false
open Go Go.Proofs.Ytomnggbideepeaa.U
variable {cp : List PV → Option Ret}

theorem decAt_nat (s : ByteArray) (i : Nat) : decAt s (i : Int) = dec ((L s).drop i) := by
  unfold decAt
  rw [if_neg (by omega), Int.toNat_natCast]
theorem sizeAt_le (s : ByteArray) (i : Nat) (h : i ≤ s.size) : i + sizeAt s i ≤ s.size ∧ sizeAt s i ≤ 4 := by
  unfold sizeAt
  rw [decAt_nat]
  have := dec_le ((L s).drop i)
  rw [List.length_drop, L_len] at this
  omega
theorem valid_at (s : ByteArray) (i : Nat) (h : i < s.size) : valid ((L s).drop i) = if sizeAt s i = 0 then false else valid ((L s).drop (i + sizeAt s i)) := by
  obtain ⟨a, t, hd⟩ := drop_at s i h
  unfold sizeAt
  rw [decAt_nat, hd, valid_cons]
  by_cases c : (dec (a :: t)).1 = 0
  · rw [dif_pos c, if_pos c]
  · rw [dif_neg c, if_neg c, ← hd, List.drop_drop]
theorem points_at (s : ByteArray) (i : Nat) (h : i < s.size) : points ((L s).drop i) = if sizeAt s i = 0 then 65533 :: points ((L s).drop (i + 1)) else (decAt s i).2 :: points ((L s).drop (i + sizeAt s i)) := by
  obtain ⟨a, t, hd⟩ := drop_at s i h
  have ht := (bt_at s i a t hd).2.2
  unfold sizeAt
  rw [decAt_nat, hd, points_cons]
  by_cases c : (dec (a :: t)).1 = 0
  · rw [dif_pos c, if_pos c, ht]
  · rw [dif_neg c, if_neg c, ← hd, List.drop_drop]
theorem dec_range (s : ByteArray) (i : Int) : 0 ≤ (decAt s i).2 ∧ (decAt s i).2 ≤ 1114111 ∨ (decAt s i).1 = 0 := by
  by_cases c : (decAt s i).1 = 0
  · exact .inr c
  · left
    unfold decAt at c ⊢
    split at c
    · simp at c
    · rename_i h
      rw [if_neg h]
      have := dec_sc _ c
      unfold sc at this
      omega

theorem valid_loop (s : ByteArray) (hs : s.size < 1099511627776) : ∀ (m i : Nat), s.size ≤ i + m → i ≤ s.size → Code (EX cp) L_utf_Valid_0 ⟨[(0, .p (.sc (.string s))), (3, .p (pi i))], []⟩ =
    if valid ((L s).drop i) = true then some (.ex 0, ⟨[(0, .p (.sc (.string s))), (3, .p (pi s.size)), (8, .p (pb false))], []⟩) else some (.ret, ⟨[(2, .p (pb false))], []⟩) := by
  intro m
  induction m with
  | zero =>
    intro i h1 h2
    have : i = s.size := by omega
    subst this
    rw [drop_end s _ (Nat.le_refl _), valid_nil, L_utf_Valid_0, k_loop]
    simp
  | succ m ih =>
    intro i h1 h2
    by_cases hlt : i < s.size
    · have hz := utfSize (cp := cp) s i hs
      have hle := sizeAt_le s i h2
      rw [valid_at s i hlt]
      by_cases c : sizeAt s i = 0
      · rw [if_pos c, L_utf_Valid_0, k_loop]
        simp (disch := omega) [dec_yes, dec_no, hlt, hz, c]
      · have ih' := ih (i + sizeAt s i) (by omega) (by omega)
        have hc : ¬ ((sizeAt s i : Nat) : Int) = 0 := by omega
        rw [if_neg c, ← ih', L_utf_Valid_0, k_loop]
        simp (disch := omega) [dec_yes, dec_no, hlt, hz, hc, wrap_in, c]
    · have : i = s.size := by omega
      subst this
      rw [drop_end s _ (Nat.le_refl _), valid_nil, L_utf_Valid_0, k_loop]
      simp
theorem utfValid (s : ByteArray) (hs : s.size < 1099511627776) : Run (EX cp) 80 [.sc (.string s)] = some (.val (pb (valid (L s)))) := by
  have h := valid_loop (cp := cp) s hs s.size 0 (by omega) (by omega)
  rw [run_fn _ A_utf_Valid _ rfl rfl rfl]
  simp only [List.drop_zero, Int.ofNat_zero, Int.natCast_zero] at h
  cases hv : valid (L s) with
  | true => rw [hv, if_pos rfl] at h; simp [A_utf_Valid, h]
  | false => rw [hv, if_neg (by simp)] at h; simp [A_utf_Valid, h]

/-- Is a place an edge? -/
def edge (s : ByteArray) (i : Int) : Bool := decide (0 ≤ i ∧ i ≤ s.size) && (decide (i = s.size) || (match (L s)[i.toNat]? with | some b => !decide (cont b) | none => false)) && valid (L s)
theorem edge_at (s : ByteArray) (i : Nat) (a : UInt8) (t : List UInt8) (hd : (L s).drop i = a :: t) : edge s i = (!decide (cont a) && valid (L s)) := by
  obtain ⟨_, hlt, _⟩ := bt_at s i a t hd
  have hg : (L s)[i]? = some a := by
    have := congrArg (·[0]?) hd
    simpa using this
  unfold edge
  rw [Int.toNat_natCast, hg, decide_eq_true (show (0 : Int) ≤ (i : Int) ∧ (i : Int) ≤ (s.size : Int) by omega), decide_eq_false (show ¬ (i : Int) = (s.size : Int) by omega)]
  simp
theorem edge_out (s : ByteArray) (i : Int) (h : ¬ (0 ≤ i ∧ i ≤ s.size)) : edge s i = false := by
  unfold edge; rw [decide_eq_false h]; rfl
theorem edge_end (s : ByteArray) : edge s s.size = valid (L s) := by
  unfold edge
  rw [decide_eq_true (show (0 : Int) ≤ (s.size : Int) ∧ (s.size : Int) ≤ (s.size : Int) by omega), decide_eq_true (show (s.size : Int) = (s.size : Int) from rfl)]
  simp
theorem utfIsEdge (s : ByteArray) (i : Int) (hs : s.size < 1099511627776) : Run (EX cp) 91 [.sc (.string s), pi i] = some (.val (pb (edge s i))) := by
  have hv := utfValid (cp := cp) s hs
  rw [run_fn _ A_utf_IsEdge _ rfl rfl rfl]
  by_cases c0 : 0 ≤ i
  · by_cases c1 : i ≤ s.size
    · by_cases c2 : i = s.size
      · subst c2
        rw [edge_end]
        simp (disch := omega) [A_utf_IsEdge, dec_yes, dec_no, hv]
      · obtain ⟨n, rfl⟩ : ∃ n : Nat, i = n := ⟨i.toNat, by omega⟩
        obtain ⟨a, t, hd⟩ := drop_at s n (by omega)
        have hb := (bt_at s n a t hd).1
        have hr := bi_range a
        rw [edge_at s n a t hd]
        by_cases c : cont a
        · have e3 : bi a / 64 * 64 = 128 := by unfold cont at c; omega
          simp (disch := omega) [A_utf_IsEdge, dec_yes, dec_no, hv, hb, n192, e3, c]
        · have e3 : ¬ bi a / 64 * 64 = 128 := by unfold cont at c; omega
          simp (disch := omega) [A_utf_IsEdge, dec_yes, dec_no, hv, hb, n192, e3, c]
    · rw [edge_out s i (by omega)]
      simp (disch := omega) [A_utf_IsEdge, dec_yes, dec_no]
  · rw [edge_out s i (by omega)]
    simp (disch := omega) [A_utf_IsEdge, dec_yes, dec_no]

/-! ### whole numbers in a row -/
def ints (l : List Int) : List (List PV) := l.map fun x => [pi x]
@[simp] theorem ints_len (l : List Int) : (ints l).length = l.length := by simp [ints]
@[simp] theorem ints_nil : ints [] = [] := rfl
@[simp] theorem ints_snoc (l : List Int) (x : Int) : ints l ++ [[pi x]] = ints (l ++ [x]) := by simp [ints]
@[simp] theorem ints_take (l : List Int) : (ints l).take l.length = ints l := by rw [List.take_of_length_le (by simp)]
theorem ints_get (l : List Int) (n : Nat) : (ints l)[n]? = (l[n]?).map fun x => [pi x] := by simp [ints]
theorem ints_at (l : List Int) (n : Nat) (h : n < l.length) : (ints l)[n]? = some [pi l[n]] := by rw [ints_get, List.getElem?_eq_getElem h]; rfl
theorem mb (n : Nat) (h : n < 1099511627776) : n ≤ maxBytes := by unfold maxBytes; omega

theorem points_loop (s : ByteArray) (hs : s.size < 1099511627776) : ∀ (m i : Nat) (acc : List Int), s.size ≤ i + m → i ≤ s.size → acc.length ≤ i → Code (EX cp) L_utf_Points_0 ⟨[(0, .p (.sc (.string s))), (3, .ms 3 0 acc.length), (4, .p (pi i))], [(3, .row 3 1 false (ints acc))]⟩ =
    some (.ex 0, ⟨[(0, .p (.sc (.string s))), (3, .ms 3 0 (acc ++ points ((L s).drop i)).length), (4, .p (pi s.size)), (10, .p (pb false))], [(3, .row 3 1 false (ints (acc ++ points ((L s).drop i))))]⟩) := by
  intro m
  induction m with
  | zero =>
    intro i acc h1 h2 h3
    have : i = s.size := by omega
    subst this
    rw [drop_end s _ (Nat.le_refl _), points_nil, L_utf_Points_0, k_loop]
    simp
  | succ m ih =>
    intro i acc h1 h2 h3
    by_cases hlt : i < s.size
    · have hz := point (cp := cp) s i hs
      have hle := sizeAt_le s i h2
      have hr := dec_range s i
      have hcap : (acc.length + 1) * 8 ≤ maxBytes ∧ acc.length + 1 ≤ 9223372036854775807 := by unfold maxBytes; omega
      rw [points_at s i hlt]
      unfold rDec at hz
      by_cases c : sizeAt s i = 0
      · have ih' := ih (i + 1) (acc ++ [65533]) (by omega) (by omega) (by simp; omega)
        have c' : (decAt s i).1 = 0 := c
        rw [if_pos c]
        have e : acc ++ 65533 :: points ((L s).drop (i + 1)) = (acc ++ [65533]) ++ points ((L s).drop (i + 1)) := by simp
        rw [e, ← ih', L_utf_Points_0, k_loop]
        simp (disch := omega) [dec_yes, dec_no, hlt, hz, c', wrap_in, hcap]
      · have ih' := ih (i + sizeAt s i) (acc ++ [(decAt s i).2]) (by omega) (by omega) (by simp; omega)
        have hsz : (decAt s i).1 = sizeAt s i := rfl
        have hc : ¬ ((sizeAt s i : Nat) : Int) = 0 := by omega
        rw [if_neg c]
        have e : acc ++ (decAt s i).2 :: points ((L s).drop (i + sizeAt s i)) = (acc ++ [(decAt s i).2]) ++ points ((L s).drop (i + sizeAt s i)) := by simp
        rw [e, ← ih', L_utf_Points_0, k_loop]
        simp (disch := omega) [dec_yes, dec_no, hlt, hz, hsz, hc, c, wrap_in, hcap]
    · have : i = s.size := by omega
      subst this
      rw [drop_end s _ (Nat.le_refl _), points_nil, L_utf_Points_0, k_loop]
      simp
theorem utfPoints (s : ByteArray) (hs : s.size < 1099511627776) : Run (EX cp) 82 [.sc (.string s)] = some (.own 3 1 (ints (points (L s)))) := by
  have h := points_loop (cp := cp) s hs s.size 0 [] (by omega) (by omega) (by simp)
  rw [run_fn _ A_utf_Points _ rfl rfl rfl]
  simp at h
  simp [A_utf_Points, h]

/-! ### utf.Make -/
def mk1 (n : Int) : Int := if sc n then n else 65533
def mks (l : List Int) : List UInt8 := encs (l.map mk1)
theorem mk1_sc (n : Int) : sc (mk1 n) := by unfold mk1; split; assumption; exact sc_bad
theorem mks_snoc (l : List Int) (n : Int) : mks (l ++ [n]) = mks l ++ enc (mk1 n) := by simp [mks, encs]
theorem mks_len (l : List Int) : (mks l).length ≤ 4 * l.length := by
  induction l with
  | nil => simp [mks]
  | cons a l ih =>
    have := (enc_len (mk1 a)).2
    simp only [mks, List.map_cons, encs_cons, List.length_append, List.length_cons] at ih ⊢
    omega
theorem mks_pts (l : List Int) (h : ∀ v ∈ l, sc v) : mks l = encs l := by
  unfold mks
  congr 1
  conv => rhs; rw [← List.map_id l]
  refine List.map_congr_left fun v hv => ?_
  unfold mk1; rw [if_pos (h v hv)]; rfl
set_option maxHeartbeats 2000000 in
theorem make_loop (l : List Int) (hl : l.length < 1099511627776) : ∀ (m i : Nat), l.length ≤ i + m → i ≤ l.length → Code (EX cp) L_utf_Make_0 ⟨[(3, .mp 3 0 0), (7, .p (.sl 1 (ints l))), (8, .p (pi l.length)), (9, .p (pi i))], [(3, .dp 100 2 (sbRow 5 (bRows (mks (l.take i)))))]⟩ =
    some (.ex 0, ⟨[(3, .mp 3 0 0), (7, .p (.sl 1 (ints l))), (8, .p (pi l.length)), (9, .p (pi l.length)), (10, .p (pb false))], [(3, .dp 100 2 (sbRow 5 (bRows (mks l))))]⟩) := by
  intro m
  induction m with
  | zero =>
    intro i h1 h2
    have : i = l.length := by omega
    subst this
    rw [List.take_length, L_utf_Make_0, k_loop]
    simp
  | succ m ih =>
    intro i h1 h2
    by_cases hlt : i < l.length
    · have ih' := ih (i + 1) (by omega) (by omega)
      have e : l.take (i + 1) = l.take i ++ [l[i]] := List.take_succ_eq_append_getElem hlt
      rw [e, mks_snoc] at ih'
      have hm := mks_len (l.take i)
      have hm2 : (l.take i).length ≤ i := List.length_take_le _ _
      have hen := (enc_len (mk1 l[i])).2
      have hg := ints_at l i hlt
      generalize l[i] = v at *
      generalize hacc : mks (l.take i) = acc at *
      have hp := isPoint (cp := cp) v
      have hcap : acc.length + (enc (mk1 v)).length + 4 ≤ maxBytes := by unfold maxBytes; omega
      rw [← ih', L_utf_Make_0, k_loop]
      by_cases c : sc v
      · have e1 : mk1 v = v := if_pos c
        have c' := c
        unfold sc at c'
        rw [e1] at hcap ⊢
        have hcap2 : acc.length + (Lib.encodeRune v).length + 4 ≤ maxBytes := hcap
        simp (disch := omega) [dec_yes, dec_no, hlt, hg, hp, c, wrap_in, wrap32_in, hcap2, if_yes, enc]
      · have e1 : mk1 v = 65533 := if_neg c
        rw [e1] at hcap ⊢
        have hcap2 : acc.length + (Lib.encodeRune 65533).length + 4 ≤ maxBytes := hcap
        by_cases c0 : 0 ≤ v
        · by_cases c1 : v ≤ 1114111
          · simp (disch := omega) [dec_yes, dec_no, hlt, hg, hp, c, wrap_in, wrap32_in, hcap2, if_yes, enc]
          · simp (disch := omega) [dec_yes, dec_no, hlt, hg, hp, c, wrap_in, wrap32_in, hcap2, if_yes, enc]
        · simp (disch := omega) [dec_yes, dec_no, hlt, hg, hp, c, wrap_in, wrap32_in, hcap2, if_yes, enc]
    · have : i = l.length := by omega
      subst this
      rw [List.take_length, L_utf_Make_0, k_loop]
      simp
theorem utfMake (l : List Int) (hl : l.length < 1099511627776) : Run (EX cp) 81 [.sl 1 (ints l)] = some (.val (.sc (.string ⟨(mks l).toArray⟩))) := by
  have h := make_loop (cp := cp) l hl l.length 0 (by omega) (by omega)
  rw [run_fn _ A_utf_Make _ rfl rfl rfl]
  simp [mks] at h
  simp [A_utf_Make, h, mks]
/-- A clean text. -/
def cleanS (s : ByteArray) : ByteArray := ⟨(clean (L s)).toArray⟩
theorem utfClean (s : ByteArray) (hs : s.size < 1099511627776) : Run (EX cp) 56 [.sc (.string s)] = some (.val (.sc (.string (cleanS s)))) := by
  have h1 := utfValid (cp := cp) s hs
  have h2 := utfPoints (cp := cp) s hs
  have hle := points_le (L s)
  rw [L_len] at hle
  have h3 := utfMake (cp := cp) (points (L s)) (by omega)
  rw [mks_pts _ (points_sc _)] at h3
  rw [run_fn _ A_utf_Clean _ rfl rfl rfl]
  cases hv : valid (L s) with
  | true =>
    rw [hv] at h1
    have : cleanS s = s := by unfold cleanS; rw [clean_of_valid _ hv, mk_L]
    simp [A_utf_Clean, h1, this]
  | false =>
    rw [hv] at h1
    simp [A_utf_Clean, h1, h2, h3, cleanS, clean]
end Go.Proofs.Ytomnggbideepeaa.AM

end
section
/- The reference's code points (palinoderef1) on the small machine. For texts of less than 2^40 bytes. -/
namespace Go.Proofs.Ytomnggbideepeaa.AM
set_option linter.unusedSimpArgs false
set_option linter.unusedVariables false
open Go Go.Proofs.Ytomnggbideepeaa.U
variable {cp : List PV → Option Ret}

theorem w63 : ∀ n : Nat, n < 256 → bits .and .i64 (n : Int) 63 = (n % 64 : Nat) := by decide +kernel
theorem w31 : ∀ n : Nat, n < 256 → bits .and .i64 (n : Int) 31 = (n % 32 : Nat) := by decide +kernel
theorem w15 : ∀ n : Nat, n < 256 → bits .and .i64 (n : Int) 15 = (n % 16 : Nat) := by decide +kernel
theorem w7 : ∀ n : Nat, n < 256 → bits .and .i64 (n : Int) 7 = (n % 8 : Nat) := by decide +kernel
theorem a63 (a : UInt8) : bits .and .i64 (bi a) 63 = bi a % 64 := by have := w63 a.toNat a.toNat_lt; unfold bi; omega
theorem a31 (a : UInt8) : bits .and .i64 (bi a) 31 = bi a % 32 := by have := w31 a.toNat a.toNat_lt; unfold bi; omega
theorem a15 (a : UInt8) : bits .and .i64 (bi a) 15 = bi a % 16 := by have := w15 a.toNat a.toNat_lt; unfold bi; omega
theorem a7 (a : UInt8) : bits .and .i64 (bi a) 7 = bi a % 8 := by have := w7 a.toNat a.toNat_lt; unfold bi; omega
theorem wraps_i64 (n : Int) (h0 : 0 ≤ n) (h1 : n < 2 ^ 62) : IntKind.wrap .i64 n = n := wrap_in n (by omega) (by omega)
theorem or6 (x y : Int) (hx₀ : 0 ≤ x) (hx : x % 64 = 0) (hx₁ : x < 4611686018427387904) (h₀ : 0 ≤ y) (h₁ : y < 64) : bits .or .i64 x y = x + y :=
  bits_join .i64 62 (by decide) wraps_i64 6 x y hx₀ hx hx₁ h₀ h₁ (by omega)
theorem fdiv6 (a : UInt8) : (bi a).fdiv 64 = bi a / 64 := by
  have := bi_range a
  rw [Int.fdiv_eq_ediv_of_nonneg _ (by omega)]

def stSize (s : ByteArray) (i n v ls j : Int) : St := ⟨[(0, .p (.sc (.string s))), (1, .p (pi i)), (6, .p (pi n)), (7, .p (pi v)), (8, .p (pi ls)), (9, .p (pi j))], []⟩
theorem size_step (s : ByteArray) (i : Nat) (n v ls : Int) (j : Nat) (h : (j : Int) < n) (hi : i < 1099511627776) (hj : j ≤ 3) (b : UInt8) (t : List UInt8) (hb : (L s).drop (i + j) = b :: t) (v0 : 0 ≤ v) (v1 : v < 1000000) :
    Code (EX cp) L_ref1_Size_0 (stSize s i n v ls j) = if cont b then Code (EX cp) L_ref1_Size_0 (stSize s i n (v * 64 + (bi b - 128)) ls (j + 1)) else some (.ret, ⟨[(4, .p (pi 0))], []⟩) := by
  have hb1 := bt_atI s ((i : Int) + j) (i + j) (by omega) b t hb
  have hr := bi_range b
  have e1 := a63 b
  have e4 := fdiv6 b
  rw [L_ref1_Size_0, k_loop, stSize]
  by_cases c : cont b
  · rw [if_pos c]
    unfold cont at c
    have e2 : bits .or .i64 (v * 64) (bi b % 64) = v * 64 + (bi b - 128) := by
      rw [or6 (v * 64) (bi b % 64) (by omega) (by omega) (by omega) (by omega) (by omega)]; omega
    have e3 : bi b / 64 = 2 := by omega
    simp (disch := omega) [dec_yes, dec_no, wrap_in, hb1, a63, e1, e2, e3, e4, IntKind.bits, stSize]
  · rw [if_neg c]
    unfold cont at c
    have e3 : ¬ bi b / 64 = 2 := by omega
    simp (disch := omega) [dec_yes, dec_no, wrap_in, hb1, e3, e4, IntKind.bits]
theorem size_end (s : ByteArray) (i n v ls j : Int) (h : ¬ j < n) : Code (EX cp) L_ref1_Size_0 (stSize s i n v ls j) = some (.ex 1, ⟨[(0, .p (.sc (.string s))), (1, .p (pi i)), (6, .p (pi n)), (7, .p (pi v)), (8, .p (pi ls)), (9, .p (pi j)), (61, .p (pb false))], []⟩) := by
  rw [L_ref1_Size_0, k_loop, stSize]
  simp (disch := omega) [dec_yes, dec_no]

/-- How the first byte is read. -/
inductive Head (a : UInt8) : Int → Int → Int → Prop
  | two : 192 ≤ bi a → bi a < 224 → Head a 2 (bi a % 32) 128
  | three : 224 ≤ bi a → bi a < 240 → Head a 3 (bi a % 16) 2048
  | four : 240 ≤ bi a → bi a < 248 → Head a 4 (bi a % 8) 65536
set_option maxHeartbeats 2000000 in
theorem size_head (s : ByteArray) (i : Nat) (hs : s.size < 1099511627776) (a : UInt8) (t : List UInt8) (hd : (L s).drop i = a :: t) (n v ls : Int) (hh : Head a n v ls) :
    Code (EX cp) A_ref1_Size.body ⟨entry 0 [.sc (.string s), pi i], []⟩ = Code (EX cp) (tailN 5 A_ref1_Size.body) ⟨[(0, .p (.sc (.string s))), (1, .p (pi i)), (6, .p (pi n)), (7, .p (pi v)), (8, .p (pi ls))], []⟩ := by
  obtain ⟨hb, hlt, _⟩ := bt_at s i a t hd
  have hr := bi_range a
  have e1 := a31 a; have e2 := a15 a; have e3 := a7 a
  refine split_code _ 5 _ _ _ ?_
  cases hh with
  | two h0 h1 => simp (disch := omega) [A_ref1_Size, headN, dec_yes, dec_no, wrap_in, hb, e1]
  | three h0 h1 => simp (disch := omega) [A_ref1_Size, headN, dec_yes, dec_no, wrap_in, hb, e2]
  | four h0 h1 => simp (disch := omega) [A_ref1_Size, headN, dec_yes, dec_no, wrap_in, hb, e3]
theorem size_short (s : ByteArray) (i : Nat) (hs : s.size < 1099511627776) (a : UInt8) (t : List UInt8) (hd : (L s).drop i = a :: t) (n v ls : Int) (hh : Head a n v ls) (c : (s.size : Int) - i < n) : Run (EX cp) 55 [.sc (.string s), pi i] = some (.val (pi 0)) := by
  obtain ⟨hb, hlt, _⟩ := bt_at s i a t hd
  rw [run_fn _ A_ref1_Size _ rfl rfl rfl, size_head s i hs a t hd n v ls hh]
  simp (disch := omega) [A_ref1_Size, tailN, dec_yes, dec_no, wrap_in]
theorem size_ret (s : ByteArray) (i : Nat) (hs : s.size < 1099511627776) (a : UInt8) (t : List UInt8) (hd : (L s).drop i = a :: t) (n v ls : Int) (hh : Head a n v ls) (c : ¬ (s.size : Int) - i < n)
    (hl : Code (EX cp) L_ref1_Size_0 (stSize s i n v ls (1 : Nat)) = some (.ret, ⟨[(4, .p (pi 0))], []⟩)) : Run (EX cp) 55 [.sc (.string s), pi i] = some (.val (pi 0)) := by
  obtain ⟨hb, hlt, _⟩ := bt_at s i a t hd
  simp only [stSize, Int.ofNat_one] at hl
  rw [run_fn _ A_ref1_Size _ rfl rfl rfl, size_head s i hs a t hd n v ls hh]
  simp (disch := omega) [A_ref1_Size, tailN, dec_yes, dec_no, wrap_in, hl]
def okv (ls v : Int) : Prop := ls ≤ v ∧ v ≤ 1114111 ∧ ¬ (55296 ≤ v ∧ v < 57344)
instance (ls v : Int) : Decidable (okv ls v) := by unfold okv; exact inferInstance
set_option maxHeartbeats 4000000 in
theorem size_ex (s : ByteArray) (i : Nat) (hs : s.size < 1099511627776) (a : UInt8) (t : List UInt8) (hd : (L s).drop i = a :: t) (n v ls : Int) (hh : Head a n v ls) (c : ¬ (s.size : Int) - i < n) (x : Int) (j : Int)
    (hl : Code (EX cp) L_ref1_Size_0 (stSize s i n v ls (1 : Nat)) = some (.ex 1, ⟨[(0, .p (.sc (.string s))), (1, .p (pi i)), (6, .p (pi n)), (7, .p (pi x)), (8, .p (pi ls)), (9, .p (pi j)), (61, .p (pb false))], []⟩)) : Run (EX cp) 55 [.sc (.string s), pi i] = some (.val (pi (if okv ls x then n else 0))) := by
  obtain ⟨hb, hlt, _⟩ := bt_at s i a t hd
  simp only [stSize, Int.ofNat_one] at hl
  rw [run_fn _ A_ref1_Size _ rfl rfl rfl, size_head s i hs a t hd n v ls hh]
  by_cases c1 : x < ls
  · rw [if_neg (fun h => by unfold okv at h; omega)]
    simp (disch := omega) [A_ref1_Size, tailN, dec_yes, dec_no, wrap_in, hl]
  by_cases c2 : 1114111 < x
  · rw [if_neg (fun h => by unfold okv at h; omega)]
    simp (disch := omega) [A_ref1_Size, tailN, dec_yes, dec_no, wrap_in, hl]
  by_cases c3 : 55296 ≤ x
  · by_cases c4 : x < 57344
    · rw [if_neg (fun h => by unfold okv at h; omega)]
      simp (disch := omega) [A_ref1_Size, tailN, dec_yes, dec_no, wrap_in, hl]
    · rw [if_pos (by unfold okv; omega)]
      simp (disch := omega) [A_ref1_Size, tailN, dec_yes, dec_no, wrap_in, hl]
  · rw [if_pos (by unfold okv; omega)]
    simp (disch := omega) [A_ref1_Size, tailN, dec_yes, dec_no, wrap_in, hl]
set_option maxHeartbeats 2000000 in
theorem refSize (s : ByteArray) (i : Int) (hs : s.size < 1099511627776) : Run (EX cp) 55 [.sc (.string s), pi i] = some (.val (pi (sizeAt s i))) := by
  unfold sizeAt decAt
  by_cases c0 : i < 0
  · rw [if_pos c0, run_fn _ A_ref1_Size _ rfl rfl rfl]
    simp (disch := omega) [A_ref1_Size, dec_yes, dec_no]
  rw [if_neg c0]
  by_cases c1 : (s.size : Int) ≤ i
  · have h0 : dec ((L s).drop i.toNat) = (0, 0) := by rw [drop_end s _ (by omega)]; rfl
    rw [h0, run_fn _ A_ref1_Size _ rfl rfl rfl]
    simp (disch := omega) [A_ref1_Size, dec_yes, dec_no]
  obtain ⟨k, rfl⟩ : ∃ n : Nat, i = n := ⟨i.toNat, by omega⟩
  simp only [Int.toNat_natCast]
  obtain ⟨a, t, hd⟩ := drop_at s k (by omega)
  obtain ⟨hb, hlt, hd1⟩ := bt_at s k a t hd
  have hr := bi_range a
  have hlen := drop_len s k _ hd (by omega)
  rw [hd]
  by_cases b1 : bi a < 128
  · have : dec (a :: t) = (1, bi a) := by rw [dec.eq_def]; simp only; rw [if_pos b1]
    rw [this, run_fn _ A_ref1_Size _ rfl rfl rfl]
    simp (disch := omega) [A_ref1_Size, dec_yes, dec_no, wrap_in, hb]
  by_cases b2 : bi a < 192
  · have : dec (a :: t) = (0, 0) := by rw [dec.eq_def]; simp only; rw [if_neg b1, if_pos b2]
    rw [this, run_fn _ A_ref1_Size _ rfl rfl rfl]
    simp (disch := omega) [A_ref1_Size, dec_yes, dec_no, wrap_in, hb]
  by_cases b3 : bi a < 224
  · have hh : Head a 2 (bi a % 32) 128 := .two (by omega) b3
    rw [dec.eq_def]; simp only; rw [if_neg b1, if_neg b2, if_pos b3]
    match t, hd, hd1, hlen with
    | [], hd, _, hlen => exact size_short s k hs a _ hd _ _ _ hh (by simp at hlen; omega)
    | p :: t, hd, hd1, hlen =>
      have hp := bi_range p
      have e2 : (bi a % 32) * 64 + (bi p - 128) = v2 a p := by unfold v2; omega
      have hst := size_step (cp := cp) s k 2 (bi a % 32) 128 1 (by omega) (by omega) (by omega) p t hd1 (by omega) (by omega)
      dsimp only
      have hc : ¬ (s.size : Int) - k < 2 := by simp at hlen; omega
      by_cases c : cont p
      · rw [if_pos c, e2, show ((1 : Nat) : Int) + 1 = 2 from rfl, size_end s k 2 _ 128 2 (by omega)] at hst
        rw [size_ex s k hs a _ hd _ _ _ hh hc _ _ hst]
        have c' := c
        unfold cont at c'
        by_cases d : 128 ≤ v2 a p
        · rw [if_pos (by unfold okv; omega), if_pos ⟨c, d⟩]; rfl
        · rw [if_neg (fun h => d h.1), if_neg (fun h => d h.2)]; rfl
      · rw [if_neg c] at hst
        rw [size_ret s k hs a _ hd _ _ _ hh hc hst, if_neg (fun h => c h.1)]; rfl
  by_cases b4 : bi a < 240
  · have hh : Head a 3 (bi a % 16) 2048 := .three (by omega) b4
    rw [dec.eq_def]; simp only; rw [if_neg b1, if_neg b2, if_neg b3, if_pos b4]
    match t, hd, hd1, hlen with
    | [], hd, _, hlen => exact size_short s k hs a _ hd _ _ _ hh (by simp at hlen; omega)
    | [p], hd, _, hlen => exact size_short s k hs a _ hd _ _ _ hh (by simp at hlen; omega)
    | p :: q :: t, hd, hd1, hlen =>
      obtain ⟨_, _, hd2⟩ := bt_at s (k + 1) p _ hd1
      have hp := bi_range p
      have hq := bi_range q
      have e2 : ((bi a % 16) * 64 + (bi p - 128)) * 64 + (bi q - 128) = v3 a p q := by unfold v3; omega
      have hst := size_step (cp := cp) s k 3 (bi a % 16) 2048 1 (by omega) (by omega) (by omega) p _ hd1 (by omega) (by omega)
      dsimp only
      have hc : ¬ (s.size : Int) - k < 3 := by simp at hlen; omega
      by_cases c : cont p
      · have c' := c
        unfold cont at c'
        rw [if_pos c, show ((1 : Nat) : Int) + 1 = ((2 : Nat) : Int) from rfl, size_step s k 3 _ 2048 2 (by omega) (by omega) (by omega) q _ hd2 (by omega) (by omega), e2] at hst
        by_cases c2 : cont q
        · have c2' := c2
          unfold cont at c2'
          rw [if_pos c2, show ((2 : Nat) : Int) + 1 = 3 from rfl, size_end s k 3 _ 2048 3 (by omega)] at hst
          rw [size_ex s k hs a _ hd _ _ _ hh hc _ _ hst]
          by_cases d : 2048 ≤ v3 a p q ∧ ¬ (55296 ≤ v3 a p q ∧ v3 a p q ≤ 57343)
          · rw [if_pos (by unfold okv; omega), if_pos ⟨c, c2, d.1, d.2⟩]; rfl
          · rw [if_neg (by unfold okv; omega), if_neg (fun h => d ⟨h.2.2.1, h.2.2.2⟩)]; rfl
        · rw [if_neg c2] at hst
          rw [size_ret s k hs a _ hd _ _ _ hh hc hst, if_neg (fun h => c2 h.2.1)]; rfl
      · rw [if_neg c] at hst
        rw [size_ret s k hs a _ hd _ _ _ hh hc hst, if_neg (fun h => c h.1)]; rfl
  by_cases b5 : bi a < 248
  · have hh : Head a 4 (bi a % 8) 65536 := .four (by omega) b5
    rw [dec.eq_def]; simp only; rw [if_neg b1, if_neg b2, if_neg b3, if_neg b4, if_pos b5]
    match t, hd, hd1, hlen with
    | [], hd, _, hlen => exact size_short s k hs a _ hd _ _ _ hh (by simp at hlen; omega)
    | [p], hd, _, hlen => exact size_short s k hs a _ hd _ _ _ hh (by simp at hlen; omega)
    | [p, q], hd, _, hlen => exact size_short s k hs a _ hd _ _ _ hh (by simp at hlen; omega)
    | p :: q :: r :: t, hd, hd1, hlen =>
      obtain ⟨_, _, hd2⟩ := bt_at s (k + 1) p _ hd1
      obtain ⟨_, _, hd3⟩ := bt_at s (k + 1 + 1) q _ hd2
      have hp := bi_range p
      have hq := bi_range q
      have hr3 := bi_range r
      have e2 : (((bi a % 8) * 64 + (bi p - 128)) * 64 + (bi q - 128)) * 64 + (bi r - 128) = v4 a p q r := by unfold v4; omega
      have hst := size_step (cp := cp) s k 4 (bi a % 8) 65536 1 (by omega) (by omega) (by omega) p _ hd1 (by omega) (by omega)
      dsimp only
      have hc : ¬ (s.size : Int) - k < 4 := by simp at hlen; omega
      by_cases c : cont p
      · have c' := c
        unfold cont at c'
        rw [if_pos c, show ((1 : Nat) : Int) + 1 = ((2 : Nat) : Int) from rfl, size_step s k 4 _ 65536 2 (by omega) (by omega) (by omega) q _ hd2 (by omega) (by omega)] at hst
        by_cases c2 : cont q
        · have c2' := c2
          unfold cont at c2'
          rw [if_pos c2, show ((2 : Nat) : Int) + 1 = ((3 : Nat) : Int) from rfl, size_step s k 4 _ 65536 3 (by omega) (by omega) (by omega) r _ hd3 (by omega) (by omega), e2] at hst
          by_cases c3 : cont r
          · have c3' := c3
            unfold cont at c3'
            rw [if_pos c3, show ((3 : Nat) : Int) + 1 = 4 from rfl, size_end s k 4 _ 65536 4 (by omega)] at hst
            rw [size_ex s k hs a _ hd _ _ _ hh hc _ _ hst]
            by_cases d : 65536 ≤ v4 a p q r ∧ v4 a p q r ≤ 1114111
            · rw [if_pos (by unfold okv; omega), if_pos ⟨c, c2, c3, d.1, d.2⟩]; rfl
            · rw [if_neg (by unfold okv; omega), if_neg (fun h => d ⟨h.2.2.2.1, h.2.2.2.2⟩)]; rfl
          · rw [if_neg c3] at hst
            rw [size_ret s k hs a _ hd _ _ _ hh hc hst, if_neg (fun h => c3 h.2.2.1)]; rfl
        · rw [if_neg c2] at hst
          rw [size_ret s k hs a _ hd _ _ _ hh hc hst, if_neg (fun h => c2 h.2.1)]; rfl
      · rw [if_neg c] at hst
        rw [size_ret s k hs a _ hd _ _ _ hh hc hst, if_neg (fun h => c h.1)]; rfl
  have : dec (a :: t) = (0, 0) := by rw [dec.eq_def]; simp only; rw [if_neg b1, if_neg b2, if_neg b3, if_neg b4, if_neg b5]
  rw [this, run_fn _ A_ref1_Size _ rfl rfl rfl]
  simp (disch := omega) [A_ref1_Size, dec_yes, dec_no, wrap_in, hb]
end Go.Proofs.Ytomnggbideepeaa.AM

end
section
/- The reference's code points on the small machine: Valid, IsEdge, Clean, Points. For texts of less than 2^36 bytes. -/
namespace Go.Proofs.Ytomnggbideepeaa.AM
set_option linter.unusedSimpArgs false
set_option linter.unusedVariables false
open Go Go.Proofs.Ytomnggbideepeaa.U
variable {cp : List PV → Option Ret}

theorem refValid_loop (s : ByteArray) (hs : s.size < 1099511627776) : ∀ (m i : Nat), s.size ≤ i + m → i ≤ s.size → Code (EX cp) L_ref1_Valid_0 ⟨[(0, .p (.sc (.string s))), (3, .p (pi i))], []⟩ =
    if valid ((L s).drop i) = true then some (.ex 0, ⟨[(0, .p (.sc (.string s))), (3, .p (pi s.size)), (8, .p (pb false))], []⟩) else some (.ret, ⟨[(2, .p (pb false))], []⟩) := by
  intro m
  induction m with
  | zero =>
    intro i h1 h2
    have : i = s.size := by omega
    subst this
    rw [drop_end s _ (Nat.le_refl _), valid_nil, L_ref1_Valid_0, k_loop]
    simp
  | succ m ih =>
    intro i h1 h2
    by_cases hlt : i < s.size
    · have hz := refSize (cp := cp) s i hs
      have hle := sizeAt_le s i h2
      rw [valid_at s i hlt]
      by_cases c : sizeAt s i = 0
      · rw [if_pos c, L_ref1_Valid_0, k_loop]
        simp (disch := omega) [dec_yes, dec_no, hlt, hz, c]
      · have ih' := ih (i + sizeAt s i) (by omega) (by omega)
        have hc : ¬ ((sizeAt s i : Nat) : Int) = 0 := by omega
        rw [if_neg c, ← ih', L_ref1_Valid_0, k_loop]
        simp (disch := omega) [dec_yes, dec_no, hlt, hz, hc, wrap_in, c]
    · have : i = s.size := by omega
      subst this
      rw [drop_end s _ (Nat.le_refl _), valid_nil, L_ref1_Valid_0, k_loop]
      simp
theorem refValid (s : ByteArray) (hs : s.size < 1099511627776) : Run (EX cp) 20 [.sc (.string s)] = some (.val (pb (valid (L s)))) := by
  have h := refValid_loop (cp := cp) s hs s.size 0 (by omega) (by omega)
  rw [run_fn _ A_ref1_Valid _ rfl rfl rfl]
  simp only [List.drop_zero, Int.ofNat_zero, Int.natCast_zero] at h
  cases hv : valid (L s) with
  | true => rw [hv, if_pos rfl] at h; simp [A_ref1_Valid, h]
  | false => rw [hv, if_neg (by simp)] at h; simp [A_ref1_Valid, h]

theorem refIsEdge (s : ByteArray) (i : Int) (hs : s.size < 1099511627776) : Run (EX cp) 38 [.sc (.string s), pi i] = some (.val (pb (edge s i))) := by
  have hv := refValid (cp := cp) s hs
  rw [run_fn _ A_ref1_IsEdge _ rfl rfl rfl]
  by_cases c0 : i < 0
  · rw [edge_out s i (by omega)]
    simp (disch := omega) [A_ref1_IsEdge, dec_yes, dec_no]
  by_cases c1 : (s.size : Int) < i
  · rw [edge_out s i (by omega)]
    simp (disch := omega) [A_ref1_IsEdge, dec_yes, dec_no]
  by_cases c2 : i = s.size
  · subst c2
    rw [edge_end]
    cases hvv : valid (L s) <;> rw [hvv] at hv <;> simp (disch := omega) [A_ref1_IsEdge, dec_yes, dec_no, hv]
  · obtain ⟨n, rfl⟩ : ∃ n : Nat, i = n := ⟨i.toNat, by omega⟩
    obtain ⟨a, t, hd⟩ := drop_at s n (by omega)
    have hb := (bt_at s n a t hd).1
    have hr := bi_range a
    have e4 := fdiv6 a
    rw [edge_at s n a t hd]
    cases hvv : valid (L s) <;> rw [hvv] at hv
    · simp (disch := omega) [A_ref1_IsEdge, dec_yes, dec_no, hv]
    · by_cases c : cont a
      · have e3 : bi a / 64 = 2 := by unfold cont at c; omega
        simp (disch := omega) [A_ref1_IsEdge, dec_yes, dec_no, hv, hb, e3, e4, c, wrap_in, IntKind.bits]
      · have e3 : ¬ bi a / 64 = 2 := by unfold cont at c; omega
        simp (disch := omega) [A_ref1_IsEdge, dec_yes, dec_no, hv, hb, e3, e4, c, wrap_in, IntKind.bits]

theorem clean_at (s : ByteArray) (i : Nat) (h : i < s.size) : clean ((L s).drop i) = if sizeAt s i = 0 then enc 65533 ++ clean ((L s).drop (i + 1)) else ((L s).drop i).take (sizeAt s i) ++ clean ((L s).drop (i + sizeAt s i)) := by
  obtain ⟨a, t, hd⟩ := drop_at s i h
  have ht := (bt_at s i a t hd).2.2
  unfold sizeAt
  rw [decAt_nat]
  by_cases c : (dec ((L s).drop i)).1 = 0
  · rw [if_pos c, hd]
    rw [hd] at c
    rw [clean_none c, ht]
  · rw [if_neg c]
    obtain ⟨hs, r, hr, hn⟩ := dec_enc ((L s).drop i) _ _ (Prod.eta _).symm c
    have e1 : ((L s).drop i).take (dec ((L s).drop i)).1 = enc (dec ((L s).drop i)).2 := by
      conv => lhs; arg 2; rw [hr]
      rw [← hn, List.take_left]
    have e2 : (L s).drop (i + (dec ((L s).drop i)).1) = r := by
      rw [← List.drop_drop]
      conv => lhs; arg 2; rw [hr]
      rw [← hn, List.drop_left]
    rw [e1, e2]
    conv => lhs; rw [hr]
    exact clean_enc1 hs r
theorem enc_bad3 : enc 65533 = [239, 191, 189] := by decide
theorem badS : (⟨#[239, 191, 189]⟩ : ByteArray) = ⟨(enc 65533).toArray⟩ := by rw [enc_bad3]
theorem append_mk (t : ByteArray) (l : List UInt8) : t ++ ⟨l.toArray⟩ = ⟨(L t ++ l).toArray⟩ := by
  apply L_inj; rw [L_append, L_mk l, L_mk (L t ++ l)]
theorem size_mk (l : List UInt8) : (⟨l.toArray⟩ : ByteArray).size = l.length := by rw [← L_len, L_mk]
theorem extract_mk (s : ByteArray) (i n : Nat) : s.extract i (i + n) = ⟨(((L s).drop i).take n).toArray⟩ := by
  apply L_inj; rw [L_extract, L_mk (((L s).drop i).take n), Nat.add_sub_cancel_left]

set_option maxHeartbeats 1000000 in
theorem refClean_loop (s : ByteArray) (hs : s.size < 68719476736) : ∀ (m i : Nat) (acc : List UInt8), s.size ≤ i + m → i ≤ s.size → acc.length ≤ 4 * i → Code (EX cp) L_ref1_Clean_0 ⟨[(0, .p (.sc (.string s))), (3, .p (.sc (.string ⟨acc.toArray⟩))), (4, .p (pi i))], []⟩ =
    some (.ex 0, ⟨[(0, .p (.sc (.string s))), (3, .p (.sc (.string ⟨(acc ++ clean ((L s).drop i)).toArray⟩))), (4, .p (pi s.size)), (12, .p (pb false))], []⟩) := by
  intro m
  induction m with
  | zero =>
    intro i acc h1 h2 h3
    have : i = s.size := by omega
    subst this
    rw [drop_end s _ (Nat.le_refl _), L_ref1_Clean_0, k_loop]
    simp [clean, points_nil]
  | succ m ih =>
    intro i acc h1 h2 h3
    by_cases hlt : i < s.size
    · have hz := refSize (cp := cp) s i (by omega)
      have hle := sizeAt_le s i h2
      rw [clean_at s i hlt]
      have hsz := size_mk acc
      by_cases c : sizeAt s i = 0
      · obtain ⟨bd, hbd, hbl, hbs⟩ : ∃ bd, enc 65533 = bd ∧ bd.length = 3 ∧ (⟨#[239, 191, 189]⟩ : ByteArray) = ⟨bd.toArray⟩ := ⟨_, rfl, by rw [enc_bad3]; rfl, badS⟩
        rw [hbd]
        have ih' := ih (i + 1) (acc ++ bd) (by omega) (by omega) (by simp; omega)
        have hm := append_mk ⟨acc.toArray⟩ bd
        rw [L_mk acc] at hm
        have h3s : (⟨bd.toArray⟩ : ByteArray).size = 3 := by rw [size_mk, hbl]
        rw [if_pos c, ← List.append_assoc, ← ih', L_ref1_Clean_0, k_loop]
        simp (disch := omega) [dec_yes, dec_no, hlt, hz, c, wrap_in, hbs, hsz, h3s, hm, if_yes]
      · have hc : ¬ ((sizeAt s i : Nat) : Int) = 0 := by omega
        have hx := extract_mk s i (sizeAt s i)
        generalize hn : sizeAt s i = n at *
        have htl : (((L s).drop i).take n).length = n := by rw [List.length_take, List.length_drop, L_len]; omega
        generalize ((L s).drop i).take n = seg at *
        have ih' := ih (i + n) (acc ++ seg) (by omega) (by omega) (by simp; omega)
        have hm := append_mk ⟨acc.toArray⟩ seg
        have hss := size_mk seg
        rw [L_mk acc] at hm
        have e9 : ((i : Int) + (n : Int)).toNat = i + n := by omega
        have e8 : i + n ≤ s.size := by omega
        rw [if_neg c, ← List.append_assoc, ← ih', L_ref1_Clean_0, k_loop]
        simp (disch := omega) [dec_yes, dec_no, hlt, hz, hc, c, wrap_in, hsz, hss, htl, hm, hx, e9, e8, if_yes]
    · have : i = s.size := by omega
      subst this
      rw [drop_end s _ (Nat.le_refl _), L_ref1_Clean_0, k_loop]
      simp [clean, points_nil]
theorem refClean (s : ByteArray) (hs : s.size < 68719476736) : Run (EX cp) 35 [.sc (.string s)] = some (.val (.sc (.string (cleanS s)))) := by
  have h1 := refValid (cp := cp) s (by omega)
  have h2 := refClean_loop (cp := cp) s hs s.size 0 [] (by omega) (by omega) (by simp)
  simp only [List.drop_zero, Int.ofNat_zero, Int.natCast_zero, List.nil_append] at h2
  rw [run_fn _ A_ref1_Clean _ rfl rfl rfl]
  cases hv : valid (L s) with
  | true =>
    rw [hv] at h1
    have : cleanS s = s := by unfold cleanS; rw [clean_of_valid _ hv, mk_L]
    simp [A_ref1_Clean, h1, this]
  | false =>
    rw [hv] at h1
    simp [A_ref1_Clean, h1, h2, cleanS]

/-! ### texts in a row -/
def strs (l : List ByteArray) : List (List PV) := l.map fun x => [.sc (.string x)]
@[simp] theorem strs_len (l : List ByteArray) : (strs l).length = l.length := by simp [strs]
@[simp] theorem strs_nil : strs [] = [] := rfl
@[simp] theorem strs_snoc (l : List ByteArray) (x : ByteArray) : strs l ++ [[.sc (.string x)]] = strs (l ++ [x]) := by simp [strs]
theorem strs_at (l : List ByteArray) (n : Nat) (h : n < l.length) : (strs l)[n]? = some [.sc (.string l[n])] := by simp [strs, List.getElem?_eq_getElem h]
/-- A code point's text. -/
def chS (v : Int) : ByteArray := ⟨(enc v).toArray⟩
def ptsS (l : List UInt8) : List ByteArray := (points l).map chS
theorem ptsS_at (s : ByteArray) (i : Nat) (h : i < s.size) (hv : valid ((L s).drop i) = true) : sizeAt s i ≠ 0 ∧ ptsS ((L s).drop i) = (⟨(((L s).drop i).take (sizeAt s i)).toArray⟩ : ByteArray) :: ptsS ((L s).drop (i + sizeAt s i)) ∧ valid ((L s).drop (i + sizeAt s i)) = true := by
  rw [valid_at s i h] at hv
  by_cases c : sizeAt s i = 0
  · rw [if_pos c] at hv; simp at hv
  · rw [if_neg c] at hv
    refine ⟨c, ?_, hv⟩
    unfold ptsS
    rw [points_at s i h, if_neg c, List.map_cons]
    congr 1
    unfold sizeAt at c ⊢
    rw [decAt_nat] at c ⊢
    obtain ⟨hs, r, hr, hn⟩ := dec_enc ((L s).drop i) _ _ (Prod.eta _).symm c
    have e1 : ((L s).drop i).take (dec ((L s).drop i)).1 = enc (dec ((L s).drop i)).2 := by
      conv => lhs; arg 2; rw [hr]
      rw [← hn, List.take_left]
    rw [e1]; rfl
set_option maxHeartbeats 1000000 in
theorem refPoints_loop (s : ByteArray) (hs : s.size < 1099511627776) : ∀ (m i : Nat) (acc : List ByteArray), s.size ≤ i + m → i ≤ s.size → acc.length ≤ i → valid ((L s).drop i) = true → Code (EX cp) L_ref1_Points_0 ⟨[(3, .p (.sc (.string s))), (4, .ms 4 0 acc.length), (5, .p (pi i))], [(4, .row 9 1 false (strs acc))]⟩ =
    some (.ex 0, ⟨[(3, .p (.sc (.string s))), (4, .ms 4 0 (acc ++ ptsS ((L s).drop i)).length), (5, .p (pi s.size)), (12, .p (pb false))], [(4, .row 9 1 false (strs (acc ++ ptsS ((L s).drop i))))]⟩) := by
  intro m
  induction m with
  | zero =>
    intro i acc h1 h2 h3 h4
    have : i = s.size := by omega
    subst this
    rw [drop_end s _ (Nat.le_refl _), L_ref1_Points_0, k_loop]
    simp [ptsS, points_nil]
  | succ m ih =>
    intro i acc h1 h2 h3 h4
    by_cases hlt : i < s.size
    · have hz := refSize (cp := cp) s i hs
      have hle := sizeAt_le s i h2
      obtain ⟨c, hp, hv⟩ := ptsS_at s i hlt h4
      have hx := extract_mk s i (sizeAt s i)
      rw [hp]
      generalize hn : sizeAt s i = n at *
      generalize (⟨(((L s).drop i).take n).toArray⟩ : ByteArray) = seg at *
      have ih' := ih (i + n) (acc ++ [seg]) (by omega) (by omega) (by simp; omega) hv
      have e9 : ((i : Int) + (n : Int)).toNat = i + n := by omega
      have e8 : i + n ≤ s.size := by omega
      have hcap : (acc.length + 1) * 16 ≤ maxBytes ∧ acc.length + 1 ≤ 9223372036854775807 := by unfold maxBytes; omega
      have e : acc ++ seg :: ptsS ((L s).drop (i + n)) = (acc ++ [seg]) ++ ptsS ((L s).drop (i + n)) := by simp
      rw [e, ← ih', L_ref1_Points_0, k_loop]
      simp (disch := omega) [dec_yes, dec_no, hlt, hz, wrap_in, hx, e9, e8, hcap, if_yes]
    · have : i = s.size := by omega
      subst this
      rw [drop_end s _ (Nat.le_refl _), L_ref1_Points_0, k_loop]
      simp [ptsS, points_nil]
theorem refPoints (s : ByteArray) (hs : s.size < 68719476736) : Run (EX cp) 50 [.sc (.string s)] = some (.own 9 1 (strs (ptsS (clean (L s))))) := by
  have h1 := refClean (cp := cp) s hs
  have hle := clean_le (L s)
  rw [L_len] at hle
  have hsz : (cleanS s).size = (clean (L s)).length := size_mk _
  have h2 := refPoints_loop (cp := cp) (cleanS s) (by omega) (cleanS s).size 0 [] (by omega) (by omega) (by simp) (by rw [List.drop_zero]; unfold cleanS; rw [L_mk]; exact clean_valid _)
  rw [run_fn _ A_ref1_Points _ rfl rfl rfl]
  have e : L (cleanS s) = clean (L s) := L_mk _
  rw [List.drop_zero, e] at h2
  simp at h2
  simp [A_ref1_Points, h1, h2]
theorem pts_clean (l : List UInt8) : points (clean l) = points l := points_encs' _ (points_sc l)
end Go.Proofs.Ytomnggbideepeaa.AM

end
section
/- The tree's All, walked by hand. No condition. -/
namespace Go.Proofs.Ytomnggbideepeaa.AM
open Go.RowKit
set_option linter.unusedVariables false
set_option linter.unusedSimpArgs false
/-- What All tells. -/
def allF : PV → Option (List ByteArray)
  | .sc (.pointer none) => some []
  | .pt (k :: i :: .sc (.int .i64 n) :: .sc (.int .i64 d) :: r) => match nodeF d.toNat (.pt (k :: i :: .sc (.int .i64 n) :: .sc (.int .i64 d) :: r)) with
    | some l => if n = l.length ∧ l.length * 16 ≤ 140737488355328 then some l else none
    | none => none
  | _ => none
theorem owns_make (w : World) (B e k cap : Nat) (cs : Array Value) (hB : B ≤ w.heap.size) (hc : cap ≤ maxLen) (hs : cs.size = cap * k) : (w.alloc (.cells cs e)).ownsRow B e k (.slice (some ⟨w.heap.size, 0, none⟩) 0 cap) 0 [] := by
  refine ⟨by simp, .inr ⟨w.heap.size, cap, cs, rfl, hB, ?_, Nat.zero_le _, hc, hs, by simp⟩⟩
  show (w.heap.push _)[w.heap.size]? = _
  simp
theorem own_done {w0 w' : World} {lm0 : Nat → Nat} {v' : Value} {l : List ByteArray} (h1 : Below w0.heap.size w0 w') (h2 : w'.ownsRow w0.heap.size 97 1 v' l.length (l.map Value.string)) :
    ∃ u lm', Ending.returned v' = .returned u ∧ Below w0.heap.size w0 w' ∧ (∀ b, b < w0.heap.size → lm' b = lm0 b) ∧ RRep w0.heap.size w' lm' (.own 97 1 (strs l)) u := by
  refine ⟨v', fun b => if b < w0.heap.size then lm0 b else 0, rfl, h1, fun b hb => if_pos hb, by omega, ?_, ⟨l.map Value.string, by rw [strs_len]; exact h2, ?_, ?_⟩, fun b hb => if_neg ?_⟩
  · intro c hc
    obtain ⟨s, _, rfl⟩ := List.mem_map.1 hc; rfl
  · clear h2
    induction l with
    | nil => exact .nil
    | cons s l ih => exact .cons (.sc _) ih
  · intro x hx
    obtain ⟨s, _, rfl⟩ := List.mem_map.1 hx; rfl
  · have := (owns_block h2 hb).1
    omega
theorem make_items (w : World) (n : Nat) (hn : n * 16 ≤ 140737488355328) : ∃ cs : Array Value, cs.size = n * 1 ∧ (Instr.makeSlice 101 (.int .i64 0) (.int .i64 n)).run Try.prog w = .ok (.slice (some ⟨w.heap.size, 0, none⟩) 0 n) (w.alloc (.cells cs 97)) := by
  obtain ⟨i, z, hi, hz, hi1, hby1, hzs⟩ := elOk_sound item_el
  have h := run_make (P := Try.prog) w 101 97 i z Try.underlying101 hi hz .i64 .i64 0 n (by omega) (by omega) (by rw [hby1]; omega) (by omega)
  simp only [Int.toNat_natCast] at h
  exact ⟨_, by rw [size_madeCells, hi1], h⟩
set_option maxHeartbeats 4000000 in
set_option maxRecDepth 100000 in
theorem seq_all (x : PV) (l : List ByteArray) (h : allF x = some l) : CallOK' Try.prog 62 [.st [x]] (.own 97 1 (strs l)) := by
  intro w0 lm0 vs _ hvs
  cases hvs with
  | cons hv hn =>
  cases hn
  rename_i v
  cases hv with
  | st hl ho =>
  cases hl with
  | cons hx hn =>
  cases hn
  rename_i xv
  unfold allF at h
  split at h
  case h_3 => simp at h
  · obtain rfl := Option.some.inj h
    cases hx
    go_enter Try.func62, Try.ntmps62
    go_wp2
    obtain ⟨cs, hcs, hmk⟩ := make_items ((w0.alloc (.cells #[.pointer none] 87)).alloc (.cells #[.pointer none] 87)) 0 (by omega)
    rw [show ((0 : Nat) : Int) = 0 from rfl] at hmk
    rw [hmk]
    simp only [Result.andThen]
    rw [Oper.upon_value]
    go_wp2
    go_ret
    have q1 := (Below.refl w0.heap.size w0).alloc (Nat.le_refl _) (.cells #[.pointer none] 87)
    have q2 := q1.alloc q1.size (.cells #[.pointer none] 87)
    have ho := owns_make _ w0.heap.size 97 1 0 cs q2.size (by simp [maxLen]) hcs
    rw [show ((w0.alloc (.cells #[.pointer none] 87)).alloc (.cells #[.pointer none] 87)).heap.size = w0.heap.size + 1 + 1 from by simp] at ho
    exact own_done (l := []) (q2.alloc q2.size _) ho
  · rename_i kk ii n d r
    split at h
    case h_2 => simp at h
    rename_i l' hnf
    split at h
    case isFalse => simp at h
    rename_i hb
    obtain rfl := Option.some.inj h
    obtain ⟨rfl, hb⟩ := hb
    have hx' := hx
    cases hx with
    | pt hl hm =>
    rename_i vs b o
    cases hl with
    | cons r0 hl => cases hl with
    | cons r1 hl => cases hl with
    | cons r2 hl =>
    rename_i v0 v1 v2 vs2
    cases r2
    have c2 := (hm 2 _ rfl).1
    have hlt : b < w0.heap.size := by
      rcases Nat.lt_or_ge b w0.heap.size with h' | h'
      · exact h'
      · simp [World.cell?, Array.getElem?_eq_none h'] at c2
    obtain ⟨A, hA⟩ : ∃ A : Obj, A = .cells #[.pointer (some ⟨b, o, none⟩)] 87 := ⟨_, rfl⟩
    have q1 := (Below.refl w0.heap.size w0).alloc (Nat.le_refl _) A
    have q2 := q1.alloc q1.size A
    have x2 : ((w0.alloc A).alloc A).cell? ⟨b, o + 2, none⟩ = some (.int .i64 l'.length) := (World.cell?_of_block (a := ⟨b, o + 2, none⟩) (q2.block b hlt)).trans c2
    rw [hA] at x2 q2
    clear hl hm c2 q1
    go_enter Try.func62, Try.ntmps62
    go_wp2
    obtain ⟨cs, hcs, hmk⟩ := make_items ((w0.alloc (.cells #[.pointer (some ⟨b, o, none⟩)] 87)).alloc (.cells #[.pointer (some ⟨b, o, none⟩)] 87)) l'.length hb
    rw [hmk]
    simp only [Result.andThen]
    rw [Oper.upon_value]
    have q3 := q2.alloc q2.size (.cells cs 97)
    have ho := owns_make _ w0.heap.size 97 1 l'.length cs q2.size (by simp only [maxLen]; omega) hcs
    rw [show ((w0.alloc (.cells #[.pointer (some ⟨b, o, none⟩)] 87)).alloc (.cells #[.pointer (some ⟨b, o, none⟩)] 87)).heap.size = w0.heap.size + 1 + 1 from by simp] at ho ⊢
    have hcallee := node_all d.toNat _ l' hnf w0 lm0 _ _ _ 0 [] hx' q3 ho (by omega)
    clear ho q3 x2 hmk hnf hx' q2
    have xq : ((((w0.alloc (.cells #[.pointer (some ⟨b, o, none⟩)] 87)).alloc (.cells #[.pointer (some ⟨b, o, none⟩)] 87)).alloc (.cells cs 97))).cell? ⟨w0.heap.size, 0, none⟩ = some (.pointer (some ⟨b, o, none⟩)) := by
      have e1 := Lib.alloc_old ((w0.alloc (.cells #[.pointer (some ⟨b, o, none⟩)] 87)).alloc (.cells #[.pointer (some ⟨b, o, none⟩)] 87)) (.cells cs 97) w0.heap.size (by simp; omega)
      have e2 := Lib.alloc_old (w0.alloc (.cells #[.pointer (some ⟨b, o, none⟩)] 87)) (.cells #[.pointer (some ⟨b, o, none⟩)] 87) w0.heap.size (by simp)
      have e3 : (w0.alloc (.cells #[.pointer (some ⟨b, o, none⟩)] 87)).heap[w0.heap.size]? = some (.cells #[.pointer (some ⟨b, o, none⟩)] 87 (0, 0)) := by
        show (w0.heap.push _)[w0.heap.size]? = _
        simp
      have e4 := e1.trans (e2.trans e3)
      simp [World.cell?, e4]
    generalize (((w0.alloc (.cells #[.pointer (some ⟨b, o, none⟩)] 87)).alloc (.cells #[.pointer (some ⟨b, o, none⟩)] 87)).alloc (.cells cs 97)) = W at *
    go_wp2_with (go_at_call 88; refine hcallee.mono ?_; rintro e w3 ⟨v3, rfl, hB3, hown3⟩)
    go_ret
    rw [Nat.zero_add, List.nil_append] at hown3
    exact own_done hB3 hown3
end Go.Proofs.Ytomnggbideepeaa.AM

end
section
/- count.Get walked by hand. No condition. -/
namespace Go.Proofs.Ytomnggbideepeaa.AM
open Go.RowKit
set_option linter.unusedVariables false
set_option linter.unusedSimpArgs false
theorem getIs (a1 : Int) (w : World) : Calls Try.prog 69 #[.int .i64 a1] w fun e w' => e = .returned (.bool (decide (0 ≤ a1 ∧ a1 ≤ 3))) ∧ w = w' := by
  by_cases c : 0 ≤ a1
  · have c1 : decide (0 ≤ a1) = true := decide_eq_true c
    by_cases d : a1 ≤ 3
    · have d1 : decide (a1 ≤ 3) = true := decide_eq_true d
      rw [decide_eq_true (show 0 ≤ a1 ∧ a1 ≤ 3 from ⟨c, d⟩)]
      go_enter Try.func69, Try.ntmps69
      go_wp2
      go_ret
      exact ⟨rfl, rfl⟩
    · have d1 : decide (a1 ≤ 3) = false := decide_eq_false d
      rw [decide_eq_false (show ¬ (0 ≤ a1 ∧ a1 ≤ 3) by omega)]
      go_enter Try.func69, Try.ntmps69
      go_wp2
      go_ret
      exact ⟨rfl, rfl⟩
  · have c1 : decide (0 ≤ a1) = false := decide_eq_false c
    rw [decide_eq_false (show ¬ (0 ≤ a1 ∧ a1 ≤ 3) by omega)]
    go_enter Try.func69, Try.ntmps69
    go_wp2
    go_ret
    exact ⟨rfl, rfl⟩
set_option maxHeartbeats 8000000 in
set_option maxRecDepth 100000 in
theorem getCalls (a0_0 a0_1 a0_2 a0_3 a1 : Int) (w : World) :
    Calls Try.prog 68 #[.agg #[.int .i64 a0_0, .int .i64 a0_1, .int .i64 a0_2, .int .i64 a0_3], .int .i64 a1] w fun e w' => e = .returned (.int .i64 (if a1 = 0 then a0_0 else if a1 = 1 then a0_1 else if a1 = 2 then a0_2 else if a1 = 3 then a0_3 else 0)) ∧ Below w.heap.size w w' := by
  have hIs := getIs a1
  by_cases c : 0 ≤ a1 ∧ a1 ≤ 3
  · rw [decide_eq_true c] at hIs
    rcases (by omega : a1 = 0 ∨ a1 = 1 ∨ a1 = 2 ∨ a1 = 3) with rfl | rfl | rfl | rfl
    · clear c
      have ix : ∀ w, (Instr.index 134 (.agg #[.int .i64 a0_0, .int .i64 a0_1, .int .i64 a0_2, .int .i64 a0_3]) (.int .i64 0)).run Try.prog w = .ok (.int .i64 a0_0) w := fun _ => by kernel_rfl
      go_enter Try.func68, Try.ntmps68
      go_wp2_with (go_at_call 69; (with_reducible refine (hIs _).mono ?_); rintro e w1 ⟨rfl, rfl⟩)
      go_ret
      exact ⟨rfl, (Below.refl _ _).alloc (Nat.le_refl _) _⟩
    · clear c
      have ix : ∀ w, (Instr.index 134 (.agg #[.int .i64 a0_0, .int .i64 a0_1, .int .i64 a0_2, .int .i64 a0_3]) (.int .i64 1)).run Try.prog w = .ok (.int .i64 a0_1) w := fun _ => by kernel_rfl
      go_enter Try.func68, Try.ntmps68
      go_wp2_with (go_at_call 69; (with_reducible refine (hIs _).mono ?_); rintro e w1 ⟨rfl, rfl⟩)
      go_ret
      exact ⟨rfl, (Below.refl _ _).alloc (Nat.le_refl _) _⟩
    · clear c
      have ix : ∀ w, (Instr.index 134 (.agg #[.int .i64 a0_0, .int .i64 a0_1, .int .i64 a0_2, .int .i64 a0_3]) (.int .i64 2)).run Try.prog w = .ok (.int .i64 a0_2) w := fun _ => by kernel_rfl
      go_enter Try.func68, Try.ntmps68
      go_wp2_with (go_at_call 69; (with_reducible refine (hIs _).mono ?_); rintro e w1 ⟨rfl, rfl⟩)
      go_ret
      exact ⟨rfl, (Below.refl _ _).alloc (Nat.le_refl _) _⟩
    · clear c
      have ix : ∀ w, (Instr.index 134 (.agg #[.int .i64 a0_0, .int .i64 a0_1, .int .i64 a0_2, .int .i64 a0_3]) (.int .i64 3)).run Try.prog w = .ok (.int .i64 a0_3) w := fun _ => by kernel_rfl
      go_enter Try.func68, Try.ntmps68
      go_wp2_with (go_at_call 69; (with_reducible refine (hIs _).mono ?_); rintro e w1 ⟨rfl, rfl⟩)
      go_ret
      exact ⟨rfl, (Below.refl _ _).alloc (Nat.le_refl _) _⟩
  · rw [decide_eq_false c] at hIs
    rw [if_neg (by omega), if_neg (by omega), if_neg (by omega), if_neg (by omega)]
    clear c
    go_enter Try.func68, Try.ntmps68
    go_wp2_with (go_at_call 69; (with_reducible refine (hIs _).mono ?_); rintro e w1 ⟨rfl, rfl⟩)
    go_ret
    exact ⟨rfl, (Below.refl _ _).alloc (Nat.le_refl _) _⟩

theorem get_ok (args : List PV) (r : Ret) (h : getF args = some r) : CallOK' Try.prog 68 args r := by
  unfold getF at h
  split at h
  case h_2 => simp at h
  rename_i a b c d k
  obtain rfl := Option.some.inj h
  intro w0 lm0 vs _ hvs
  cases hvs with
  | cons hv hn => cases hn with
  | cons hk hn =>
  cases hn
  cases hk
  cases hv with
  | st hl ho =>
  cases hl with
  | cons r0 hl => cases hl with
  | cons r1 hl => cases hl with
  | cons r2 hl => cases hl with
  | cons r3 hl =>
  cases hl
  cases r0
  cases r1
  cases r2
  cases r3
  refine (getCalls a b c d k w0).mono ?_
  rintro e w' ⟨rfl, hb⟩
  exact ⟨_, fun b => if b < w0.heap.size then lm0 b else 0, rfl, hb, fun b hb => if_pos hb, .sc _⟩
end Go.Proofs.Ytomnggbideepeaa.AM

end
section
/- The functions told by hand answer as told: what the small machine computes of this program, Go computes. No condition. -/
namespace Go.Proofs.Ytomnggbideepeaa.AM
set_option linter.unusedSimpArgs false
set_option linter.unusedVariables false
open Go.RowKit
theorem call_ws : Callable Try.prog 63 := ⟨_, Try.func63, by decide +kernel, by kernel_rfl⟩
theorem call_wr : Callable Try.prog 98 := ⟨_, Try.func98, by decide +kernel, by kernel_rfl⟩
theorem call_st : Callable Try.prog 64 := ⟨_, Try.func64, by decide +kernel, by kernel_rfl⟩
theorem call_fo : Callable Try.prog 114 := ⟨_, Try.func114, by decide +kernel, by kernel_rfl⟩
theorem call_ge : Callable Try.prog 68 := ⟨_, Try.func68, by decide +kernel, by kernel_rfl⟩
theorem call_al : Callable Try.prog 62 := ⟨_, Try.func62, by decide +kernel, by kernel_rfl⟩
/-- With what cp tells as given. -/
theorem envOk (cp : List PV → Option Ret) (hcp : ∀ f args r, cp (.fn f [] :: args) = some r → CallOK Try.prog f args r ∧ Callable Try.prog f) : EnvOk Try.prog (EX cp) := by
  refine ⟨mixed, okPrg, ?_⟩
  intro f args r he hr
  change extF cp f args = some r at hr
  unfold extF at hr
  split at hr
  · rename_i hf
    subst hf
    split at hr
    · obtain rfl := Option.some.inj hr
      exact ⟨show SbOK _ 1 _ _ _ from by simpa [SbOK] using sbWrite, call_ws⟩
    · simp at hr
  split at hr
  · rename_i hf
    subst hf
    split at hr
    · obtain rfl := Option.some.inj hr
      exact ⟨show SbOK _ 3 _ _ _ from by simpa [SbOK] using sbRune, call_wr⟩
    · simp at hr
  split at hr
  · rename_i hf
    subst hf
    split at hr
    · obtain rfl := Option.some.inj hr
      exact ⟨show SbOK _ 2 _ _ _ from by simpa [SbOK] using sbString, call_st⟩
    · simp at hr
  split at hr
  · rename_i hf
    subst hf
    split at hr
    · obtain rfl := Option.some.inj hr
      exact ⟨forms_ok, call_fo⟩
    · simp at hr
  split at hr
  · rename_i hf
    subst hf
    refine ⟨?_, call_ge⟩
    have h := get_ok args r hr
    unfold getF at hr
    split at hr
    · obtain rfl := Option.some.inj hr
      exact h
    · simp at hr
  split at hr
  · exact hcp _ _ _ hr
  split at hr
  · exact hcp _ _ _ hr
  split at hr
  · exact hcp _ _ _ hr
  · simp at hr
/-- The tree's All told, nothing else. -/
def cpA : List PV → Option Ret
  | [.fn f [], .st [x]] => if f = 62 then (match allF x with | some l => some (.own 97 1 (strs l)) | none => none) else none
  | _ => none
theorem cpA_ok : ∀ f args r, cpA (.fn f [] :: args) = some r → CallOK Try.prog f args r ∧ Callable Try.prog f := by
  intro f args r h
  unfold cpA at h
  split at h
  · rename_i f' x heq
    injection heq with e1 e2
    injection e1 with e1 _
    subst e1; subst e2
    split at h
    · rename_i hf
      subst hf
      split at h
      · rename_i l hl
        obtain rfl := Option.some.inj h
        exact ⟨seq_all x l hl, call_al⟩
      · simp at h
    · simp at h
  · simp at h
def EA : Env := EX cpA
theorem EAok : EnvOk Try.prog EA := envOk _ cpA_ok
end Go.Proofs.Ytomnggbideepeaa.AM

end
section
/- Plain: counts of texts and of rows of texts. No condition. -/
namespace Go.Proofs.Ytomnggbideepeaa.AM
set_option linter.unusedSimpArgs false
set_option linter.unusedVariables false
open Go Go.Proofs.Ytomnggbideepeaa.U
abbrev C4 := Int × Int × Int × Int
def cu (v : Int) : Int := if 65536 ≤ v then 2 else 1
def cl (v : Int) : Int := if v = 10 then 1 else 0
def one4 (v : Int) : C4 := (((enc v).length : Int), 1, cu v, cl v)
def add4 (a b : C4) : C4 := (a.1 + b.1, a.2.1 + b.2.1, a.2.2.1 + b.2.2.1, a.2.2.2 + b.2.2.2)
def cnt : List Int → C4
  | [] => (0, 0, 0, 0)
  | v :: l => add4 (one4 v) (cnt l)
def get4 (c : C4) (k : Int) : Int := if k = 0 then c.1 else if k = 1 then c.2.1 else if k = 2 then c.2.2.1 else if k = 3 then c.2.2.2 else 0
def C4.cells (c : C4) : List PV := [pi c.1, pi c.2.1, pi c.2.2.1, pi c.2.2.2]
theorem add4_zero (a : C4) : add4 a (0, 0, 0, 0) = a := by simp [add4]
theorem zero_add4 (a : C4) : add4 (0, 0, 0, 0) a = a := by simp [add4]
theorem add4_assoc (a b c : C4) : add4 (add4 a b) c = add4 a (add4 b c) := by
  simp only [add4, Prod.mk.injEq]; omega
theorem cnt_append (a b : List Int) : cnt (a ++ b) = add4 (cnt a) (cnt b) := by
  induction a with
  | nil => rw [List.nil_append, cnt, zero_add4]
  | cons v a ih => rw [List.cons_append, cnt, ih, cnt, add4_assoc]
theorem cnt_snoc (a : List Int) (v : Int) : cnt (a ++ [v]) = add4 (cnt a) (one4 v) := by rw [cnt_append, cnt, cnt, add4_zero]
theorem cu_range (v : Int) : 1 ≤ cu v ∧ cu v ≤ 2 := by unfold cu; split <;> omega
theorem cl_range (v : Int) : 0 ≤ cl v ∧ cl v ≤ 1 := by unfold cl; split <;> omega
theorem cnt_range (l : List Int) : 0 ≤ (cnt l).1 ∧ (cnt l).1 ≤ 4 * l.length ∧ (cnt l).2.1 = l.length ∧ 0 ≤ (cnt l).2.2.1 ∧ (cnt l).2.2.1 ≤ 2 * l.length ∧ 0 ≤ (cnt l).2.2.2 ∧ (cnt l).2.2.2 ≤ l.length := by
  induction l with
  | nil => simp [cnt]
  | cons v l ih =>
    have a := enc_len v
    have b := cu_range v
    have c := cl_range v
    simp only [cnt, add4, one4, List.length_cons]
    omega
theorem cnt_bytes (l : List Int) : (cnt l).1 = ((encs l).length : Int) := by
  induction l with
  | nil => rfl
  | cons v l ih => rw [encs_cons, List.length_append]; simp only [cnt, add4, one4]; omega
/-- A text's counts. -/
def cntS (s : ByteArray) : C4 := cnt (points (L s))
/-- A row's counts. -/
def cntP : List ByteArray → C4
  | [] => (0, 0, 0, 0)
  | x :: l => add4 (cntS x) (cntP l)
theorem cntP_append (a b : List ByteArray) : cntP (a ++ b) = add4 (cntP a) (cntP b) := by
  induction a with
  | nil => rw [List.nil_append, cntP, zero_add4]
  | cons v a ih => rw [List.cons_append, cntP, ih, cntP, add4_assoc]
/-- All bytes of a row. -/
def flat (l : List ByteArray) : List UInt8 := l.flatMap L
theorem flat_append (a b : List ByteArray) : flat (a ++ b) = flat a ++ flat b := by simp [flat]
theorem flat_cons (x : ByteArray) (l : List ByteArray) : flat (x :: l) = L x ++ flat l := rfl
theorem cntS_range (s : ByteArray) : 0 ≤ (cntS s).1 ∧ (cntS s).1 ≤ 4 * s.size ∧ 0 ≤ (cntS s).2.1 ∧ (cntS s).2.1 ≤ s.size ∧ 0 ≤ (cntS s).2.2.1 ∧ (cntS s).2.2.1 ≤ 2 * s.size ∧ 0 ≤ (cntS s).2.2.2 ∧ (cntS s).2.2.2 ≤ s.size := by
  have h := cnt_range (points (L s))
  have h2 := points_le (L s)
  rw [L_len] at h2
  unfold cntS
  omega
theorem cntP_range (l : List ByteArray) : 0 ≤ (cntP l).1 ∧ (cntP l).1 ≤ 4 * (flat l).length ∧ 0 ≤ (cntP l).2.1 ∧ (cntP l).2.1 ≤ (flat l).length ∧ 0 ≤ (cntP l).2.2.1 ∧ (cntP l).2.2.1 ≤ 2 * (flat l).length ∧ 0 ≤ (cntP l).2.2.2 ∧ (cntP l).2.2.2 ≤ (flat l).length := by
  induction l with
  | nil => simp [cntP, flat]
  | cons x l ih =>
    have h := cntS_range x
    rw [flat_cons, List.length_append, L_len]
    simp only [cntP, add4]
    omega
/-- Of valid texts the counts are those of all of it. -/
theorem cntP_flat (l : List ByteArray) (h : ∀ x ∈ l, valid (L x) = true) : cntP l = cnt (points (flat l)) := by
  induction l with
  | nil => show _ = cnt (points []); rw [points_nil]; rfl
  | cons x l ih =>
    rw [flat_cons, points_append (h x (by simp)), cnt_append, cntP, ih fun y hy => h y (by simp [hy])]
    rfl
theorem valid_flat (l : List ByteArray) (h : ∀ x ∈ l, valid (L x) = true) : valid (flat l) = true := by
  induction l with
  | nil => exact valid_nil
  | cons x l ih =>
    rw [flat_cons, valid_append (h x (by simp))]
    exact ih fun y hy => h y (by simp [hy])
/-- Of a valid text the first count is how many bytes it has. -/
theorem cntS_size (s : ByteArray) (h : valid (L s) = true) : (cntS s).1 = s.size := by
  unfold cntS
  rw [cnt_bytes]
  have : encs (points (L s)) = L s := clean_of_valid _ h
  rw [this, L_len]
theorem get4_add (a b : C4) (k : Int) : get4 (add4 a b) k = get4 a k + get4 b k := by
  unfold get4 add4; split <;> (try split) <;> (try split) <;> (try split) <;> simp
theorem get4_range (c : C4) (k n : Int) (h1 : 0 ≤ c.1 ∧ c.1 ≤ n) (h2 : 0 ≤ c.2.1 ∧ c.2.1 ≤ n) (h3 : 0 ≤ c.2.2.1 ∧ c.2.2.1 ≤ n) (h4 : 0 ≤ c.2.2.2 ∧ c.2.2.2 ≤ n) : 0 ≤ get4 c k ∧ get4 c k ≤ n := by
  unfold get4
  have : 0 ≤ n := by omega
  split
  · exact h1
  split
  · exact h2
  split
  · exact h3
  split
  · exact h4
  · omega
end Go.Proofs.Ytomnggbideepeaa.AM

end
section
/- Plain: pieces of a text: valid, not empty, 64 bytes at most, two beside one another don't fit into one. No condition. -/
namespace Go.Proofs.Ytomnggbideepeaa.AM
set_option linter.unusedSimpArgs false
set_option linter.unusedVariables false
open Go Go.Proofs.Ytomnggbideepeaa.U
theorem valid_head2 {a : UInt8} {t : List UInt8} (h : valid (a :: t) = true) : ¬ cont a := by
  intro hc
  rw [valid_none (dec_cont hc t)] at h; simp at h
/-- Of four bytes of a valid text one begins a code point. -/
theorem four (l : List UInt8) : ∀ i, i + 4 ≤ l.length → valid l = true → ∃ j, j ≤ 3 ∧ ∀ b, l[i + j]? = some b → ¬ cont b := by
  induction l using along with
  | h0 => intro i h _; simp at h
  | h1 a t h0 _ => intro i _ hv; rw [valid_none h0] at hv; simp at hv
  | h2 v r hv ih =>
    intro i hi hval
    rw [valid_enc1 hv] at hval
    obtain ⟨a, t, he, ha, ht⟩ := enc_shape v hv
    have hl := enc_len v
    rw [List.length_append] at hi
    by_cases c0 : i = 0
    · subst c0
      refine ⟨0, by omega, fun b hb => ?_⟩
      rw [he] at hb
      simp only [List.cons_append, Nat.add_zero, List.getElem?_cons_zero, Option.some.injEq] at hb
      rw [← hb]; exact ha
    · by_cases c1 : i < (enc v).length
      · refine ⟨(enc v).length - i, by omega, fun b hb => ?_⟩
        rw [show i + ((enc v).length - i) = (enc v).length by omega, List.getElem?_append_right (Nat.le_refl _), Nat.sub_self] at hb
        cases r with
        | nil => simp at hb
        | cons c r =>
          simp only [List.getElem?_cons_zero, Option.some.injEq] at hb
          rw [← hb]; exact valid_head2 hval
      · obtain ⟨j, h1, h2⟩ := ih (i - (enc v).length) (by omega) hval
        refine ⟨j, h1, fun b hb => h2 b ?_⟩
        rw [List.getElem?_append_right (by omega)] at hb
        rw [← hb]; congr 1; omega
theorem valid_cut (l : List UInt8) : ∀ i, i ≤ l.length → (∀ b, l[i]? = some b → ¬ cont b) → valid l = true → valid (l.take i) = true ∧ valid (l.drop i) = true := by
  induction l using along with
  | h0 => intro i h _ _; simp [valid_nil]
  | h1 a t h0 _ => intro i _ _ hv; rw [valid_none h0] at hv; simp at hv
  | h2 v r hv ih =>
    intro i hi hb hval
    rw [valid_enc1 hv] at hval
    obtain ⟨a, t, he, ha, ht⟩ := enc_shape v hv
    by_cases c0 : i = 0
    · subst c0
      rw [List.take_zero, List.drop_zero, valid_enc1 hv]
      exact ⟨valid_nil, hval⟩
    · by_cases c1 : i < (enc v).length
      · exfalso
        have h1 : i < (enc v ++ r).length := by rw [List.length_append]; omega
        have h2 := hb _ (List.getElem?_eq_getElem h1)
        rw [List.getElem_append_left c1] at h2
        have h3 : (enc v)[i] ∈ t := by
          have : (enc v)[i]? = some (enc v)[i] := List.getElem?_eq_getElem c1
          obtain ⟨k, rfl⟩ : ∃ k, i = k + 1 := ⟨i - 1, by omega⟩
          have e := congrArg (·[k + 1]?) he
          simp only [List.getElem?_cons_succ] at e
          rw [e] at this
          exact List.mem_of_getElem? this
        exact h2 (ht _ h3)
      · rw [List.length_append] at hi
        obtain ⟨p, q⟩ := ih (i - (enc v).length) (by omega) (fun b hb2 => hb b (by
          rw [List.getElem?_append_right (by omega)]; exact hb2)) hval
        rw [List.take_append, List.drop_append, List.take_of_length_le (by omega), List.drop_eq_nil_of_le (by omega), List.nil_append, valid_enc1 hv]
        exact ⟨p, q⟩
/-- Two beside one another don't fit into one. -/
def Adj : List ByteArray → Prop
  | x :: y :: l => 64 < x.size + y.size ∧ Adj (y :: l)
  | _ => True
structure okP (l : List ByteArray) : Prop where
  val : ∀ x ∈ l, valid (L x) = true ∧ 1 ≤ x.size ∧ x.size ≤ 64
  adj : Adj l
theorem okP_nil : okP [] := ⟨by simp, trivial⟩
theorem okP_one (x : ByteArray) (h : valid (L x) = true) (h1 : 1 ≤ x.size) (h2 : x.size ≤ 64) : okP [x] := ⟨by simpa using ⟨h, h1, h2⟩, trivial⟩
theorem Adj.tail : ∀ {x : ByteArray} {l : List ByteArray}, Adj (x :: l) → Adj l
  | _, [], _ => trivial
  | _, _ :: _, h => h.2
theorem Adj.drop : ∀ (i : Nat) {l : List ByteArray}, Adj l → Adj (l.drop i)
  | 0, _, h => h
  | _ + 1, [], _ => trivial
  | i + 1, _ :: _, h => Adj.drop i h.tail
theorem Adj.take : ∀ (i : Nat) {l : List ByteArray}, Adj l → Adj (l.take i)
  | 0, _, _ => trivial
  | _ + 1, [], _ => trivial
  | _ + 1, [x], _ => by rw [List.take_succ_cons, List.take_nil]; trivial
  | 1, _ :: _ :: _, _ => trivial
  | i + 2, x :: y :: l, h => by
    have := Adj.take (i + 1) h.2
    rw [List.take_succ_cons] at this ⊢
    rw [List.take_succ_cons]
    exact ⟨h.1, this⟩
theorem Adj.append : ∀ {a b : List ByteArray}, Adj a → Adj b → (∀ x ∈ a.getLast?, ∀ y ∈ b.head?, 64 < x.size + y.size) → Adj (a ++ b)
  | [], _, _, hb, _ => hb
  | [x], [], _, _, _ => trivial
  | [x], y :: l, _, hb, h => ⟨h x (by simp) y (by simp), hb⟩
  | x :: y :: l, b, ha, hb, h => ⟨ha.1, Adj.append ha.2 hb (fun z hz w hw => h z (by rw [List.getLast?_cons_cons]; exact hz) w hw)⟩
theorem okP.drop {l : List ByteArray} (h : okP l) (i : Nat) : okP (l.drop i) := ⟨fun x hx => h.val x (List.mem_of_mem_drop hx), h.adj.drop i⟩
theorem okP.take {l : List ByteArray} (h : okP l) (i : Nat) : okP (l.take i) := ⟨fun x hx => h.val x (List.mem_of_mem_take hx), h.adj.take i⟩
theorem okP.append {a b : List ByteArray} (ha : okP a) (hb : okP b) (h : ∀ x ∈ a.getLast?, ∀ y ∈ b.head?, 64 < x.size + y.size) : okP (a ++ b) :=
  ⟨fun x hx => by
    rcases List.mem_append.1 hx with hx | hx
    · exact ha.val x hx
    · exact hb.val x hx, ha.adj.append hb.adj h⟩
/-- Two pieces put together, where one row ends and another begins. -/
theorem okP.glue {a b : List ByteArray} {x y : ByteArray} (ha : okP (a ++ [x])) (hb : okP (y :: b)) (h : x.size + y.size ≤ 64) : okP (a ++ (x ++ y) :: b) := by
  have hx := ha.val x (by simp)
  have hy := hb.val y (by simp)
  have hL : L (x ++ y) = L x ++ L y := L_append x y
  have hs : (x ++ y).size = x.size + y.size := ByteArray.size_append
  have h1 : okP ((x ++ y) :: b) := by
    refine ⟨fun z hz => ?_, ?_⟩
    · rcases List.mem_cons.1 hz with rfl | hz
      · rw [hL, valid_append hx.1, hs]; exact ⟨hy.1, by omega, h⟩
      · exact hb.val z (by simp [hz])
    · cases b with
      | nil => trivial
      | cons z b => exact ⟨by have := hb.adj.1; omega, hb.adj.2⟩
  have h0 : okP a := by
    have := ha.take a.length
    rwa [List.take_left] at this
  refine h0.append h1 fun u hu w hw => ?_
  simp only [List.head?_cons, Option.mem_def, Option.some.injEq] at hw
  subst hw
  obtain ⟨c, rfl⟩ := List.getLast?_eq_some_iff.1 hu
  have h4 := ha.adj.drop c.length
  rw [List.append_assoc, List.drop_left] at h4
  have : 64 < u.size + x.size := h4.1
  omega
/-- How many pieces there are. -/
theorem okP.count : ∀ (n : Nat) (l : List ByteArray), l.length ≤ n → okP l → l.length * 65 ≤ 2 * (flat l).length + 65
  | _, [], _, _ => by simp
  | _, [x], _, h => by simp
  | 0, x :: y :: l, hn, _ => by simp at hn
  | n + 1, x :: y :: l, hn, h => by
    have ih := okP.count n l (by simp at hn; omega) (by have := h.drop 2; simpa using this)
    have h1 := h.adj.1
    rw [flat_cons, flat_cons]
    simp only [List.length_append, L_len, List.length_cons]
    omega
theorem okP.few {l : List ByteArray} (h : okP l) : l.length ≤ (flat l).length / 16 + 2 := by
  have := h.count l.length l (Nat.le_refl _)
  omega
theorem okP.len {l : List ByteArray} (h : okP l) : l.length ≤ (flat l).length := by
  have : ∀ l : List ByteArray, (∀ x ∈ l, 1 ≤ x.size) → l.length ≤ (flat l).length := by
    intro l
    induction l with
    | nil => intro _; simp
    | cons x l ih =>
      intro h
      have h1 := h x (by simp)
      have h2 := ih fun y hy => h y (by simp [hy])
      rw [flat_cons, List.length_append, List.length_cons, L_len]; omega
  exact this l fun x hx => (h.val x hx).2.1
/-- Back from a byte to where a code point begins. -/
def backN (s : List UInt8) : Nat → Nat
  | 0 => 0
  | n + 1 => match s[n + 1]? with
    | some b => if cont b then backN s n else n + 1
    | none => n + 1
theorem backN_le (s : List UInt8) : ∀ n, backN s n ≤ n
  | 0 => Nat.le_refl _
  | n + 1 => by
    rw [backN]
    split
    · split
      · have := backN_le s n; omega
      · exact Nat.le_refl _
    · exact Nat.le_refl _
theorem backN_ok (s : List UInt8) (hv : valid s = true) : ∀ n, ∀ b, s[backN s n]? = some b → ¬ cont b
  | 0 => fun b hb => by
    rw [backN] at hb
    cases s with
    | nil => simp at hb
    | cons a t =>
      simp only [List.getElem?_cons_zero, Option.some.injEq] at hb
      rw [← hb]; exact valid_head2 hv
  | n + 1 => fun b hb => by
    have ih := backN_ok s hv n
    rw [backN] at hb
    split at hb
    · rename_i c hc
      split at hb
      · exact ih b hb
      · rw [hc] at hb; obtain rfl := Option.some.inj hb; assumption
    · rename_i hc; rw [hc] at hb; simp at hb
theorem backN_ge (s : List UInt8) (hv : valid s = true) (n : Nat) (h3 : 3 ≤ n) (hn : n < s.length) : n - 3 ≤ backN s n := by
  obtain ⟨j, h1, h2⟩ := four s (n - 3) (by omega) hv
  have key : ∀ m, n - 3 + j ≤ m → m < s.length → n - 3 + j ≤ backN s m := by
    intro m
    induction m with
    | zero => intro h _; omega
    | succ m ih =>
      intro h hm
      rw [backN, List.getElem?_eq_getElem hm]
      dsimp only
      split
      · rename_i hc
        by_cases c : n - 3 + j = m + 1
        · exact absurd hc (h2 _ (by rw [c]; exact List.getElem?_eq_getElem hm))
        · exact ih (by omega) (by omega)
      · omega
  have := key n (by omega) hn
  omega
end Go.Proofs.Ytomnggbideepeaa.AM

end
