/- Package utf on the small machine: what each function comes to. For texts of at most 2^40 bytes. -/
import Derived.Test.YtihgpnfkadldeaaAR0
namespace Go.Proofs.Ytihgpnfkadldeaa.AM
set_option linter.unusedSimpArgs false
set_option linter.unusedVariables false
open Go Go.Proofs.Ytihgpnfkadldeaa.U
variable {cp : List PV → Option Ret}

theorem isPoint (v : Int) : Run (EX cp) 86 [pI .i32 v] = some (.val (pb (decide (sc v)))) := by
  rw [run_fn _ A_utf_isPoint _ rfl rfl rfl]
  by_cases h0 : 0 ≤ v
  · by_cases h1 : v ≤ 1114111
    · by_cases h2 : v < 55296
      · simp (disch := omega) [A_utf_isPoint, dec_yes, dec_no]
        unfold sc; omega
      · simp (disch := omega) [A_utf_isPoint, dec_yes, dec_no]
        unfold sc; omega
    · simp (disch := omega) [A_utf_isPoint, dec_yes, dec_no]
      intro h; unfold sc at h; omega
  · simp (disch := omega) [A_utf_isPoint, dec_yes, dec_no]
    intro h; unfold sc at h; omega

/-! ### bits of bytes -/
theorem u128 : ∀ n : Nat, n < 256 → bits .and .u8 (n : Int) 128 = (n / 128 * 128 : Nat) := by decide +kernel
theorem u224 : ∀ n : Nat, n < 256 → bits .and .u8 (n : Int) 224 = (n / 32 * 32 : Nat) := by decide +kernel
theorem u240 : ∀ n : Nat, n < 256 → bits .and .u8 (n : Int) 240 = (n / 16 * 16 : Nat) := by decide +kernel
theorem u248 : ∀ n : Nat, n < 256 → bits .and .u8 (n : Int) 248 = (n / 8 * 8 : Nat) := by decide +kernel
theorem u192 : ∀ n : Nat, n < 256 → bits .and .u8 (n : Int) 192 = (n / 64 * 64 : Nat) := by decide +kernel
theorem v192 : ∀ n : Nat, n < 256 → bits .andNot .u8 (n : Int) 192 = (n % 64 : Nat) := by decide +kernel
theorem v128 : ∀ n : Nat, n < 256 → bits .andNot .u8 (n : Int) 128 = (n % 128 : Nat) := by decide +kernel
theorem v224 : ∀ n : Nat, n < 256 → bits .andNot .u8 (n : Int) 224 = (n % 32 : Nat) := by decide +kernel
theorem v240 : ∀ n : Nat, n < 256 → bits .andNot .u8 (n : Int) 240 = (n % 16 : Nat) := by decide +kernel
theorem v248 : ∀ n : Nat, n < 256 → bits .andNot .u8 (n : Int) 248 = (n % 8 : Nat) := by decide +kernel
theorem n128 (a : UInt8) : bits .and .u8 (bi a) 128 = bi a / 128 * 128 := by have := u128 a.toNat a.toNat_lt; unfold bi; omega
theorem n224 (a : UInt8) : bits .and .u8 (bi a) 224 = bi a / 32 * 32 := by have := u224 a.toNat a.toNat_lt; unfold bi; omega
theorem n240 (a : UInt8) : bits .and .u8 (bi a) 240 = bi a / 16 * 16 := by have := u240 a.toNat a.toNat_lt; unfold bi; omega
theorem n248 (a : UInt8) : bits .and .u8 (bi a) 248 = bi a / 8 * 8 := by have := u248 a.toNat a.toNat_lt; unfold bi; omega
theorem n192 (a : UInt8) : bits .and .u8 (bi a) 192 = bi a / 64 * 64 := by have := u192 a.toNat a.toNat_lt; unfold bi; omega
theorem m192 (a : UInt8) : bits .andNot .u8 (bi a) 192 = bi a % 64 := by have := v192 a.toNat a.toNat_lt; unfold bi; omega
theorem m128 (a : UInt8) : bits .andNot .u8 (bi a) 128 = bi a % 128 := by have := v128 a.toNat a.toNat_lt; unfold bi; omega
theorem m224 (a : UInt8) : bits .andNot .u8 (bi a) 224 = bi a % 32 := by have := v224 a.toNat a.toNat_lt; unfold bi; omega
theorem m240 (a : UInt8) : bits .andNot .u8 (bi a) 240 = bi a % 16 := by have := v240 a.toNat a.toNat_lt; unfold bi; omega
theorem m248 (a : UInt8) : bits .andNot .u8 (bi a) 248 = bi a % 8 := by have := v248 a.toNat a.toNat_lt; unfold bi; omega

/-! ### utf.long -/
def stLong (s : ByteArray) (at_ n : Int) (m f ls : Int) (r i : Int) : St :=
  ⟨[(0, .p (.sc (.string s))), (1, .p (pi at_)), (2, .p (pi n)), (7, .mp 7 0 0), (10, .p (pI .i32 r)), (11, .p (pi i))], [(7, .row 107 3 false [[pI .u8 m, pI .u8 f, pI .i32 ls]])]⟩
theorem long_step (s : ByteArray) (at_ : Nat) (n m f ls r : Int) (i : Nat) (h : (i : Int) < n) (hat : at_ < 1099511627776) (hi : i ≤ 3) (b : UInt8) (t : List UInt8) (hb : (L s).drop (at_ + i) = b :: t) (r0 : 0 ≤ r) (r1 : r < 1000000) :
    Code (EX cp) L_utf_long_0 (stLong s at_ n m f ls r i) = if cont b then Code (EX cp) L_utf_long_0 (stLong s at_ n m f ls (r * 64 + (bi b - 128)) (i + 1)) else some (.ret, ⟨[(8, .p (pI .i32 0)), (9, .p (pi 0))], []⟩) := by
  have hb1 := bt_atI s ((at_ : Int) + i) (at_ + i) (by omega) b t hb
  have hr := bi_range b
  have e1 := m192 b
  rw [L_utf_long_0, k_loop, stLong]
  by_cases c : cont b
  · rw [if_pos c]
    unfold cont at c
    have e2 : bits .or .i32 (r * 64) (bi b % 64) = r * 64 + (bi b - 128) := by
      rw [i32_or6 (r * 64) (bi b % 64) (by omega) (by omega) (by omega) (by omega) (by omega)]; omega
    have e3 : bi b / 64 * 64 = 128 := by omega
    simp (disch := omega) [dec_yes, dec_no, wrap_in, wrap32_in, hb1, n192, m192, e3, e2, IntKind.bits, stLong]
  · rw [if_neg c]
    unfold cont at c
    have e3 : ¬ bi b / 64 * 64 = 128 := by omega
    simp (disch := omega) [dec_yes, dec_no, wrap_in, wrap32_in, hb1, n192, m192, e3]
theorem long_end (s : ByteArray) (at_ : Nat) (n m f ls r : Int) (i : Nat) (h : ¬ (i : Int) < n) :
    Code (EX cp) L_utf_long_0 (stLong s at_ n m f ls r i) = some (.ex 0, ⟨[(0, .p (.sc (.string s))), (1, .p (pi at_)), (2, .p (pi n)), (7, .mp 7 0 0), (10, .p (pI .i32 r)), (11, .p (pi i)), (28, .p (pb false))], [(7, .row 107 3 false [[pI .u8 m, pI .u8 f, pI .i32 ls]])]⟩) := by
  rw [L_utf_long_0, k_loop, stLong]
  simp (disch := omega) [dec_yes, dec_no]

theorem long_short (s : ByteArray) (at_ : Nat) (n m f ls : Int) (hat : at_ < 1099511627776) (hsz : s.size < 1099511627776) (c : (s.size : Int) - at_ < n) :
    Run (EX cp) 92 [.sc (.string s), pi at_, pi n, .st [pI .u8 m, pI .u8 f, pI .i32 ls]] = some (.val (.tu [pI .i32 0, pi 0])) := by
  rw [run_fn _ A_utf_long _ rfl rfl rfl]
  simp (disch := omega) [A_utf_long, dec_yes, dec_no, wrap_in, c]
theorem long_ret (s : ByteArray) (at_ : Nat) (n m f ls : Int) (hat : at_ < 1099511627776) (hsz : s.size < 1099511627776) (a : UInt8) (t : List UInt8) (hd : (L s).drop at_ = a :: t) (x : Int) (hx : bits .andNot .u8 (bi a) m = x) (x0 : 0 ≤ x) (x1 : x < 256) (c : ¬ (s.size : Int) - at_ < n)
    (hl : Code (EX cp) L_utf_long_0 (stLong s at_ n m f ls x (1 : Nat)) = some (.ret, ⟨[(8, .p (pI .i32 0)), (9, .p (pi 0))], []⟩)) :
    Run (EX cp) 92 [.sc (.string s), pi at_, pi n, .st [pI .u8 m, pI .u8 f, pI .i32 ls]] = some (.val (.tu [pI .i32 0, pi 0])) := by
  obtain ⟨hb1, hlt, _⟩ := bt_at s at_ a t hd
  simp only [stLong, Int.ofNat_one] at hl
  rw [run_fn _ A_utf_long _ rfl rfl rfl]
  simp (disch := omega) [A_utf_long, dec_yes, dec_no, wrap_in, wrap32_in, c, hb1, hx, hl]
theorem long_ex (s : ByteArray) (at_ : Nat) (n m f ls r : Int) (i : Nat) (hat : at_ < 1099511627776) (hsz : s.size < 1099511627776) (a : UInt8) (t : List UInt8) (hd : (L s).drop at_ = a :: t) (x : Int) (hx : bits .andNot .u8 (bi a) m = x) (x0 : 0 ≤ x) (x1 : x < 256) (c : ¬ (s.size : Int) - at_ < n)
    (hl : Code (EX cp) L_utf_long_0 (stLong s at_ n m f ls x (1 : Nat)) = some (.ex 0, ⟨[(0, .p (.sc (.string s))), (1, .p (pi at_)), (2, .p (pi n)), (7, .mp 7 0 0), (10, .p (pI .i32 r)), (11, .p (pi i)), (28, .p (pb false))], [(7, .row 107 3 false [[pI .u8 m, pI .u8 f, pI .i32 ls]])]⟩)) :
    Run (EX cp) 92 [.sc (.string s), pi at_, pi n, .st [pI .u8 m, pI .u8 f, pI .i32 ls]] = if ls ≤ r ∧ sc r then some (.val (.tu [pI .i32 r, pi n])) else some (.val (.tu [pI .i32 0, pi 0])) := by
  obtain ⟨hb1, hlt, _⟩ := bt_at s at_ a t hd
  have hp := isPoint (cp := cp) r
  simp only [stLong, Int.ofNat_one] at hl
  rw [run_fn _ A_utf_long _ rfl rfl rfl]
  by_cases c1 : r < ls
  · rw [if_neg (by omega)]
    simp (disch := omega) [A_utf_long, dec_yes, dec_no, wrap_in, wrap32_in, c, hb1, hx, hl, c1]
  · by_cases c2 : sc r
    · rw [if_pos ⟨by omega, c2⟩]
      simp (disch := omega) [A_utf_long, dec_yes, dec_no, wrap_in, wrap32_in, c, hb1, hx, hl, c1, hp, c2]
    · rw [if_neg (fun h => c2 h.2)]
      simp (disch := omega) [A_utf_long, dec_yes, dec_no, wrap_in, wrap32_in, c, hb1, hx, hl, c1, hp, c2]
end Go.Proofs.Ytihgpnfkadldeaa.AM
