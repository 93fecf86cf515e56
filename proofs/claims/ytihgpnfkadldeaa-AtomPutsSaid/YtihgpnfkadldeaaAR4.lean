/- The reference's code points (palinoderef1) on the small machine. For texts of less than 2^40 bytes. -/
import Derived.Test.YtihgpnfkadldeaaAR3
namespace Go.Proofs.Ytihgpnfkadldeaa.AM
set_option linter.unusedSimpArgs false
set_option linter.unusedVariables false
open Go Go.Proofs.Ytihgpnfkadldeaa.U
variable {cp : List PV → Option Ret}

theorem w63 : ∀ n : Nat, n < 256 → bits .and .i64 (n : Int) 63 = (n % 64 : Nat) := by decide +kernel
theorem w31 : ∀ n : Nat, n < 256 → bits .and .i64 (n : Int) 31 = (n % 32 : Nat) := by decide +kernel
theorem w15 : ∀ n : Nat, n < 256 → bits .and .i64 (n : Int) 15 = (n % 16 : Nat) := by decide +kernel
theorem w7 : ∀ n : Nat, n < 256 → bits .and .i64 (n : Int) 7 = (n % 8 : Nat) := by decide +kernel
theorem a63 (a : UInt8) : bits .and .i64 (bi a) 63 = bi a % 64 := by have := w63 a.toNat a.toNat_lt; unfold bi; omega
theorem a31 (a : UInt8) : bits .and .i64 (bi a) 31 = bi a % 32 := by have := w31 a.toNat a.toNat_lt; unfold bi; omega
theorem a15 (a : UInt8) : bits .and .i64 (bi a) 15 = bi a % 16 := by have := w15 a.toNat a.toNat_lt; unfold bi; omega
theorem a7 (a : UInt8) : bits .and .i64 (bi a) 7 = bi a % 8 := by have := w7 a.toNat a.toNat_lt; unfold bi; omega
theorem wraps_i64 (n : Int) (h0 : 0 ≤ n) (h1 : n < 2 ^ 62) : IntKind.wrap .i64 n = n := wrap_in n (by omega) (by omega)
theorem or6 (x y : Int) (hx₀ : 0 ≤ x) (hx : x % 64 = 0) (hx₁ : x < 4611686018427387904) (h₀ : 0 ≤ y) (h₁ : y < 64) : bits .or .i64 x y = x + y :=
  bits_join .i64 62 (by decide) wraps_i64 6 x y hx₀ hx hx₁ h₀ h₁ (by omega)
theorem fdiv6 (a : UInt8) : (bi a).fdiv 64 = bi a / 64 := by
  have := bi_range a
  rw [Int.fdiv_eq_ediv_of_nonneg _ (by omega)]

def stSize (s : ByteArray) (i n v ls j : Int) : St := ⟨[(0, .p (.sc (.string s))), (1, .p (pi i)), (6, .p (pi n)), (7, .p (pi v)), (8, .p (pi ls)), (9, .p (pi j))], []⟩
theorem size_step (s : ByteArray) (i : Nat) (n v ls : Int) (j : Nat) (h : (j : Int) < n) (hi : i < 1099511627776) (hj : j ≤ 3) (b : UInt8) (t : List UInt8) (hb : (L s).drop (i + j) = b :: t) (v0 : 0 ≤ v) (v1 : v < 1000000) :
    Code (EX cp) L_ref1_Size_0 (stSize s i n v ls j) = if cont b then Code (EX cp) L_ref1_Size_0 (stSize s i n (v * 64 + (bi b - 128)) ls (j + 1)) else some (.ret, ⟨[(4, .p (pi 0))], []⟩) := by
  have hb1 := bt_atI s ((i : Int) + j) (i + j) (by omega) b t hb
  have hr := bi_range b
  have e1 := a63 b
  have e4 := fdiv6 b
  rw [L_ref1_Size_0, k_loop, stSize]
  by_cases c : cont b
  · rw [if_pos c]
    unfold cont at c
    have e2 : bits .or .i64 (v * 64) (bi b % 64) = v * 64 + (bi b - 128) := by
      rw [or6 (v * 64) (bi b % 64) (by omega) (by omega) (by omega) (by omega) (by omega)]; omega
    have e3 : bi b / 64 = 2 := by omega
    simp (disch := omega) [dec_yes, dec_no, wrap_in, hb1, a63, e1, e2, e3, e4, IntKind.bits, stSize]
  · rw [if_neg c]
    unfold cont at c
    have e3 : ¬ bi b / 64 = 2 := by omega
    simp (disch := omega) [dec_yes, dec_no, wrap_in, hb1, e3, e4, IntKind.bits]
theorem size_end (s : ByteArray) (i n v ls j : Int) (h : ¬ j < n) : Code (EX cp) L_ref1_Size_0 (stSize s i n v ls j) = some (.ex 1, ⟨[(0, .p (.sc (.string s))), (1, .p (pi i)), (6, .p (pi n)), (7, .p (pi v)), (8, .p (pi ls)), (9, .p (pi j)), (61, .p (pb false))], []⟩) := by
  rw [L_ref1_Size_0, k_loop, stSize]
  simp (disch := omega) [dec_yes, dec_no]

/-- How the first byte is read. -/
inductive Head (a : UInt8) : Int → Int → Int → Prop
  | two : 192 ≤ bi a → bi a < 224 → Head a 2 (bi a % 32) 128
  | three : 224 ≤ bi a → bi a < 240 → Head a 3 (bi a % 16) 2048
  | four : 240 ≤ bi a → bi a < 248 → Head a 4 (bi a % 8) 65536
set_option maxHeartbeats 2000000 in
theorem size_head (s : ByteArray) (i : Nat) (hs : s.size < 1099511627776) (a : UInt8) (t : List UInt8) (hd : (L s).drop i = a :: t) (n v ls : Int) (hh : Head a n v ls) :
    Code (EX cp) A_ref1_Size.body ⟨entry 0 [.sc (.string s), pi i], []⟩ = Code (EX cp) (tailN 5 A_ref1_Size.body) ⟨[(0, .p (.sc (.string s))), (1, .p (pi i)), (6, .p (pi n)), (7, .p (pi v)), (8, .p (pi ls))], []⟩ := by
  obtain ⟨hb, hlt, _⟩ := bt_at s i a t hd
  have hr := bi_range a
  have e1 := a31 a; have e2 := a15 a; have e3 := a7 a
  refine split_code _ 5 _ _ _ ?_
  cases hh with
  | two h0 h1 => simp (disch := omega) [A_ref1_Size, headN, dec_yes, dec_no, wrap_in, hb, e1]
  | three h0 h1 => simp (disch := omega) [A_ref1_Size, headN, dec_yes, dec_no, wrap_in, hb, e2]
  | four h0 h1 => simp (disch := omega) [A_ref1_Size, headN, dec_yes, dec_no, wrap_in, hb, e3]
theorem size_short (s : ByteArray) (i : Nat) (hs : s.size < 1099511627776) (a : UInt8) (t : List UInt8) (hd : (L s).drop i = a :: t) (n v ls : Int) (hh : Head a n v ls) (c : (s.size : Int) - i < n) : Run (EX cp) 59 [.sc (.string s), pi i] = some (.val (pi 0)) := by
  obtain ⟨hb, hlt, _⟩ := bt_at s i a t hd
  rw [run_fn _ A_ref1_Size _ rfl rfl rfl, size_head s i hs a t hd n v ls hh]
  simp (disch := omega) [A_ref1_Size, tailN, dec_yes, dec_no, wrap_in]
theorem size_ret (s : ByteArray) (i : Nat) (hs : s.size < 1099511627776) (a : UInt8) (t : List UInt8) (hd : (L s).drop i = a :: t) (n v ls : Int) (hh : Head a n v ls) (c : ¬ (s.size : Int) - i < n)
    (hl : Code (EX cp) L_ref1_Size_0 (stSize s i n v ls (1 : Nat)) = some (.ret, ⟨[(4, .p (pi 0))], []⟩)) : Run (EX cp) 59 [.sc (.string s), pi i] = some (.val (pi 0)) := by
  obtain ⟨hb, hlt, _⟩ := bt_at s i a t hd
  simp only [stSize, Int.ofNat_one] at hl
  rw [run_fn _ A_ref1_Size _ rfl rfl rfl, size_head s i hs a t hd n v ls hh]
  simp (disch := omega) [A_ref1_Size, tailN, dec_yes, dec_no, wrap_in, hl]
def okv (ls v : Int) : Prop := ls ≤ v ∧ v ≤ 1114111 ∧ ¬ (55296 ≤ v ∧ v < 57344)
instance (ls v : Int) : Decidable (okv ls v) := by unfold okv; exact inferInstance
set_option maxHeartbeats 4000000 in
theorem size_ex (s : ByteArray) (i : Nat) (hs : s.size < 1099511627776) (a : UInt8) (t : List UInt8) (hd : (L s).drop i = a :: t) (n v ls : Int) (hh : Head a n v ls) (c : ¬ (s.size : Int) - i < n) (x : Int) (j : Int)
    (hl : Code (EX cp) L_ref1_Size_0 (stSize s i n v ls (1 : Nat)) = some (.ex 1, ⟨[(0, .p (.sc (.string s))), (1, .p (pi i)), (6, .p (pi n)), (7, .p (pi x)), (8, .p (pi ls)), (9, .p (pi j)), (61, .p (pb false))], []⟩)) : Run (EX cp) 59 [.sc (.string s), pi i] = some (.val (pi (if okv ls x then n else 0))) := by
  obtain ⟨hb, hlt, _⟩ := bt_at s i a t hd
  simp only [stSize, Int.ofNat_one] at hl
  rw [run_fn _ A_ref1_Size _ rfl rfl rfl, size_head s i hs a t hd n v ls hh]
  by_cases c1 : x < ls
  · rw [if_neg (fun h => by unfold okv at h; omega)]
    simp (disch := omega) [A_ref1_Size, tailN, dec_yes, dec_no, wrap_in, hl]
  by_cases c2 : 1114111 < x
  · rw [if_neg (fun h => by unfold okv at h; omega)]
    simp (disch := omega) [A_ref1_Size, tailN, dec_yes, dec_no, wrap_in, hl]
  by_cases c3 : 55296 ≤ x
  · by_cases c4 : x < 57344
    · rw [if_neg (fun h => by unfold okv at h; omega)]
      simp (disch := omega) [A_ref1_Size, tailN, dec_yes, dec_no, wrap_in, hl]
    · rw [if_pos (by unfold okv; omega)]
      simp (disch := omega) [A_ref1_Size, tailN, dec_yes, dec_no, wrap_in, hl]
  · rw [if_pos (by unfold okv; omega)]
    simp (disch := omega) [A_ref1_Size, tailN, dec_yes, dec_no, wrap_in, hl]
set_option maxHeartbeats 2000000 in
theorem refSize (s : ByteArray) (i : Int) (hs : s.size < 1099511627776) : Run (EX cp) 59 [.sc (.string s), pi i] = some (.val (pi (sizeAt s i))) := by
  unfold sizeAt decAt
  by_cases c0 : i < 0
  · rw [if_pos c0, run_fn _ A_ref1_Size _ rfl rfl rfl]
    simp (disch := omega) [A_ref1_Size, dec_yes, dec_no]
  rw [if_neg c0]
  by_cases c1 : (s.size : Int) ≤ i
  · have h0 : dec ((L s).drop i.toNat) = (0, 0) := by rw [drop_end s _ (by omega)]; rfl
    rw [h0, run_fn _ A_ref1_Size _ rfl rfl rfl]
    simp (disch := omega) [A_ref1_Size, dec_yes, dec_no]
  obtain ⟨k, rfl⟩ : ∃ n : Nat, i = n := ⟨i.toNat, by omega⟩
  simp only [Int.toNat_natCast]
  obtain ⟨a, t, hd⟩ := drop_at s k (by omega)
  obtain ⟨hb, hlt, hd1⟩ := bt_at s k a t hd
  have hr := bi_range a
  have hlen := drop_len s k _ hd (by omega)
  rw [hd]
  by_cases b1 : bi a < 128
  · have : dec (a :: t) = (1, bi a) := by rw [dec.eq_def]; simp only; rw [if_pos b1]
    rw [this, run_fn _ A_ref1_Size _ rfl rfl rfl]
    simp (disch := omega) [A_ref1_Size, dec_yes, dec_no, wrap_in, hb]
  by_cases b2 : bi a < 192
  · have : dec (a :: t) = (0, 0) := by rw [dec.eq_def]; simp only; rw [if_neg b1, if_pos b2]
    rw [this, run_fn _ A_ref1_Size _ rfl rfl rfl]
    simp (disch := omega) [A_ref1_Size, dec_yes, dec_no, wrap_in, hb]
  by_cases b3 : bi a < 224
  · have hh : Head a 2 (bi a % 32) 128 := .two (by omega) b3
    rw [dec.eq_def]; simp only; rw [if_neg b1, if_neg b2, if_pos b3]
    match t, hd, hd1, hlen with
    | [], hd, _, hlen => exact size_short s k hs a _ hd _ _ _ hh (by simp at hlen; omega)
    | p :: t, hd, hd1, hlen =>
      have hp := bi_range p
      have e2 : (bi a % 32) * 64 + (bi p - 128) = v2 a p := by unfold v2; omega
      have hst := size_step (cp := cp) s k 2 (bi a % 32) 128 1 (by omega) (by omega) (by omega) p t hd1 (by omega) (by omega)
      dsimp only
      have hc : ¬ (s.size : Int) - k < 2 := by simp at hlen; omega
      by_cases c : cont p
      · rw [if_pos c, e2, show ((1 : Nat) : Int) + 1 = 2 from rfl, size_end s k 2 _ 128 2 (by omega)] at hst
        rw [size_ex s k hs a _ hd _ _ _ hh hc _ _ hst]
        have c' := c
        unfold cont at c'
        by_cases d : 128 ≤ v2 a p
        · rw [if_pos (by unfold okv; omega), if_pos ⟨c, d⟩]; rfl
        · rw [if_neg (fun h => d h.1), if_neg (fun h => d h.2)]; rfl
      · rw [if_neg c] at hst
        rw [size_ret s k hs a _ hd _ _ _ hh hc hst, if_neg (fun h => c h.1)]; rfl
  by_cases b4 : bi a < 240
  · have hh : Head a 3 (bi a % 16) 2048 := .three (by omega) b4
    rw [dec.eq_def]; simp only; rw [if_neg b1, if_neg b2, if_neg b3, if_pos b4]
    match t, hd, hd1, hlen with
    | [], hd, _, hlen => exact size_short s k hs a _ hd _ _ _ hh (by simp at hlen; omega)
    | [p], hd, _, hlen => exact size_short s k hs a _ hd _ _ _ hh (by simp at hlen; omega)
    | p :: q :: t, hd, hd1, hlen =>
      obtain ⟨_, _, hd2⟩ := bt_at s (k + 1) p _ hd1
      have hp := bi_range p
      have hq := bi_range q
      have e2 : ((bi a % 16) * 64 + (bi p - 128)) * 64 + (bi q - 128) = v3 a p q := by unfold v3; omega
      have hst := size_step (cp := cp) s k 3 (bi a % 16) 2048 1 (by omega) (by omega) (by omega) p _ hd1 (by omega) (by omega)
      dsimp only
      have hc : ¬ (s.size : Int) - k < 3 := by simp at hlen; omega
      by_cases c : cont p
      · have c' := c
        unfold cont at c'
        rw [if_pos c, show ((1 : Nat) : Int) + 1 = ((2 : Nat) : Int) from rfl, size_step s k 3 _ 2048 2 (by omega) (by omega) (by omega) q _ hd2 (by omega) (by omega), e2] at hst
        by_cases c2 : cont q
        · have c2' := c2
          unfold cont at c2'
          rw [if_pos c2, show ((2 : Nat) : Int) + 1 = 3 from rfl, size_end s k 3 _ 2048 3 (by omega)] at hst
          rw [size_ex s k hs a _ hd _ _ _ hh hc _ _ hst]
          by_cases d : 2048 ≤ v3 a p q ∧ ¬ (55296 ≤ v3 a p q ∧ v3 a p q ≤ 57343)
          · rw [if_pos (by unfold okv; omega), if_pos ⟨c, c2, d.1, d.2⟩]; rfl
          · rw [if_neg (by unfold okv; omega), if_neg (fun h => d ⟨h.2.2.1, h.2.2.2⟩)]; rfl
        · rw [if_neg c2] at hst
          rw [size_ret s k hs a _ hd _ _ _ hh hc hst, if_neg (fun h => c2 h.2.1)]; rfl
      · rw [if_neg c] at hst
        rw [size_ret s k hs a _ hd _ _ _ hh hc hst, if_neg (fun h => c h.1)]; rfl
  by_cases b5 : bi a < 248
  · have hh : Head a 4 (bi a % 8) 65536 := .four (by omega) b5
    rw [dec.eq_def]; simp only; rw [if_neg b1, if_neg b2, if_neg b3, if_neg b4, if_pos b5]
    match t, hd, hd1, hlen with
    | [], hd, _, hlen => exact size_short s k hs a _ hd _ _ _ hh (by simp at hlen; omega)
    | [p], hd, _, hlen => exact size_short s k hs a _ hd _ _ _ hh (by simp at hlen; omega)
    | [p, q], hd, _, hlen => exact size_short s k hs a _ hd _ _ _ hh (by simp at hlen; omega)
    | p :: q :: r :: t, hd, hd1, hlen =>
      obtain ⟨_, _, hd2⟩ := bt_at s (k + 1) p _ hd1
      obtain ⟨_, _, hd3⟩ := bt_at s (k + 1 + 1) q _ hd2
      have hp := bi_range p
      have hq := bi_range q
      have hr3 := bi_range r
      have e2 : (((bi a % 8) * 64 + (bi p - 128)) * 64 + (bi q - 128)) * 64 + (bi r - 128) = v4 a p q r := by unfold v4; omega
      have hst := size_step (cp := cp) s k 4 (bi a % 8) 65536 1 (by omega) (by omega) (by omega) p _ hd1 (by omega) (by omega)
      dsimp only
      have hc : ¬ (s.size : Int) - k < 4 := by simp at hlen; omega
      by_cases c : cont p
      · have c' := c
        unfold cont at c'
        rw [if_pos c, show ((1 : Nat) : Int) + 1 = ((2 : Nat) : Int) from rfl, size_step s k 4 _ 65536 2 (by omega) (by omega) (by omega) q _ hd2 (by omega) (by omega)] at hst
        by_cases c2 : cont q
        · have c2' := c2
          unfold cont at c2'
          rw [if_pos c2, show ((2 : Nat) : Int) + 1 = ((3 : Nat) : Int) from rfl, size_step s k 4 _ 65536 3 (by omega) (by omega) (by omega) r _ hd3 (by omega) (by omega), e2] at hst
          by_cases c3 : cont r
          · have c3' := c3
            unfold cont at c3'
            rw [if_pos c3, show ((3 : Nat) : Int) + 1 = 4 from rfl, size_end s k 4 _ 65536 4 (by omega)] at hst
            rw [size_ex s k hs a _ hd _ _ _ hh hc _ _ hst]
            by_cases d : 65536 ≤ v4 a p q r ∧ v4 a p q r ≤ 1114111
            · rw [if_pos (by unfold okv; omega), if_pos ⟨c, c2, c3, d.1, d.2⟩]; rfl
            · rw [if_neg (by unfold okv; omega), if_neg (fun h => d ⟨h.2.2.2.1, h.2.2.2.2⟩)]; rfl
          · rw [if_neg c3] at hst
            rw [size_ret s k hs a _ hd _ _ _ hh hc hst, if_neg (fun h => c3 h.2.2.1)]; rfl
        · rw [if_neg c2] at hst
          rw [size_ret s k hs a _ hd _ _ _ hh hc hst, if_neg (fun h => c2 h.2.1)]; rfl
      · rw [if_neg c] at hst
        rw [size_ret s k hs a _ hd _ _ _ hh hc hst, if_neg (fun h => c h.1)]; rfl
  have : dec (a :: t) = (0, 0) := by rw [dec.eq_def]; simp only; rw [if_neg b1, if_neg b2, if_neg b3, if_neg b4, if_neg b5]
  rw [this, run_fn _ A_ref1_Size _ rfl rfl rfl]
  simp (disch := omega) [A_ref1_Size, dec_yes, dec_no, wrap_in, hb]
end Go.Proofs.Ytihgpnfkadldeaa.AM
