/- A text's code points as Go's range tells them, and string(r), against the plain law. For texts of less than 2^40 bytes. -/
import Derived.Test.YtihgpnfkadldeaaAR7
import Derived.Lib.DecodeN
namespace Go.Proofs.Ytihgpnfkadldeaa.AM
set_option linter.unusedSimpArgs false
set_option linter.unusedVariables false
open Go Go.Proofs.Ytihgpnfkadldeaa.U
variable {cp : List PV → Option Ret}

theorem get_drop (s : ByteArray) (i k : Nat) (b : UInt8) (h : ((L s).drop i)[k]? = some b) : (s.get! (i + k)).toNat = b.toNat := by
  rw [List.getElem?_drop] at h
  have hlt : i + k < (L s).length := (List.getElem?_eq_some_iff.1 h).1
  rw [List.getElem?_eq_getElem hlt] at h
  obtain rfl := Option.some.inj h
  have hd : i + k < s.data.size := by simpa [L] using hlt
  have : s.get! (i + k) = s.data[i + k]! := rfl
  rw [this, getElem!_pos s.data (i + k) hd]
  simp [L]
theorem bi_nat (b : UInt8) : (b.toNat : Int) = bi b := rfl
set_option maxHeartbeats 4000000 in
set_option maxRecDepth 100000 in
/-- Where a code point stands, Go's range tells it. -/
theorem decode_dec (s : ByteArray) (i : Nat) (h : (dec ((L s).drop i)).1 ≠ 0) : Utf8.decode s i = ((dec ((L s).drop i)).2.toNat, (dec ((L s).drop i)).1) := by
  have hlen : s.size - i = ((L s).drop i).length := by rw [List.length_drop, L_len]
  have hdc := Lib.decode_at s i
  rw [hlen] at hdc
  refine hdc.trans ?_
  clear hdc
  have g0 := get_drop s i 0
  have g1 := get_drop s i 1
  have g2 := get_drop s i 2
  have g3 := get_drop s i 3
  generalize (L s).drop i = l at *
  simp only [Nat.add_zero] at g0
  match l, h with
  | [], h => exact absurd rfl h
  | a :: t, h =>
    have ga := g0 a rfl
    have hr := bi_range a
    have ea := bi_nat a
    rw [ga]
    rw [dec.eq_def] at h ⊢
    simp only at h ⊢
    by_cases b1 : bi a < 128
    · rw [if_pos b1]
      unfold Lib.decodeN
      rw [if_pos (by omega)]
      simp only [Prod.mk.injEq, and_true]; omega
    rw [if_neg b1] at h ⊢
    by_cases b2 : bi a < 192
    · rw [if_pos b2] at h; exact absurd rfl h
    rw [if_neg b2] at h ⊢
    by_cases b3 : bi a < 224
    · rw [if_pos b3] at h ⊢
      match t, h, g1 with
      | [], h, _ => exact absurd rfl h
      | p :: t, h, g1 =>
        have gp := g1 p rfl
        have ep := bi_nat p
        dsimp only at h ⊢
        by_cases c : cont p ∧ 128 ≤ v2 a p
        · rw [if_pos c]
          obtain ⟨c1, c2⟩ := c
          unfold cont at c1
          unfold v2 at c2 ⊢
          rw [gp]
          unfold Lib.decodeN
          rw [if_neg (by omega), if_pos ⟨by omega, by simp, by omega⟩, if_pos (by omega)]
          simp only [Prod.mk.injEq, and_true]; omega
        · rw [if_neg c] at h; exact absurd rfl h
    rw [if_neg b3] at h ⊢
    by_cases b4 : bi a < 240
    · rw [if_pos b4] at h ⊢
      match t, h, g1, g2 with
      | [], h, _, _ => exact absurd rfl h
      | [p], h, _, _ => exact absurd rfl h
      | p :: q :: t, h, g1, g2 =>
        have gp := g1 p rfl
        have gq := g2 q rfl
        have ep := bi_nat p
        have eq := bi_nat q
        dsimp only at h ⊢
        by_cases c : cont p ∧ cont q ∧ 2048 ≤ v3 a p q ∧ ¬ (55296 ≤ v3 a p q ∧ v3 a p q ≤ 57343)
        · rw [if_pos c]
          obtain ⟨c1, c2, c3, c4⟩ := c
          unfold cont at c1 c2
          unfold v3 at c3 c4 ⊢
          rw [gp, gq]
          unfold Lib.decodeN
          rw [if_neg (by omega), if_neg (by omega), if_pos ⟨by omega, ⟨by simp, by omega⟩, by simp, by omega⟩, if_pos (by omega)]
          simp only [Prod.mk.injEq, and_true]; omega
        · rw [if_neg c] at h; exact absurd rfl h
    rw [if_neg b4] at h ⊢
    by_cases b5 : bi a < 248
    · rw [if_pos b5] at h ⊢
      match t, h, g1, g2, g3 with
      | [], h, _, _, _ => exact absurd rfl h
      | [p], h, _, _, _ => exact absurd rfl h
      | [p, q], h, _, _, _ => exact absurd rfl h
      | p :: q :: r :: t, h, g1, g2, g3 =>
        have gp := g1 p rfl
        have gq := g2 q rfl
        have gr := g3 r rfl
        have ep := bi_nat p
        have eq := bi_nat q
        have er := bi_nat r
        dsimp only at h ⊢
        by_cases c : cont p ∧ cont q ∧ cont r ∧ 65536 ≤ v4 a p q r ∧ v4 a p q r ≤ 1114111
        · rw [if_pos c]
          obtain ⟨c1, c2, c3, c4, c5⟩ := c
          unfold cont at c1 c2 c3
          unfold v4 at c4 c5 ⊢
          rw [gp, gq, gr]
          unfold Lib.decodeN
          rw [if_neg (by omega), if_neg (by omega), if_neg (by omega), if_pos ⟨by omega, ⟨by simp, by omega⟩, ⟨by simp, by omega⟩, by simp, by omega⟩, if_pos (by omega)]
          simp only [Prod.mk.injEq, and_true]; omega
        · rw [if_neg c] at h; exact absurd rfl h
    · rw [if_neg b5] at h; exact absurd rfl h
/-- string(r) of a code point's number. -/
theorem encode_enc (v : Int) (h : sc v) : Utf8.encode v = chS v := by
  have hs := h
  unfold sc at hs
  have hv : Utf8.valid v = true := by
    unfold Utf8.valid
    simp only [Bool.or_eq_true, Bool.and_eq_true, decide_eq_true_eq]
    omega
  apply L_inj
  unfold chS Utf8.encode
  rw [L_mk, if_pos hv]
  have key : ∀ x : Int, ∀ n : Nat, (n : Int) = x → (UInt8.ofNat n) = x.toNat.toUInt8 := by
    intro x n hx
    subst hx
    rfl
  by_cases c1 : v < 128
  · rw [enc_one (by omega) c1, if_pos (by omega)]
    exact congrArg (fun x => [x]) (key _ _ (by omega))
  by_cases c2 : v < 2048
  · rw [enc_two (by omega) c2, if_neg (by omega), if_pos (by omega)]
    rw [← key (192 + v / 64) (192 + v.toNat / 64) (by omega), ← key (128 + v % 64) (128 + v.toNat % 64) (by omega)]
    rfl
  by_cases c3 : v < 65536
  · rw [enc_three (by omega) c3 h, if_neg (by omega), if_neg (by omega), if_pos (by omega)]
    rw [← key (224 + v / 4096) (224 + v.toNat / 4096) (by omega), ← key (128 + v / 64 % 64) (128 + v.toNat / 64 % 64) (by omega), ← key (128 + v % 64) (128 + v.toNat % 64) (by omega)]
    rfl
  · rw [enc_four (by omega) (by omega), if_neg (by omega), if_neg (by omega), if_neg (by omega)]
    rw [← key (240 + v / 262144) (240 + v.toNat / 262144) (by omega), ← key (128 + v / 4096 % 64) (128 + v.toNat / 4096 % 64) (by omega), ← key (128 + v / 64 % 64) (128 + v.toNat / 64 % 64) (by omega), ← key (128 + v % 64) (128 + v.toNat % 64) (by omega)]
    rfl
end Go.Proofs.Ytihgpnfkadldeaa.AM
