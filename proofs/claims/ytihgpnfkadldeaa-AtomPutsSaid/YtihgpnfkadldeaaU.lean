/- Plain law of code points: bytes as lists, what a code point is there, its number, its bytes; no program in sight. No conditions. -/
import Derived.Lib.RuneBytes
namespace Go.Proofs.Ytihgpnfkadldeaa.U
set_option linter.unusedVariables false
open Go.Lib

def bi (b : UInt8) : Int := (b.toNat : Int)
theorem bi_range (b : UInt8) : 0 ≤ bi b ∧ bi b < 256 := by
  have := b.toNat_lt
  unfold bi
  omega
theorem bi_inj {a b : UInt8} (h : bi a = bi b) : a = b := by
  unfold bi at h
  exact UInt8.toNat_inj.1 (by omega)
theorem bi_of {x : Int} (h0 : 0 ≤ x) (h1 : x < 256) : bi x.toNat.toUInt8 = x := by
  unfold bi
  rw [Nat.toUInt8, UInt8.toNat_ofNat']
  omega
theorem of_bi (a : UInt8) : (bi a).toNat.toUInt8 = a := bi_inj (bi_of (bi_range a).1 (bi_range a).2)
/-- A byte that goes on. -/
def cont (b : UInt8) : Prop := 128 ≤ bi b ∧ bi b < 192
instance (b : UInt8) : Decidable (cont b) := by unfold cont; exact inferInstance
/-- The numbers of code points. -/
def sc (v : Int) : Prop := (0 ≤ v ∧ v < 55296) ∨ (57343 < v ∧ v ≤ 1114111)
instance (v : Int) : Decidable (sc v) := by unfold sc; exact inferInstance
def v2 (a p : UInt8) : Int := (bi a - 192) * 64 + (bi p - 128)
def v3 (a p q : UInt8) : Int := ((bi a - 224) * 64 + (bi p - 128)) * 64 + (bi q - 128)
def v4 (a p q r : UInt8) : Int := (((bi a - 240) * 64 + (bi p - 128)) * 64 + (bi q - 128)) * 64 + (bi r - 128)
/-- How many bytes the code point has that stands ahead in a list (0: there is none), and its number. -/
def dec : List UInt8 → Nat × Int
  | [] => (0, 0)
  | a :: t =>
    if bi a < 128 then (1, bi a)
    else if bi a < 192 then (0, 0)
    else if bi a < 224 then
      match t with
      | p :: _ => if cont p ∧ 128 ≤ v2 a p then (2, v2 a p) else (0, 0)
      | _ => (0, 0)
    else if bi a < 240 then
      match t with
      | p :: q :: _ => if cont p ∧ cont q ∧ 2048 ≤ v3 a p q ∧ ¬ (55296 ≤ v3 a p q ∧ v3 a p q ≤ 57343) then (3, v3 a p q) else (0, 0)
      | _ => (0, 0)
    else if bi a < 248 then
      match t with
      | p :: q :: r :: _ => if cont p ∧ cont q ∧ cont r ∧ 65536 ≤ v4 a p q r ∧ v4 a p q r ≤ 1114111 then (4, v4 a p q r) else (0, 0)
      | _ => (0, 0)
    else (0, 0)
/-- A number's bytes. -/
def enc (v : Int) : List UInt8 := encodeRune v
theorem enc_one {v : Int} (h0 : 0 ≤ v) (h1 : v < 128) : enc v = [v.toNat.toUInt8] := by
  unfold enc encodeRune
  rw [encodeRuneZ_one h0 (by omega)]
  simp only [List.map_cons, List.map_nil]
theorem enc_two {v : Int} (h0 : 128 ≤ v) (h1 : v < 2048) : enc v = [(192 + v / 64).toNat.toUInt8, (128 + v % 64).toNat.toUInt8] := by
  unfold enc encodeRune
  rw [encodeRuneZ_two h0 (by omega)]
  simp only [List.map_cons, List.map_nil]
theorem enc_three {v : Int} (h0 : 2048 ≤ v) (h1 : v < 65536) (h : sc v) : enc v = [(224 + v / 4096).toNat.toUInt8, (128 + v / 64 % 64).toNat.toUInt8, (128 + v % 64).toNat.toUInt8] := by
  unfold enc encodeRune
  unfold sc at h
  rw [encodeRuneZ_three (by omega)]
  simp only [List.map_cons, List.map_nil]
theorem enc_four {v : Int} (h0 : 65536 ≤ v) (h1 : v ≤ 1114111) : enc v = [(240 + v / 262144).toNat.toUInt8, (128 + v / 4096 % 64).toNat.toUInt8, (128 + v / 64 % 64).toNat.toUInt8, (128 + v % 64).toNat.toUInt8] := by
  unfold enc encodeRune
  rw [encodeRuneZ_four h0 h1]
  simp only [List.map_cons, List.map_nil]
theorem enc_bad {v : Int} (h : ¬ sc v) : enc v = [239, 191, 189] := by
  unfold enc encodeRune
  unfold sc at h
  rw [encodeRuneZ_bad (by omega)]
  decide
theorem eq1 {a : UInt8} {x : Int} (h : x = bi a) : x.toNat.toUInt8 = a := by rw [h]; exact of_bi a
set_option maxRecDepth 100000 in
/-- What is read is a code point's bytes. -/
theorem dec_enc (l : List UInt8) (n : Nat) (v : Int) (h : dec l = (n, v)) (hn : n ≠ 0) : sc v ∧ ∃ r, l = enc v ++ r ∧ (enc v).length = n := by
  match l, h with
  | [], h => exact absurd (Prod.mk.inj h).1.symm hn
  | a :: t, h =>
    have ha := bi_range a
    rw [dec.eq_def] at h
    simp only at h
    by_cases c1 : bi a < 128
    · rw [if_pos c1] at h
      obtain ⟨rfl, rfl⟩ := Prod.mk.inj h
      refine ⟨Or.inl ⟨ha.1, by omega⟩, t, ?_⟩
      rw [enc_one ha.1 c1, of_bi]
      exact ⟨rfl, rfl⟩
    rw [if_neg c1] at h
    by_cases c2 : bi a < 192
    · rw [if_pos c2] at h
      exact absurd (Prod.mk.inj h).1.symm hn
    rw [if_neg c2] at h
    by_cases c3 : bi a < 224
    · rw [if_pos c3] at h
      match t, h with
      | [], h => exact absurd (Prod.mk.inj h).1.symm hn
      | p :: t, h =>
        simp only at h
        have hp := bi_range p
        by_cases c : cont p ∧ 128 ≤ v2 a p
        · rw [if_pos c] at h
          obtain ⟨rfl, rfl⟩ := Prod.mk.inj h
          obtain ⟨d1, d2⟩ := c
          have e2 : v2 a p = (bi a - 192) * 64 + (bi p - 128) := rfl
          unfold cont at d1
          refine ⟨Or.inl ⟨by omega, by omega⟩, t, ?_⟩
          rw [enc_two d2 (by omega), eq1 (a := a) (by omega), eq1 (a := p) (by omega)]
          exact ⟨rfl, rfl⟩
        · rw [if_neg c] at h
          exact absurd (Prod.mk.inj h).1.symm hn
    rw [if_neg c3] at h
    by_cases c4 : bi a < 240
    · rw [if_pos c4] at h
      match t, h with
      | [], h => exact absurd (Prod.mk.inj h).1.symm hn
      | [p], h => exact absurd (Prod.mk.inj h).1.symm hn
      | p :: q :: t, h =>
        simp only at h
        have hp := bi_range p
        have hq := bi_range q
        by_cases c : cont p ∧ cont q ∧ 2048 ≤ v3 a p q ∧ ¬ (55296 ≤ v3 a p q ∧ v3 a p q ≤ 57343)
        · rw [if_pos c] at h
          obtain ⟨rfl, rfl⟩ := Prod.mk.inj h
          obtain ⟨d1, d2, d3, d4⟩ := c
          have e2 : v3 a p q = ((bi a - 224) * 64 + (bi p - 128)) * 64 + (bi q - 128) := rfl
          unfold cont at d1 d2
          have hs : sc (v3 a p q) := by unfold sc; omega
          refine ⟨hs, t, ?_⟩
          rw [enc_three d3 (by omega) hs, eq1 (a := a) (by omega), eq1 (a := p) (by omega), eq1 (a := q) (by omega)]
          exact ⟨rfl, rfl⟩
        · rw [if_neg c] at h
          exact absurd (Prod.mk.inj h).1.symm hn
    rw [if_neg c4] at h
    by_cases c5 : bi a < 248
    · rw [if_pos c5] at h
      match t, h with
      | [], h => exact absurd (Prod.mk.inj h).1.symm hn
      | [p], h => exact absurd (Prod.mk.inj h).1.symm hn
      | [p, q], h => exact absurd (Prod.mk.inj h).1.symm hn
      | p :: q :: r :: t, h =>
        simp only at h
        have hp := bi_range p
        have hq := bi_range q
        have hr := bi_range r
        by_cases c : cont p ∧ cont q ∧ cont r ∧ 65536 ≤ v4 a p q r ∧ v4 a p q r ≤ 1114111
        · rw [if_pos c] at h
          obtain ⟨rfl, rfl⟩ := Prod.mk.inj h
          obtain ⟨d1, d2, d3, d4, d5⟩ := c
          have e2 : v4 a p q r = (((bi a - 240) * 64 + (bi p - 128)) * 64 + (bi q - 128)) * 64 + (bi r - 128) := rfl
          unfold cont at d1 d2 d3
          have hs : sc (v4 a p q r) := by unfold sc; omega
          refine ⟨hs, t, ?_⟩
          rw [enc_four d4 d5, eq1 (a := a) (by omega), eq1 (a := p) (by omega), eq1 (a := q) (by omega), eq1 (a := r) (by omega)]
          exact ⟨rfl, rfl⟩
        · rw [if_neg c] at h
          exact absurd (Prod.mk.inj h).1.symm hn
    rw [if_neg c5] at h
    exact absurd (Prod.mk.inj h).1.symm hn
/-- A code point's bytes are read as it. -/
theorem enc_dec (v : Int) (h : sc v) (r : List UInt8) : dec (enc v ++ r) = ((enc v).length, v) := by
  have h' := h
  unfold sc at h'
  by_cases c1 : v < 128
  · rw [enc_one (by omega) c1]
    have e := bi_of (x := v) (by omega) (by omega)
    show dec (_ :: r) = (1, v)
    rw [dec.eq_def]
    simp only [e]
    rw [if_pos c1]
  by_cases c2 : v < 2048
  · rw [enc_two (by omega) c2]
    have e := bi_of (x := 192 + v / 64) (by omega) (by omega)
    have f := bi_of (x := 128 + v % 64) (by omega) (by omega)
    show dec (_ :: _ :: r) = (2, v)
    rw [dec.eq_def]
    simp only [e]
    rw [if_neg (by omega), if_neg (by omega), if_pos (by omega)]
    have g : v2 (192 + v / 64).toNat.toUInt8 (128 + v % 64).toNat.toUInt8 = v := by unfold v2; rw [e, f]; omega
    rw [g, if_pos ⟨by unfold cont; rw [f]; omega, by omega⟩]
  by_cases c3 : v < 65536
  · rw [enc_three (by omega) c3 h]
    have e := bi_of (x := 224 + v / 4096) (by omega) (by omega)
    have f := bi_of (x := 128 + v / 64 % 64) (by omega) (by omega)
    have k := bi_of (x := 128 + v % 64) (by omega) (by omega)
    show dec (_ :: _ :: _ :: r) = (3, v)
    rw [dec.eq_def]
    simp only [e]
    rw [if_neg (by omega), if_neg (by omega), if_neg (by omega), if_pos (by omega)]
    have g : v3 (224 + v / 4096).toNat.toUInt8 (128 + v / 64 % 64).toNat.toUInt8 (128 + v % 64).toNat.toUInt8 = v := by unfold v3; rw [e, f, k]; omega
    rw [g, if_pos ⟨by unfold cont; rw [f]; omega, by unfold cont; rw [k]; omega, by omega, by omega⟩]
  · rw [enc_four (by omega) (by omega)]
    have e := bi_of (x := 240 + v / 262144) (by omega) (by omega)
    have f := bi_of (x := 128 + v / 4096 % 64) (by omega) (by omega)
    have f2 := bi_of (x := 128 + v / 64 % 64) (by omega) (by omega)
    have k := bi_of (x := 128 + v % 64) (by omega) (by omega)
    show dec (_ :: _ :: _ :: _ :: r) = (4, v)
    rw [dec.eq_def]
    simp only [e]
    rw [if_neg (by omega), if_neg (by omega), if_neg (by omega), if_neg (by omega), if_pos (by omega)]
    have g : v4 (240 + v / 262144).toNat.toUInt8 (128 + v / 4096 % 64).toNat.toUInt8 (128 + v / 64 % 64).toNat.toUInt8 (128 + v % 64).toNat.toUInt8 = v := by unfold v4; rw [e, f, f2, k]; omega
    rw [g, if_pos ⟨by unfold cont; rw [f]; omega, by unfold cont; rw [f2]; omega, by unfold cont; rw [k]; omega, by omega, by omega⟩]

end Go.Proofs.Ytihgpnfkadldeaa.U
