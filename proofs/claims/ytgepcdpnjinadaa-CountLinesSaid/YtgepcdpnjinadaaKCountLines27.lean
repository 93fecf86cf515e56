-- several texts in one (wip/merge.py)
import Derived.Test.YtgepcdpnjinadaaKCountLines26
import Derived.Lib.DecodeN
import Derived.Test.YtgepcdpnjinadaaKCountLines22
section
/- Plain law of counts: bytes, code points, units, lines of a list of code points; what the model's decode finds at a code point. No conditions. -/
namespace Go.Proofs.Ytgepcdpnjinadaa.V
open Go.RowKit Go.Proofs.Ytgepcdpnjinadaa.PX Go.Proofs.YtgepcdpnjinadaaW.PrintWords Go.Proofs.YtgepcdpnjinadaaW.PrintLast Go.Proofs.Ytgepcdpnjinadaa.U Go.Lib
set_option linter.unusedVariables false

abbrev C4 := Int × Int × Int × Int
def cu (v : Int) : Int := if 65536 ≤ v then 2 else 1
def cl (v : Int) : Int := if v = 10 then 1 else 0
def one4 (v : Int) : C4 := (((enc v).length : Int), 1, cu v, cl v)
def add4 (a b : C4) : C4 := (a.1 + b.1, a.2.1 + b.2.1, a.2.2.1 + b.2.2.1, a.2.2.2 + b.2.2.2)
def cnt : List Int → C4
  | [] => (0, 0, 0, 0)
  | v :: l => add4 (one4 v) (cnt l)
def get4 (c : C4) (k : Int) : Int := if k = 0 then c.1 else if k = 1 then c.2.1 else if k = 2 then c.2.2.1 else if k = 3 then c.2.2.2 else 0
theorem add4_zero (a : C4) : add4 a (0, 0, 0, 0) = a := by simp [add4]
theorem zero_add4 (a : C4) : add4 (0, 0, 0, 0) a = a := by simp [add4]
theorem add4_assoc (a b c : C4) : add4 (add4 a b) c = add4 a (add4 b c) := by
  simp only [add4, Prod.mk.injEq]; omega
theorem cnt_append (a b : List Int) : cnt (a ++ b) = add4 (cnt a) (cnt b) := by
  induction a with
  | nil => rw [List.nil_append, cnt, zero_add4]
  | cons v a ih => rw [List.cons_append, cnt, ih, cnt, add4_assoc]
theorem cnt_snoc (a : List Int) (v : Int) : cnt (a ++ [v]) = add4 (cnt a) (one4 v) := by rw [cnt_append, cnt, cnt, add4_zero]
theorem cu_range (v : Int) : 1 ≤ cu v ∧ cu v ≤ 2 := by unfold cu; split <;> omega
theorem cl_range (v : Int) : 0 ≤ cl v ∧ cl v ≤ 1 := by unfold cl; split <;> omega
theorem cnt_range (l : List Int) : 0 ≤ (cnt l).1 ∧ (cnt l).1 ≤ 4 * l.length ∧ (cnt l).2.1 = l.length ∧ 0 ≤ (cnt l).2.2.1 ∧ (cnt l).2.2.1 ≤ 2 * l.length ∧ 0 ≤ (cnt l).2.2.2 ∧ (cnt l).2.2.2 ≤ l.length := by
  induction l with
  | nil => simp [cnt]
  | cons v l ih =>
    have a := enc_len v
    have b := cu_range v
    have c := cl_range v
    simp only [cnt, add4, one4, List.length_cons]
    omega
theorem cnt_step {us : List Int} {c0 c1 c2 c3 : Int} (h : cnt us = (c0, c1, c2, c3)) (hl : us.length ≤ 1000000) (v : Int) : cnt (us ++ [v]) = (wrap64 (c0 + ((enc v).length : Int)), wrap64 (c1 + 1), wrap64 (c2 + cu v), wrap64 (c3 + cl v)) := by
  have r := cnt_range us
  have a := enc_len v
  have b := cu_range v
  have c := cl_range v
  rw [cnt_snoc]
  rw [h] at r ⊢
  simp only at r
  simp only [add4, one4, Prod.mk.injEq]
  unfold wrap64
  omega
theorem cnt_bytes (l : List Int) : (cnt l).1 = ((encs l).length : Int) := by
  induction l with
  | nil => rfl
  | cons v l ih => rw [U.encs_cons, List.length_append]; simp only [cnt, add4, one4]; omega
/-- The first counts from which on there are at least so many of a kind. -/
def stopAt (k n : Int) : List Int → C4 → C4
  | [], c => c
  | v :: l, c => if n ≤ get4 c k then c else stopAt k n l (add4 c (one4 v))
def toEnd (c : C4) (k n : Int) : Int × Int := if get4 c k = n then (c.1, 0) else if k = 2 then (0, 50) else (0, 11)
def toSpec (s : ByteArray) (k n : Int) : Int × Int :=
  if (0 ≤ k ∧ k ≤ 3) ∧ valid (L s) = true then (if n < 0 ∨ get4 (cnt (points (L s))) k < n then (0, 10) else toEnd (stopAt k n (points (L s)) (0, 0, 0, 0)) k n) else (0, 12)
theorem get_idx (s : ByteArray) (i : Nat) (a : UInt8) (t : List UInt8) (h : (L s).drop i = a :: t) : (s.get! i) = a := by
  obtain ⟨hi, _, _⟩ := L_get s i a t h
  have e : (L s)[i]? = some a := by rw [← List.head?_drop, h]; rfl
  have hi' : i < s.data.size := hi
  unfold L at e
  rw [Array.getElem?_toList, Array.getElem?_eq_getElem hi'] at e
  injection e with e
  show s.data[i]! = a
  rw [getElem!_pos s.data i hi', e]
set_option maxHeartbeats 2000000 in
/-- What the model's range over a string finds at a code point. -/
theorem decode_enc (s : ByteArray) (us : List UInt8) (v : Int) (r : List UInt8) (hs : sc v) (h : L s = us ++ (enc v ++ r)) : ((Utf8.decode s us.length).1 : Int) = v ∧ (Utf8.decode s us.length).2 = (enc v).length := by
  have hd : (L s).drop us.length = enc v ++ r := by rw [h]; exact List.drop_left
  have hz : s.size = us.length + ((enc v).length + r.length) := by rw [L_len s |>.symm, h, List.length_append, List.length_append]
  have hs' := hs
  unfold sc at hs'
  rw [Lib.decode_at]
  unfold decodeN
  by_cases c1 : v < 128
  · rw [enc_one (by omega) c1] at hd hz ⊢
    have e0 := get_idx s _ _ _ hd
    have b0 := bi_of (x := v) (by omega) (by omega)
    unfold bi at b0
    rw [e0, if_pos (by omega)]
    exact ⟨b0, rfl⟩
  by_cases c2 : v < 2048
  · rw [enc_two (by omega) c2] at hd hz ⊢
    have hd' : (L s).drop us.length = (192 + v / 64).toNat.toUInt8 :: ([(128 + v % 64).toNat.toUInt8] ++ r) := hd
    have e0 := get_idx s _ _ _ hd'
    have e1 := get_idx s _ _ _ (L_get s _ _ _ hd').2.2
    have b0 := bi_of (x := 192 + v / 64) (by omega) (by omega)
    have b1 := bi_of (x := 128 + v % 64) (by omega) (by omega)
    unfold bi at b0 b1
    simp only [List.length_cons, List.length_nil] at hz
    rw [e0, e1, if_neg (by omega), if_pos (by omega), if_pos (by omega)]
    exact ⟨by simp only; omega, rfl⟩
  by_cases c3 : v < 65536
  · rw [enc_three (by omega) c3 hs] at hd hz ⊢
    have hd' : (L s).drop us.length = (224 + v / 4096).toNat.toUInt8 :: ((128 + v / 64 % 64).toNat.toUInt8 :: ([(128 + v % 64).toNat.toUInt8] ++ r)) := hd
    have e0 := get_idx s _ _ _ hd'
    have hd1 := (L_get s _ _ _ hd').2.2
    have e1 := get_idx s _ _ _ hd1
    have e2 := get_idx s _ _ _ (L_get s _ _ _ hd1).2.2
    have b0 := bi_of (x := 224 + v / 4096) (by omega) (by omega)
    have b1 := bi_of (x := 128 + v / 64 % 64) (by omega) (by omega)
    have b2 := bi_of (x := 128 + v % 64) (by omega) (by omega)
    unfold bi at b0 b1 b2
    simp only [List.length_cons, List.length_nil] at hz
    rw [e0, e1, e2, if_neg (by omega), if_neg (by omega), if_pos (by omega), if_pos (by omega)]
    exact ⟨by simp only; omega, rfl⟩
  · rw [enc_four (by omega) (by omega)] at hd hz ⊢
    have hd' : (L s).drop us.length = (240 + v / 262144).toNat.toUInt8 :: ((128 + v / 4096 % 64).toNat.toUInt8 :: ((128 + v / 64 % 64).toNat.toUInt8 :: ([(128 + v % 64).toNat.toUInt8] ++ r))) := hd
    have e0 := get_idx s _ _ _ hd'
    have hd1 := (L_get s _ _ _ hd').2.2
    have e1 := get_idx s _ _ _ hd1
    have hd2 := (L_get s _ _ _ hd1).2.2
    have e2 := get_idx s _ _ _ hd2
    have e3 := get_idx s _ _ _ (L_get s _ _ _ hd2).2.2
    have b0 := bi_of (x := 240 + v / 262144) (by omega) (by omega)
    have b1 := bi_of (x := 128 + v / 4096 % 64) (by omega) (by omega)
    have b2 := bi_of (x := 128 + v / 64 % 64) (by omega) (by omega)
    have b3 := bi_of (x := 128 + v % 64) (by omega) (by omega)
    unfold bi at b0 b1 b2 b3
    simp only [List.length_cons, List.length_nil] at hz
    rw [e0, e1, e2, e3, if_neg (by omega), if_neg (by omega), if_neg (by omega), if_pos (by omega), if_pos (by omega)]
    exact ⟨by simp only; omega, rfl⟩
/-- The model's bytes of a number are the plain law's. -/
theorem encode_enc (v : Int) : L (Utf8.encode v) = enc v := by
  by_cases hs : sc v
  · have hs' := hs
    unfold sc at hs'
    have hv : Utf8.valid v = true := by unfold Utf8.valid; simp; try omega
    unfold Utf8.encode L
    simp only [hv, if_true]
    by_cases c1 : v < 128
    · rw [if_pos (by omega), enc_one (by omega) c1]
    rw [if_neg (by omega)]
    by_cases c2 : v < 2048
    · rw [if_pos (by omega), enc_two (by omega) c2]
      show ([_, _] : List UInt8) = [_, _]
      rw [show (192 + v / 64).toNat = 192 + v.toNat / 64 by omega, show (128 + v % 64).toNat = 128 + v.toNat % 64 by omega]
    rw [if_neg (by omega)]
    by_cases c3 : v < 65536
    · rw [if_pos (by omega), enc_three (by omega) c3 hs]
      show [UInt8.ofNat _, UInt8.ofNat _, UInt8.ofNat _] = [Nat.toUInt8 _, Nat.toUInt8 _, Nat.toUInt8 _]
      rw [show (224 + v / 4096).toNat = 224 + v.toNat / 4096 by omega, show (128 + v / 64 % 64).toNat = 128 + v.toNat / 64 % 64 by omega, show (128 + v % 64).toNat = 128 + v.toNat % 64 by omega]
    · rw [if_neg (by omega), enc_four (by omega) (by omega)]
      show [UInt8.ofNat _, UInt8.ofNat _, UInt8.ofNat _, UInt8.ofNat _] = [Nat.toUInt8 _, Nat.toUInt8 _, Nat.toUInt8 _, Nat.toUInt8 _]
      rw [show (240 + v / 262144).toNat = 240 + v.toNat / 262144 by omega, show (128 + v / 4096 % 64).toNat = 128 + v.toNat / 4096 % 64 by omega, show (128 + v / 64 % 64).toNat = 128 + v.toNat / 64 % 64 by omega, show (128 + v % 64).toNat = 128 + v.toNat % 64 by omega]
  · have hs' := hs
    unfold sc at hs'
    have hv : Utf8.valid v = false := by unfold Utf8.valid; simp; omega
    rw [enc_bad hs]
    unfold Utf8.encode L
    simp only [hv, Bool.false_eq_true, if_false, Utf8.runeError]
    decide +kernel

end Go.Proofs.Ytgepcdpnjinadaa.V
end

section
-- MACHINE SIDE, written by wip/drive.py (this session's driver over the kit's print) for this claim. Lean checks it.
namespace Go.Proofs.Ytgepcdpnjinadaa.PX
open Go.RowKit Go.Proofs.YtgepcdpnjinadaaW.PrintWords Go.Proofs.YtgepcdpnjinadaaW.PrintLast Go.Proofs.YtgepcdpnjinadaaW.PrintMore
attribute [local go_sem] max2_int min2_int max_two min_two max_three min_three max_four min_four   -- for this text's walks alone
set_option linter.unusedVariables false
set_option linter.unusedSimpArgs false

-- HAND
-- FUNCTION palinode/count.of
-- KINDS (i32) (st) norounds making
-- NEEDS Derived.Test.YtgepcdpnjinadaaCN
def count_of.f (a0 : Int) : Option (Int × Int × Int × Int) := some (V.one4 a0)
theorem count_of.units (a0 : Int) (w : World) : Calls Try.prog 55 #[.int .i32 a0] w fun e w' => e = .returned (.int .i64 (V.cu a0)) ∧ w = w' := by
  unfold V.cu
  by_cases c : 65536 ≤ a0
  · rw [if_pos c]
    have c1 : decide (65536 ≤ a0) = true := decide_eq_true c
    go_enter Try.func55, Try.ntmps55
    go_wp2
    go_ret
    exact ⟨rfl, rfl⟩
  · rw [if_neg c]
    have c1 : decide (65536 ≤ a0) = false := decide_eq_false c
    go_enter Try.func55, Try.ntmps55
    go_wp2
    go_ret
    exact ⟨rfl, rfl⟩
set_option maxHeartbeats 8000000 in
set_option maxRecDepth 100000 in
theorem count_of.walk (a0 : Int) (w : World) (u l : Int) (hu : u = V.cu a0) (hl : l = V.cl a0) :
    Calls Try.prog 49 #[.int .i32 a0] w fun e w' => e = .returned (.agg #[.int .i64 ((Utf8.encode a0).size : Int), .int .i64 1, .int .i64 u, .int .i64 l]) ∧ Below w.heap.size w w' := by
  have hcu := count_of.units a0
  rw [← hu] at hcu
  clear hu
  unfold V.cl at hl
  by_cases c : a0 = 10
  · rw [if_pos c] at hl
    subst hl
    have c1 : (a0 == 10) = true := beq_iff_eq.mpr c
    clear c
    go_enter Try.func49, Try.ntmps49
    go_wp2_with (go_at_call 55; (with_reducible refine (hcu _).mono ?_); rintro e w1 ⟨rfl, rfl⟩)
    exact bodyPost_ret (v := .agg #[.int .i64 ((Utf8.encode a0).size : Int), .int .i64 1, .int .i64 u, .int .i64 1]) (by simp [results, Try.results49, go_sem]) rfl ⟨rfl, ((Below.refl _ _).alloc (Nat.le_refl _) _).alloc (by simp) _⟩
  · rw [if_neg c] at hl
    subst hl
    have c1 : (a0 == 10) = false := beq_eq_false_iff_ne.mpr c
    clear c
    go_enter Try.func49, Try.ntmps49
    go_wp2_with (go_at_call 55; (with_reducible refine (hcu _).mono ?_); rintro e w1 ⟨rfl, rfl⟩)
    exact bodyPost_ret (v := .agg #[.int .i64 ((Utf8.encode a0).size : Int), .int .i64 1, .int .i64 u, .int .i64 0]) (by simp [results, Try.results49, go_sem]) rfl ⟨rfl, ((Below.refl _ _).alloc (Nat.le_refl _) _).alloc (by simp) _⟩
theorem count_of.calls (a0 : Int) (r1 r2 r3 r4 : Int) (w : World) (h : count_of.f a0 = some (r1, r2, r3, r4)) :
  Calls Try.prog 49 #[.int .i32 a0] w fun e w' => e = .returned (.agg #[.int .i64 r1, .int .i64 r2, .int .i64 r3, .int .i64 r4]) ∧ Below w.heap.size w w' := by
 unfold count_of.f V.one4 at h
 simp only [Option.some.injEq, Prod.mk.injEq] at h
 obtain ⟨rfl, rfl, rfl, rfl⟩ := h
 have e : ((Utf8.encode a0).size : Int) = ((U.enc a0).length : Int) := by rw [← V.L_len, V.encode_enc]
 have := count_of.walk a0 w _ _ rfl rfl
 rw [e] at this
 exact this

end Go.Proofs.Ytgepcdpnjinadaa.PX
end

section
-- MACHINE SIDE, written by wip/drive.py (this session's driver over the kit's print) for this claim. Lean checks it.
namespace Go.Proofs.Ytgepcdpnjinadaa.PX
open Go.RowKit Go.Proofs.YtgepcdpnjinadaaW.PrintWords Go.Proofs.YtgepcdpnjinadaaW.PrintLast Go.Proofs.YtgepcdpnjinadaaW.PrintMore
attribute [local go_sem] max2_int min2_int max_two min_two max_three min_three max_four min_four   -- for this text's walks alone
set_option linter.unusedVariables false
set_option linter.unusedSimpArgs false

-- HAND
-- FUNCTION palinode/count.Get
-- KINDS (st i64) (i64) norounds making
-- NEEDS Derived.Test.YtgepcdpnjinadaaCN
def count_Get.f (a0_0 a0_1 a0_2 a0_3 a1 : Int) : Option Int := some (V.get4 (a0_0, a0_1, a0_2, a0_3) a1)
theorem count_Get.is (a1 : Int) (w : World) : Calls Try.prog 48 #[.int .i64 a1] w fun e w' => e = .returned (.bool (decide (0 ≤ a1 ∧ a1 ≤ 3))) ∧ w = w' := by
  by_cases c : 0 ≤ a1
  · have c1 : decide (0 ≤ a1) = true := decide_eq_true c
    by_cases d : a1 ≤ 3
    · have d1 : decide (a1 ≤ 3) = true := decide_eq_true d
      rw [decide_eq_true (show 0 ≤ a1 ∧ a1 ≤ 3 from ⟨c, d⟩)]
      go_enter Try.func48, Try.ntmps48
      go_wp2
      go_ret
      exact ⟨rfl, rfl⟩
    · have d1 : decide (a1 ≤ 3) = false := decide_eq_false d
      rw [decide_eq_false (show ¬ (0 ≤ a1 ∧ a1 ≤ 3) by omega)]
      go_enter Try.func48, Try.ntmps48
      go_wp2
      go_ret
      exact ⟨rfl, rfl⟩
  · have c1 : decide (0 ≤ a1) = false := decide_eq_false c
    rw [decide_eq_false (show ¬ (0 ≤ a1 ∧ a1 ≤ 3) by omega)]
    go_enter Try.func48, Try.ntmps48
    go_wp2
    go_ret
    exact ⟨rfl, rfl⟩
set_option maxHeartbeats 8000000 in
set_option maxRecDepth 100000 in
theorem count_Get.calls (a0_0 a0_1 a0_2 a0_3 a1 : Int) (r : Int) (w : World) (h : count_Get.f a0_0 a0_1 a0_2 a0_3 a1 = some r) :
  Calls Try.prog 42 #[.agg #[.int .i64 a0_0, .int .i64 a0_1, .int .i64 a0_2, .int .i64 a0_3], .int .i64 a1] w fun e w' => e = .returned (.int .i64 r) ∧ Below w.heap.size w w' := by
 unfold count_Get.f V.get4 at h
 obtain rfl := Option.some.inj h
 clear h
 have hIs := count_Get.is a1
 by_cases c : 0 ≤ a1 ∧ a1 ≤ 3
 ·rw [decide_eq_true c] at hIs
  rcases (by omega : a1 = 0 ∨ a1 = 1 ∨ a1 = 2 ∨ a1 = 3) with rfl | rfl | rfl | rfl
  ·clear c
   have ix : ∀ w, (Instr.index 73 (.agg #[.int .i64 a0_0, .int .i64 a0_1, .int .i64 a0_2, .int .i64 a0_3]) (.int .i64 0)).run Try.prog w = .ok (.int .i64 a0_0) w := fun _ => by kernel_rfl
   go_enter Try.func42, Try.ntmps42
   go_wp2_with (go_at_call 48; (with_reducible refine (hIs _).mono ?_); rintro e w1 ⟨rfl, rfl⟩)
   go_ret
   exact ⟨rfl, (Below.refl _ _).alloc (Nat.le_refl _) _⟩
  ·clear c
   have ix : ∀ w, (Instr.index 73 (.agg #[.int .i64 a0_0, .int .i64 a0_1, .int .i64 a0_2, .int .i64 a0_3]) (.int .i64 1)).run Try.prog w = .ok (.int .i64 a0_1) w := fun _ => by kernel_rfl
   go_enter Try.func42, Try.ntmps42
   go_wp2_with (go_at_call 48; (with_reducible refine (hIs _).mono ?_); rintro e w1 ⟨rfl, rfl⟩)
   go_ret
   exact ⟨rfl, (Below.refl _ _).alloc (Nat.le_refl _) _⟩
  ·clear c
   have ix : ∀ w, (Instr.index 73 (.agg #[.int .i64 a0_0, .int .i64 a0_1, .int .i64 a0_2, .int .i64 a0_3]) (.int .i64 2)).run Try.prog w = .ok (.int .i64 a0_2) w := fun _ => by kernel_rfl
   go_enter Try.func42, Try.ntmps42
   go_wp2_with (go_at_call 48; (with_reducible refine (hIs _).mono ?_); rintro e w1 ⟨rfl, rfl⟩)
   go_ret
   exact ⟨rfl, (Below.refl _ _).alloc (Nat.le_refl _) _⟩
  ·clear c
   have ix : ∀ w, (Instr.index 73 (.agg #[.int .i64 a0_0, .int .i64 a0_1, .int .i64 a0_2, .int .i64 a0_3]) (.int .i64 3)).run Try.prog w = .ok (.int .i64 a0_3) w := fun _ => by kernel_rfl
   go_enter Try.func42, Try.ntmps42
   go_wp2_with (go_at_call 48; (with_reducible refine (hIs _).mono ?_); rintro e w1 ⟨rfl, rfl⟩)
   go_ret
   exact ⟨rfl, (Below.refl _ _).alloc (Nat.le_refl _) _⟩
 ·rw [decide_eq_false c] at hIs
  rw [if_neg (by omega), if_neg (by omega), if_neg (by omega), if_neg (by omega)]
  clear c
  go_enter Try.func42, Try.ntmps42
  go_wp2_with (go_at_call 48; (with_reducible refine (hIs _).mono ?_); rintro e w1 ⟨rfl, rfl⟩)
  go_ret
  exact ⟨rfl, (Below.refl _ _).alloc (Nat.le_refl _) _⟩

end Go.Proofs.Ytgepcdpnjinadaa.PX
end
