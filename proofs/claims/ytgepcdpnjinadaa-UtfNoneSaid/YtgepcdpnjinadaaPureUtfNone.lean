/- UtfNone walked: numbers that are none, bytes that are none, are one sign. No conditions. -/
import Derived.Test.YtgepcdpnjinadaaC1
import Derived.OpenShut
import Derived.Test.YtgepcdpnjinadaaPureUtfClean
namespace Go.Proofs.Ytgepcdpnjinadaa.V
open Go.RowKit Go.Proofs.Ytgepcdpnjinadaa.PX Go.Proofs.YtgepcdpnjinadaaW.PrintWords Go.Proofs.YtgepcdpnjinadaaW.PrintLast Go.Proofs.YtgepcdpnjinadaaW.PrintMore Go.Proofs.Ytgepcdpnjinadaa.U Go.Lib
set_option linter.unusedVariables false
set_option linter.unusedSimpArgs false
theorem or128 : ∀ n : Nat, n < 256 → 128 ≤ bits .or .u8 (n : Int) 128 ∧ bits .or .u8 (n : Int) 128 < 256 := by decide +kernel
/-- A byte from 128 on with nothing behind it, or with a byte below 128, is none. -/
theorem dec_alone (a : UInt8) (ha : 128 ≤ bi a) (t : List UInt8) (ht : t = [] ∨ ∃ p r, t = p :: r ∧ bi p < 128) : (dec (a :: t)).1 = 0 := by
  rw [dec.eq_def]
  simp only
  rw [if_neg (by omega)]
  by_cases c2 : bi a < 192
  · rw [if_pos c2]
  rw [if_neg c2]
  rcases ht with rfl | ⟨p, r, rfl, hp⟩
  · by_cases c3 : bi a < 224
    · rw [if_pos c3]
    · rw [if_neg c3]
      by_cases c4 : bi a < 240
      · rw [if_pos c4]
      · rw [if_neg c4]
        by_cases c5 : bi a < 248
        · rw [if_pos c5]
        · rw [if_neg c5]
  · have hc : ¬ cont p := by unfold cont; omega
    by_cases c3 : bi a < 224
    · rw [if_pos c3]; dsimp only; rw [if_neg (by intro h; exact hc h.1)]
    · rw [if_neg c3]
      by_cases c4 : bi a < 240
      · rw [if_pos c4]
        match r with
        | [] => rfl
        | q :: r => dsimp only; rw [if_neg (by intro h; exact hc h.1)]
      · rw [if_neg c4]
        by_cases c5 : bi a < 248
        · rw [if_pos c5]
          match r with
          | [] => rfl
          | [q] => rfl
          | q :: r2 :: r => dsimp only; rw [if_neg (by intro h; exact hc h.1)]
        · rw [if_neg c5]
theorem bad_enc : enc 65533 = [239, 191, 189] := by decide +kernel
theorem bad_S : (⟨#[239, 191, 189]⟩ : ByteArray) = encS 65533 := by apply L_inj; rw [L_encS, bad_enc]; rfl
theorem none_c1 {c : ByteArray} {a : UInt8} (hc : L c = [a]) (ha : 128 ≤ bi a) : cleanS c = (⟨#[239, 191, 189]⟩ : ByteArray) := by
  rw [bad_S]
  apply L_inj
  rw [L_clean, L_encS, hc, clean_none (dec_alone a ha [] (.inl rfl)), clean_nil, List.append_nil]
theorem none_c2 {c : ByteArray} {a : UInt8} (hc : L c = [a]) (ha : 128 ≤ bi a) : cleanS (((⟨#[97]⟩ : ByteArray) ++ c) ++ (⟨#[98]⟩ : ByteArray)) = ((⟨#[97]⟩ : ByteArray) ++ (⟨#[239, 191, 189]⟩ : ByteArray)) ++ (⟨#[98]⟩ : ByteArray) := by
  have l2 : L (((⟨#[97]⟩ : ByteArray) ++ c) ++ (⟨#[98]⟩ : ByteArray)) = [97, a, 98] := by rw [L_append, L_append, hc]; rfl
  apply L_inj
  rw [L_clean, l2]
  have e97 : ([97, a, 98] : List UInt8) = enc 97 ++ (a :: [98]) := by rw [show enc 97 = [97] by decide +kernel]; rfl
  have e98 : ([98] : List UInt8) = enc 98 ++ [] := by decide +kernel
  rw [e97, clean_enc1 (by decide), clean_none (dec_alone a ha [98] (.inr ⟨98, [], rfl, by decide⟩)), e98, clean_enc1 (by decide), clean_nil, L_append, L_append]
  decide +kernel
theorem none_v1 {c : ByteArray} {a : UInt8} (hc : L c = [a]) (ha : 128 ≤ bi a) : valid (L c) = false := by rw [hc]; exact valid_none (dec_alone a ha [] (.inl rfl))
theorem valid_mk (v : Int) : valid (L (encS (utf_mk v))) = true := by
  have := valid_encs' [utf_mk v] (fun w hw => by rw [List.mem_singleton.1 hw]; exact sc_mk v)
  rw [U.encs_cons, U.encs_nil, List.append_nil] at this
  rw [L_encS]; exact this
theorem none_c3 : cleanS (⟨#[237, 160, 128]⟩ : ByteArray) = ((⟨#[239, 191, 189]⟩ : ByteArray) ++ (⟨#[239, 191, 189]⟩ : ByteArray)) ++ (⟨#[239, 191, 189]⟩ : ByteArray) := by
  apply L_inj
  rw [L_clean]
  show clean [237, 160, 128] = _
  rw [clean_none (by decide +kernel), clean_none (by decide +kernel), clean_none (by decide +kernel), clean_nil]; decide +kernel
theorem none_c4 : cleanS (⟨#[192, 128]⟩ : ByteArray) = ((⟨#[239, 191, 189]⟩ : ByteArray) ++ (⟨#[239, 191, 189]⟩ : ByteArray)) := by
  apply L_inj
  rw [L_clean]
  show clean [192, 128] = _
  rw [clean_none (by decide +kernel), clean_none (by decide +kernel), clean_nil]; decide +kernel
theorem none_byte (b : Int) (h0 : 0 ≤ b) (h1 : b ≤ 255) : ∃ (c : ByteArray) (a : UInt8), strOfNums [bits .or .u8 b 128] = c ∧ L c = [a] ∧ 128 ≤ bi a ∧ c.size = 1 := by
  obtain ⟨n, rfl⟩ : ∃ n : Nat, b = n := ⟨b.toNat, by omega⟩
  have h8 := or128 n (by omega)
  refine ⟨_, (bits .or .u8 (n : Int) 128).toNat.toUInt8, rfl, rfl, ?_, rfl⟩
  rw [bi_of (by omega) (by omega)]; exact h8.1
/-- A slice literal of one number reads as it. -/
theorem reads_one (w : World) (k : IntKind) (x : Int) (T : TypeId) (n : Nat) (hn : n = w.heap.size) : ReadsInt (w.alloc (.cells #[.int k x] T)) k (some ⟨n, 0, none⟩) 1 [x] := by
  subst hn
  refine ⟨rfl, by omega, fun _ => ⟨_, rfl, fun j hj => ?_⟩⟩
  obtain rfl : j = 0 := by omega
  simp [Addr.add]
theorem reads_oneC (w : World) (x : Int) (T : TypeId) (n : Nat) (hn : n = w.heap.size) : Kd.C (Kd.int .i64) (w.alloc (.cells #[.int .i64 x] T)) (some ⟨n, 0, none⟩) 1 [x] :=
  Kd.C_of_reads (d := (0 : Int)) (h1 := fun _ => rfl) (reads_one w .i64 x T n hn)
set_option maxHeartbeats 8000000 in
set_option maxRecDepth 100000 in
theorem none_walk (v b : Int) (h0 : 0 ≤ b) (h1 : b ≤ 255) (w : World) :
    Calls Try.prog 10 #[.int .i64 v, .int .u8 b] w fun e w' => e = .returned (.bool true) ∧ Below w.heap.size w w' := by
  obtain ⟨c, a, hnum, hL, ha, hcz⟩ := none_byte b h0 h1
  have hc1 := cClean c (by omega)
  rw [none_c1 hL ha] at hc1
  have hc2 := cClean (((⟨#[97]⟩ : ByteArray) ++ c) ++ (⟨#[98]⟩ : ByteArray)) (by rw [size_append, size_append, hcz]; decide)
  rw [none_c2 hL ha] at hc2
  have hv1 := cValid c (by omega)
  rw [none_v1 hL ha] at hv1
  have z2 : (encS (utf_mk v)).size ≤ 4 := by rw [L_size, L_encS]; exact (enc_len _).2
  have hv2 := cValid (encS (utf_mk v)) (by omega)
  rw [valid_mk v] at hv2
  have hc3 := cClean (⟨#[237, 160, 128]⟩ : ByteArray) (by decide)
  rw [none_c3] at hc3
  have hc4 := cClean (⟨#[192, 128]⟩ : ByteArray) (by decide)
  rw [none_c4] at hc4
  have hmk : ∀ (A : Option Addr) (c : Nat) (w : World), Kd.C (Kd.int .i64) w A 1 [v] → 1 ≤ c → Calls Try.prog 32 #[.slice A 1 c] w fun e w' => e = .returned (.string ⟨(U.encs ([v].map utf_mk)).toArray⟩) ∧ Below w.heap.size w w' := fun A c w hC hc => cMake A c [v] (by simp) w hC hc
  rw [List.map_cons, List.map_nil, U.encs_cons, U.encs_nil, List.append_nil, show (⟨(enc (utf_mk v)).toArray⟩ : ByteArray) = encS (utf_mk v) from rfl] at hmk
  have s1 : 1 + c.size ≤ 10 := by omega
  have s2 : ((⟨#[97]⟩ : ByteArray) ++ c).size + 1 ≤ 10 := by rw [size_append, hcz]; decide
  have s3 : ((⟨#[97]⟩ : ByteArray) ++ (⟨#[239, 191, 189]⟩ : ByteArray)).size + 1 ≤ 10 := by decide
  have s4 : ((⟨#[239, 191, 189]⟩ : ByteArray) ++ (⟨#[239, 191, 189]⟩ : ByteArray)).size + 3 ≤ 10 := by decide
  by_cases c1 : v < 0
  · have d1 : decide (v < 0) = true := decide_eq_true c1
    rw [mk_not (by unfold sc; omega), ← bad_S] at hmk hv2
    clear c1 z2
    go_enter Try.func10, Try.ntmps10
    go_wp2_with (first | (go_at_call 17; (with_reducible refine (cKnown1 _).mono ?_); rintro e w1 ⟨rfl, b1⟩) | (go_at_call 32; (with_reducible refine (hmk _ _ _ (reads_oneC _ _ _ _ (by simp)) (by simp)).mono ?_); rintro e w2 ⟨rfl, b2⟩) | (go_at_call 26; (with_reducible refine (hc1 _).mono ?_); rintro e w3 ⟨rfl, b3⟩) | (go_at_call 26; (with_reducible refine (hc2 _).mono ?_); rintro e w4 ⟨rfl, b4⟩) | (go_at_call 24; (with_reducible refine (hv1 _).mono ?_); rintro e w5 ⟨rfl, b5⟩) | (go_at_call 24; (with_reducible refine (hv2 _).mono ?_); rintro e w6 ⟨rfl, b6⟩) | (go_at_call 26; (with_reducible refine (hc3 _).mono ?_); rintro e w7 ⟨rfl, b7⟩) | (go_at_call 26; (with_reducible refine (hc4 _).mono ?_); rintro e w8 ⟨rfl, b8⟩))
    rw [string_of_reads (xs := [bits .or .u8 b 128]) Try.underlying39 Try.underlying5 Try.underlying9 (reads_one _ _ _ _ _ rfl), hnum]
    simp only [Result.andThen]
    rw [Oper.upon_value]
    go_wp2_with (first | (go_at_call 17; (with_reducible refine (cKnown1 _).mono ?_); rintro e w1 ⟨rfl, b1⟩) | (go_at_call 32; (with_reducible refine (hmk _ _ _ (reads_oneC _ _ _ _ (by simp)) (by simp)).mono ?_); rintro e w2 ⟨rfl, b2⟩) | (go_at_call 26; (with_reducible refine (hc1 _).mono ?_); rintro e w3 ⟨rfl, b3⟩) | (go_at_call 26; (with_reducible refine (hc2 _).mono ?_); rintro e w4 ⟨rfl, b4⟩) | (go_at_call 24; (with_reducible refine (hv1 _).mono ?_); rintro e w5 ⟨rfl, b5⟩) | (go_at_call 24; (with_reducible refine (hv2 _).mono ?_); rintro e w6 ⟨rfl, b6⟩) | (go_at_call 26; (with_reducible refine (hc3 _).mono ?_); rintro e w7 ⟨rfl, b7⟩) | (go_at_call 26; (with_reducible refine (hc4 _).mono ?_); rintro e w8 ⟨rfl, b8⟩))
    go_ret
    exact ⟨rfl, by repeat (first | assumption | refine below_alloc ?_ _ | refine below_step ?_ (by assumption))⟩
  have d1 : decide (v < 0) = false := decide_eq_false c1
  by_cases c2 : v > 1114111
  · have d2 : decide (1114111 < v) = true := decide_eq_true c2
    rw [mk_not (by unfold sc; omega), ← bad_S] at hmk hv2
    clear c1 c2 z2
    go_enter Try.func10, Try.ntmps10
    go_wp2_with (first | (go_at_call 17; (with_reducible refine (cKnown1 _).mono ?_); rintro e w1 ⟨rfl, b1⟩) | (go_at_call 32; (with_reducible refine (hmk _ _ _ (reads_oneC _ _ _ _ (by simp)) (by simp)).mono ?_); rintro e w2 ⟨rfl, b2⟩) | (go_at_call 26; (with_reducible refine (hc1 _).mono ?_); rintro e w3 ⟨rfl, b3⟩) | (go_at_call 26; (with_reducible refine (hc2 _).mono ?_); rintro e w4 ⟨rfl, b4⟩) | (go_at_call 24; (with_reducible refine (hv1 _).mono ?_); rintro e w5 ⟨rfl, b5⟩) | (go_at_call 24; (with_reducible refine (hv2 _).mono ?_); rintro e w6 ⟨rfl, b6⟩) | (go_at_call 26; (with_reducible refine (hc3 _).mono ?_); rintro e w7 ⟨rfl, b7⟩) | (go_at_call 26; (with_reducible refine (hc4 _).mono ?_); rintro e w8 ⟨rfl, b8⟩))
    rw [string_of_reads (xs := [bits .or .u8 b 128]) Try.underlying39 Try.underlying5 Try.underlying9 (reads_one _ _ _ _ _ rfl), hnum]
    simp only [Result.andThen]
    rw [Oper.upon_value]
    go_wp2_with (first | (go_at_call 17; (with_reducible refine (cKnown1 _).mono ?_); rintro e w1 ⟨rfl, b1⟩) | (go_at_call 32; (with_reducible refine (hmk _ _ _ (reads_oneC _ _ _ _ (by simp)) (by simp)).mono ?_); rintro e w2 ⟨rfl, b2⟩) | (go_at_call 26; (with_reducible refine (hc1 _).mono ?_); rintro e w3 ⟨rfl, b3⟩) | (go_at_call 26; (with_reducible refine (hc2 _).mono ?_); rintro e w4 ⟨rfl, b4⟩) | (go_at_call 24; (with_reducible refine (hv1 _).mono ?_); rintro e w5 ⟨rfl, b5⟩) | (go_at_call 24; (with_reducible refine (hv2 _).mono ?_); rintro e w6 ⟨rfl, b6⟩) | (go_at_call 26; (with_reducible refine (hc3 _).mono ?_); rintro e w7 ⟨rfl, b7⟩) | (go_at_call 26; (with_reducible refine (hc4 _).mono ?_); rintro e w8 ⟨rfl, b8⟩))
    go_ret
    exact ⟨rfl, by repeat (first | assumption | refine below_alloc ?_ _ | refine below_step ?_ (by assumption))⟩
  have d2 : decide (1114111 < v) = false := decide_eq_false c2
  by_cases c3 : v ≥ 55296
  · have d3 : decide (55296 ≤ v) = true := decide_eq_true c3
    by_cases c4 : v < 57344
    · have d4 : decide (v < 57344) = true := decide_eq_true c4
      rw [mk_not (by unfold sc; omega), ← bad_S] at hmk hv2
      clear c1 c2 c3 c4 z2
      go_enter Try.func10, Try.ntmps10
      go_wp2_with (first | (go_at_call 17; (with_reducible refine (cKnown1 _).mono ?_); rintro e w1 ⟨rfl, b1⟩) | (go_at_call 32; (with_reducible refine (hmk _ _ _ (reads_oneC _ _ _ _ (by simp)) (by simp)).mono ?_); rintro e w2 ⟨rfl, b2⟩) | (go_at_call 26; (with_reducible refine (hc1 _).mono ?_); rintro e w3 ⟨rfl, b3⟩) | (go_at_call 26; (with_reducible refine (hc2 _).mono ?_); rintro e w4 ⟨rfl, b4⟩) | (go_at_call 24; (with_reducible refine (hv1 _).mono ?_); rintro e w5 ⟨rfl, b5⟩) | (go_at_call 24; (with_reducible refine (hv2 _).mono ?_); rintro e w6 ⟨rfl, b6⟩) | (go_at_call 26; (with_reducible refine (hc3 _).mono ?_); rintro e w7 ⟨rfl, b7⟩) | (go_at_call 26; (with_reducible refine (hc4 _).mono ?_); rintro e w8 ⟨rfl, b8⟩))
      rw [string_of_reads (xs := [bits .or .u8 b 128]) Try.underlying39 Try.underlying5 Try.underlying9 (reads_one _ _ _ _ _ rfl), hnum]
      simp only [Result.andThen]
      rw [Oper.upon_value]
      go_wp2_with (first | (go_at_call 17; (with_reducible refine (cKnown1 _).mono ?_); rintro e w1 ⟨rfl, b1⟩) | (go_at_call 32; (with_reducible refine (hmk _ _ _ (reads_oneC _ _ _ _ (by simp)) (by simp)).mono ?_); rintro e w2 ⟨rfl, b2⟩) | (go_at_call 26; (with_reducible refine (hc1 _).mono ?_); rintro e w3 ⟨rfl, b3⟩) | (go_at_call 26; (with_reducible refine (hc2 _).mono ?_); rintro e w4 ⟨rfl, b4⟩) | (go_at_call 24; (with_reducible refine (hv1 _).mono ?_); rintro e w5 ⟨rfl, b5⟩) | (go_at_call 24; (with_reducible refine (hv2 _).mono ?_); rintro e w6 ⟨rfl, b6⟩) | (go_at_call 26; (with_reducible refine (hc3 _).mono ?_); rintro e w7 ⟨rfl, b7⟩) | (go_at_call 26; (with_reducible refine (hc4 _).mono ?_); rintro e w8 ⟨rfl, b8⟩))
      go_ret
      exact ⟨rfl, by repeat (first | assumption | refine below_alloc ?_ _ | refine below_step ?_ (by assumption))⟩
    · have d4 : decide (v < 57344) = false := decide_eq_false c4
      clear c1 c2 c3 c4 z2
      go_enter Try.func10, Try.ntmps10
      go_wp2_with (first | (go_at_call 17; (with_reducible refine (cKnown1 _).mono ?_); rintro e w1 ⟨rfl, b1⟩) | (go_at_call 32; (with_reducible refine (hmk _ _ _ (reads_oneC _ _ _ _ (by simp)) (by simp)).mono ?_); rintro e w2 ⟨rfl, b2⟩) | (go_at_call 26; (with_reducible refine (hc1 _).mono ?_); rintro e w3 ⟨rfl, b3⟩) | (go_at_call 26; (with_reducible refine (hc2 _).mono ?_); rintro e w4 ⟨rfl, b4⟩) | (go_at_call 24; (with_reducible refine (hv1 _).mono ?_); rintro e w5 ⟨rfl, b5⟩) | (go_at_call 24; (with_reducible refine (hv2 _).mono ?_); rintro e w6 ⟨rfl, b6⟩) | (go_at_call 26; (with_reducible refine (hc3 _).mono ?_); rintro e w7 ⟨rfl, b7⟩) | (go_at_call 26; (with_reducible refine (hc4 _).mono ?_); rintro e w8 ⟨rfl, b8⟩))
      rw [string_of_reads (xs := [bits .or .u8 b 128]) Try.underlying39 Try.underlying5 Try.underlying9 (reads_one _ _ _ _ _ rfl), hnum]
      simp only [Result.andThen]
      rw [Oper.upon_value]
      go_wp2_with (first | (go_at_call 17; (with_reducible refine (cKnown1 _).mono ?_); rintro e w1 ⟨rfl, b1⟩) | (go_at_call 32; (with_reducible refine (hmk _ _ _ (reads_oneC _ _ _ _ (by simp)) (by simp)).mono ?_); rintro e w2 ⟨rfl, b2⟩) | (go_at_call 26; (with_reducible refine (hc1 _).mono ?_); rintro e w3 ⟨rfl, b3⟩) | (go_at_call 26; (with_reducible refine (hc2 _).mono ?_); rintro e w4 ⟨rfl, b4⟩) | (go_at_call 24; (with_reducible refine (hv1 _).mono ?_); rintro e w5 ⟨rfl, b5⟩) | (go_at_call 24; (with_reducible refine (hv2 _).mono ?_); rintro e w6 ⟨rfl, b6⟩) | (go_at_call 26; (with_reducible refine (hc3 _).mono ?_); rintro e w7 ⟨rfl, b7⟩) | (go_at_call 26; (with_reducible refine (hc4 _).mono ?_); rintro e w8 ⟨rfl, b8⟩))
      go_ret
      exact ⟨rfl, by repeat (first | assumption | refine below_alloc ?_ _ | refine below_step ?_ (by assumption))⟩
  · have d3 : decide (55296 ≤ v) = false := decide_eq_false c3
    clear c1 c2 c3 z2
    go_enter Try.func10, Try.ntmps10
    go_wp2_with (first | (go_at_call 17; (with_reducible refine (cKnown1 _).mono ?_); rintro e w1 ⟨rfl, b1⟩) | (go_at_call 32; (with_reducible refine (hmk _ _ _ (reads_oneC _ _ _ _ (by simp)) (by simp)).mono ?_); rintro e w2 ⟨rfl, b2⟩) | (go_at_call 26; (with_reducible refine (hc1 _).mono ?_); rintro e w3 ⟨rfl, b3⟩) | (go_at_call 26; (with_reducible refine (hc2 _).mono ?_); rintro e w4 ⟨rfl, b4⟩) | (go_at_call 24; (with_reducible refine (hv1 _).mono ?_); rintro e w5 ⟨rfl, b5⟩) | (go_at_call 24; (with_reducible refine (hv2 _).mono ?_); rintro e w6 ⟨rfl, b6⟩) | (go_at_call 26; (with_reducible refine (hc3 _).mono ?_); rintro e w7 ⟨rfl, b7⟩) | (go_at_call 26; (with_reducible refine (hc4 _).mono ?_); rintro e w8 ⟨rfl, b8⟩))
    rw [string_of_reads (xs := [bits .or .u8 b 128]) Try.underlying39 Try.underlying5 Try.underlying9 (reads_one _ _ _ _ _ rfl), hnum]
    simp only [Result.andThen]
    rw [Oper.upon_value]
    go_wp2_with (first | (go_at_call 17; (with_reducible refine (cKnown1 _).mono ?_); rintro e w1 ⟨rfl, b1⟩) | (go_at_call 32; (with_reducible refine (hmk _ _ _ (reads_oneC _ _ _ _ (by simp)) (by simp)).mono ?_); rintro e w2 ⟨rfl, b2⟩) | (go_at_call 26; (with_reducible refine (hc1 _).mono ?_); rintro e w3 ⟨rfl, b3⟩) | (go_at_call 26; (with_reducible refine (hc2 _).mono ?_); rintro e w4 ⟨rfl, b4⟩) | (go_at_call 24; (with_reducible refine (hv1 _).mono ?_); rintro e w5 ⟨rfl, b5⟩) | (go_at_call 24; (with_reducible refine (hv2 _).mono ?_); rintro e w6 ⟨rfl, b6⟩) | (go_at_call 26; (with_reducible refine (hc3 _).mono ?_); rintro e w7 ⟨rfl, b7⟩) | (go_at_call 26; (with_reducible refine (hc4 _).mono ?_); rintro e w8 ⟨rfl, b8⟩))
    go_ret
    exact ⟨rfl, by repeat (first | assumption | refine below_alloc ?_ _ | refine below_step ?_ (by assumption))⟩

end Go.Proofs.Ytgepcdpnjinadaa.V
namespace Go.Proofs.Ytgepcdpnjinadaa
open Go.RowKit V U
theorem Pure.UtfNone : True := trivial
theorem PX.palinodelaw1_UtfNone.walk (_ : True) (a0 : Int) (a1 : Int) (w : World) (_ : (Lit.int .i64 a0).wf = true) (w1 : (Lit.int .u8 a1).wf = true) :
    Calls Try.prog 10 #[.int .i64 a0, .int .u8 a1] w fun e w' => e = .returned (.bool true) ∧ Below w.heap.size w w' :=
  none_walk a0 a1 (bounds_u8 w1).1 (bounds_u8 w1).2 w
end Go.Proofs.Ytgepcdpnjinadaa
