/- UtfCuts walked: a code point cut off, or with its last byte turned to a first one, is none there. No conditions. -/
import Derived.Test.YtgepcdpnjinadaaPureUtfNone
import Derived.Lib.ConvBytes
namespace Go.Proofs.Ytgepcdpnjinadaa.V
open Go.RowKit Go.Proofs.Ytgepcdpnjinadaa.PX Go.Proofs.YtgepcdpnjinadaaW.PrintWords Go.Proofs.YtgepcdpnjinadaaW.PrintLast Go.Proofs.YtgepcdpnjinadaaW.PrintMore Go.Proofs.Ytgepcdpnjinadaa.U Go.Lib
set_option linter.unusedVariables false
set_option linter.unusedSimpArgs false

/-- A part of a code point, from its first byte on, is none. -/
theorem dec_cut {k : Int} (hs : sc k) (c : Nat) (hc : c < (enc k).length) : (dec ((enc k).take c)).1 = 0 := by
  rcases parts ((enc k).take c) with h | ⟨a, t, h, h0⟩ | ⟨v, r, hv, h, hd⟩
  · rw [h]; rfl
  · exact h0
  · exfalso
    have e : enc k = enc v ++ (r ++ (enc k).drop c) := by
      conv => lhs; rw [← List.take_append_drop c (enc k), h]
      rw [List.append_assoc]
    have d1 := enc_dec v hv (r ++ (enc k).drop c)
    have d2 := enc_dec k hs []
    rw [List.append_nil, e, d1] at d2
    have l1 := (Prod.mk.inj d2).1
    rw [← e] at l1
    have l2 := congrArg List.length h
    rw [List.length_take, List.length_append] at l2
    omega
theorem cont120 : ¬ cont 120 := by decide
/-- A code point whose last byte is a first one is none. -/
theorem dec_turned {k : Int} (hs : sc k) (h2 : 2 ≤ (enc k).length) : (dec ((enc k).set ((enc k).length - 1) 120)).1 = 0 := by
  have hs' := hs
  unfold sc at hs'
  by_cases c1 : k < 128
  · rw [enc_one (by omega) c1] at h2
    simp at h2
  by_cases c2 : k < 2048
  · rw [enc_two (by omega) c2]
    have e := bi_of (x := 192 + k / 64) (by omega) (by omega)
    show (dec [_, 120]).1 = 0
    rw [dec.eq_def]
    simp only [e]
    rw [if_neg (by omega), if_neg (by omega), if_pos (by omega), if_neg (by intro h; exact cont120 h.1)]
  by_cases c3 : k < 65536
  · rw [enc_three (by omega) c3 hs]
    have e := bi_of (x := 224 + k / 4096) (by omega) (by omega)
    show (dec [_, _, 120]).1 = 0
    rw [dec.eq_def]
    simp only [e]
    rw [if_neg (by omega), if_neg (by omega), if_neg (by omega), if_pos (by omega), if_neg (by intro h; exact cont120 h.2.1)]
  · rw [enc_four (by omega) (by omega)]
    have e := bi_of (x := 240 + k / 262144) (by omega) (by omega)
    show (dec [_, _, _, 120]).1 = 0
    rw [dec.eq_def]
    simp only [e]
    rw [if_neg (by omega), if_neg (by omega), if_neg (by omega), if_neg (by omega), if_pos (by omega), if_neg (by intro h; exact cont120 h.2.2.1)]
theorem enc_two_up {k : Int} (hs : sc k) (h : 128 ≤ k) : 2 ≤ (enc k).length := by
  unfold sc at hs
  by_cases c2 : k < 2048
  · rw [enc_two h c2]; simp
  by_cases c3 : k < 65536
  · rw [enc_three (by omega) c3 (by unfold sc; omega)]; simp
  · rw [enc_four (by omega) (by omega)]; simp
/-- A string's bytes in new memory, one of them written over, read as such. -/
theorem reads_set (w : World) (e : TypeId) (s : ByteArray) (n : Nat) (hn : n < s.size) (x : Int) (hs : s.size ≤ 1000) :
    ReadsInt ((Lib.bytesWorld w e s).setCell ⟨w.heap.size, n, none⟩ (.int .u8 x)) .u8 (some ⟨w.heap.size, 0, none⟩) s.size ((bytesOf s).set n x) := by
  refine ⟨by rw [List.length_set, bytesOf_length], by omega, fun _ => ⟨_, rfl, fun j hj => ?_⟩⟩
  have hc := Lib.bytesWorld_cell w e s j hj
  have hd : j < s.data.toList.length := by rw [data_length]; exact hj
  have hb : (bytesOf s)[j]? = some ((s.data.toList.getD j 0).toNat : Int) := by
    unfold bytesOf
    rw [List.getElem?_map, List.getElem?_eq_getElem hd, List.getD_eq_getElem?_getD, List.getElem?_eq_getElem hd]; rfl
  show World.cell? _ (Addr.add ⟨w.heap.size, 0, none⟩ j) = _
  rw [show Addr.add ⟨w.heap.size, 0, none⟩ j = ⟨w.heap.size, j, none⟩ by simp [Addr.add]; omega]
  by_cases hj2 : j = n
  · subst hj2
    rw [World.cell?_setCell_same (h := hc), List.getD_eq_getElem?_getD, List.getElem?_set_self (by rw [bytesOf_length]; exact hj)]; rfl
  · rw [World.cell?_setCell_other (h := by intro h; exact hj2 (by injection h with _ h2; exact h2.symm)), hc]
    show _ = some (Value.int .u8 (((bytesOf s).set n x).getD j 0))
    rw [show ((bytesOf s).set n x).getD j 0 = ((s.data.toList.getD j 0).toNat : Int) by rw [List.getD_eq_getElem?_getD, List.getElem?_set_ne (by omega), hb]; rfl]
theorem bytes_below {w w2 : World} (h : Below w.heap.size w w2) (e : TypeId) (s : ByteArray) (n : Nat) (v : Value) : Below w.heap.size w ((Lib.bytesWorld w2 e s).setCell ⟨w2.heap.size, n, none⟩ v) := by
  refine below_set ⟨h.os, h.tape, h.output, ?_, fun i hi => (Lib.bytesWorld_at_old w2 e s i (Nat.lt_of_lt_of_le hi h.size)).trans (h.block i hi)⟩ h.size
  rw [Lib.bytesWorld_size]
  have := h.size
  omega
theorem frozen_new (w : World) (e : TypeId) (s : ByteArray) (n : Nat) (hn : n < s.size) : (Lib.bytesWorld w e s).frozen? ⟨w.heap.size, n, none⟩ = false := by
  have h := Lib.bytesWorld_at_new w e s
  have hs : s.size ≤ (Lib.bytesCells w e s).size := by simp [Lib.bytesCells]
  simp [World.frozen?, h]
  omega
theorem L_turned (s : ByteArray) (n : Nat) : L (strOfNums ((bytesOf s).set n 120)) = (L s).set n 120 := by
  rw [L_nums, List.map_set]
  unfold bytesOf
  rw [List.map_map]
  congr 1
  conv => rhs; rw [← List.map_id (L s)]
  exact List.map_congr_left (fun b _ => of_bi b)
set_option maxHeartbeats 8000000 in
set_option maxRecDepth 100000 in
theorem cuts_none (v b k : Int) (hk : v % 1113984 + 128 = k) (h0 : 0 ≤ b) (h1 : b ≤ 255) (h2 : 0 ≤ v) (h3 : v ≤ 4294967295) (hs : ¬ sc k) (w : World) :
    Calls Try.prog 7 #[.int .u32 v, .int .u8 b] w fun e w' => e = .returned (.bool true) ∧ Below w.heap.size w w' := by
  have hmk : ∀ (A : Option Addr) (c : Nat) (w : World), Kd.C (Kd.int .i64) w A 1 [k] → 1 ≤ c → Calls Try.prog 32 #[.slice A 1 c] w fun e w' => e = .returned (.string ⟨(U.encs ([k].map utf_mk)).toArray⟩) ∧ Below w.heap.size w w' := fun A c w hC hc => cMake A c [k] (by simp) w hC hc
  rw [List.map_cons, List.map_nil, U.encs_cons, U.encs_nil, List.append_nil, show (⟨(enc (utf_mk k)).toArray⟩ : ByteArray) = encS (utf_mk k) from rfl, mk_not hs, ← bad_S] at hmk
  have c1 : decide (55296 ≤ k) = true := decide_eq_true (by unfold sc at hs; omega)
  have c2 : decide (k < 57344) = true := decide_eq_true (by unfold sc at hs; omega)
  clear hs
  go_enter Try.func7, Try.ntmps7
  go_wp2_with (first | (go_at_call 17; (with_reducible refine (cKnown1 _).mono ?_); rintro e w1 ⟨rfl, b1⟩) | (go_at_call 32; (with_reducible refine (hmk _ _ _ (reads_oneC _ _ _ _ (by simp)) (by simp)).mono ?_); rintro e w2 ⟨rfl, b2⟩))
  go_ret
  exact ⟨rfl, by repeat (first | assumption | refine below_alloc ?_ _ | refine below_step ?_ (by assumption))⟩
set_option maxHeartbeats 8000000 in
set_option maxRecDepth 100000 in
theorem cuts_walk (v b k : Int) (hk : v % 1113984 + 128 = k) (h0 : 0 ≤ b) (h1 : b ≤ 255) (h2 : 0 ≤ v) (h3 : v ≤ 4294967295) (s : ByteArray) (hn2 : 2 ≤ s.size) (hn4 : s.size ≤ 4)
    (hmk : ∀ (A : Option Addr) (c : Nat) (w : World), Kd.C (Kd.int .i64) w A 1 [k] → 1 ≤ c → Calls Try.prog 32 #[.slice A 1 c] w fun e w' => e = .returned (.string s) ∧ Below w.heap.size w w')
    (t1 : ∀ w, Calls Try.prog 22 #[.string s, .int .i64 1] w fun e w' => e = .returned (.int .i64 0) ∧ Below w.heap.size w w')
    (t2 : ∀ w, Calls Try.prog 22 #[.string (s.extract 0 (b % (s.size : Int)).toNat), .int .i64 0] w fun e w' => e = .returned (.int .i64 0) ∧ Below w.heap.size w w')
    (t3 : ∀ w, Calls Try.prog 22 #[.string (strOfNums ((bytesOf s).set (s.size - 1) 120)), .int .i64 0] w fun e w' => e = .returned (.int .i64 0) ∧ Below w.heap.size w w')
    (t4 : ∀ w, Calls Try.prog 22 #[.string (s ++ (⟨#[120]⟩ : ByteArray)), .int .i64 0] w fun e w' => e = .returned (.int .i64 (s.size : Int)) ∧ Below w.heap.size w w')
    (hcond : decide (55296 ≤ k) = false ∨ (decide (55296 ≤ k) = true ∧ decide (k < 57344) = false)) (w : World) :
    Calls Try.prog 7 #[.int .u32 v, .int .u8 b] w fun e w' => e = .returned (.bool true) ∧ Below w.heap.size w w' := by
  have hne : (s = ByteArray.empty) = False := by
    apply eq_false
    intro h
    rw [h] at hn2
    simp at hn2
  have c0 := Int.emod_nonneg b (show (s.size : Int) ≠ 0 by omega)
  have c1 := Int.emod_lt_of_pos b (show (0 : Int) < (s.size : Int) by omega)
  have hsz1 : s.size + 1 ≤ maxLen := by unfold maxLen; omega
  go_enter Try.func7, Try.ntmps7
  rcases hcond with d1 | ⟨d1, d2⟩
  · skip
    go_wp2_with (first | (go_at_call 17; (with_reducible refine (cKnown1 _).mono ?_); rintro e w1 ⟨rfl, b1⟩) | (go_at_call 32; (with_reducible refine (hmk _ _ _ (reads_oneC _ _ _ _ (by simp)) (by simp)).mono ?_); rintro e w2 ⟨rfl, b2⟩))
    rw [Lib.run_convert_string_bytes _ _ _ _ _ Try.underlying9 Try.underlying39 Try.underlying5]
    simp only [Result.andThen]
    rw [Oper.upon_value]
    have hcell := Lib.bytesWorld_cell w2 5 s (s.size - 1) (by omega)
    have hfz := frozen_new w2 5 s (s.size - 1) (by omega)
    have hrd := Aside0.mk (reads_set w2 5 s (s.size - 1) (by omega) 120 (by omega))
    go_wp2_with (first | (go_at_call 22; (with_reducible refine (t1 _).mono ?_); rintro e w3 ⟨rfl, b3⟩) | (go_at_call 22; (with_reducible refine (t2 _).mono ?_); rintro e w4 ⟨rfl, b4⟩) | (go_at_call 22; (with_reducible refine (t3 _).mono ?_); rintro e w5 ⟨rfl, b5⟩) | (go_at_call 22; (with_reducible refine (t4 _).mono ?_); rintro e w6 ⟨rfl, b6⟩))
    rw [string_of_reads Try.underlying39 Try.underlying5 Try.underlying9 ((hrd.out.below b4).below b3)]
    simp only [Result.andThen]
    rw [Oper.upon_value]
    go_wp2_with (first | (go_at_call 22; (with_reducible refine (t1 _).mono ?_); rintro e w3 ⟨rfl, b3⟩) | (go_at_call 22; (with_reducible refine (t2 _).mono ?_); rintro e w4 ⟨rfl, b4⟩) | (go_at_call 22; (with_reducible refine (t3 _).mono ?_); rintro e w5 ⟨rfl, b5⟩) | (go_at_call 22; (with_reducible refine (t4 _).mono ?_); rintro e w6 ⟨rfl, b6⟩))
    go_ret
    exact ⟨rfl, by repeat (first | assumption | refine below_alloc ?_ _ | refine bytes_below ?_ _ _ _ _ | refine below_step ?_ (by assumption))⟩
  · skip
    go_wp2_with (first | (go_at_call 17; (with_reducible refine (cKnown1 _).mono ?_); rintro e w1 ⟨rfl, b1⟩) | (go_at_call 32; (with_reducible refine (hmk _ _ _ (reads_oneC _ _ _ _ (by simp)) (by simp)).mono ?_); rintro e w2 ⟨rfl, b2⟩))
    rw [Lib.run_convert_string_bytes _ _ _ _ _ Try.underlying9 Try.underlying39 Try.underlying5]
    simp only [Result.andThen]
    rw [Oper.upon_value]
    have hcell := Lib.bytesWorld_cell w2 5 s (s.size - 1) (by omega)
    have hfz := frozen_new w2 5 s (s.size - 1) (by omega)
    have hrd := Aside0.mk (reads_set w2 5 s (s.size - 1) (by omega) 120 (by omega))
    go_wp2_with (first | (go_at_call 22; (with_reducible refine (t1 _).mono ?_); rintro e w3 ⟨rfl, b3⟩) | (go_at_call 22; (with_reducible refine (t2 _).mono ?_); rintro e w4 ⟨rfl, b4⟩) | (go_at_call 22; (with_reducible refine (t3 _).mono ?_); rintro e w5 ⟨rfl, b5⟩) | (go_at_call 22; (with_reducible refine (t4 _).mono ?_); rintro e w6 ⟨rfl, b6⟩))
    rw [string_of_reads Try.underlying39 Try.underlying5 Try.underlying9 ((hrd.out.below b4).below b3)]
    simp only [Result.andThen]
    rw [Oper.upon_value]
    go_wp2_with (first | (go_at_call 22; (with_reducible refine (t1 _).mono ?_); rintro e w3 ⟨rfl, b3⟩) | (go_at_call 22; (with_reducible refine (t2 _).mono ?_); rintro e w4 ⟨rfl, b4⟩) | (go_at_call 22; (with_reducible refine (t3 _).mono ?_); rintro e w5 ⟨rfl, b5⟩) | (go_at_call 22; (with_reducible refine (t4 _).mono ?_); rintro e w6 ⟨rfl, b6⟩))
    go_ret
    exact ⟨rfl, by repeat (first | assumption | refine below_alloc ?_ _ | refine bytes_below ?_ _ _ _ _ | refine below_step ?_ (by assumption))⟩
theorem cuts_all (v b : Int) (h0 : 0 ≤ b) (h1 : b ≤ 255) (h2 : 0 ≤ v) (h3 : v ≤ 4294967295) (w : World) :
    Calls Try.prog 7 #[.int .u32 v, .int .u8 b] w fun e w' => e = .returned (.bool true) ∧ Below w.heap.size w w' := by
  obtain ⟨k, hk⟩ : ∃ k, v % 1113984 + 128 = k := ⟨_, rfl⟩
  by_cases hs : sc k
  · have hkk : 128 ≤ k := by omega
    have hl2 := enc_two_up hs hkk
    have hl4 := (enc_len k).2
    have hz : (encS k).size = (enc k).length := by rw [L_size, L_encS]
    have hmk : ∀ (A : Option Addr) (c : Nat) (w : World), Kd.C (Kd.int .i64) w A 1 [k] → 1 ≤ c → Calls Try.prog 32 #[.slice A 1 c] w fun e w' => e = .returned (.string ⟨(U.encs ([k].map utf_mk)).toArray⟩) ∧ Below w.heap.size w w' := fun A c w hC hc => cMake A c [k] (by simp) w hC hc
    rw [List.map_cons, List.map_nil, U.encs_cons, U.encs_nil, List.append_nil, show (⟨(enc (utf_mk k)).toArray⟩ : ByteArray) = encS (utf_mk k) from rfl, mk_sc hs] at hmk
    have c0 := Int.emod_nonneg b (show ((encS k).size : Int) ≠ 0 by omega)
    have c1 := Int.emod_lt_of_pos b (show (0 : Int) < ((encS k).size : Int) by omega)
    have t1 := cSize (encS k) 1 (by omega)
    rw [show sizeAt (encS k) 1 = 0 by
      show sizeAt (encS k) ((1 : Nat) : Int) = 0
      rw [sizeAt_in, L_encS]
      obtain ⟨a, t, he, _, ht⟩ := enc_shape k hs
      rw [he] at hl2 ⊢
      match t, ht, hl2 with
      | [], _, h => simp at h
      | p :: t, ht, _ => exact dec_cont (ht p (by simp)) t] at t1
    have t2 := cSize ((encS k).extract 0 (b % ((encS k).size : Int)).toNat) 0 (by rw [L_size, L_extract, List.length_take, List.length_drop, L_len]; omega)
    rw [show sizeAt ((encS k).extract 0 (b % ((encS k).size : Int)).toNat) 0 = 0 by
      show sizeAt _ ((0 : Nat) : Int) = 0
      rw [sizeAt_in, L_extract, L_encS, List.drop_zero, List.drop_zero, Nat.sub_zero]
      exact dec_cut hs _ (by omega)] at t2
    have t3 := cSize (strOfNums ((bytesOf (encS k)).set ((encS k).size - 1) 120)) 0 (by rw [L_size, L_turned, List.length_set, L_len]; omega)
    rw [show sizeAt (strOfNums ((bytesOf (encS k)).set ((encS k).size - 1) 120)) 0 = 0 by
      show sizeAt _ ((0 : Nat) : Int) = 0
      rw [sizeAt_in, L_turned, L_encS, List.drop_zero, hz]
      exact dec_turned hs hl2] at t3
    have t4 := cSize (encS k ++ (⟨#[120]⟩ : ByteArray)) 0 (by rw [size_append, show (⟨#[120]⟩ : ByteArray).size = 1 from rfl]; omega)
    rw [show sizeAt (encS k ++ (⟨#[120]⟩ : ByteArray)) 0 = (encS k).size by
      show sizeAt _ ((0 : Nat) : Int) = _
      rw [sizeAt_in, L_append, L_encS, List.drop_zero, enc_dec k hs, hz]] at t4
    refine cuts_walk v b k hk h0 h1 h2 h3 (encS k) (by omega) (by omega) hmk t1 t2 t3 t4 ?_ w
    unfold sc at hs
    by_cases c : 55296 ≤ k
    · exact .inr ⟨decide_eq_true c, decide_eq_false (by omega)⟩
    · exact .inl (decide_eq_false c)
  · exact cuts_none v b k hk h0 h1 h2 h3 hs w

end Go.Proofs.Ytgepcdpnjinadaa.V
namespace Go.Proofs.Ytgepcdpnjinadaa
open Go.RowKit V U
theorem Pure.UtfCuts : True := trivial
theorem PX.palinodelaw1_UtfCuts.walk (_ : True) (a0 : Int) (a1 : Int) (w : World) (w0 : (Lit.int .u32 a0).wf = true) (w1 : (Lit.int .u8 a1).wf = true) :
    Calls Try.prog 7 #[.int .u32 a0, .int .u8 a1] w fun e w' => e = .returned (.bool true) ∧ Below w.heap.size w w' :=
  cuts_all a0 a1 (bounds_u8 w1).1 (bounds_u8 w1).2 (bounds_u32 w0).1 (bounds_u32 w0).2 w
end Go.Proofs.Ytgepcdpnjinadaa
