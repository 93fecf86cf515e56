/- The law RopeLong on the small machine. No condition. (Printed by gen/ropelong.py.) -/
import Derived.Test.YtomnggbideepeaaQ10
import Derived.Test.YtomnggbideepeaaAT1
import Derived.Test.YtomnggbideepeaaRW
namespace Go.Proofs.Ytomnggbideepeaa.ropeLong
set_option linter.unusedSimpArgs false
set_option linter.unusedVariables false
open Go Go.Proofs.Ytomnggbideepeaa.U Go.Proofs.Ytomnggbideepeaa.AM
def shapes : List PSh := [.one (.i .u8), .one (.i .u16)]
theorem wt_u16 {x : PV} (h : WTA (.one (.i .u16)) x) : ∃ n : Nat, x = .sc (.int .u16 n) ∧ n < 65536 := by
  cases h with
  | one h =>
    cases h with
    | i hw =>
      rename_i n
      have h1 : 0 ≤ n ∧ n ≤ 65535 := by
        simp [Lit.wf, IntKind.min, IntKind.max, IntKind.signed, IntKind.bits] at hw
        exact hw
      exact ⟨n.toNat, by congr 2; omega, by omega⟩
theorem clean_same {s : ByteArray} (h : valid (L s) = true) : cleanS s = s := L_inj (by
  have : L (cleanS s) = clean (L s) := L_mk _
  rw [this, clean_of_valid _ h])
/-- One byte each. -/
def asc (s : ByteArray) : Prop := ∀ a ∈ L s, bi a < 128
theorem asc_val {l : List UInt8} (h : ∀ a ∈ l, bi a < 128) : valid l = true := by
  induction l with
  | nil => exact valid_nil
  | cons a l ih =>
    have ha := h a (by simp)
    have hr := bi_range a
    have e : enc (bi a) = [a] := by rw [enc_one hr.1 ha, of_bi]
    have := valid_enc1 (v := bi a) (by unfold sc; omega) l
    rw [e] at this
    rw [show a :: l = [a] ++ l from rfl, this]
    exact ih fun b hb => h b (by simp [hb])
theorem asc_edge {s : ByteArray} (h : asc s) (k : Nat) (hk : k ≤ s.size) : edge s (k : Int) = true := by
  have hv : valid (L s) = true := asc_val h
  by_cases c : k < s.size
  · have ha : (L s)[k]? = some ((L s)[k]'(by rw [L_len]; exact c)) := List.getElem?_eq_getElem _
    have := h _ (List.getElem_mem (show k < (L s).length by rw [L_len]; exact c))
    rw [edge_on hv k _ ha, decide_eq_false (by unfold cont; omega)]; rfl
  · have : k = s.size := by omega
    subst this
    rw [edge_off hv _ (by omega)]; simp
theorem asc_app {a b : ByteArray} (ha : asc a) (hb : asc b) : asc (a ++ b) := by
  intro x hx
  rw [L_append, List.mem_append] at hx
  rcases hx with hx | hx
  · exact ha x hx
  · exact hb x hx
theorem asc_take {a : ByteArray} (ha : asc a) (n : Nat) : asc (a.extract 0 n) := by
  intro x hx
  rw [ex_take] at hx
  exact ha x (List.mem_of_mem_take hx)
theorem repl_plain (s z : ByteArray) (p q : Nat) (hpq : p ≤ q) (hq : q ≤ s.size) (ha : asc s) (az : asc z) :
    chkR s p q = 0 ∧ (replS s p q z).size = s.size - (q - p) + z.size := by
  have ct := clean_same (asc_val az)
  have hX : replS s p q z = s.extract 0 p ++ z ++ s.extract q s.size := by unfold replS; rw [ct]; rfl
  have hL : L (replS s p q z) = (L s).take p ++ (L z ++ (L s).drop q) := by rw [hX, L_append, L_append, ex_take, ex_drop, List.append_assoc]
  have hsz : (replS s p q z).size = s.size - (q - p) + z.size := by
    rw [← L_len, hL, List.length_append, List.length_append, List.length_take, List.length_drop, L_len, L_len]; omega
  refine ⟨?_, hsz⟩
  unfold chkR
  rw [if_neg (by omega), if_pos ⟨asc_edge ha p (by omega), asc_edge ha q hq⟩]
theorem bytesL_zero : ∀ m : Nat, eff.bytesL (List.replicate m [pI .u8 0]) = some (List.replicate m 0)
  | 0 => rfl
  | m + 1 => by
    rw [List.replicate_succ, List.replicate_succ]
    show (eff.bytesL (List.replicate m [pI .u8 0])).map _ = _
    rw [bytesL_zero m]; rfl
/-- So many zeros. -/
def zS (m : Nat) : ByteArray := ⟨(List.replicate m 0).toArray⟩
theorem bytesOf_zero (m : Nat) : eff.bytesOf (List.replicate m [pI .u8 0]) = some (zS m) := by
  unfold eff.bytesOf
  rw [bytesL_zero]; rfl
theorem zS_asc (m : Nat) : asc (zS m) := by
  intro a h
  have : L (zS m) = List.replicate m 0 := L_mk _
  rw [this] at h
  rw [(List.mem_replicate.1 h).2]; decide
theorem zS_size (m : Nat) : (zS m).size = m := by
  rw [← L_len]
  have : L (zS m) = List.replicate m 0 := L_mk _
  rw [this, List.length_replicate]
/-- The law's body, for any texts in the place of its own. -/
def Body (T4 T5 D5 : ByteArray) : ACode := (.seq (.reg [⟨some 4, .mv (B false), none⟩] [0, 1]) (.seq (.seq (.reg [⟨some 20, .cl 19 [], none⟩, ⟨some 21, .s1 (.un .not) (t 20), none⟩] [0, 1, 21]) (.ite (t 21) (.seq (.reg [⟨some 4, .mv (B false), none⟩] [4]) .ret) .skip)) (.seq (.reg [⟨some 22, .mv (t 0), none⟩, ⟨some 23, .s2 (.bin .rem) (t 22) (IK .u8 (4)), none⟩, ⟨some 24, .s1 (.cv .i64) (t 23), none⟩, ⟨some 5, .mv (t 24), none⟩] [1, 5]) (.seq (.reg [⟨some 25, .mv (t 5), none⟩, ⟨some 26, .s2 (.bin .sub) (I 20000) (t 25), none⟩, ⟨some 27, .mks 5 1 1 [pI .u8 0] (t 26) (t 26), none⟩, ⟨some 28, .b2s (t 27), none⟩, ⟨some 6, .mv (t 28), none⟩] [1, 5, 6]) (.seq (.reg [⟨some 30, .mv (t 6), none⟩, ⟨some 31, .cl 21 [t 30], none⟩, ⟨some 29, .mv (t 31), none⟩, ⟨some 32, .ext (t 29) 0, none⟩, ⟨some 33, .ext (t 29) 1, none⟩, ⟨some 7, .mv (t 32), none⟩, ⟨some 8, .mv (t 33), none⟩] [1, 5, 6, 7, 8]) (.seq (.reg [⟨some 35, .mv (t 6), none⟩, ⟨some 36, .s2 (.bin .add) (t 35) (X.c (.p (.sc (.string D5)))), none⟩, ⟨some 37, .cl 21 [t 36], none⟩, ⟨some 34, .mv (t 37), none⟩, ⟨some 38, .ext (t 34) 0, none⟩, ⟨some 39, .ext (t 34) 1, none⟩, ⟨some 9, .mv (t 38), none⟩, ⟨some 10, .mv (t 39), none⟩] [1, 5, 7, 8, 10]) (.seq (.seq (.reg [⟨some 40, .mv (t 8), none⟩, ⟨some 41, .s2 (.bin .neq) (t 40) (I 0), none⟩, ⟨some 42, .mv (t 41), none⟩, ⟨some 43, .mv (t 10), some (42, false)⟩, ⟨some 44, .s2 (.bin .neq) (t 43) (I 13), some (42, false)⟩, ⟨some 45, .pick (t 42) (B true) (t 44), none⟩] [1, 5, 7, 45]) (.ite (t 45) (.seq (.reg [⟨some 4, .mv (B false), none⟩] [4]) .ret) .skip)) (.seq (.reg [⟨some 46, .mv (t 1), none⟩, ⟨some 47, .s1 (.cv .i64) (t 46), none⟩, ⟨some 48, .mv (t 5), none⟩, ⟨some 49, .s2 (.bin .sub) (I 20000) (t 48), none⟩, ⟨some 50, .s2 (.bin .rem) (t 47) (t 49), none⟩, ⟨some 11, .mv (t 50), none⟩] [5, 7, 11]) (.seq (.reg [⟨some 52, .mv (t 7), none⟩, ⟨some 53, .mv (t 11), none⟩, ⟨some 54, .mv (t 11), none⟩, ⟨some 55, .mv (t 5), none⟩, ⟨some 56, .sls (X.c (.p (.sc (.string T4)))) none (some (t 55)), none⟩, ⟨some 57, .cl 23 [t 52, t 53, t 54, t 56], none⟩, ⟨some 51, .mv (t 57), none⟩, ⟨some 58, .ext (t 51) 0, none⟩, ⟨some 59, .ext (t 51) 1, none⟩, ⟨some 12, .mv (t 58), none⟩, ⟨some 13, .mv (t 59), none⟩] [5, 7, 11, 12, 13]) (.seq (.reg [⟨some 61, .mv (t 7), none⟩, ⟨some 62, .mv (t 11), none⟩, ⟨some 63, .mv (t 11), none⟩, ⟨some 64, .mv (t 5), none⟩, ⟨some 65, .s2 (.bin .add) (t 64) (I 1), none⟩, ⟨some 66, .sls (X.c (.p (.sc (.string T5)))) none (some (t 65)), none⟩, ⟨some 67, .cl 23 [t 61, t 62, t 63, t 66], none⟩, ⟨some 60, .mv (t 67), none⟩, ⟨some 68, .ext (t 60) 0, none⟩, ⟨some 69, .ext (t 60) 1, none⟩, ⟨some 14, .mv (t 68), none⟩, ⟨some 15, .mv (t 69), none⟩] [5, 7, 11, 12, 13, 15]) (.seq (.reg [⟨some 71, .mv (t 7), none⟩, ⟨some 72, .mv (t 11), none⟩, ⟨some 73, .mv (t 11), none⟩, ⟨some 74, .s2 (.bin .add) (t 73) (I 1), none⟩, ⟨some 75, .mv (t 5), none⟩, ⟨some 76, .s2 (.bin .add) (t 75) (I 1), none⟩, ⟨some 77, .sls (X.c (.p (.sc (.string T5)))) none (some (t 76)), none⟩, ⟨some 78, .cl 23 [t 71, t 72, t 74, t 77], none⟩, ⟨some 70, .mv (t 78), none⟩, ⟨some 79, .ext (t 70) 0, none⟩, ⟨some 80, .ext (t 70) 1, none⟩, ⟨some 16, .mv (t 79), none⟩, ⟨some 17, .mv (t 80), none⟩] [12, 13, 15, 16, 17]) (.seq (.reg [⟨some 82, .mv (t 12), none⟩, ⟨some 83, .mv (t 12), none⟩, ⟨some 84, .cl 33 [t 82, t 83], none⟩, ⟨some 81, .mv (t 84), none⟩, ⟨some 85, .ext (t 81) 0, none⟩, ⟨some 86, .ext (t 81) 1, none⟩, ⟨some 18, .mv (t 85), none⟩, ⟨some 19, .mv (t 86), none⟩] [12, 13, 15, 16, 17, 19]) (.seq (.reg [⟨some 87, .mv (t 13), none⟩, ⟨some 88, .s2 (.bin .eql) (t 87) (I 0), none⟩, ⟨some 89, .mv (t 88), none⟩, ⟨some 90, .mv (t 12), some (89, true)⟩, ⟨some 91, .cl 25 [t 90], some (89, true)⟩, ⟨some 92, .s2 (.bin .eql) (t 91) (I 20000), some (89, true)⟩, ⟨some 93, .pick (t 89) (t 92) (B false), none⟩, ⟨some 94, .mv (t 93), none⟩, ⟨some 95, .mv (t 15), some (94, true)⟩, ⟨some 96, .s2 (.bin .eql) (t 95) (I 13), some (94, true)⟩, ⟨some 97, .pick (t 94) (t 96) (B false), none⟩, ⟨some 98, .mv (t 97), none⟩, ⟨some 99, .mv (t 17), some (98, true)⟩, ⟨some 100, .s2 (.bin .eql) (t 99) (I 0), some (98, true)⟩, ⟨some 101, .pick (t 98) (t 100) (B false), none⟩, ⟨some 102, .mv (t 101), none⟩, ⟨some 103, .mv (t 16), some (102, true)⟩, ⟨some 104, .cl 25 [t 103], some (102, true)⟩, ⟨some 105, .s2 (.bin .eql) (t 104) (I 20000), some (102, true)⟩, ⟨some 106, .pick (t 102) (t 105) (B false), none⟩, ⟨some 107, .mv (t 106), none⟩, ⟨some 108, .mv (t 19), some (107, true)⟩, ⟨some 109, .s2 (.bin .eql) (t 108) (I 13), some (107, true)⟩, ⟨some 110, .pick (t 107) (t 109) (B false), none⟩, ⟨some 111, .mv (t 110), none⟩, ⟨some 112, .mv (t 12), some (111, true)⟩, ⟨some 113, .cl 32 [t 112], some (111, true)⟩, ⟨some 114, .len (t 113), some (111, true)⟩, ⟨some 115, .s2 (.bin .leq) (t 114) (I 1252), some (111, true)⟩, ⟨some 116, .pick (t 111) (t 115) (B false), none⟩, ⟨some 4, .mv (t 116), none⟩] [4]) .ret)))))))))))))
theorem body_eq : A_law4_RopeLong.body = Body ⟨#[97, 98, 99, 100]⟩ ⟨#[97, 98, 99, 100, 101]⟩ ⟨#[49, 50, 51, 52, 53]⟩ := rfl
theorem strs_len (l : List ByteArray) : (strs l).length = l.length := by simp [strs]
set_option maxHeartbeats 8000000 in
set_option maxRecDepth 10000 in
theorem body (T4 T5 D5 : ByteArray) (z4 : T4.size = 4) (z5 : T5.size = 5) (zd : D5.size = 5) (a4 : asc T4) (a5 : asc T5) (ad : asc D5) (b n : Nat) (hb : b < 256) (hn : n < 65536) :
    runC ⟨2, 117, [.t 4], .skip⟩ (AM.Code EA (Body T4 T5 D5) ⟨[(0, .p (pI .u8 b)), (1, .p (pI .u16 n))], []⟩) = some (.val (.sc (.bool true))) := by
  have hk : Run EA 19 [] = some (.val (pb true)) := known4
  obtain ⟨k, hkk⟩ : ∃ k : Nat, k = b % 4 := ⟨_, rfl⟩
  have hk4 : k < 4 := by omega
  obtain ⟨m, hm⟩ : ∃ m : Nat, m = 20000 - k := ⟨_, rfl⟩
  obtain ⟨p, hp⟩ : ∃ p : Nat, p = n % m := ⟨_, rfl⟩
  have hp1 : p < m := by rw [hp]; exact Nat.mod_lt _ (by omega)
  have w1 : (b : Int).tmod 4 = (k : Int) := by rw [hkk]; exact tmod_nat b 4
  have w2 : IntKind.wrap .i64 (k : Int) = k := wrap_in _ (by omega) (by omega)
  have w3 : IntKind.wrap .i64 (20000 - (k : Int)) = m := by rw [wrap_in _ (by omega) (by omega)]; omega
  have w4 : IntKind.wrap .i64 (n : Int) = n := wrap_in _ (by omega) (by omega)
  have w5 : (n : Int).tmod (m : Int) = (p : Int) := by rw [hp]; exact tmod_nat n m
  have w6 : IntKind.wrap .i64 ((k : Int) + 1) = ((k + 1 : Nat) : Int) := by rw [wrap_in _ (by omega) (by omega)]; rfl
  have w7 : IntKind.wrap .i64 ((p : Int) + 1) = ((p + 1 : Nat) : Int) := by rw [wrap_in _ (by omega) (by omega)]; rfl
  have hne : ¬ (m : Int) = 0 := by omega
  have hne2 : ¬ m = 0 := by omega
  have hmb : m ≤ maxBytes ∧ m ≤ 9223372036854775807 := by unfold maxBytes; omega
  have ez := zS_size m
  have az := zS_asc m
  have c1 := clean_same (asc_val az)
  have c2 := clean_same (asc_val (asc_app az ad))
  have ezd : (zS m ++ D5).size = m + 5 := by rw [ByteArray.size_append, ez, zd]
  have hz5 : ((zS m).size : Int) + (D5.size : Int) ≤ 9223372036854775807 := by omega
  have hbz := bytesOf_zero m
  rcases ropeNew (cp := cpA) (zS m) (by omega) with ⟨h2, _⟩ | ⟨_, r, hr, d1⟩
  · rw [c1] at h2; omega
  rw [c1] at hr
  rcases ropeNew (cp := cpA) (zS m ++ D5) (by omega) with ⟨_, d2⟩ | ⟨h2, _⟩
  case inr => rw [c2] at h2; omega
  have e4 : (T4.extract 0 k).size = k := ex_take_size T4 k (by omega)
  have e5 : (T5.extract 0 (k + 1)).size = k + 1 := ex_take_size T5 (k + 1) (by omega)
  have k4 : k ≤ T4.size := by omega
  have k5 : k + 1 ≤ T5.size := by omega
  obtain ⟨u1, u2⟩ := repl_plain (zS m) (T4.extract 0 k) p p (by omega) (by omega) az (asc_take a4 k)
  obtain ⟨u3, u4⟩ := repl_plain (zS m) (T5.extract 0 (k + 1)) p p (by omega) (by omega) az (asc_take a5 (k + 1))
  obtain ⟨u5, u6⟩ := repl_plain (zS m) (T5.extract 0 (k + 1)) p (p + 1) (by omega) (by omega) az (asc_take a5 (k + 1))
  rcases ropeReplace (cp := cpA) hr (by omega) p p (T4.extract 0 k) (by omega) with ⟨h3, _⟩ | ⟨_, h3, _⟩ | ⟨_, _, x, hx, d3⟩
  · exact absurd u1 h3
  · omega
  rcases ropeReplace (cp := cpA) hr (by omega) p p (T5.extract 0 (k + 1)) (by omega) with ⟨h3, _⟩ | ⟨_, _, d4⟩ | ⟨_, h3, _⟩
  · exact absurd u3 h3
  case inr.inr => omega
  rcases ropeReplace (cp := cpA) hr (by omega) p ((p + 1 : Nat) : Int) (T5.extract 0 (k + 1)) (by omega) with ⟨h3, _⟩ | ⟨_, h3, _⟩ | ⟨_, _, y, hy, d5⟩
  · exact absurd u5 h3
  · omega
  rcases ropeConcat (cp := cpA) hx hx (by omega) (by omega) with ⟨_, d6⟩ | ⟨h3, _⟩
  case inr => omega
  have d7 := ropeLen (cp := cpA) hx
  have d8 := ropeLen (cp := cpA) hy
  obtain ⟨P, P1, P2, d9⟩ := ropeChunks (cp := cpA) cpA_all hx
  have hf := P1.few
  rw [P2, L_len] at hf
  have hf2 : (P.length : Int) ≤ 1252 := by omega
  have sl := strs_len P
  have l7 : (replS (zS m) p p (T4.extract 0 k)).size = 20000 := by omega
  have l8 : (replS (zS m) p ((p + 1 : Nat) : Int) (T5.extract 0 (k + 1))).size = 20000 := by omega
  rw [l7] at d7
  rw [l8] at d8
  rw [show EX cpA = EA from rfl] at *
  clear hr hx hy u1 u2 u3 u4 u5 u6 c1 c2 az l7 l8 P2 e4 e5
  generalize hz : zS m = Z at *
  generalize hzd : Z ++ D5 = ZD at *
  generalize hx4 : T4.extract 0 k = x4 at *
  generalize hx5 : T5.extract 0 (k + 1) = x5 at *
  generalize strs P = sp at *
  generalize hk1 : ((k + 1 : Nat) : Int) = k1 at *
  generalize hpp1 : ((p + 1 : Nat) : Int) = pp1 at *
  have t1 : 0 ≤ k1 := by omega
  have t2 : k1.toNat = k + 1 := by omega
  have hrl : (List.replicate m [pI .u8 0]).length = m := List.length_replicate
  have htk : (List.replicate m [pI .u8 0]).take m = List.replicate m [pI .u8 0] := List.take_of_length_le (by rw [hrl]; exact Nat.le_refl _)
  generalize hrep : List.replicate m [pI .u8 0] = rep at *
  have hmk : 0 ≤ (m : Int) := by omega
  simp (disch := omega) [Body, hk, w1, w2, w3, w4, w5, w6, w7, hne, hne2, hmb, hbz, hzd, hx4, hx5, hrep, hrl, htk, d1, d2, d3, d4, d5, d6, d7, d8, d9, if_pos hz5, k4, t1, t2, k5, hf2, sl, dec_yes, dec_no, if_yes]
set_option maxHeartbeats 8000000 in
theorem law (xs : List PV) (h : WTAs shapes xs) : Run EA 10 xs = some (.val (.sc (.bool true))) := by
  cases h with
  | cons h1 h => cases h with
  | cons h2 h =>
  cases h
  obtain ⟨b, rfl⟩ := wt_byte h1
  obtain ⟨n, rfl, hn⟩ := wt_u16 h2
  have a4 : asc ⟨#[97, 98, 99, 100]⟩ := by intro a ha; revert a; decide
  have a5 : asc ⟨#[97, 98, 99, 100, 101]⟩ := by intro a ha; revert a; decide
  have ad : asc ⟨#[49, 50, 51, 52, 53]⟩ := by intro a ha; revert a; decide
  have := body ⟨#[97, 98, 99, 100]⟩ ⟨#[97, 98, 99, 100, 101]⟩ ⟨#[49, 50, 51, 52, 53]⟩ rfl rfl rfl a4 a5 ad b.toNat n b.toNat_lt hn
  rw [← body_eq] at this
  rw [← this]
  exact run_fn _ A_law4_RopeLong _ rfl rfl rfl
end Go.Proofs.Ytomnggbideepeaa.ropeLong
