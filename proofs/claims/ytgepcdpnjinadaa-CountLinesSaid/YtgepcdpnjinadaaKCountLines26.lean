-- several texts in one (wip/merge.py)
import Derived.Test.YtgepcdpnjinadaaKCountLines0
import Derived.Laws.BitsLemmas
import Derived.Lib.Strings
import Derived.Test.YtgepcdpnjinadaaKCountLines22
import Derived.Test.YtgepcdpnjinadaaKCountLines25
section
/- The printed functions of package utf and of its reference, against the plain law: what each comes to. No conditions but the sizes that a Go program's strings have. -/
namespace Go.Proofs.Ytgepcdpnjinadaa.V
open Go.RowKit Go.Proofs.Ytgepcdpnjinadaa.PX Go.Proofs.YtgepcdpnjinadaaW.PrintWords Go.Proofs.YtgepcdpnjinadaaW.PrintLast Go.Proofs.Ytgepcdpnjinadaa.U Go.Lib
set_option linter.unusedVariables false

theorem b_and128 : ∀ n : Nat, n < 256 → bits .and .u8 (n : Int) 128 = (n / 128 * 128 : Nat) := by decide +kernel
theorem b_and224 : ∀ n : Nat, n < 256 → bits .and .u8 (n : Int) 224 = (n / 32 * 32 : Nat) := by decide +kernel
theorem b_and240 : ∀ n : Nat, n < 256 → bits .and .u8 (n : Int) 240 = (n / 16 * 16 : Nat) := by decide +kernel
theorem b_and248 : ∀ n : Nat, n < 256 → bits .and .u8 (n : Int) 248 = (n / 8 * 8 : Nat) := by decide +kernel
theorem b_and192 : ∀ n : Nat, n < 256 → bits .and .u8 (n : Int) 192 = (n / 64 * 64 : Nat) := by decide +kernel
theorem b_not192 : ∀ n : Nat, n < 256 → bits .andNot .u8 (n : Int) 192 = (n % 64 : Nat) := by decide +kernel
theorem b_not128 : ∀ n : Nat, n < 256 → bits .andNot .u8 (n : Int) 128 = (n % 128 : Nat) := by decide +kernel
theorem b_not224 : ∀ n : Nat, n < 256 → bits .andNot .u8 (n : Int) 224 = (n % 32 : Nat) := by decide +kernel
theorem b_not240 : ∀ n : Nat, n < 256 → bits .andNot .u8 (n : Int) 240 = (n % 16 : Nat) := by decide +kernel
theorem b_not248 : ∀ n : Nat, n < 256 → bits .andNot .u8 (n : Int) 248 = (n % 8 : Nat) := by decide +kernel
theorem n128 {x : Int} (h0 : 0 ≤ x) (h1 : x < 256) : bits .and .u8 x 128 = x / 128 * 128 := by
  obtain ⟨n, rfl⟩ : ∃ n : Nat, x = n := ⟨x.toNat, by omega⟩
  rw [b_and128 n (by omega)]; omega
theorem n224 {x : Int} (h0 : 0 ≤ x) (h1 : x < 256) : bits .and .u8 x 224 = x / 32 * 32 := by
  obtain ⟨n, rfl⟩ : ∃ n : Nat, x = n := ⟨x.toNat, by omega⟩
  rw [b_and224 n (by omega)]; omega
theorem n240 {x : Int} (h0 : 0 ≤ x) (h1 : x < 256) : bits .and .u8 x 240 = x / 16 * 16 := by
  obtain ⟨n, rfl⟩ : ∃ n : Nat, x = n := ⟨x.toNat, by omega⟩
  rw [b_and240 n (by omega)]; omega
theorem n248 {x : Int} (h0 : 0 ≤ x) (h1 : x < 256) : bits .and .u8 x 248 = x / 8 * 8 := by
  obtain ⟨n, rfl⟩ : ∃ n : Nat, x = n := ⟨x.toNat, by omega⟩
  rw [b_and248 n (by omega)]; omega
theorem n192 {x : Int} (h0 : 0 ≤ x) (h1 : x < 256) : bits .and .u8 x 192 = x / 64 * 64 := by
  obtain ⟨n, rfl⟩ : ∃ n : Nat, x = n := ⟨x.toNat, by omega⟩
  rw [b_and192 n (by omega)]; omega
theorem m192 {x : Int} (h0 : 0 ≤ x) (h1 : x < 256) : bits .andNot .u8 x 192 = x % 64 := by
  obtain ⟨n, rfl⟩ : ∃ n : Nat, x = n := ⟨x.toNat, by omega⟩
  rw [b_not192 n (by omega)]; omega
theorem m128 {x : Int} (h0 : 0 ≤ x) (h1 : x < 256) : bits .andNot .u8 x 128 = x % 128 := by
  obtain ⟨n, rfl⟩ : ∃ n : Nat, x = n := ⟨x.toNat, by omega⟩
  rw [b_not128 n (by omega)]; omega
theorem m224 {x : Int} (h0 : 0 ≤ x) (h1 : x < 256) : bits .andNot .u8 x 224 = x % 32 := by
  obtain ⟨n, rfl⟩ : ∃ n : Nat, x = n := ⟨x.toNat, by omega⟩
  rw [b_not224 n (by omega)]; omega
theorem m240 {x : Int} (h0 : 0 ≤ x) (h1 : x < 256) : bits .andNot .u8 x 240 = x % 16 := by
  obtain ⟨n, rfl⟩ : ∃ n : Nat, x = n := ⟨x.toNat, by omega⟩
  rw [b_not240 n (by omega)]; omega
theorem m248 {x : Int} (h0 : 0 ≤ x) (h1 : x < 256) : bits .andNot .u8 x 248 = x % 8 := by
  obtain ⟨n, rfl⟩ : ∃ n : Nat, x = n := ⟨x.toNat, by omega⟩
  rw [b_not248 n (by omega)]; omega
/-- A string's bytes. -/
def L (s : ByteArray) : List UInt8 := s.data.toList
theorem L_len (s : ByteArray) : (L s).length = s.size := by unfold L; rw [Array.length_toList]; rfl
theorem L_mk (l : List UInt8) : L ⟨l.toArray⟩ = l := by simp [L]
theorem L_inj {s t : ByteArray} (h : L s = L t) : s = t := by
  unfold L at h
  cases s; cases t
  simp only [ByteArray.mk.injEq]
  exact Array.toList_inj.1 h
theorem mk_L (s : ByteArray) : (⟨(L s).toArray⟩ : ByteArray) = s := L_inj (L_mk _)
theorem toList_L (s : ByteArray) : s.toList = L s := Lib.toList_data s
theorem L_append (s t : ByteArray) : L (s ++ t) = L s ++ L t := by simp [L]
theorem bt_range (s : ByteArray) (i : Int) : 0 ≤ bt s i ∧ bt s i < 256 := by
  unfold bt
  split
  · have := (s[i.toNat]).toNat_lt; omega
  · omega
theorem L_drop (s : ByteArray) (i : Nat) (h : i < s.size) : ∃ a, (L s).drop i = a :: (L s).drop (i + 1) ∧ bi a = bt s i := by
  have h' : i < (L s).length := by rw [L_len]; exact h
  refine ⟨(L s)[i], List.drop_eq_getElem_cons h', ?_⟩
  unfold bi bt
  rw [dif_pos (by simpa using h)]
  rfl
theorem L_drop_nil (s : ByteArray) (i : Nat) (h : s.size ≤ i) : (L s).drop i = [] := by rw [List.drop_eq_nil_iff, L_len]; exact h
theorem L_get (s : ByteArray) (i : Nat) (a : UInt8) (t : List UInt8) (h : (L s).drop i = a :: t) : i < s.size ∧ bt s i = bi a ∧ (L s).drop (i + 1) = t := by
  have hi : i < s.size := by
    rcases Nat.lt_or_ge i s.size with h' | h'
    · exact h'
    · rw [L_drop_nil s i h'] at h; cases h
  obtain ⟨b, hb, e⟩ := L_drop s i hi
  rw [hb] at h
  obtain ⟨rfl, rfl⟩ := List.cons.inj h
  exact ⟨hi, e.symm, rfl⟩

end Go.Proofs.Ytgepcdpnjinadaa.V
end

section
/- The printed point, Size of package utf, against the plain law. No conditions but a string's size. -/
namespace Go.Proofs.Ytgepcdpnjinadaa.V
open Go.RowKit Go.Proofs.Ytgepcdpnjinadaa.PX Go.Proofs.YtgepcdpnjinadaaW.PrintWords Go.Proofs.YtgepcdpnjinadaaW.PrintLast Go.Proofs.Ytgepcdpnjinadaa.U Go.Lib
set_option linter.unusedVariables false

theorem isPoint_eq (v : Int) : utf_isPoint.f v = some (decide (sc v)) := by
  unfold utf_isPoint.f
  by_cases a : v ≥ 0
  · rw [if_pos a]
    by_cases b : v ≤ 1114111
    · rw [if_pos b]
      by_cases c : v < 55296
      · rw [if_pos c, decide_eq_true (show sc v by unfold sc; omega)]
      · rw [if_neg c]
        exact congrArg some (decide_eq_decide.2 (by unfold sc; omega))
    · rw [if_neg b, decide_eq_false (show ¬ sc v by unfold sc; omega)]
  · rw [if_neg a, decide_eq_false (show ¬ sc v by unfold sc; omega)]
theorem w64 {x : Int} (h0 : -9223372036854775808 ≤ x) (h1 : x ≤ 9223372036854775807) : wrap64 x = x := by unfold wrap64; omega
theorem w32 {x : Int} (h0 : -2147483648 ≤ x) (h1 : x ≤ 2147483647) : wrap32 x = x := by unfold wrap32; omega
theorem long_step (k : Nat) (s : ByteArray) (hs : s.size ≤ 140737488351232) (i x2 x10 x11 m f ls : Int) (h : x11 < x2) (h0 : 0 ≤ x11) (h3 : x11 ≤ 3) (hi : 0 ≤ i) (hj : i + x11 < s.size) (a0 : 0 ≤ x10) (a1 : x10 < 1000000) :
    utf_long.l0 (k + 1) s i x2 x10 x11 m f ls = if 128 ≤ bt s (i + x11) ∧ bt s (i + x11) < 192 then utf_long.l0 k s i x2 (x10 * 64 + (bt s (i + x11) - 128)) (x11 + 1) m f ls else some (0, 0) := by
  have hb := bt_range s (i + x11)
  simp only [utf_long.l0]
  rw [if_pos h, w64 (x := i + x11) (by omega) (by omega), if_pos (by omega), if_pos hj, n192 hb.1 hb.2, m192 hb.1 hb.2]
  by_cases c : 128 ≤ bt s (i + x11) ∧ bt s (i + x11) < 192
  · rw [if_pos c, if_pos (by omega), w64 (x := x11 + 1) (by omega) (by omega), w32 (x := x10 * 64) (by omega) (by omega), w32 (x := bt s (i + x11) % 64) (by omega) (by omega), i32_or6 (x := x10 * 64) (y := bt s (i + x11) % 64) (by omega) (by omega) (by omega) (by omega) (by omega)]
    rw [show bt s (i + x11) % 64 = bt s (i + x11) - 128 by omega]
  · rw [if_neg c, if_neg (by omega)]
theorem long_end (k : Nat) (s : ByteArray) (i x2 x10 x11 m f ls : Int) (h : ¬ x11 < x2) :
    utf_long.l0 (k + 1) s i x2 x10 x11 m f ls = if ls ≤ x10 ∧ sc x10 then some (x10, x2) else some (0, 0) := by
  simp only [utf_long.l0]
  rw [if_neg h]
  by_cases c : x10 < ls
  · rw [if_pos c, if_neg (by omega)]
  · rw [if_neg c, isPoint_eq, Option.bind_some]
    by_cases d : sc x10
    · rw [if_pos (by simpa using d), if_pos ⟨by omega, d⟩]
    · rw [if_neg (by simpa using d), if_neg (by intro h; exact d h.2)]
/-- The head of what stands at a place. -/
theorem at_head (s : ByteArray) (i : Nat) (h : i < s.size) : ∃ a t, (L s).drop i = a :: t ∧ bt s i = bi a ∧ (L s).drop (i + 1) = t := by
  obtain ⟨a, e, hb⟩ := L_drop s i h
  exact ⟨a, _, e, hb.symm, rfl⟩
theorem dsize (s : ByteArray) (i : Nat) (l : List UInt8) (h : (L s).drop i = l) (hi : i ≤ s.size) : s.size = i + l.length := by
  have := congrArg List.length h
  rw [List.length_drop, L_len] at this
  omega
theorem long1 (k : Nat) (s : ByteArray) (hs : s.size ≤ 140737488351232) (i : Nat) (a : UInt8) (t : List UInt8) (hd : (L s).drop i = a :: t) (ha : bi a < 128) : utf_long.f (k + 6) s i 1 128 0 0 = some (bi a, 1) := by
  obtain ⟨hi, hb, _⟩ := L_get s i a t hd
  have hr := bi_range a
  unfold utf_long.f
  rw [w64 (by omega) (by omega), if_neg (by omega), if_pos (by omega), if_pos (by omega), hb, m128 hr.1 hr.2, w32 (by omega) (by omega), long_end _ _ _ _ _ _ _ _ _ (by omega)]
  rw [show bi a % 128 = bi a by omega, if_pos ⟨by omega, Or.inl ⟨by omega, by omega⟩⟩]
theorem long2 (k : Nat) (s : ByteArray) (hs : s.size ≤ 140737488351232) (i : Nat) (a : UInt8) (t : List UInt8) (hd : (L s).drop i = a :: t) (h0 : 192 ≤ bi a) (h1 : bi a < 224) :
    utf_long.f (k + 6) s i 2 224 192 128 = some ((dec (a :: t)).2, ((dec (a :: t)).1 : Int)) := by
  obtain ⟨hi, hb, hd1⟩ := L_get s i a t hd
  have hr := bi_range a
  have hl := dsize s i _ hd (by omega)
  rw [dec.eq_def]
  simp only
  rw [if_neg (by omega), if_neg (by omega), if_pos h1]
  unfold utf_long.f
  rw [w64 (by omega) (by omega)]
  match t, hd1, hl with
  | [], _, hl => rw [if_pos (by simp at hl; omega)]; rfl
  | p :: t, hd1, hl =>
    dsimp only
    obtain ⟨hi1, hb1, _⟩ := L_get s (i + 1) p t hd1
    have hb1' : bt s ((i : Int) + 1) = bi p := by rw [← hb1]; rfl
    rw [if_neg (by simp at hl; omega), if_pos (by omega), if_pos (by omega), hb, m224 hr.1 hr.2, w32 (by omega) (by omega), long_step _ s hs _ _ _ _ _ _ _ (by omega) (by omega) (by omega) (by omega) (by omega) (by omega) (by omega), hb1', long_end _ _ _ _ _ _ _ _ _ (by omega)]
    have hp := bi_range p
    have e : (bi a % 32) * 64 + (bi p - 128) = v2 a p := by unfold v2; omega
    rw [e]
    unfold cont
    by_cases c : 128 ≤ bi p ∧ bi p < 192
    · rw [if_pos c]
      by_cases d : 128 ≤ v2 a p
      · rw [if_pos ⟨d, Or.inl ⟨by omega, by rw [← e]; omega⟩⟩, if_pos ⟨c, d⟩]; rfl
      · rw [if_neg (by omega), if_neg (by omega)]; rfl
    · rw [if_neg c, if_neg (by omega)]; rfl
theorem long3 (k : Nat) (s : ByteArray) (hs : s.size ≤ 140737488351232) (i : Nat) (a : UInt8) (t : List UInt8) (hd : (L s).drop i = a :: t) (h0 : 224 ≤ bi a) (h1 : bi a < 240) :
    utf_long.f (k + 6) s i 3 240 224 2048 = some ((dec (a :: t)).2, ((dec (a :: t)).1 : Int)) := by
  obtain ⟨hi, hb, hd1⟩ := L_get s i a t hd
  have hr := bi_range a
  have hl := dsize s i _ hd (by omega)
  rw [dec.eq_def]
  simp only
  rw [if_neg (by omega), if_neg (by omega), if_neg (by omega), if_pos h1]
  unfold utf_long.f
  rw [w64 (by omega) (by omega)]
  match t, hd1, hl with
  | [], _, hl => rw [if_pos (by simp at hl; omega)]; rfl
  | [p], _, hl => rw [if_pos (by simp at hl; omega)]; rfl
  | p :: q :: t, hd1, hl =>
    dsimp only
    obtain ⟨hi1, hb1, hd2⟩ := L_get s (i + 1) p _ hd1
    obtain ⟨hi2, hb2, _⟩ := L_get s (i + 1 + 1) q t hd2
    have hb1' : bt s ((i : Int) + 1) = bi p := by rw [← hb1]; rfl
    have hb2' : bt s ((i : Int) + (1 + 1)) = bi q := by rw [← hb2]; congr 1
    have hp := bi_range p
    have hq := bi_range q
    rw [if_neg (by simp at hl; omega), if_pos (by omega), if_pos (by omega), hb, m240 hr.1 hr.2, w32 (by omega) (by omega), long_step _ s hs _ _ _ _ _ _ _ (by omega) (by omega) (by omega) (by omega) (by omega) (by omega) (by omega), hb1']
    unfold cont
    by_cases c : 128 ≤ bi p ∧ bi p < 192
    · rw [if_pos c, long_step _ s hs _ _ _ _ _ _ _ (by omega) (by omega) (by omega) (by omega) (by omega) (by omega) (by omega), hb2', long_end _ _ _ _ _ _ _ _ _ (by omega)]
      have e : ((bi a % 16) * 64 + (bi p - 128)) * 64 + (bi q - 128) = v3 a p q := by unfold v3; omega
      rw [e]
      by_cases c2 : 128 ≤ bi q ∧ bi q < 192
      · rw [if_pos c2]
        by_cases d : 2048 ≤ v3 a p q ∧ ¬ (55296 ≤ v3 a p q ∧ v3 a p q ≤ 57343)
        · rw [if_pos ⟨d.1, by unfold sc; omega⟩, if_pos ⟨c, c2, d.1, d.2⟩]; rfl
        · rw [if_neg (by unfold sc; omega), if_neg (by intro h; exact d ⟨h.2.2.1, h.2.2.2⟩)]; rfl
      · rw [if_neg c2, if_neg (by intro h; exact c2 h.2.1)]; rfl
    · rw [if_neg c, if_neg (by intro h; exact c h.1)]; rfl
theorem long4 (k : Nat) (s : ByteArray) (hs : s.size ≤ 140737488351232) (i : Nat) (a : UInt8) (t : List UInt8) (hd : (L s).drop i = a :: t) (h0 : 240 ≤ bi a) (h1 : bi a < 248) :
    utf_long.f (k + 6) s i 4 248 240 65536 = some ((dec (a :: t)).2, ((dec (a :: t)).1 : Int)) := by
  obtain ⟨hi, hb, hd1⟩ := L_get s i a t hd
  have hr := bi_range a
  have hl := dsize s i _ hd (by omega)
  rw [dec.eq_def]
  simp only
  rw [if_neg (by omega), if_neg (by omega), if_neg (by omega), if_neg (by omega), if_pos h1]
  unfold utf_long.f
  rw [w64 (by omega) (by omega)]
  match t, hd1, hl with
  | [], _, hl => rw [if_pos (by simp at hl; omega)]; rfl
  | [p], _, hl => rw [if_pos (by simp at hl; omega)]; rfl
  | [p, q], _, hl => rw [if_pos (by simp at hl; omega)]; rfl
  | p :: q :: r :: t, hd1, hl =>
    dsimp only
    obtain ⟨hi1, hb1, hd2⟩ := L_get s (i + 1) p _ hd1
    obtain ⟨hi2, hb2, hd3⟩ := L_get s (i + 1 + 1) q _ hd2
    obtain ⟨hi3, hb3, _⟩ := L_get s (i + 1 + 1 + 1) r t hd3
    have hb1' : bt s ((i : Int) + 1) = bi p := by rw [← hb1]; rfl
    have hb2' : bt s ((i : Int) + (1 + 1)) = bi q := by rw [← hb2]; congr 1
    have hb3' : bt s ((i : Int) + (1 + 1 + 1)) = bi r := by rw [← hb3]; congr 1
    have hp := bi_range p
    have hq := bi_range q
    have hr3 := bi_range r
    rw [if_neg (by simp at hl; omega), if_pos (by omega), if_pos (by omega), hb, m248 hr.1 hr.2, w32 (by omega) (by omega), long_step _ s hs _ _ _ _ _ _ _ (by omega) (by omega) (by omega) (by omega) (by omega) (by omega) (by omega), hb1']
    unfold cont
    by_cases c : 128 ≤ bi p ∧ bi p < 192
    · rw [if_pos c, long_step _ s hs _ _ _ _ _ _ _ (by omega) (by omega) (by omega) (by omega) (by omega) (by omega) (by omega), hb2']
      by_cases c2 : 128 ≤ bi q ∧ bi q < 192
      · rw [if_pos c2, long_step _ s hs _ _ _ _ _ _ _ (by omega) (by omega) (by omega) (by omega) (by omega) (by omega) (by omega), hb3', long_end _ _ _ _ _ _ _ _ _ (by omega)]
        have e : (((bi a % 8) * 64 + (bi p - 128)) * 64 + (bi q - 128)) * 64 + (bi r - 128) = v4 a p q r := by unfold v4; omega
        rw [e]
        by_cases c3 : 128 ≤ bi r ∧ bi r < 192
        · rw [if_pos c3]
          by_cases d : 65536 ≤ v4 a p q r ∧ v4 a p q r ≤ 1114111
          · rw [if_pos ⟨d.1, by unfold sc; omega⟩, if_pos ⟨c, c2, c3, d.1, d.2⟩]; rfl
          · rw [if_neg (by unfold sc; omega), if_neg (by intro h; exact d ⟨h.2.2.2.1, h.2.2.2.2⟩)]; rfl
        · rw [if_neg c3, if_neg (by intro h; exact c3 h.2.2.1)]; rfl
      · rw [if_neg c2, if_neg (by intro h; exact c2 h.2.1)]; rfl
    · rw [if_neg c, if_neg (by intro h; exact c h.1)]; rfl
theorem point_in (k : Nat) (s : ByteArray) (hs : s.size ≤ 140737488351232) (i : Nat) (hi : i < s.size) : utf_point.f (k + 6) s i = some ((dec ((L s).drop i)).2, ((dec ((L s).drop i)).1 : Int)) := by
  obtain ⟨a, t, hd, hb, _⟩ := at_head s i hi
  have hr := bi_range a
  unfold utf_point.f
  rw [if_neg (by omega), if_neg (by omega), utf_point.t, hb, n128 hr.1 hr.2, hd]
  by_cases c1 : bi a < 128
  · rw [if_pos (by omega), long1 k s hs i a t hd c1, dec.eq_def]
    simp only
    rw [if_pos c1]; rfl
  rw [if_neg (by omega), utf_point.t, hb, n224 hr.1 hr.2]
  by_cases c3 : 192 ≤ bi a ∧ bi a < 224
  · rw [if_pos (by omega), long2 k s hs i a t hd c3.1 c3.2]
  rw [if_neg (by omega), utf_point.t, hb, n240 hr.1 hr.2]
  by_cases c4 : 224 ≤ bi a ∧ bi a < 240
  · rw [if_pos (by omega), long3 k s hs i a t hd c4.1 c4.2]
  rw [if_neg (by omega), utf_point.t, hb, n248 hr.1 hr.2]
  by_cases c5 : 240 ≤ bi a ∧ bi a < 248
  · rw [if_pos (by omega), long4 k s hs i a t hd c5.1 c5.2]
  rw [if_neg (by omega), utf_point.t, dec.eq_def]
  simp only
  by_cases c2 : bi a < 192
  · rw [if_neg (by omega), if_pos c2]; rfl
  · rw [if_neg (by omega), if_neg c2, if_neg (by omega), if_neg (by omega), if_neg (by omega)]; rfl
theorem point_out (k : Nat) (s : ByteArray) (i : Int) (hi : i < 0 ∨ (s.size : Int) ≤ i) : utf_point.f k s i = some (0, 0) := by
  unfold utf_point.f
  by_cases c : i < 0
  · rw [if_pos c]
  · rw [if_neg c, if_pos (by omega)]
/-- The size that Go's Size tells. -/
def sizeAt (s : ByteArray) (i : Int) : Nat := if i < 0 then 0 else (dec ((L s).drop i.toNat)).1
theorem Size_eq (k : Nat) (hk : 6 ≤ k) (s : ByteArray) (hs : s.size ≤ 140737488351232) (i : Int) : utf_Size.f k s i = some (sizeAt s i : Int) := by
  obtain ⟨k, rfl⟩ : ∃ m, k = m + 6 := ⟨k - 6, by omega⟩
  unfold utf_Size.f sizeAt
  by_cases c : i < 0
  · rw [point_out _ _ _ (.inl c), if_pos c]; rfl
  rw [if_neg c]
  by_cases d : i < (s.size : Int)
  · obtain ⟨n, rfl⟩ : ∃ n : Nat, i = n := ⟨i.toNat, by omega⟩
    rw [point_in k s hs n (by omega), Option.bind_some, Int.toNat_natCast]
  · rw [point_out _ _ _ (.inr (by omega)), L_drop_nil s _ (by omega)]; rfl

end Go.Proofs.Ytgepcdpnjinadaa.V
end

section
/- The printed Valid, IsEdge, Back, Points, Make, Clean of package utf, against the plain law. For strings of at most a million bytes. -/
namespace Go.Proofs.Ytgepcdpnjinadaa.V
open Go.RowKit Go.Proofs.Ytgepcdpnjinadaa.PX Go.Proofs.YtgepcdpnjinadaaW.PrintWords Go.Proofs.YtgepcdpnjinadaaW.PrintLast Go.Proofs.Ytgepcdpnjinadaa.U Go.Lib
set_option linter.unusedVariables false

theorem sizeAt_in (s : ByteArray) (i : Nat) : sizeAt s i = (dec ((L s).drop i)).1 := by
  unfold sizeAt; rw [if_neg (by omega), Int.toNat_natCast]
theorem sizeAt_le (s : ByteArray) (i : Nat) (h : i ≤ s.size) : i + sizeAt s i ≤ s.size := by
  rw [sizeAt_in]
  have := (dec_le ((L s).drop i)).1
  rw [List.length_drop, L_len] at this
  omega
/-- What stands at a place, told by the size there. -/
theorem step_valid (s : ByteArray) (i : Nat) (h : i < s.size) : valid ((L s).drop i) = if sizeAt s i = 0 then false else valid ((L s).drop (i + sizeAt s i)) := by
  obtain ⟨a, t, hd, _, _⟩ := at_head s i h
  rw [sizeAt_in]
  by_cases c : (dec ((L s).drop i)).1 = 0
  · rw [if_pos c, hd, valid_none (by rw [← hd]; exact c)]
  · rw [if_neg c]
    conv => lhs; rw [hd, valid_cons]
    rw [dif_neg (by rw [← hd]; exact c), ← hd, List.drop_drop]
theorem step_points (s : ByteArray) (i : Nat) (h : i < s.size) : points ((L s).drop i) = if sizeAt s i = 0 then 65533 :: points ((L s).drop (i + 1)) else (dec ((L s).drop i)).2 :: points ((L s).drop (i + sizeAt s i)) := by
  obtain ⟨a, t, hd, _, ht⟩ := at_head s i h
  rw [sizeAt_in]
  by_cases c : (dec ((L s).drop i)).1 = 0
  · rw [if_pos c, ht, hd, points_none (by rw [← hd]; exact c)]
  · rw [if_neg c]
    conv => lhs; rw [hd, points_cons]
    rw [dif_neg (by rw [← hd]; exact c), ← hd, List.drop_drop]
theorem Valid_l (s : ByteArray) (hs : s.size ≤ 1000000) (d : Nat) : ∀ (k i : Nat), s.size ≤ i + d → i ≤ s.size → d + 8 ≤ k → utf_Valid.l0 k s i = some (valid ((L s).drop i)) := by
  induction d with
  | zero =>
    intro k i h1 h2 hk
    obtain ⟨k, rfl⟩ : ∃ m, k = m + 1 := ⟨k - 1, by omega⟩
    simp only [utf_Valid.l0]
    rw [if_neg (by omega), L_drop_nil s i (by omega), valid_nil]
  | succ d ih =>
    intro k i h1 h2 hk
    obtain ⟨k, rfl⟩ : ∃ m, k = m + 1 := ⟨k - 1, by omega⟩
    simp only [utf_Valid.l0]
    by_cases hlt : i < s.size
    · have hl := sizeAt_le s i h2
      rw [if_pos (by omega), Size_eq k (by omega) s (by omega), Option.bind_some, step_valid s i hlt]
      by_cases c : sizeAt s i = 0
      · rw [if_pos (by rw [c]; rfl), if_pos c]
      · rw [if_neg (by omega), if_neg c, w64 (by omega) (by omega)]
        exact ih k (i + sizeAt s i) (by omega) hl (by omega)
    · rw [if_neg (by omega), L_drop_nil s i (by omega), valid_nil]
theorem Valid_eq (k : Nat) (s : ByteArray) (hs : s.size ≤ 1000000) (hk : s.size + 8 ≤ k) : utf_Valid.f k s = some (valid (L s)) := by
  unfold utf_Valid.f
  exact Valid_l s hs s.size k 0 (by omega) (by omega) hk
theorem Points_l (s : ByteArray) (hs : s.size ≤ 1000000) (d : Nat) : ∀ (k i : Nat) (acc : List Int), s.size ≤ i + d → i ≤ s.size → d + 8 ≤ k → acc.length ≤ i → utf_Points.l0 k s acc i = some (acc ++ points ((L s).drop i)) := by
  induction d with
  | zero =>
    intro k i acc h1 h2 hk ha
    obtain ⟨k, rfl⟩ : ∃ m, k = m + 1 := ⟨k - 1, by omega⟩
    simp only [utf_Points.l0]
    rw [if_neg (by omega), L_drop_nil s i (by omega), points_nil, List.append_nil]
  | succ d ih =>
    intro k i acc h1 h2 hk ha
    obtain ⟨k, rfl⟩ : ∃ m, k = m + 1 := ⟨k - 1, by omega⟩
    simp only [utf_Points.l0]
    by_cases hlt : i < s.size
    · have hl := sizeAt_le s i h2
      obtain ⟨k', rfl⟩ : ∃ m, k = m + 6 := ⟨k - 6, by omega⟩
      rw [if_pos (by omega), point_in k' s (by omega) i hlt, Option.bind_some, step_points s i hlt, ← sizeAt_in]
      dsimp only
      by_cases c : sizeAt s i = 0
      · rw [if_pos (by rw [c]; rfl), if_pos c, if_pos (by omega), w64 (by omega) (by omega)]
        rw [show ((i : Int) + 1) = ((i + 1 : Nat) : Int) from rfl, ih _ (i + 1) (acc ++ [65533]) (by omega) (by omega) (by omega) (by simp; omega)]
        simp
      · have hv := dec_sc ((L s).drop i) (by rw [← sizeAt_in]; exact c)
        unfold sc at hv
        rw [if_neg (by omega), if_neg c, if_pos (by omega), w64 (by omega) (by omega), w64 (by omega) (by omega)]
        rw [show ((i : Int) + (sizeAt s i : Int)) = ((i + sizeAt s i : Nat) : Int) from rfl, ih _ (i + sizeAt s i) (acc ++ [(dec ((L s).drop i)).2]) (by omega) hl (by omega) (by simp; omega)]
        simp
    · rw [if_neg (by omega), L_drop_nil s i (by omega), points_nil, List.append_nil]
theorem Points_eq (k : Nat) (s : ByteArray) (hs : s.size ≤ 1000000) (hk : s.size + 8 ≤ k) : utf_Points.f k s = some (points (L s)) := by
  unfold utf_Points.f
  have := Points_l s hs s.size k 0 [] (by omega) (by omega) hk (by simp)
  simpa using this
theorem mk_sc {v : Int} (h : sc v) : utf_mk v = v := by
  unfold sc at h
  unfold utf_mk
  rcases h with h | h
  · rw [if_pos h.1, if_pos (by omega), if_pos h.2]
  · rw [if_pos (by omega), if_pos h.2, if_neg (by omega), if_pos h.1]
theorem mk_not {v : Int} (h : ¬ sc v) : utf_mk v = 65533 := by
  unfold sc at h
  unfold utf_mk
  by_cases a : 0 ≤ v
  · rw [if_pos a]
    by_cases b : v ≤ 1114111
    · rw [if_pos b, if_neg (by omega), if_neg (by omega)]
    · rw [if_neg b]
  · rw [if_neg a]
theorem sc_mk (v : Int) : sc (utf_mk v) := by
  by_cases h : sc v
  · rw [mk_sc h]; exact h
  · rw [mk_not h]; exact sc_bad
theorem mks_eq (l : List Int) : utf_mks l = encs (l.map utf_mk) := by
  induction l with
  | nil => rfl
  | cons v l ih => rw [List.map_cons, encs_cons, ← ih]; rfl
theorem mks_sc (l : List Int) (h : ∀ v ∈ l, sc v) : utf_mks l = encs l := by
  rw [mks_eq]
  congr 1
  conv => rhs; rw [← List.map_id l]
  exact List.map_congr_left (fun v hv => mk_sc (h v hv))
theorem Make_eq (l : List Int) (h : l.length ≤ 1000000) : utf_Make.f l = some ⟨(encs (l.map utf_mk)).toArray⟩ := by
  unfold utf_Make.f
  rw [if_pos (by omega), mks_eq]
theorem Make_sc (l : List Int) (h : l.length ≤ 1000000) (hs : ∀ v ∈ l, sc v) : utf_Make.f l = some ⟨(encs l).toArray⟩ := by
  unfold utf_Make.f
  rw [if_pos (by omega), mks_sc l hs]
/-- A cleaned string. -/
def cleanS (s : ByteArray) : ByteArray := ⟨(clean (L s)).toArray⟩
theorem L_clean (s : ByteArray) : L (cleanS s) = clean (L s) := L_mk _
theorem Clean_eq (k : Nat) (s : ByteArray) (hs : s.size ≤ 1000000) (hk : s.size + 8 ≤ k) : utf_Clean.f k s = some (cleanS s) := by
  unfold utf_Clean.f
  rw [Valid_eq k s hs hk, Option.bind_some]
  by_cases c : valid (L s) = true
  · rw [if_pos c]
    refine congrArg some (L_inj ?_)
    rw [L_clean, clean_of_valid _ c]
  · rw [if_neg c, Points_eq k s hs hk, Option.bind_some, Make_sc _ _ (points_sc _)]
    · rfl
    · have := points_le (L s); rw [L_len] at this; omega
/-- Is a place an edge? -/
def edge (s : ByteArray) (i : Int) : Bool := decide (0 ≤ i) && decide (i ≤ s.size) && (decide (i = s.size) || !decide (128 ≤ bt s i ∧ bt s i < 192)) && valid (L s)
theorem IsEdge_eq (k : Nat) (s : ByteArray) (hs : s.size ≤ 1000000) (hk : s.size + 8 ≤ k) (i : Int) : utf_IsEdge.f k s i = some (edge s i) := by
  have hb := bt_range s i
  unfold utf_IsEdge.f edge
  rw [Valid_eq k s hs hk, n192 hb.1 hb.2]
  by_cases a : i ≥ 0
  · rw [if_pos a]
    by_cases b : i ≤ s.size
    · rw [if_pos b]
      by_cases c : i = s.size
      · rw [if_pos c]; simp [c]
      · rw [if_neg c, if_pos a, if_pos (by omega)]
        by_cases d : 128 ≤ bt s i ∧ bt s i < 192
        · rw [if_pos (by omega)]; simp [c, d]
        · rw [if_neg (by omega)]; simp only [Option.bind_some]; rw [decide_eq_true a, decide_eq_true b, decide_eq_false c, decide_eq_false d]; simp
    · rw [if_neg b, decide_eq_false b]; simp
  · rw [if_neg a, decide_eq_false (show ¬ 0 ≤ i by omega)]; simp
/-- Back over bytes that go on. -/
def bk (s : ByteArray) : Nat → Nat
  | 0 => 0
  | n + 1 => if 128 ≤ bt s ((n + 1 : Nat) : Int) ∧ bt s ((n + 1 : Nat) : Int) < 192 then bk s n else n + 1
def back (s : ByteArray) (i : Int) : Int := if i < 1 ∨ edge s i = false then i else (bk s (i - 1).toNat : Int)
theorem first_edge (s : ByteArray) (hv : valid (L s) = true) (h : 0 < s.size) : ¬ (128 ≤ bt s 0 ∧ bt s 0 < 192) := by
  obtain ⟨a, t, hd, hb, _⟩ := at_head s 0 h
  intro hc
  rw [List.drop_zero] at hd
  rw [hd, valid_none (dec_cont (by unfold cont; rw [← hb]; exact hc) t)] at hv
  cases hv
theorem Back_l (s : ByteArray) (hs : s.size ≤ 1000000) (hv : valid (L s) = true) (n : Nat) : ∀ k, n < s.size → n + 1 ≤ k → utf_Back.l0 k s n = some (bk s n : Int) := by
  induction n with
  | zero =>
    intro k h hk
    obtain ⟨k, rfl⟩ : ∃ m, k = m + 1 := ⟨k - 1, by omega⟩
    have hb := bt_range s ((0 : Nat) : Int)
    have hf : ¬ (128 ≤ bt s ((0 : Nat) : Int) ∧ bt s ((0 : Nat) : Int) < 192) := first_edge s hv h
    simp only [utf_Back.l0]
    rw [if_pos (by omega), if_pos (by omega), n192 hb.1 hb.2, if_neg (by omega)]; rfl
  | succ n ih =>
    intro k h hk
    obtain ⟨k, rfl⟩ : ∃ m, k = m + 1 := ⟨k - 1, by omega⟩
    have hb := bt_range s ((n + 1 : Nat) : Int)
    simp only [utf_Back.l0]
    rw [if_pos (by omega), if_pos (by omega), n192 hb.1 hb.2, bk]
    by_cases c : 128 ≤ bt s ((n + 1 : Nat) : Int) ∧ bt s ((n + 1 : Nat) : Int) < 192
    · rw [if_pos (by omega), if_pos c, w64 (by omega) (by omega), show ((n + 1 : Nat) : Int) - 1 = (n : Int) by omega]
      exact ih k (by omega) (by omega)
    · rw [if_neg (by omega), if_neg c]
theorem edge_valid {s : ByteArray} {i : Int} (h : edge s i = true) : valid (L s) = true ∧ 0 ≤ i ∧ i ≤ s.size := by
  unfold edge at h
  simp only [Bool.and_eq_true, decide_eq_true_eq] at h
  exact ⟨h.2, h.1.1.1, h.1.1.2⟩
theorem Back_eq (k : Nat) (s : ByteArray) (hs : s.size ≤ 1000000) (hk : s.size + 8 ≤ k) (i : Int) : utf_Back.f k s i = some (back s i) := by
  obtain ⟨k', rfl⟩ : ∃ m, k = m + 1 := ⟨k - 1, by omega⟩
  unfold utf_Back.f back
  by_cases a : i < 1
  · rw [if_pos a, if_pos (.inl a)]; simp only [utf_Back.j0, if_true]
  · rw [if_neg a, IsEdge_eq (k' + 1) s hs hk, Option.bind_some]
    by_cases c : edge s i = true
    · have he := edge_valid c
      rw [if_neg (by rw [c]; simp; omega), c]
      simp only [utf_Back.j0]
      rw [if_neg (by simp), w64 (by omega) (by omega)]
      obtain ⟨n, hn⟩ : ∃ n : Nat, i - 1 = n := ⟨(i - 1).toNat, by omega⟩
      rw [hn, Int.toNat_natCast]
      exact Back_l s hs he.1 n k' (by omega) (by omega)
    · rw [Bool.not_eq_true] at c
      rw [if_pos (.inr c), c]
      simp only [utf_Back.j0]
      rfl

end Go.Proofs.Ytgepcdpnjinadaa.V
end

section
/- The printed reference of layer 1 (Size, Valid, Clean, Points, Number, IsEdge, Back, Make), against the plain law. For strings of at most a million bytes. -/
namespace Go.Proofs.Ytgepcdpnjinadaa.V
open Go.RowKit Go.Proofs.Ytgepcdpnjinadaa.PX Go.Proofs.YtgepcdpnjinadaaW.PrintWords Go.Proofs.YtgepcdpnjinadaaW.PrintLast Go.Proofs.Ytgepcdpnjinadaa.U Go.Lib
set_option linter.unusedVariables false

theorem wraps_i64 (n : Int) (h₀ : 0 ≤ n) (h₁ : n < 2 ^ 63) : IntKind.i64.wrap n = n := by rw [IntKind.wrap_i64]; omega
theorem i64_63 (x : Int) (h₀ : 0 ≤ x) (h₁ : x < 1099511627776) : bits .and .i64 x 63 = x % 64 := bits_mask .i64 63 (by decide) wraps_i64 6 (by decide) x h₀ (by omega)
theorem i64_31 (x : Int) (h₀ : 0 ≤ x) (h₁ : x < 1099511627776) : bits .and .i64 x 31 = x % 32 := bits_mask .i64 63 (by decide) wraps_i64 5 (by decide) x h₀ (by omega)
theorem i64_15 (x : Int) (h₀ : 0 ≤ x) (h₁ : x < 1099511627776) : bits .and .i64 x 15 = x % 16 := bits_mask .i64 63 (by decide) wraps_i64 4 (by decide) x h₀ (by omega)
theorem i64_7 (x : Int) (h₀ : 0 ≤ x) (h₁ : x < 1099511627776) : bits .and .i64 x 7 = x % 8 := bits_mask .i64 63 (by decide) wraps_i64 3 (by decide) x h₀ (by omega)
theorem i64_or6 (x y : Int) (hx₀ : 0 ≤ x) (hx : x % 64 = 0) (hx₁ : x < 1099511627776) (h₀ : 0 ≤ y) (h₁ : y < 64) : bits .or .i64 x y = x + y :=
  bits_join .i64 63 (by decide) wraps_i64 6 x y hx₀ hx (by omega) h₀ h₁ (by omega)
theorem rlong_step (k : Nat) (s : ByteArray) (hs : s.size ≤ 140737488351232) (i x6 x7 x8 x9 : Int) (h : x9 < x6) (h0 : 0 ≤ x9) (h3 : x9 ≤ 3) (hi : 0 ≤ i) (hj : i + x9 < s.size) (a0 : 0 ≤ x7) (a1 : x7 < 1000000) :
    palinoderef1_Size.l0 (k + 1) s i x6 x7 x8 x9 = if 128 ≤ bt s (i + x9) ∧ bt s (i + x9) < 192 then palinoderef1_Size.l0 k s i x6 (x7 * 64 + (bt s (i + x9) - 128)) x8 (x9 + 1) else some 0 := by
  have hb := bt_range s (i + x9)
  simp only [palinoderef1_Size.l0]
  rw [if_pos h, w64 (x := i + x9) (by omega) (by omega), if_pos (by omega), if_pos hj, w64 (x := bt s (i + x9)) (by omega) (by omega)]
  by_cases c : 128 ≤ bt s (i + x9) ∧ bt s (i + x9) < 192
  · rw [if_pos c, if_pos (by omega), w64 (x := x9 + 1) (by omega) (by omega), w64 (x := x7 * 64) (by omega) (by omega), i64_63 _ (by omega) (by omega), i64_or6 (x7 * 64) (bt s (i + x9) % 64) (by omega) (by omega) (by omega) (by omega) (by omega)]
    rw [show bt s (i + x9) % 64 = bt s (i + x9) - 128 by omega]
  · rw [if_neg c, if_neg (by omega)]
theorem rlong_end (k : Nat) (s : ByteArray) (i x6 x7 x8 x9 : Int) (h : ¬ x9 < x6) (a0 : 0 ≤ x7) :
    palinoderef1_Size.l0 (k + 1) s i x6 x7 x8 x9 = if x8 ≤ x7 ∧ sc x7 then some x6 else some 0 := by
  simp only [palinoderef1_Size.l0]
  unfold sc
  rw [if_neg h]
  by_cases c : x7 < x8
  · rw [if_pos c, if_neg (by omega)]
  · rw [if_neg c]
    by_cases d : x7 > 1114111
    · rw [if_pos d, if_neg (by omega)]
    · rw [if_neg d]
      by_cases e : x7 ≥ 55296
      · rw [if_pos e]
        by_cases f : x7 < 57344
        · rw [if_pos f, if_neg (by omega)]
        · rw [if_neg f, if_pos (by omega)]
      · rw [if_neg e, if_pos (by omega)]
theorem r2 (k : Nat) (s : ByteArray) (hs : s.size ≤ 140737488351232) (i : Nat) (a : UInt8) (t : List UInt8) (hd : (L s).drop i = a :: t) (h0 : 192 ≤ bi a) (h1 : bi a < 224) :
    palinoderef1_Size.j3 (k + 6) s i 2 (bi a % 32) 128 = some ((dec (a :: t)).1 : Int) := by
  obtain ⟨hi, hb, hd1⟩ := L_get s i a t hd
  have hr := bi_range a
  have hl := dsize s i _ hd (by omega)
  rw [dec.eq_def]
  simp only
  rw [if_neg (by omega), if_neg (by omega), if_pos h1]
  simp only [palinoderef1_Size.j3]
  rw [w64 (by omega) (by omega)]
  match t, hd1, hl with
  | [], _, hl => rw [if_pos (by simp at hl; omega)]; rfl
  | p :: t, hd1, hl =>
    dsimp only
    obtain ⟨hi1, hb1, _⟩ := L_get s (i + 1) p t hd1
    have hb1' : bt s ((i : Int) + 1) = bi p := by rw [← hb1]; rfl
    rw [if_neg (by simp at hl; omega), rlong_step _ s hs _ _ _ _ _ (by omega) (by omega) (by omega) (by omega) (by omega) (by omega) (by omega), hb1']
    have hp := bi_range p
    have e : (bi a % 32) * 64 + (bi p - 128) = v2 a p := by unfold v2; omega
    rw [e]
    unfold cont
    by_cases c : 128 ≤ bi p ∧ bi p < 192
    · rw [if_pos c, rlong_end _ _ _ _ _ _ _ (by omega) (by omega)]
      by_cases d : 128 ≤ v2 a p
      · rw [if_pos ⟨d, Or.inl ⟨by omega, by rw [← e]; omega⟩⟩, if_pos ⟨c, d⟩]; rfl
      · rw [if_neg (by omega), if_neg (by omega)]; rfl
    · rw [if_neg c, if_neg (by omega)]; rfl
theorem r3 (k : Nat) (s : ByteArray) (hs : s.size ≤ 140737488351232) (i : Nat) (a : UInt8) (t : List UInt8) (hd : (L s).drop i = a :: t) (h0 : 224 ≤ bi a) (h1 : bi a < 240) :
    palinoderef1_Size.j3 (k + 6) s i 3 (bi a % 16) 2048 = some ((dec (a :: t)).1 : Int) := by
  obtain ⟨hi, hb, hd1⟩ := L_get s i a t hd
  have hr := bi_range a
  have hl := dsize s i _ hd (by omega)
  rw [dec.eq_def]
  simp only
  rw [if_neg (by omega), if_neg (by omega), if_neg (by omega), if_pos h1]
  simp only [palinoderef1_Size.j3]
  rw [w64 (by omega) (by omega)]
  match t, hd1, hl with
  | [], _, hl => rw [if_pos (by simp at hl; omega)]; rfl
  | [p], _, hl => rw [if_pos (by simp at hl; omega)]; rfl
  | p :: q :: t, hd1, hl =>
    dsimp only
    obtain ⟨hi1, hb1, hd2⟩ := L_get s (i + 1) p _ hd1
    obtain ⟨hi2, hb2, _⟩ := L_get s (i + 1 + 1) q t hd2
    have hb1' : bt s ((i : Int) + 1) = bi p := by rw [← hb1]; rfl
    have hb2' : bt s ((i : Int) + (1 + 1)) = bi q := by rw [← hb2]; congr 1
    have hp := bi_range p
    have hq := bi_range q
    rw [if_neg (by simp at hl; omega), rlong_step _ s hs _ _ _ _ _ (by omega) (by omega) (by omega) (by omega) (by omega) (by omega) (by omega), hb1']
    unfold cont
    by_cases c : 128 ≤ bi p ∧ bi p < 192
    · rw [if_pos c, rlong_step _ s hs _ _ _ _ _ (by omega) (by omega) (by omega) (by omega) (by omega) (by omega) (by omega), hb2']
      have e : ((bi a % 16) * 64 + (bi p - 128)) * 64 + (bi q - 128) = v3 a p q := by unfold v3; omega
      rw [e]
      by_cases c2 : 128 ≤ bi q ∧ bi q < 192
      · rw [if_pos c2, rlong_end _ _ _ _ _ _ _ (by omega) (by omega)]
        by_cases d : 2048 ≤ v3 a p q ∧ ¬ (55296 ≤ v3 a p q ∧ v3 a p q ≤ 57343)
        · rw [if_pos ⟨d.1, by unfold sc; omega⟩, if_pos ⟨c, c2, d.1, d.2⟩]; rfl
        · rw [if_neg (by unfold sc; omega), if_neg (by intro h; exact d ⟨h.2.2.1, h.2.2.2⟩)]; rfl
      · rw [if_neg c2, if_neg (by intro h; exact c2 h.2.1)]; rfl
    · rw [if_neg c, if_neg (by intro h; exact c h.1)]; rfl
theorem r4 (k : Nat) (s : ByteArray) (hs : s.size ≤ 140737488351232) (i : Nat) (a : UInt8) (t : List UInt8) (hd : (L s).drop i = a :: t) (h0 : 240 ≤ bi a) (h1 : bi a < 248) :
    palinoderef1_Size.j3 (k + 6) s i 4 (bi a % 8) 65536 = some ((dec (a :: t)).1 : Int) := by
  obtain ⟨hi, hb, hd1⟩ := L_get s i a t hd
  have hr := bi_range a
  have hl := dsize s i _ hd (by omega)
  rw [dec.eq_def]
  simp only
  rw [if_neg (by omega), if_neg (by omega), if_neg (by omega), if_neg (by omega), if_pos h1]
  simp only [palinoderef1_Size.j3]
  rw [w64 (by omega) (by omega)]
  match t, hd1, hl with
  | [], _, hl => rw [if_pos (by simp at hl; omega)]; rfl
  | [p], _, hl => rw [if_pos (by simp at hl; omega)]; rfl
  | [p, q], _, hl => rw [if_pos (by simp at hl; omega)]; rfl
  | p :: q :: r :: t, hd1, hl =>
    dsimp only
    obtain ⟨hi1, hb1, hd2⟩ := L_get s (i + 1) p _ hd1
    obtain ⟨hi2, hb2, hd3⟩ := L_get s (i + 1 + 1) q _ hd2
    obtain ⟨hi3, hb3, _⟩ := L_get s (i + 1 + 1 + 1) r t hd3
    have hb1' : bt s ((i : Int) + 1) = bi p := by rw [← hb1]; rfl
    have hb2' : bt s ((i : Int) + (1 + 1)) = bi q := by rw [← hb2]; congr 1
    have hb3' : bt s ((i : Int) + (1 + 1 + 1)) = bi r := by rw [← hb3]; congr 1
    have hp := bi_range p
    have hq := bi_range q
    have hr3 := bi_range r
    rw [if_neg (by simp at hl; omega), rlong_step _ s hs _ _ _ _ _ (by omega) (by omega) (by omega) (by omega) (by omega) (by omega) (by omega), hb1']
    unfold cont
    by_cases c : 128 ≤ bi p ∧ bi p < 192
    · rw [if_pos c, rlong_step _ s hs _ _ _ _ _ (by omega) (by omega) (by omega) (by omega) (by omega) (by omega) (by omega), hb2']
      by_cases c2 : 128 ≤ bi q ∧ bi q < 192
      · rw [if_pos c2, rlong_step _ s hs _ _ _ _ _ (by omega) (by omega) (by omega) (by omega) (by omega) (by omega) (by omega), hb3']
        have e : (((bi a % 8) * 64 + (bi p - 128)) * 64 + (bi q - 128)) * 64 + (bi r - 128) = v4 a p q r := by unfold v4; omega
        rw [e]
        by_cases c3 : 128 ≤ bi r ∧ bi r < 192
        · rw [if_pos c3, rlong_end _ _ _ _ _ _ _ (by omega) (by omega)]
          by_cases d : 65536 ≤ v4 a p q r ∧ v4 a p q r ≤ 1114111
          · rw [if_pos ⟨d.1, by unfold sc; omega⟩, if_pos ⟨c, c2, c3, d.1, d.2⟩]; rfl
          · rw [if_neg (by unfold sc; omega), if_neg (by intro h; exact d ⟨h.2.2.2.1, h.2.2.2.2⟩)]; rfl
        · rw [if_neg c3, if_neg (by intro h; exact c3 h.2.2.1)]; rfl
      · rw [if_neg c2, if_neg (by intro h; exact c2 h.2.1)]; rfl
    · rw [if_neg c, if_neg (by intro h; exact c h.1)]; rfl
theorem rSize_eq (k : Nat) (hk : 9 ≤ k) (s : ByteArray) (hs : s.size ≤ 140737488351232) (i : Int) : palinoderef1_Size.f k s i = some (sizeAt s i : Int) := by
  obtain ⟨k, rfl⟩ : ∃ m, k = m + 9 := ⟨k - 9, by omega⟩
  unfold palinoderef1_Size.f sizeAt
  by_cases c : i < 0
  · rw [if_pos c, if_pos c]
    simp only [palinoderef1_Size.j0, if_true]
    rfl
  rw [if_neg c, if_neg c]
  by_cases d : i < (s.size : Int)
  · obtain ⟨n, rfl⟩ : ∃ n : Nat, i = n := ⟨i.toNat, by omega⟩
    obtain ⟨a, t, hd, hb, _⟩ := at_head s n (by omega)
    have hr := bi_range a
    rw [decide_eq_false (by omega), Int.toNat_natCast, hd]
    simp only [palinoderef1_Size.j0]
    rw [if_neg (by simp), if_pos (by omega), if_pos d, hb, w64 (x := bi a) (by omega) (by omega)]
    by_cases c1 : bi a < 128
    · rw [if_pos c1, dec.eq_def]
      simp only
      rw [if_pos c1]; rfl
    rw [if_neg c1]
    by_cases c2 : bi a ≥ 192
    · rw [if_pos c2]
      simp only [palinoderef1_Size.j1]
      by_cases c3 : bi a < 224
      · rw [decide_eq_true c3, if_pos rfl, i64_31 _ (by omega) (by omega), r2 (k + 1) s hs n a t hd c2 c3]
      · rw [decide_eq_false c3, if_neg (by simp), if_pos (by omega)]
        simp only [palinoderef1_Size.j2]
        by_cases c4 : bi a < 240
        · rw [decide_eq_true c4, if_pos rfl, i64_15 _ (by omega) (by omega), r3 k s hs n a t hd (by omega) c4]
        · rw [decide_eq_false c4, if_neg (by simp), if_pos (by omega)]
          by_cases c5 : bi a < 248
          · rw [if_pos c5, i64_7 _ (by omega) (by omega), r4 k s hs n a t hd (by omega) c5]
          · rw [if_neg c5, dec.eq_def]
            simp only
            rw [if_neg (by omega), if_neg (by omega), if_neg (by omega), if_neg (by omega), if_neg (by omega)]; rfl
    · rw [if_neg c2]
      simp only [palinoderef1_Size.j1]
      rw [if_neg (by simp), if_neg (by omega)]
      simp only [palinoderef1_Size.j2]
      rw [if_neg (by simp), if_neg (by omega), dec.eq_def]
      simp only
      rw [if_neg (by omega), if_pos (by omega)]; rfl
  · rw [decide_eq_true (by omega), L_drop_nil s _ (by omega)]
    simp only [palinoderef1_Size.j0, if_true]
    rfl

end Go.Proofs.Ytgepcdpnjinadaa.V
end

section
/- The printed reference of layer 1, part two: Valid, Clean, Points, Number, IsEdge, Back, Make. For strings of at most a million bytes. -/
namespace Go.Proofs.Ytgepcdpnjinadaa.V
open Go.RowKit Go.Proofs.Ytgepcdpnjinadaa.PX Go.Proofs.YtgepcdpnjinadaaW.PrintWords Go.Proofs.YtgepcdpnjinadaaW.PrintLast Go.Proofs.Ytgepcdpnjinadaa.U Go.Lib
set_option linter.unusedVariables false

theorem rValid_l (s : ByteArray) (hs : s.size ≤ 1000000) (d : Nat) : ∀ (k i : Nat), s.size ≤ i + d → i ≤ s.size → d + 12 ≤ k → palinoderef1_Valid.l0 k s i = some (valid ((L s).drop i)) := by
  induction d with
  | zero =>
    intro k i h1 h2 hk
    obtain ⟨k, rfl⟩ : ∃ m, k = m + 1 := ⟨k - 1, by omega⟩
    simp only [palinoderef1_Valid.l0]
    rw [if_neg (by omega), L_drop_nil s i (by omega), valid_nil]
  | succ d ih =>
    intro k i h1 h2 hk
    obtain ⟨k, rfl⟩ : ∃ m, k = m + 1 := ⟨k - 1, by omega⟩
    simp only [palinoderef1_Valid.l0]
    by_cases hlt : i < s.size
    · have hl := sizeAt_le s i h2
      rw [if_pos (by omega), rSize_eq k (by omega) s (by omega), Option.bind_some, step_valid s i hlt]
      by_cases c : sizeAt s i = 0
      · rw [if_pos (by rw [c]; rfl), if_pos c]
      · rw [if_neg (by omega), if_neg c, w64 (by omega) (by omega)]
        exact ih k (i + sizeAt s i) (by omega) hl (by omega)
    · rw [if_neg (by omega), L_drop_nil s i (by omega), valid_nil]
theorem rValid_eq (k : Nat) (s : ByteArray) (hs : s.size ≤ 1000000) (hk : s.size + 12 ≤ k) : palinoderef1_Valid.f k s = some (valid (L s)) := by
  unfold palinoderef1_Valid.f
  exact rValid_l s hs s.size k 0 (by omega) (by omega) hk
theorem L_extract (s : ByteArray) (i j : Nat) : L (s.extract i j) = ((L s).drop i).take (j - i) := Lib.extract_data s i j
theorem L_size (s : ByteArray) : s.size = (L s).length := (L_len s).symm
theorem step_clean (s : ByteArray) (i : Nat) (h : i < s.size) : clean ((L s).drop i) = if sizeAt s i = 0 then [239, 191, 189] ++ clean ((L s).drop (i + 1)) else ((L s).drop i).take (sizeAt s i) ++ clean ((L s).drop (i + sizeAt s i)) := by
  obtain ⟨a, t, hd, _, ht⟩ := at_head s i h
  rw [sizeAt_in]
  by_cases c : (dec ((L s).drop i)).1 = 0
  · rw [if_pos c, ht, hd, clean_none (by rw [← hd]; exact c)]; rfl
  · rw [if_neg c]
    obtain ⟨hs, r, hl, hn⟩ := dec_enc ((L s).drop i) _ _ (Prod.eta (dec ((L s).drop i))).symm c
    have h2 : (L s).drop (i + (dec ((L s).drop i)).1) = r := by
      rw [← List.drop_drop]; conv => lhs; arg 2; rw [hl]
      rw [← hn]; exact List.drop_left
    have h3 : ((L s).drop i).take (dec ((L s).drop i)).1 = enc (dec ((L s).drop i)).2 := by
      conv => lhs; arg 2; rw [hl]
      rw [← hn]; exact List.take_left
    rw [h2, h3]
    conv => lhs; rw [hl]
    exact clean_enc1 hs r
theorem rClean_l (s : ByteArray) (hs : s.size ≤ 1000000) (d : Nat) : ∀ (k i : Nat) (acc : ByteArray), s.size ≤ i + d → i ≤ s.size → d + 12 ≤ k → acc.size ≤ 4 * i → palinoderef1_Clean.l0 k s acc i = some ⟨(L acc ++ clean ((L s).drop i)).toArray⟩ := by
  induction d with
  | zero =>
    intro k i acc h1 h2 hk ha
    obtain ⟨k, rfl⟩ : ∃ m, k = m + 1 := ⟨k - 1, by omega⟩
    simp only [palinoderef1_Clean.l0]
    rw [if_neg (by omega), L_drop_nil s i (by omega), show clean [] = [] by unfold clean; rw [points_nil]; rfl, List.append_nil, mk_L]
  | succ d ih =>
    intro k i acc h1 h2 hk ha
    obtain ⟨k, rfl⟩ : ∃ m, k = m + 1 := ⟨k - 1, by omega⟩
    simp only [palinoderef1_Clean.l0]
    by_cases hlt : i < s.size
    · have hl := sizeAt_le s i h2
      rw [if_pos (by omega), rSize_eq k (by omega) s (by omega), Option.bind_some, step_clean s i hlt]
      by_cases c : sizeAt s i = 0
      · have e1 : (acc ++ (⟨#[239, 191, 189]⟩ : ByteArray)).size = acc.size + 3 := by rw [L_size, L_append, List.length_append, ← L_size]; rfl
        rw [if_pos (by rw [c]; rfl), if_pos c, if_pos (by omega), w64 (by omega) (by omega)]
        rw [show ((i : Int) + 1) = ((i + 1 : Nat) : Int) from rfl, ih _ (i + 1) _ (by omega) (by omega) (by omega) (by rw [e1]; omega)]
        rw [L_append, List.append_assoc]; rfl
      · have e0 : (L (s.extract i (i + sizeAt s i))) = ((L s).drop i).take (sizeAt s i) := by rw [L_extract, Nat.add_sub_cancel_left]
        have e2 : (s.extract i (i + sizeAt s i)).size = sizeAt s i := by rw [L_size, e0, List.length_take, List.length_drop, L_len]; omega
        have e3 : sizeAt s i ≤ 4 := by rw [sizeAt_in]; exact (dec_le _).2
        have e1 : (acc ++ s.extract i (i + sizeAt s i)).size = acc.size + sizeAt s i := by rw [L_size, L_append, List.length_append, ← L_size, ← L_size, e2]
        rw [if_neg (by omega), if_neg c, if_pos (by omega), w64 (by omega) (by omega), if_pos (by omega), if_pos (by omega)]
        rw [show ((i : Int) + (sizeAt s i : Int)) = ((i + sizeAt s i : Nat) : Int) from rfl, Int.toNat_natCast, Int.toNat_natCast, if_pos (by omega), ih _ (i + sizeAt s i) _ (by omega) hl (by omega) (by omega)]
        rw [L_append, List.append_assoc, e0]
    · rw [if_neg (by omega), L_drop_nil s i (by omega), show clean [] = [] by unfold clean; rw [points_nil]; rfl, List.append_nil, mk_L]
theorem rClean_eq (k : Nat) (s : ByteArray) (hs : s.size ≤ 1000000) (hk : s.size + 12 ≤ k) : palinoderef1_Clean.f k s = some (cleanS s) := by
  unfold palinoderef1_Clean.f
  rw [rValid_eq k s hs hk, Option.bind_some]
  by_cases c : valid (L s) = true
  · rw [if_pos c]
    refine congrArg some (L_inj ?_)
    rw [L_clean, clean_of_valid _ c]
  · rw [if_neg c]
    exact rClean_l s hs s.size k 0 ⟨#[]⟩ (by omega) (by omega) hk (by simp [ByteArray.size])
/-- A code point's text. -/
def encS (v : Int) : ByteArray := ⟨(enc v).toArray⟩
theorem L_encS (v : Int) : L (encS v) = enc v := L_mk _
theorem rPoints_l (s : ByteArray) (hs : s.size ≤ 1000000) (d : Nat) : ∀ (k i : Nat) (acc : List ByteArray), valid ((L s).drop i) = true → s.size ≤ i + d → i ≤ s.size → d + 12 ≤ k → acc.length ≤ i → palinoderef1_Points.l0 k s acc i = some (acc ++ (points ((L s).drop i)).map encS) := by
  induction d with
  | zero =>
    intro k i acc hv h1 h2 hk ha
    obtain ⟨k, rfl⟩ : ∃ m, k = m + 1 := ⟨k - 1, by omega⟩
    simp only [palinoderef1_Points.l0]
    rw [if_neg (by omega), L_drop_nil s i (by omega), points_nil, List.map_nil, List.append_nil]
  | succ d ih =>
    intro k i acc hv h1 h2 hk ha
    obtain ⟨k, rfl⟩ : ∃ m, k = m + 1 := ⟨k - 1, by omega⟩
    simp only [palinoderef1_Points.l0]
    by_cases hlt : i < s.size
    · have hl := sizeAt_le s i h2
      have hv2 := hv
      rw [step_valid s i hlt] at hv2
      by_cases c : sizeAt s i = 0
      · rw [if_pos c] at hv2; cases hv2
      · rw [if_neg c] at hv2
        have e0 : (L (s.extract i (i + sizeAt s i))) = ((L s).drop i).take (sizeAt s i) := by rw [L_extract, Nat.add_sub_cancel_left]
        have c' : (dec ((L s).drop i)).1 ≠ 0 := by rw [← sizeAt_in]; exact c
        obtain ⟨hsc, r, hlr, hn⟩ := dec_enc ((L s).drop i) _ _ (Prod.eta (dec ((L s).drop i))).symm c'
        have h3 : ((L s).drop i).take (sizeAt s i) = enc (dec ((L s).drop i)).2 := by
          rw [sizeAt_in]; conv => lhs; arg 2; rw [hlr]
          rw [← hn]; exact List.take_left
        have e4 : s.extract i (i + sizeAt s i) = encS (dec ((L s).drop i)).2 := L_inj (by rw [e0, h3, L_encS])
        rw [if_pos (by omega), rSize_eq k (by omega) s (by omega), Option.bind_some, step_points s i hlt, if_neg c, if_pos (by omega), w64 (by omega) (by omega), if_pos (by omega), if_pos (by omega), if_pos (by omega)]
        rw [show ((i : Int) + (sizeAt s i : Int)) = ((i + sizeAt s i : Nat) : Int) from rfl, Int.toNat_natCast, Int.toNat_natCast, e4, ih _ (i + sizeAt s i) _ hv2 (by omega) hl (by omega) (by simp; omega)]
        simp
    · rw [if_neg (by omega), L_drop_nil s i (by omega), points_nil, List.map_nil, List.append_nil]
theorem points_clean (l : List UInt8) : points (clean l) = points l := points_encs' _ (points_sc l)
theorem cleanS_size (s : ByteArray) : (cleanS s).size ≤ 4 * s.size := by
  rw [L_size, L_clean, L_size s]; exact clean_le _
theorem rPoints_eq (k : Nat) (s : ByteArray) (hs : s.size ≤ 100000) (hk : 4 * s.size + 12 ≤ k) : palinoderef1_Points.f k s = some ((points (L s)).map encS) := by
  unfold palinoderef1_Points.f
  have h := cleanS_size s
  rw [rClean_eq k s (by omega) (by omega), Option.bind_some]
  have := rPoints_l (cleanS s) (by omega) (cleanS s).size k 0 [] (by rw [List.drop_zero, L_clean]; exact clean_valid _) (by omega) (by omega) (by omega) (by simp)
  rw [show ((0 : Nat) : Int) = 0 from rfl] at this
  rw [this, List.drop_zero, L_clean, points_clean]; rfl
theorem bt_nth (s : ByteArray) (l r : List UInt8) (a : UInt8) (h : L s = l ++ a :: r) (i : Int) (hi : i = l.length) : bt s i = bi a := by
  subst hi
  have := L_get s l.length a r (by rw [h]; exact List.drop_left)
  exact this.2.1
theorem num_step (k : Nat) (s : ByteArray) (v i c : Int) (h : i < s.size) (h0 : 0 ≤ i) (h1 : i < 1000) (hc : bt s i = c) (hv : 0 ≤ v) (hv2 : v < 1000000) : palinoderef1_Number.l0 (k + 1) s v i = palinoderef1_Number.l0 k s (v * 64 + c % 64) (i + 1) := by
  have hb := bt_range s i
  simp only [palinoderef1_Number.l0]
  rw [if_pos h, if_pos h0, hc, w64 (x := c) (by omega) (by omega), w64 (x := v * 64) (by omega) (by omega), w64 (x := i + 1) (by omega) (by omega), i64_63 _ (by omega) (by omega), i64_or6 _ _ (by omega) (by omega) (by omega) (by omega) (by omega)]
theorem num_end (k : Nat) (s : ByteArray) (v i : Int) (h : ¬ i < s.size) : palinoderef1_Number.l0 (k + 1) s v i = some v := by
  simp only [palinoderef1_Number.l0]
  rw [if_neg h]
theorem Number_eq (k : Nat) (hk : 6 ≤ k) (v : Int) (hv : sc v) : palinoderef1_Number.f k (encS v) = some v := by
  obtain ⟨k, rfl⟩ : ∃ m, k = m + 6 := ⟨k - 6, by omega⟩
  have hv' := hv
  unfold sc at hv'
  have hL := L_encS v
  have hz := L_size (encS v)
  unfold palinoderef1_Number.f
  by_cases c1 : v < 128
  · rw [enc_one (by omega) c1] at hL
    rw [hL] at hz
    simp only [List.length_cons, List.length_nil] at hz
    have b0 := bt_nth (encS v) [] [] _ hL 0 rfl
    rw [bi_of (by omega) (by omega)] at b0
    rw [if_pos (by omega), if_neg (by omega), if_neg (by omega), if_neg (by omega), b0, w64 (by omega) (by omega)]
    simp only [palinoderef1_Number.j0]
    rw [num_end _ _ _ _ (by omega)]
  by_cases c2 : v < 2048
  · rw [enc_two (by omega) c2] at hL
    rw [hL] at hz
    simp only [List.length_cons, List.length_nil] at hz
    have b0 := bt_nth (encS v) [] [_] _ hL 0 rfl
    have b1 := bt_nth (encS v) [_] [] _ hL 1 rfl
    rw [bi_of (by omega) (by omega)] at b0 b1
    rw [if_pos (by omega), if_pos (by omega), b0, w64 (by omega) (by omega), i64_31 _ (by omega) (by omega)]
    simp only [palinoderef1_Number.j0]
    rw [num_step _ _ _ _ _ (by omega) (by omega) (by omega) b1 (by omega) (by omega), num_end _ _ _ _ (by omega)]
    exact congrArg some (by omega)
  by_cases c3 : v < 65536
  · rw [enc_three (by omega) c3 hv] at hL
    rw [hL] at hz
    simp only [List.length_cons, List.length_nil] at hz
    have b0 := bt_nth (encS v) [] [_, _] _ hL 0 rfl
    have b1 := bt_nth (encS v) [_] [_] _ hL 1 rfl
    have b2 := bt_nth (encS v) [_, _] [] _ hL (1 + 1) rfl
    rw [bi_of (by omega) (by omega)] at b0 b1 b2
    rw [if_pos (by omega), if_neg (by omega), if_pos (by omega), b0, w64 (by omega) (by omega), i64_15 _ (by omega) (by omega)]
    simp only [palinoderef1_Number.j0]
    rw [num_step _ _ _ _ _ (by omega) (by omega) (by omega) b1 (by omega) (by omega), num_step _ _ _ _ _ (by omega) (by omega) (by omega) b2 (by omega) (by omega), num_end _ _ _ _ (by omega)]
    exact congrArg some (by omega)
  · rw [enc_four (by omega) (by omega)] at hL
    rw [hL] at hz
    simp only [List.length_cons, List.length_nil] at hz
    have b0 := bt_nth (encS v) [] [_, _, _] _ hL 0 rfl
    have b1 := bt_nth (encS v) [_] [_, _] _ hL 1 rfl
    have b2 := bt_nth (encS v) [_, _] [_] _ hL (1 + 1) rfl
    have b3 := bt_nth (encS v) [_, _, _] [] _ hL (1 + 1 + 1) rfl
    rw [bi_of (by omega) (by omega)] at b0 b1 b2 b3
    rw [if_pos (by omega), if_neg (by omega), if_neg (by omega), if_pos (by omega), b0, w64 (by omega) (by omega), i64_7 _ (by omega) (by omega)]
    simp only [palinoderef1_Number.j0]
    rw [num_step _ _ _ _ _ (by omega) (by omega) (by omega) b1 (by omega) (by omega), num_step _ _ _ _ _ (by omega) (by omega) (by omega) b2 (by omega) (by omega), num_step _ _ _ _ _ (by omega) (by omega) (by omega) b3 (by omega) (by omega), num_end _ _ _ _ (by omega)]
    exact congrArg some (by omega)
theorem rIsEdge_eq (k : Nat) (s : ByteArray) (hs : s.size ≤ 1000000) (hk : s.size + 12 ≤ k) (i : Int) : palinoderef1_IsEdge.f k s i = some (edge s i) := by
  have hb := bt_range s i
  unfold palinoderef1_IsEdge.f edge
  rw [rValid_eq k s hs hk]
  by_cases a : i < 0
  · rw [if_pos a, decide_eq_false (show ¬ 0 ≤ i by omega)]; simp
  · rw [if_neg a]
    by_cases b : i > s.size
    · rw [if_pos b, decide_eq_false (show ¬ i ≤ s.size by omega)]; simp
    · rw [if_neg b, Option.bind_some, decide_eq_true (show 0 ≤ i by omega), decide_eq_true (show i ≤ s.size by omega)]
      by_cases v : valid (L s) = true
      · rw [if_pos v, v]
        by_cases c : i = s.size
        · rw [if_pos c]; simp [c]
        · rw [if_neg c, if_pos (by omega), if_pos (by omega), w64 (by omega) (by omega), decide_eq_false c]
          by_cases d : 128 ≤ bt s i ∧ bt s i < 192
          · rw [decide_eq_true d, show bt s i / 64 = 2 by omega]; rfl
          · rw [decide_eq_false d, show (bt s i / 64 != 2) = true by rw [bne_iff_ne]; omega]; rfl
      · rw [if_neg v]
        rw [Bool.not_eq_true] at v
        rw [v]; simp
theorem rBack_l (s : ByteArray) (hs : s.size ≤ 1000000) (n : Nat) : ∀ k, n < s.size → n + 1 ≤ k → palinoderef1_Back.l0 k s n = some (bk s n : Int) := by
  induction n with
  | zero =>
    intro k h hk
    obtain ⟨k, rfl⟩ : ∃ m, k = m + 1 := ⟨k - 1, by omega⟩
    simp only [palinoderef1_Back.l0]
    rw [if_neg (by omega)]; rfl
  | succ n ih =>
    intro k h hk
    obtain ⟨k, rfl⟩ : ∃ m, k = m + 1 := ⟨k - 1, by omega⟩
    have hb := bt_range s ((n + 1 : Nat) : Int)
    simp only [palinoderef1_Back.l0]
    rw [if_pos (by omega), if_pos (by omega), if_pos (by omega), w64 (x := bt s ((n + 1 : Nat) : Int)) (by omega) (by omega), bk]
    by_cases c : 128 ≤ bt s ((n + 1 : Nat) : Int) ∧ bt s ((n + 1 : Nat) : Int) < 192
    · rw [if_pos (by omega), if_pos c, w64 (by omega) (by omega), show ((n + 1 : Nat) : Int) - 1 = (n : Int) by omega]
      exact ih k (by omega) (by omega)
    · rw [if_neg (by omega), if_neg c]
theorem rBack_eq (k : Nat) (s : ByteArray) (hs : s.size ≤ 1000000) (hk : s.size + 12 ≤ k) (i : Int) : palinoderef1_Back.f k s i = some (back s i) := by
  obtain ⟨k', rfl⟩ : ∃ m, k = m + 1 := ⟨k - 1, by omega⟩
  unfold palinoderef1_Back.f back
  by_cases a : i < 1
  · rw [if_pos a, if_pos (.inl a)]; simp only [palinoderef1_Back.j0, if_true]
  · rw [if_neg a]
    by_cases b : i > s.size
    · have he : edge s i = false := by unfold edge; rw [decide_eq_false (show ¬ i ≤ s.size by omega)]; simp
      rw [if_pos b, if_pos (.inr he)]; simp only [palinoderef1_Back.j0, if_true]
    rw [if_neg b, rIsEdge_eq (k' + 1) s hs hk, Option.bind_some]
    by_cases c : edge s i = true
    · have he := edge_valid c
      rw [if_neg (by rw [c]; simp; omega), c]
      simp only [palinoderef1_Back.j0]
      rw [if_neg (by simp), w64 (by omega) (by omega)]
      obtain ⟨n, hn⟩ : ∃ n : Nat, i - 1 = n := ⟨(i - 1).toNat, by omega⟩
      rw [hn, Int.toNat_natCast]
      exact rBack_l s hs n k' (by omega) (by omega)
    · rw [Bool.not_eq_true] at c
      rw [if_pos (.inr c), c]
      simp only [palinoderef1_Back.j0]
      rfl
theorem L_nums (l : List Int) : L (strOfNums l) = l.map fun x => x.toNat.toUInt8 := rfl
theorem o192 {y : Int} (h0 : 0 ≤ y) (h1 : y < 64) : bits .or .i64 192 y = 192 + y := i64_or6 192 y (by omega) (by omega) (by omega) h0 h1
theorem o128 {y : Int} (h0 : 0 ≤ y) (h1 : y < 64) : bits .or .i64 128 y = 128 + y := i64_or6 128 y (by omega) (by omega) (by omega) h0 h1
theorem o224 {y : Int} (h0 : 0 ≤ y) (h1 : y < 32) : bits .or .i64 224 y = 224 + y := bits_join .i64 63 (by decide) wraps_i64 5 224 y (by omega) (by omega) (by omega) h0 (by omega) (by omega)
theorem o240 {y : Int} (h0 : 0 ≤ y) (h1 : y < 16) : bits .or .i64 240 y = 240 + y := bits_join .i64 63 (by decide) wraps_i64 4 240 y (by omega) (by omega) (by omega) h0 (by omega) (by omega)
theorem rMake_eq (k : Nat) (hk : 4 ≤ k) (v : Int) : palinoderef1_Make.f k v = some (encS (utf_mk v)) := by
  obtain ⟨k, rfl⟩ : ∃ m, k = m + 4 := ⟨k - 4, by omega⟩
  have hbad : ∀ w : Int, ¬ sc w → (⟨#[239, 191, 189]⟩ : ByteArray) = encS (utf_mk w) := by
    intro w hw
    rw [mk_not hw]
    rfl
  unfold palinoderef1_Make.f
  by_cases a : v ≥ 0
  · rw [if_pos a]
    simp only [palinoderef1_Make.j0]
    by_cases c1 : v < 128
    · rw [decide_eq_true c1, if_pos rfl]
      refine congrArg some (L_inj ?_)
      rw [mk_sc (by unfold sc; omega), L_encS, enc_one a c1, L_nums, Int.emod_eq_of_lt (by omega) (by omega)]; rfl
    rw [decide_eq_false c1, if_neg (by simp), if_pos (by omega)]
    simp only [palinoderef1_Make.j1]
    by_cases c2 : v < 2048
    · rw [decide_eq_true c2, if_pos rfl]
      refine congrArg some (L_inj ?_)
      rw [mk_sc (by unfold sc; omega), L_encS, enc_two (by omega) c2, L_nums, i64_63 _ (by omega) (by omega), o192 (by omega) (by omega), o128 (by omega) (by omega), Int.emod_eq_of_lt (by omega) (by omega), Int.emod_eq_of_lt (a := 128 + v % 64) (by omega) (by omega)]; rfl
    rw [decide_eq_false c2, if_neg (by simp), if_pos (by omega)]
    by_cases c3 : v < 65536
    · rw [if_pos c3]
      have main : sc v → palinoderef1_Make.j2 (k + 2) v true = some (encS (utf_mk v)) := by
        intro hs
        simp only [palinoderef1_Make.j2]
        rw [if_pos trivial]
        refine congrArg some (L_inj ?_)
        rw [mk_sc hs, L_encS, enc_three (by omega) c3 hs, L_nums, i64_63 _ (by omega) (by omega), i64_63 _ (by omega) (by omega), o224 (by omega) (by omega), o128 (by omega) (by omega), o128 (by omega) (by omega), Int.emod_eq_of_lt (by omega) (by omega), Int.emod_eq_of_lt (a := 128 + v / 64 % 64) (by omega) (by omega), Int.emod_eq_of_lt (a := 128 + v % 64) (by omega) (by omega)]; rfl
      by_cases c4 : v < 55296
      · rw [if_pos c4]; exact main (by unfold sc; omega)
      · rw [if_neg c4]
        by_cases c5 : v ≥ 57344
        · rw [decide_eq_true c5]; exact main (by unfold sc; omega)
        · rw [decide_eq_false c5]
          simp only [palinoderef1_Make.j2]
          rw [if_neg (by simp), if_neg (by omega)]
          exact congrArg some (hbad v (by unfold sc; omega))
    · rw [if_neg c3]
      simp only [palinoderef1_Make.j2]
      rw [if_neg (by simp), if_pos (by omega)]
      by_cases c6 : v ≤ 1114111
      · rw [if_pos c6]
        refine congrArg some (L_inj ?_)
        rw [mk_sc (by unfold sc; omega), L_encS, enc_four (by omega) c6, L_nums, i64_63 _ (by omega) (by omega), i64_63 _ (by omega) (by omega), i64_63 _ (by omega) (by omega), o240 (by omega) (by omega), o128 (by omega) (by omega), o128 (by omega) (by omega), o128 (by omega) (by omega), Int.emod_eq_of_lt (by omega) (by omega), Int.emod_eq_of_lt (a := 128 + v / 4096 % 64) (by omega) (by omega), Int.emod_eq_of_lt (a := 128 + v / 64 % 64) (by omega) (by omega), Int.emod_eq_of_lt (a := 128 + v % 64) (by omega) (by omega)]; rfl
      · rw [if_neg c6]
        exact congrArg some (hbad v (by unfold sc; omega))
  · rw [if_neg a]
    simp only [palinoderef1_Make.j0]
    rw [if_neg (by simp), if_neg (by omega)]
    simp only [palinoderef1_Make.j1]
    rw [if_neg (by simp), if_neg (by omega)]
    simp only [palinoderef1_Make.j2]
    rw [if_neg (by simp), if_neg (by omega)]
    exact congrArg some (hbad v (by unfold sc; omega))

end Go.Proofs.Ytgepcdpnjinadaa.V
end

section
/- The printed known() of layer 1 comes to true; further plain facts on edges. No conditions. -/
namespace Go.Proofs.Ytgepcdpnjinadaa.V
open Go.RowKit Go.Proofs.Ytgepcdpnjinadaa.PX Go.Proofs.YtgepcdpnjinadaaW.PrintWords Go.Proofs.YtgepcdpnjinadaaW.PrintLast Go.Proofs.Ytgepcdpnjinadaa.U Go.Lib
set_option linter.unusedVariables false

theorem clean_nil : clean [] = [] := by unfold clean; rw [points_nil]; rfl
theorem known1 (k : Nat) (hk : 40 ≤ k) : palinodelaw1_known.f k = some true := by
  have e1 : L (⟨#[97, 195, 169]⟩ : ByteArray) = encs [97, 233] := by decide +kernel
  have e2 : points (encs [97, 233]) = [97, 233] := points_encs' _ (by decide)
  have s1 : sizeAt (⟨#[195, 169]⟩ : ByteArray) 0 = 2 := by decide +kernel
  have s2 : sizeAt (⟨#[255]⟩ : ByteArray) 0 = 0 := by decide +kernel
  have v1 : valid (encs [97, 233]) = true := valid_encs' _ (by decide)
  have v2 : valid (L (⟨#[195]⟩ : ByteArray)) = false := valid_none (a := 195) (t := []) (by decide +kernel)
  have c1 : (cleanS (⟨#[255]⟩ : ByteArray)).toList = ([239, 191, 189] : List UInt8) := by
    rw [toList_L, L_clean]
    show clean [255] = _
    rw [clean_none (by decide +kernel), clean_nil]; decide +kernel
  have v3 : valid (L (⟨#[195, 169]⟩ : ByteArray)) = true := by
    rw [show L (⟨#[195, 169]⟩ : ByteArray) = encs [233] by decide +kernel]; exact valid_encs' _ (by decide)
  have d1 : edge (⟨#[195, 169]⟩ : ByteArray) 2 = true := by unfold edge; rw [v3]; decide +kernel
  have d2 : edge (⟨#[195, 169]⟩ : ByteArray) 1 = false := by unfold edge; rw [v3]; decide +kernel
  have d3 : edge (⟨#[97, 195, 169]⟩ : ByteArray) 3 = true := by unfold edge; rw [e1, v1]; decide +kernel
  have b1 : back (⟨#[97, 195, 169]⟩ : ByteArray) 3 = 1 := by unfold back; rw [if_neg (by rw [d3]; simp)]; decide +kernel
  have m1 : utf_Make.f [233, -1] = some ⟨#[195, 169, 239, 191, 189]⟩ := by
    rw [Make_eq _ (by decide)]
    exact congrArg some (L_inj (by rw [L_mk]; decide +kernel))
  unfold palinodelaw1_known.f
  rw [Points_eq k _ (by decide) (Nat.le_trans (by decide) hk), e1, e2, Size_eq k (by omega) _ (by decide), Size_eq k (by omega) _ (by decide), s1, s2, Valid_eq k _ (by decide) (Nat.le_trans (by decide) hk), e1, v1, Valid_eq k _ (by decide) (Nat.le_trans (by decide) hk), v2, Clean_eq k _ (by decide) (Nat.le_trans (by decide) hk), IsEdge_eq k _ (by decide) (Nat.le_trans (by decide) hk), d1, IsEdge_eq k _ (by decide) (Nat.le_trans (by decide) hk), d2, Back_eq k _ (by decide) (Nat.le_trans (by decide) hk), b1, m1]
  simp only [Option.bind_some, c1]
  decide +kernel
theorem bk_over (s : ByteArray) (m j : Nat) (h : m = 0 ∨ ¬ (128 ≤ bt s (m : Int) ∧ bt s (m : Int) < 192)) (hc : ∀ x, m < x → x ≤ m + j → 128 ≤ bt s (x : Int) ∧ bt s (x : Int) < 192) : bk s (m + j) = m := by
  induction j with
  | zero =>
    rw [Nat.add_zero]
    match m, h with
    | 0, _ => rfl
    | m + 1, h =>
      rw [bk, if_neg (by rcases h with h | h; omega; exact h)]
  | succ j ih =>
    rw [← Nat.add_assoc, bk, if_pos (hc (m + j + 1) (by omega) (by omega))]
    exact ih (fun x h1 h2 => hc x h1 (by omega))
theorem nth_of (s : ByteArray) (l r : List UInt8) (h : L s = l ++ r) (x : Nat) (hx : l.length ≤ x) (hy : x < s.size) : ∃ a, r[x - l.length]? = some a ∧ bt s (x : Int) = bi a := by
  obtain ⟨a, t, hd, hb, _⟩ := at_head s x hy
  refine ⟨a, ?_, hb⟩
  have e : (L s)[x]? = some a := by rw [← List.head?_drop, hd]; rfl
  rw [h, List.getElem?_append_right hx] at e
  exact e
/-- In a valid text, between code points, there is an edge. -/
theorem edge_at (s : ByteArray) (us vs : List Int) (hu : ∀ v ∈ us, sc v) (hv : ∀ v ∈ vs, sc v) (h : L s = encs us ++ encs vs) : edge s ((encs us).length : Int) = true := by
  have hval : valid (L s) = true := by rw [h, ← U.encs_append]; exact valid_encs' _ (fun v hv' => by rcases List.mem_append.1 hv' with h | h; exact hu v h; exact hv v h)
  have hz : s.size = (encs us).length + (encs vs).length := by rw [L_size, h, List.length_append]
  unfold edge
  rw [hval, decide_eq_true (by omega), decide_eq_true (show ((encs us).length : Int) ≤ s.size by omega)]
  match vs, hv, h, hz with
  | [], _, _, hz => rw [decide_eq_true (by simp at hz; omega)]; rfl
  | v :: vs, hv, h, hz =>
    obtain ⟨a, t, he, hc, _⟩ := enc_shape v (hv v (by simp))
    have hb := bt_nth s (encs us) (t ++ encs vs) a (by rw [h, encs_cons, he]; rfl) _ rfl
    rw [decide_eq_false (show ¬ (128 ≤ bt s ((encs us).length : Int) ∧ bt s ((encs us).length : Int) < 192) by rw [hb]; exact hc)]
    simp
theorem back_at (s : ByteArray) (us vs : List Int) (v : Int) (hu : ∀ v ∈ us, sc v) (hv : ∀ v ∈ vs, sc v) (hs : sc v) (h : L s = encs us ++ (enc v ++ encs vs)) : back s (((encs us).length + (enc v).length : Nat) : Int) = ((encs us).length : Int) := by
  have he := edge_at s (us ++ [v]) vs (fun w hw => by rcases List.mem_append.1 hw with hw | hw; exact hu w hw; rw [List.mem_singleton.1 hw]; exact hs) hv (by rw [h, U.encs_append, encs_cons, encs_nil, List.append_nil, List.append_assoc])
  rw [U.encs_append, encs_cons, encs_nil, List.append_nil, List.length_append] at he
  obtain ⟨a, t, hsh, hc, ht⟩ := enc_shape v hs
  have hl : (enc v).length = t.length + 1 := by rw [hsh]; rfl
  unfold back
  rw [if_neg (by rw [he]; simp; omega)]
  have e1 : ((((encs us).length + (enc v).length : Nat) : Int) - 1).toNat = (encs us).length + t.length := by omega
  have hb := bt_nth s (encs us) (t ++ encs vs) a (by rw [h, hsh]; rfl) _ rfl
  have hz : s.size = (encs us).length + ((enc v).length + (encs vs).length) := by rw [L_size, h, List.length_append, List.length_append]
  rw [e1, bk_over s _ _ (.inr (by rw [hb]; exact hc))]
  intro x h1 h2
  obtain ⟨b, hb1, hb2⟩ := nth_of s (encs us ++ [a]) (t ++ encs vs) (by rw [h, hsh]; simp) x (by simp; omega) (by omega)
  rw [hb2]
  have hx : x - (encs us ++ [a]).length < t.length := by simp; omega
  rw [List.getElem?_append_left hx] at hb1
  exact ht b (List.mem_of_getElem? hb1)
theorem size_at (s : ByteArray) (l r : List UInt8) (v : Int) (hs : sc v) (h : L s = l ++ (enc v ++ r)) : sizeAt s (l.length : Int) = (enc v).length := by
  rw [sizeAt_in, h, List.drop_left, enc_dec v hs]

end Go.Proofs.Ytgepcdpnjinadaa.V
end

section
/- Contracts of package utf in plain words: each call answers what the plain law tells, whatever the memory. For strings of at most a million bytes. -/
namespace Go.Proofs.Ytgepcdpnjinadaa.V
open Go.RowKit Go.Proofs.Ytgepcdpnjinadaa.PX Go.Proofs.YtgepcdpnjinadaaW.PrintWords Go.Proofs.YtgepcdpnjinadaaW.PrintLast Go.Proofs.Ytgepcdpnjinadaa.U Go.Lib
set_option linter.unusedVariables false

theorem cKnown1 (w : World) : Calls Try.prog 17 #[] w fun e w' => e = .returned (.bool true) ∧ Below w.heap.size w w' :=
  palinodelaw1_known.calls 40 _ w (known1 40 (Nat.le_refl _))
theorem cSize (s : ByteArray) (i : Int) (hs : s.size ≤ 1000000) (w : World) : Calls Try.prog 22 #[.string s, .int .i64 i] w fun e w' => e = .returned (.int .i64 (sizeAt s i : Int)) ∧ Below w.heap.size w w' :=
  utf_Size.calls 6 s i _ w (Size_eq 6 (Nat.le_refl _) s (by omega) i)
theorem cValid (s : ByteArray) (hs : s.size ≤ 1000000) (w : World) : Calls Try.prog 24 #[.string s] w fun e w' => e = .returned (.bool (valid (L s))) ∧ Below w.heap.size w w' :=
  utf_Valid.calls (s.size + 8) s _ w (Valid_eq _ s hs (Nat.le_refl _))
theorem cClean (s : ByteArray) (hs : s.size ≤ 1000000) (w : World) : Calls Try.prog 26 #[.string s] w fun e w' => e = .returned (.string (cleanS s)) ∧ Below w.heap.size w w' :=
  utf_Clean.calls (s.size + 8) s _ w (Clean_eq _ s hs (Nat.le_refl _))
theorem cIsEdge (s : ByteArray) (i : Int) (hs : s.size ≤ 1000000) (w : World) : Calls Try.prog 28 #[.string s, .int .i64 i] w fun e w' => e = .returned (.bool (edge s i)) ∧ Below w.heap.size w w' :=
  utf_IsEdge.calls (s.size + 8) s i _ w (IsEdge_eq _ s hs (Nat.le_refl _) i)
theorem cBack (s : ByteArray) (i : Int) (hs : s.size ≤ 1000000) (w : World) : Calls Try.prog 18 #[.string s, .int .i64 i] w fun e w' => e = .returned (.int .i64 (back s i)) ∧ Below w.heap.size w w' :=
  utf_Back.calls (s.size + 8) s i _ w (Back_eq _ s hs (Nat.le_refl _) i)
/-- A slice that reads as a list. -/
def Reads (w : World) (v : Value) (l : List Int) : Prop := ∃ A c, v = .slice A l.length c ∧ l.length ≤ c ∧ Kd.C (Kd.int .i64) w A l.length l
theorem cPoints (s : ByteArray) (hs : s.size ≤ 1000000) (w : World) : Calls Try.prog 19 #[.string s] w fun e w' => ∃ A c, e = .returned (.slice A (points (L s)).length c) ∧ Aside0 ((points (L s)).length ≤ c) ∧ Aside0 (Kd.C (Kd.int .i64) w' A (points (L s)).length (points (L s))) ∧ Below w.heap.size w w' := by
  refine (utf_Points.calls (s.size + 8) s _ w (Points_eq _ s hs (Nat.le_refl _))).mono ?_
  rintro e w' ⟨v, rfl, hR, hb⟩
  obtain ⟨A, c, rfl, hl, hC⟩ := Kd.R_reads hR
  exact ⟨A, c, rfl, ⟨hl⟩, ⟨hC⟩, hb⟩
theorem cMake (A : Option Addr) (c : Nat) (l : List Int) (hl : l.length ≤ 1000000) (w : World) (hC : Kd.C (Kd.int .i64) w A l.length l) (hc : l.length ≤ c) : Calls Try.prog 32 #[.slice A l.length c] w fun e w' => e = .returned (.string ⟨(encs (l.map utf_mk)).toArray⟩) ∧ Below w.heap.size w w' :=
  utf_Make.calls A c l _ w hC hc (Make_eq l hl)

end Go.Proofs.Ytgepcdpnjinadaa.V
end
