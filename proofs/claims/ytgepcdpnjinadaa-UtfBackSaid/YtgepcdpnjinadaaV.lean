/- The printed functions of package utf and of its reference, against the plain law: what each comes to. No conditions but the sizes that a Go program's strings have. -/
import Derived.Test.YtgepcdpnjinadaaU2
import Derived.Laws.BitsLemmas
import Derived.Lib.Strings
import Derived.Test.YtgepcdpnjinadaaPXx3
import Derived.Test.YtgepcdpnjinadaaPXx4
import Derived.Test.YtgepcdpnjinadaaPXx7
import Derived.Test.YtgepcdpnjinadaaPXx8
import Derived.Test.YtgepcdpnjinadaaPXx9
namespace Go.Proofs.Ytgepcdpnjinadaa.V
open Go.RowKit Go.Proofs.Ytgepcdpnjinadaa.PX Go.Proofs.YtgepcdpnjinadaaW.PrintWords Go.Proofs.YtgepcdpnjinadaaW.PrintLast Go.Proofs.Ytgepcdpnjinadaa.U Go.Lib
set_option linter.unusedVariables false

theorem b_and128 : ∀ n : Nat, n < 256 → bits .and .u8 (n : Int) 128 = (n / 128 * 128 : Nat) := by decide +kernel
theorem b_and224 : ∀ n : Nat, n < 256 → bits .and .u8 (n : Int) 224 = (n / 32 * 32 : Nat) := by decide +kernel
theorem b_and240 : ∀ n : Nat, n < 256 → bits .and .u8 (n : Int) 240 = (n / 16 * 16 : Nat) := by decide +kernel
theorem b_and248 : ∀ n : Nat, n < 256 → bits .and .u8 (n : Int) 248 = (n / 8 * 8 : Nat) := by decide +kernel
theorem b_and192 : ∀ n : Nat, n < 256 → bits .and .u8 (n : Int) 192 = (n / 64 * 64 : Nat) := by decide +kernel
theorem b_not192 : ∀ n : Nat, n < 256 → bits .andNot .u8 (n : Int) 192 = (n % 64 : Nat) := by decide +kernel
theorem b_not128 : ∀ n : Nat, n < 256 → bits .andNot .u8 (n : Int) 128 = (n % 128 : Nat) := by decide +kernel
theorem b_not224 : ∀ n : Nat, n < 256 → bits .andNot .u8 (n : Int) 224 = (n % 32 : Nat) := by decide +kernel
theorem b_not240 : ∀ n : Nat, n < 256 → bits .andNot .u8 (n : Int) 240 = (n % 16 : Nat) := by decide +kernel
theorem b_not248 : ∀ n : Nat, n < 256 → bits .andNot .u8 (n : Int) 248 = (n % 8 : Nat) := by decide +kernel
theorem n128 {x : Int} (h0 : 0 ≤ x) (h1 : x < 256) : bits .and .u8 x 128 = x / 128 * 128 := by
  obtain ⟨n, rfl⟩ : ∃ n : Nat, x = n := ⟨x.toNat, by omega⟩
  rw [b_and128 n (by omega)]; omega
theorem n224 {x : Int} (h0 : 0 ≤ x) (h1 : x < 256) : bits .and .u8 x 224 = x / 32 * 32 := by
  obtain ⟨n, rfl⟩ : ∃ n : Nat, x = n := ⟨x.toNat, by omega⟩
  rw [b_and224 n (by omega)]; omega
theorem n240 {x : Int} (h0 : 0 ≤ x) (h1 : x < 256) : bits .and .u8 x 240 = x / 16 * 16 := by
  obtain ⟨n, rfl⟩ : ∃ n : Nat, x = n := ⟨x.toNat, by omega⟩
  rw [b_and240 n (by omega)]; omega
theorem n248 {x : Int} (h0 : 0 ≤ x) (h1 : x < 256) : bits .and .u8 x 248 = x / 8 * 8 := by
  obtain ⟨n, rfl⟩ : ∃ n : Nat, x = n := ⟨x.toNat, by omega⟩
  rw [b_and248 n (by omega)]; omega
theorem n192 {x : Int} (h0 : 0 ≤ x) (h1 : x < 256) : bits .and .u8 x 192 = x / 64 * 64 := by
  obtain ⟨n, rfl⟩ : ∃ n : Nat, x = n := ⟨x.toNat, by omega⟩
  rw [b_and192 n (by omega)]; omega
theorem m192 {x : Int} (h0 : 0 ≤ x) (h1 : x < 256) : bits .andNot .u8 x 192 = x % 64 := by
  obtain ⟨n, rfl⟩ : ∃ n : Nat, x = n := ⟨x.toNat, by omega⟩
  rw [b_not192 n (by omega)]; omega
theorem m128 {x : Int} (h0 : 0 ≤ x) (h1 : x < 256) : bits .andNot .u8 x 128 = x % 128 := by
  obtain ⟨n, rfl⟩ : ∃ n : Nat, x = n := ⟨x.toNat, by omega⟩
  rw [b_not128 n (by omega)]; omega
theorem m224 {x : Int} (h0 : 0 ≤ x) (h1 : x < 256) : bits .andNot .u8 x 224 = x % 32 := by
  obtain ⟨n, rfl⟩ : ∃ n : Nat, x = n := ⟨x.toNat, by omega⟩
  rw [b_not224 n (by omega)]; omega
theorem m240 {x : Int} (h0 : 0 ≤ x) (h1 : x < 256) : bits .andNot .u8 x 240 = x % 16 := by
  obtain ⟨n, rfl⟩ : ∃ n : Nat, x = n := ⟨x.toNat, by omega⟩
  rw [b_not240 n (by omega)]; omega
theorem m248 {x : Int} (h0 : 0 ≤ x) (h1 : x < 256) : bits .andNot .u8 x 248 = x % 8 := by
  obtain ⟨n, rfl⟩ : ∃ n : Nat, x = n := ⟨x.toNat, by omega⟩
  rw [b_not248 n (by omega)]; omega
/-- A string's bytes. -/
def L (s : ByteArray) : List UInt8 := s.data.toList
theorem L_len (s : ByteArray) : (L s).length = s.size := by unfold L; rw [Array.length_toList]; rfl
theorem L_mk (l : List UInt8) : L ⟨l.toArray⟩ = l := by simp [L]
theorem L_inj {s t : ByteArray} (h : L s = L t) : s = t := by
  unfold L at h
  cases s; cases t
  simp only [ByteArray.mk.injEq]
  exact Array.toList_inj.1 h
theorem mk_L (s : ByteArray) : (⟨(L s).toArray⟩ : ByteArray) = s := L_inj (L_mk _)
theorem toList_L (s : ByteArray) : s.toList = L s := Lib.toList_data s
theorem L_append (s t : ByteArray) : L (s ++ t) = L s ++ L t := by simp [L]
theorem bt_range (s : ByteArray) (i : Int) : 0 ≤ bt s i ∧ bt s i < 256 := by
  unfold bt
  split
  · have := (s[i.toNat]).toNat_lt; omega
  · omega
theorem L_drop (s : ByteArray) (i : Nat) (h : i < s.size) : ∃ a, (L s).drop i = a :: (L s).drop (i + 1) ∧ bi a = bt s i := by
  have h' : i < (L s).length := by rw [L_len]; exact h
  refine ⟨(L s)[i], List.drop_eq_getElem_cons h', ?_⟩
  unfold bi bt
  rw [dif_pos (by simpa using h)]
  rfl
theorem L_drop_nil (s : ByteArray) (i : Nat) (h : s.size ≤ i) : (L s).drop i = [] := by rw [List.drop_eq_nil_iff, L_len]; exact h
theorem L_get (s : ByteArray) (i : Nat) (a : UInt8) (t : List UInt8) (h : (L s).drop i = a :: t) : i < s.size ∧ bt s i = bi a ∧ (L s).drop (i + 1) = t := by
  have hi : i < s.size := by
    rcases Nat.lt_or_ge i s.size with h' | h'
    · exact h'
    · rw [L_drop_nil s i h'] at h; cases h
  obtain ⟨b, hb, e⟩ := L_drop s i hi
  rw [hb] at h
  obtain ⟨rfl, rfl⟩ := List.cons.inj h
  exact ⟨hi, e.symm, rfl⟩

end Go.Proofs.Ytgepcdpnjinadaa.V
