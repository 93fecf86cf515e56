/- A law's arguments, read. No condition. -/
import Derived.Test.YtomnggbideepeaaQ8
import Derived.Test.YtomnggbideepeaaQ6
namespace Go.Proofs.Ytomnggbideepeaa.AM
set_option linter.unusedSimpArgs false
set_option linter.unusedVariables false
open Go Go.Proofs.Ytomnggbideepeaa.U
theorem wt_u8 {x : PV} (h : WT (.i .u8) x) : ∃ b : UInt8, x = .sc (.int .u8 b.toNat) := by
  cases h with
  | i hw =>
    rename_i n
    have h1 : 0 ≤ n ∧ n ≤ 255 := by
      simp [Lit.wf, IntKind.min, IntKind.max, IntKind.signed, IntKind.bits] at hw
      exact hw
    refine ⟨UInt8.ofNat n.toNat, ?_⟩
    rw [UInt8.toNat_ofNat']
    congr 2
    omega
theorem wt_i64 {x : PV} (h : WT (.i .i64) x) : ∃ n : Int, x = pi n ∧ -9223372036854775808 ≤ n ∧ n ≤ 9223372036854775807 := by
  cases h with
  | i hw =>
    rename_i n
    refine ⟨n, rfl, ?_⟩
    simp [Lit.wf, IntKind.min, IntKind.max, IntKind.signed, IntKind.bits] at hw
    omega
theorem wt_tx {x : PV} (h : WT .tx x) : ∃ s : ByteArray, x = .sc (.string s) ∧ s.size ≤ 9223372036854775807 := by
  cases h with
  | s hs => exact ⟨_, rfl, by simpa [maxLen] using hs⟩
theorem wtr_u8 : ∀ {l : List (List PV)}, WTR [.i .u8] l → ∃ bs : List UInt8, l = bRows bs
  | _, .nil => ⟨[], rfl⟩
  | _, .cons hc hl => by
    obtain ⟨bs, rfl⟩ := wtr_u8 hl
    cases hc with
    | cons h1 h2 =>
      cases h2
      obtain ⟨b, rfl⟩ := wt_u8 h1
      exact ⟨b :: bs, rfl⟩
theorem wtr_i64 : ∀ {l : List (List PV)}, WTR [.i .i64] l → ∃ ns : List Int, l = ints ns
  | _, .nil => ⟨[], rfl⟩
  | _, .cons hc hl => by
    obtain ⟨ns, rfl⟩ := wtr_i64 hl
    cases hc with
    | cons h1 h2 =>
      cases h2
      obtain ⟨n, rfl, _⟩ := wt_i64 h1
      exact ⟨n :: ns, rfl⟩
theorem wtr_tx : ∀ {l : List (List PV)}, WTR [.tx] l → ∃ ss : List ByteArray, l = strs ss ∧ ∀ s ∈ ss, s.size ≤ 9223372036854775807
  | _, .nil => ⟨[], rfl, by simp⟩
  | _, .cons hc hl => by
    obtain ⟨ss, rfl, h3⟩ := wtr_tx hl
    cases hc with
    | cons h1 h2 =>
      cases h2
      obtain ⟨s, rfl, hs⟩ := wt_tx h1
      refine ⟨s :: ss, rfl, fun x hx => ?_⟩
      rcases List.mem_cons.1 hx with rfl | hx
      · exact hs
      · exact h3 x hx
theorem wt_u8s {x : PV} (h : WTA (.one (.sl [.i .u8])) x) : ∃ bs : List UInt8, x = .sl 1 (bRows bs) ∧ bs.length ≤ 9223372036854775807 := by
  cases h with
  | one h => cases h with
    | sl hl hr =>
      obtain ⟨bs, rfl⟩ := wtr_u8 hr
      exact ⟨bs, rfl, by simpa [maxLen] using hl⟩
theorem wt_i64s {x : PV} (h : WTA (.one (.sl [.i .i64])) x) : ∃ ns : List Int, x = .sl 1 (ints ns) ∧ ns.length ≤ 9223372036854775807 := by
  cases h with
  | one h => cases h with
    | sl hl hr =>
      obtain ⟨bs, rfl⟩ := wtr_i64 hr
      exact ⟨bs, rfl, by simpa [maxLen] using hl⟩
theorem wt_strs {x : PV} (h : WTA (.one (.sl [.tx])) x) : ∃ ss : List ByteArray, x = .sl 1 (strs ss) ∧ ss.length ≤ 9223372036854775807 ∧ ∀ s ∈ ss, s.size ≤ 9223372036854775807 := by
  cases h with
  | one h => cases h with
    | sl hl hr =>
      obtain ⟨bs, rfl, hb⟩ := wtr_tx hr
      exact ⟨bs, rfl, by simpa [maxLen] using hl, hb⟩
theorem wt_str {x : PV} (h : WTA (.one .tx) x) : ∃ s : ByteArray, x = .sc (.string s) ∧ s.size ≤ 9223372036854775807 := by
  cases h with
  | one h => exact wt_tx h
theorem wt_int {x : PV} (h : WTA (.one (.i .i64)) x) : ∃ n : Int, x = pi n ∧ -9223372036854775808 ≤ n ∧ n ≤ 9223372036854775807 := by
  cases h with
  | one h => exact wt_i64 h
theorem wt_byte {x : PV} (h : WTA (.one (.i .u8)) x) : ∃ b : UInt8, x = .sc (.int .u8 b.toNat) := by
  cases h with
  | one h => exact wt_u8 h
theorem bRows_at (l : List UInt8) (n : Nat) (h : n < l.length) : (bRows l)[n]? = some [.sc (.int .u8 (l[n].toNat : Int))] := by simp [bRows, List.getElem?_eq_getElem h]
theorem tmod_nat (a b : Nat) : ((a : Int).tmod (b : Int)) = ((a % b : Nat) : Int) := by rw [Int.tmod_eq_emod_of_nonneg (by omega)]; rfl

end Go.Proofs.Ytomnggbideepeaa.AM
