/- A law's arguments as lists; the law AtomPlaces on the small machine. No condition. -/
import Derived.Test.YtihgpnfkadldeaaAR11
import Derived.Test.YtihgpnfkadldeaaAM24
namespace Go.Proofs.Ytihgpnfkadldeaa.AM
set_option linter.unusedSimpArgs false
set_option linter.unusedVariables false
open Go Go.Proofs.Ytihgpnfkadldeaa.U
variable {cp : List PV → Option Ret}

theorem wt_u8 {x : PV} (h : WT (.i .u8) x) : ∃ b : UInt8, x = .sc (.int .u8 b.toNat) := by
  cases h with
  | i hw =>
    rename_i n
    have h1 : 0 ≤ n ∧ n ≤ 255 := by
      simp [Lit.wf, IntKind.min, IntKind.max, IntKind.signed, IntKind.bits] at hw
      exact hw
    refine ⟨UInt8.ofNat n.toNat, ?_⟩
    rw [UInt8.toNat_ofNat']
    congr 2
    omega
theorem wt_i64 {x : PV} (h : WT (.i .i64) x) : ∃ n : Int, x = pi n ∧ -9223372036854775808 ≤ n ∧ n ≤ 9223372036854775807 := by
  cases h with
  | i hw =>
    rename_i n
    refine ⟨n, rfl, ?_⟩
    simp [Lit.wf, IntKind.min, IntKind.max, IntKind.signed, IntKind.bits] at hw
    omega
theorem wt_tx {x : PV} (h : WT .tx x) : ∃ s : ByteArray, x = .sc (.string s) ∧ s.size ≤ 9223372036854775807 := by
  cases h with
  | s hs => exact ⟨_, rfl, by simpa [maxLen] using hs⟩
theorem wtr_u8 : ∀ {l : List (List PV)}, WTR [.i .u8] l → ∃ bs : List UInt8, l = bRows bs
  | _, .nil => ⟨[], rfl⟩
  | _, .cons hc hl => by
    obtain ⟨bs, rfl⟩ := wtr_u8 hl
    cases hc with
    | cons h1 h2 =>
      cases h2
      obtain ⟨b, rfl⟩ := wt_u8 h1
      exact ⟨b :: bs, rfl⟩
theorem wtr_i64 : ∀ {l : List (List PV)}, WTR [.i .i64] l → ∃ ns : List Int, l = ints ns
  | _, .nil => ⟨[], rfl⟩
  | _, .cons hc hl => by
    obtain ⟨ns, rfl⟩ := wtr_i64 hl
    cases hc with
    | cons h1 h2 =>
      cases h2
      obtain ⟨n, rfl, _⟩ := wt_i64 h1
      exact ⟨n :: ns, rfl⟩
theorem wtr_tx : ∀ {l : List (List PV)}, WTR [.tx] l → ∃ ss : List ByteArray, l = strs ss ∧ ∀ s ∈ ss, s.size ≤ 9223372036854775807
  | _, .nil => ⟨[], rfl, by simp⟩
  | _, .cons hc hl => by
    obtain ⟨ss, rfl, h3⟩ := wtr_tx hl
    cases hc with
    | cons h1 h2 =>
      cases h2
      obtain ⟨s, rfl, hs⟩ := wt_tx h1
      refine ⟨s :: ss, rfl, fun x hx => ?_⟩
      rcases List.mem_cons.1 hx with rfl | hx
      · exact hs
      · exact h3 x hx
theorem wt_u8s {x : PV} (h : WTA (.one (.sl [.i .u8])) x) : ∃ bs : List UInt8, x = .sl 1 (bRows bs) ∧ bs.length ≤ 9223372036854775807 := by
  cases h with
  | one h => cases h with
    | sl hl hr =>
      obtain ⟨bs, rfl⟩ := wtr_u8 hr
      exact ⟨bs, rfl, by simpa [maxLen] using hl⟩
theorem wt_i64s {x : PV} (h : WTA (.one (.sl [.i .i64])) x) : ∃ ns : List Int, x = .sl 1 (ints ns) ∧ ns.length ≤ 9223372036854775807 := by
  cases h with
  | one h => cases h with
    | sl hl hr =>
      obtain ⟨bs, rfl⟩ := wtr_i64 hr
      exact ⟨bs, rfl, by simpa [maxLen] using hl⟩
theorem wt_strs {x : PV} (h : WTA (.one (.sl [.tx])) x) : ∃ ss : List ByteArray, x = .sl 1 (strs ss) ∧ ss.length ≤ 9223372036854775807 ∧ ∀ s ∈ ss, s.size ≤ 9223372036854775807 := by
  cases h with
  | one h => cases h with
    | sl hl hr =>
      obtain ⟨bs, rfl, hb⟩ := wtr_tx hr
      exact ⟨bs, rfl, by simpa [maxLen] using hl, hb⟩
theorem wt_str {x : PV} (h : WTA (.one .tx) x) : ∃ s : ByteArray, x = .sc (.string s) ∧ s.size ≤ 9223372036854775807 := by
  cases h with
  | one h => exact wt_tx h
theorem wt_int {x : PV} (h : WTA (.one (.i .i64)) x) : ∃ n : Int, x = pi n ∧ -9223372036854775808 ≤ n ∧ n ≤ 9223372036854775807 := by
  cases h with
  | one h => exact wt_i64 h
theorem wt_byte {x : PV} (h : WTA (.one (.i .u8)) x) : ∃ b : UInt8, x = .sc (.int .u8 b.toNat) := by
  cases h with
  | one h => exact wt_u8 h
theorem bRows_at (l : List UInt8) (n : Nat) (h : n < l.length) : (bRows l)[n]? = some [.sc (.int .u8 (l[n].toNat : Int))] := by simp [bRows, List.getElem?_eq_getElem h]
theorem tmod_nat (a b : Nat) : ((a : Int).tmod (b : Int)) = ((a % b : Nat) : Int) := by rw [Int.tmod_eq_emod_of_nonneg (by omega)]; rfl

/-! ### AtomPlaces -/
/-- The atoms of the law: put in at revision 1 by group 0, cut at revision 2 by group 1. -/
def APinv (ts : List ByteArray) (n : Nat) (l : List At) : Prop := (l.map fun a => a.txt) = ts ∧ ∀ a ∈ l, a.rv = 1 ∧ a.gr = 0 ∧ a.cuts.length ≤ n ∧ ∀ q ∈ a.cuts, q = (2, 1)
theorem APinv.cut {ts : List ByteArray} {n : Nat} {l : List At} (h : APinv ts n l) (i : Nat) (hi : i < l.length) : APinv ts (n + 1) (cutL l i 2 1) := by
  rw [cutL_in l i 2 1 hi]
  refine ⟨?_, fun a ha => ?_⟩
  · rw [← h.1, List.map_set]
    refine List.ext_getElem (by simp) fun k h1 h2 => ?_
    rw [List.getElem_set]
    split
    · rename_i e; subst e; simp [cutAt]
    · rfl
  · rcases List.mem_or_eq_of_mem_set ha with ha | rfl
    · obtain ⟨h1, h2, h3, h4⟩ := h.2 a ha
      exact ⟨h1, h2, by omega, h4⟩
    · obtain ⟨h1, h2, h3, h4⟩ := h.2 _ (List.getElem_mem hi)
      refine ⟨h1, h2, by simp [cutAt]; exact h3, fun q hq => ?_⟩
      rcases List.mem_append.1 hq with hq | hq
      · exact h4 q hq
      · simpa using hq
theorem APinv.len {ts : List ByteArray} {n : Nat} {l : List At} (h : APinv ts n l) : l.length = ts.length := by rw [← h.1]; simp
theorem cutL_length (l : List At) (i rv gr : Int) : (cutL l i rv gr).length = l.length := by
  unfold cutL; split
  · split <;> simp
  · rfl
theorem cuts_loop (ts : List ByteArray) (s : ByteArray) (bs : List UInt8) (hb : bs.length ≤ 12) (hts : ts.length ≤ 1000) : ∀ (m i : Nat) (l : List At), m + i = bs.length → APinv ts i l →
    ∃ l' i', Code (EX cp) L_law17_AtomPlaces_1 ⟨[(1, .p (.sl 1 (bRows bs))), (5, .p (.sc (.string s))), (7, .ms 7 0 l.length), (8, .p (pi i))], [(7, .row 31 5 false (ats l))]⟩ =
      some (.ex 2, ⟨[(1, .p (.sl 1 (bRows bs))), (5, .p (.sc (.string s))), (7, .ms 7 0 l'.length), (8, .p (pi i')), (49, .p (pb false))], [(7, .row 31 5 false (ats l'))]⟩) ∧ APinv ts 12 l' := by
  intro m
  induction m with
  | zero =>
    intro i l hi hI
    have : i = bs.length := by omega
    subst this
    refine ⟨l, bs.length, ?_, hI.1, fun a ha => by have := hI.2 a ha; exact ⟨this.1, this.2.1, by omega, this.2.2.2⟩⟩
    rw [L_law17_AtomPlaces_1, k_loop]
    simp (disch := omega) [dec_yes, dec_no]
  | succ m ih =>
    intro i l hi hI
    have hlt : i < bs.length := by omega
    have hlen := hI.len
    by_cases hz : l.length = 0
    · refine ⟨l, i, ?_, hI.1, fun a ha => by have := hI.2 a ha; exact ⟨this.1, this.2.1, by omega, this.2.2.2⟩⟩
      rw [L_law17_AtomPlaces_1, k_loop]
      simp (disch := omega) [dec_yes, dec_no, hz, hlt]
    · have hg := bRows_at bs i hlt
      generalize bs[i] = b at *
      have hk : b.toNat % l.length < l.length := Nat.mod_lt _ (by omega)
      have hc := atomCut (cp := cp) l ((b.toNat % l.length : Nat) : Int) 2 1 (by omega) (fun a ha => by have := (hI.2 a ha).2.2.1; omega)
      have hI' := hI.cut (b.toNat % l.length) hk
      have hl' := cutL_length l ((b.toNat % l.length : Nat) : Int) 2 1
      have htm := tmod_nat b.toNat l.length
      generalize cutL l ((b.toNat % l.length : Nat) : Int) 2 1 = l1 at *
      obtain ⟨l', i', h1, h2⟩ := ih (i+1) l1 (by omega) hI'
      have hbl := b.toNat_lt
      have hne : ¬ l = [] := fun e => hz (by rw [e]; rfl)
      rw [Int.natCast_emod] at hc
      refine ⟨l', i', ?_, h2⟩
      rw [← h1, L_law17_AtomPlaces_1, k_loop]
      simp (disch := omega) [dec_yes, dec_no, hlt, hg, wrap_in, htm, hc, hl', hne, -getElem?_pos]

/-- The texts put together, as far as each is short. -/
theorem texts_loop (ts : List ByteArray) (bs : List UInt8) (ht : ts.length ≤ 8) : ∀ (m i : Nat) (s : ByteArray), m + i = ts.length → s.size ≤ 20 * i →
    Code (EX cp) L_law17_AtomPlaces_0 ⟨[(0, .p (.sl 1 (strs ts))), (1, .p (.sl 1 (bRows bs))), (5, .p (.sc (.string s))), (6, .p (pi i))], []⟩ = some (.ret, ⟨[(4, .p (pb true))], []⟩) ∨
    ∃ s', Code (EX cp) L_law17_AtomPlaces_0 ⟨[(0, .p (.sl 1 (strs ts))), (1, .p (.sl 1 (bRows bs))), (5, .p (.sc (.string s))), (6, .p (pi i))], []⟩ = some (.ex 0, ⟨[(0, .p (.sl 1 (strs ts))), (1, .p (.sl 1 (bRows bs))), (5, .p (.sc (.string s'))), (6, .p (pi ts.length)), (24, .p (pb false))], []⟩) ∧ s'.size ≤ 20 * ts.length := by
  intro m
  induction m with
  | zero =>
    intro i s hi hs
    have : i = ts.length := by omega
    subst this
    refine .inr ⟨s, ?_, hs⟩
    rw [L_law17_AtomPlaces_0, k_loop]
    simp
  | succ m ih =>
    intro i s hi hs
    have hlt : i < ts.length := by omega
    have hg := strs_at ts i hlt
    generalize ts[i] = x at *
    by_cases c : x.size ≤ 20
    · have hsz : (s ++ x).size = s.size + x.size := by simp
      rcases ih (i+1) (s ++ x) (by omega) (by omega) with h | ⟨s', h, h2⟩
      · left
        rw [← h, L_law17_AtomPlaces_0, k_loop]
        simp (disch := omega) [dec_yes, dec_no, hlt, hg, wrap_in, if_yes]
      · right
        refine ⟨s', ?_, h2⟩
        rw [← h, L_law17_AtomPlaces_0, k_loop]
        simp (disch := omega) [dec_yes, dec_no, hlt, hg, wrap_in, if_yes]
    · left
      rw [L_law17_AtomPlaces_0, k_loop]
      simp (disch := omega) [dec_yes, dec_no, hlt, hg]
theorem places_test (l : List At) (s : ByteArray) (hf : Fit l) : ∀ (m i : Nat), m + i = l.length + 1 →
    Code (EX cp) L_law17_AtomPlaces_2 ⟨[(5, .p (.sc (.string s))), (7, .ms 7 0 l.length), (9, .ms 9 0 (l.length + 1)), (10, .p (pi i))], [(7, .row 31 5 true (ats l)), (9, .row 3 1 false (ints (places 2 [] l)))]⟩ =
      some (.ex 4, ⟨[(5, .p (.sc (.string s))), (7, .ms 7 0 l.length), (9, .ms 9 0 (l.length + 1)), (10, .p (pi ((l.length + 1 : Nat) : Int))), (73, .p (pb false))], [(7, .row 31 5 true (ats l)), (9, .row 3 1 false (ints (places 2 [] l)))]⟩) := by
  intro m
  induction m with
  | zero =>
    intro i hi
    have : i = l.length + 1 := by omega
    subst this
    rw [L_law17_AtomPlaces_2, k_loop]
    simp (disch := omega) [dec_no]
  | succ m ih =>
    intro i hi
    have hl := hf.len
    have hle : i ≤ l.length := by omega
    have hg : (ints (places 2 [] l))[i]? = some [pi ((txtF 2 [] (l.take i)).length : Nat)] := by rw [ints_get, places_at 2 [] l i hle]; rfl
    have hft : Fit (l.take i) := ⟨by rw [List.length_take]; omega, by have := sumT_take l i; have := hf.sum; omega, fun a ha => hf.cuts a (List.mem_of_mem_take ha)⟩
    have ht := atomText (cp := cp) (l.take i) 2 [] hft (by simp)
    have hsz : (txtS 2 [] (l.take i)).size = (txtF 2 [] (l.take i)).length := size_mk _
    have hat : (ats l).take i = ats (l.take i) := by simp [ats, List.map_take]
    have ih' := ih (i+1) (by omega)
    simp only [ints_nil] at ht
    generalize txtS 2 [] (l.take i) = x at *
    have hi2 : i < (places 2 [] l).length := by rw [places_len]; omega
    generalize places 2 [] l = pl at *
    rw [← ih', L_law17_AtomPlaces_2, k_loop]
    simp (disch := omega) [dec_yes, dec_no, hle, hg, wrap_in, hat, ht, hsz, if_yes, -getElem?_pos]

/-- All seen: the text is all texts. -/
theorem txtF_all (rev : Int) (u : List Int) : ∀ (l : List At), (∀ a ∈ l, a.vis rev u = true) → txtF rev u l = (l.map fun a => a.txt).flatMap L
  | [], _ => rfl
  | a :: l, h => by
    rw [txtF, h a (by simp), if_pos rfl, txtF_all rev u l fun b hb => h b (by simp [hb])]
    simp
theorem txtF_none (rev : Int) (u : List Int) : ∀ (l : List At), (∀ a ∈ l, a.vis rev u = false) → txtF rev u l = []
  | [], _ => rfl
  | a :: l, h => by
    rw [txtF, h a (by simp), txtF_none rev u l fun b hb => h b (by simp [hb])]
    rfl
theorem newAts_txts (s : List UInt8) (rv gr rk : Int) : ((newAts s rv gr rk).map fun a => a.txt) = ptsS s := by
  simp [newAts, ptsS, Function.comp_def]
theorem ptsS_flat (l : List UInt8) : (ptsS l).flatMap L = clean l := by
  unfold ptsS clean encs
  rw [List.flatMap_map]
  congr 1
theorem putL_nil (k : Nat) (s : List UInt8) (rv gr rk : Int) : putL [] k s rv gr rk = newAts s rv gr rk := by simp [putL]
end Go.Proofs.Ytihgpnfkadldeaa.AM
