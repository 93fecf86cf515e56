/- Law 6's own pieces, find and parts on the small machine. For texts of fewer than 2^28 bytes. -/
import Derived.Test.YtomnggbideepeaaRN3
namespace Go.Proofs.Ytomnggbideepeaa.AM
set_option linter.unusedSimpArgs false
set_option linter.unusedVariables false
open Go Go.Proofs.Ytomnggbideepeaa.U
variable {cp : List PV → Option Ret}
set_option maxHeartbeats 4000000 in
theorem law6Pieces_loop (m : Nat) (hm4 : 4 ≤ m) (hm : (m : Int) ≤ 9223372036854775807) (p : List Int) (hp : ∀ v ∈ p, sc v) (hl : p.length < 268435456) : ∀ (k i : Nat) (t : ByteArray) (acc : List ByteArray), i + k = p.length → acc.length ≤ i → t.size ≤ 4 * i →
    ∃ t2 acc2, greedy m (p.drop i) t acc = (if t2 = ⟨#[]⟩ then acc2 else acc2 ++ [t2]) ∧ acc2.length ≤ p.length ∧
    Code (EX cp) L_law6_pieces_0 ⟨[(1, .p (pi m)), (5, .ms 5 0 acc.length), (6, .ms 6 0 p.length), (7, .p (.sc (.string t))), (8, .p (pi i))], [(5, .row 9 1 false (strs acc)), (6, .row 9 1 false (strs (p.map chS)))]⟩ =
      some (.ex 0, ⟨[(1, .p (pi m)), (5, .ms 5 0 acc2.length), (6, .ms 6 0 p.length), (7, .p (.sc (.string t2))), (8, .p (pi p.length)), (14, .p (pb false))], [(5, .row 9 1 false (strs acc2)), (6, .row 9 1 false (strs (p.map chS)))]⟩) := by
  have hml : (p.map chS).length = p.length := by simp
  intro k
  induction k with
  | zero =>
    intro i t acc hi ha ht
    have : i = p.length := by omega
    subst this
    refine ⟨t, acc, ?_, ha, ?_⟩
    · rw [List.drop_length, greedy]
    · generalize p.map chS = l at *
      generalize p.length = z at *
      rw [L_law6_pieces_0, k_loop]
      simp (disch := omega) [hml, dec_yes, dec_no]
  | succ k ih =>
    intro i t acc hi ha ht
    have hlt : i < p.length := by omega
    have hgt := strs_at (p.map chS) i (by simp; omega)
    rw [List.getElem_map] at hgt
    have hen := enc_len p[i]
    have hcz : (chS p[i]).size = (enc p[i]).length := size_mk _
    have w1 : IntKind.wrap .i64 ((i : Int) + 1) = (i : Int) + 1 := wrap_in _ (by omega) (by omega)
    have w2 : IntKind.wrap .i64 ((m : Int) - (t.size : Int)) = (m : Int) - (t.size : Int) := wrap_in _ (by omega) (by omega)
    rw [List.drop_eq_getElem_cons hlt, greedy]
    by_cases c : m < t.size + (chS p[i]).size
    · rw [if_pos c]
      have hsn := strs_snoc acc t
      have hcap : (acc.length + 1) * 16 ≤ maxBytes ∧ acc.length + 1 ≤ 9223372036854775807 := by unfold maxBytes; omega
      have hla : (acc ++ [t]).length = acc.length + 1 := by simp
      obtain ⟨t2, acc2, e1, e2, e3⟩ := ih (i + 1) (⟨#[]⟩ ++ chS p[i]) (acc ++ [t]) (by omega) (by rw [hla]; omega) (by rw [ByteArray.size_append]; have : (⟨#[]⟩ : ByteArray).size = 0 := rfl; omega)
      refine ⟨t2, acc2, e1, e2, ?_⟩
      have hs1 : ((⟨#[]⟩ : ByteArray).size : Int) + ((chS p[i]).size : Int) ≤ 9223372036854775807 := by have : (⟨#[]⟩ : ByteArray).size = 0 := rfl; omega
      have hs2 : ((chS p[i]).size : Int) ≤ 9223372036854775807 := by omega
      rw [hla, ← hsn] at e3
      rw [empty_app] at e3
      rw [← e3]
      have c' : (m : Int) - (t.size : Int) < ((chS p[i]).size : Int) := by omega
      have he := empty_app (chS p[i])
      generalize chS p[i] = x at *
      generalize p.map chS = l at *
      conv => lhs; rw [L_law6_pieces_0, k_loop]
      simp (disch := omega) [hml, hlt, hgt, w1, w2, c', hcap, hs1, hs2, he, dec_yes, dec_no, if_yes, -getElem?_pos]
      rfl
    · rw [if_neg c]
      obtain ⟨t2, acc2, e1, e2, e3⟩ := ih (i + 1) (t ++ chS p[i]) acc (by omega) (by omega) (by rw [ByteArray.size_append]; omega)
      refine ⟨t2, acc2, e1, e2, ?_⟩
      have hs1 : (t.size : Int) + ((chS p[i]).size : Int) ≤ 9223372036854775807 := by omega
      rw [← e3]
      have c' : ¬ (m : Int) - (t.size : Int) < ((chS p[i]).size : Int) := by omega
      generalize chS p[i] = x at *
      generalize p.map chS = l at *
      conv => lhs; rw [L_law6_pieces_0, k_loop]
      simp (disch := omega) [hml, hlt, hgt, w1, w2, c', if_pos hs1, dec_yes, dec_no, if_yes, -getElem?_pos]
      rfl
set_option maxHeartbeats 4000000 in
theorem law6Pieces (s : ByteArray) (hs : s.size < 67108864) (hv : valid (L s) = true) (m : Nat) (hm4 : 4 ≤ m) (hm : (m : Int) ≤ 9223372036854775807) : Run (EX cp) 77 [.sc (.string s), pi m] = some (.own 9 1 (strs (piecesM m s))) := by
  have d5 := refPoints (cp := cp) s (by omega)
  have e5 : ptsS (clean (L s)) = (points (L s)).map chS := by unfold ptsS; rw [pts_clean]
  rw [e5] at d5
  have hpl := points_le (L s)
  rw [L_len] at hpl
  have hg := greedy_eq m hm4 (points (L s)) ⟨#[]⟩ [] (points_sc _) valid_nil (by show 0 ≤ m; omega)
  have hcl : encs (points (L s)) = L s := clean_of_valid _ hv
  rw [show L ⟨#[]⟩ = [] from rfl, List.nil_append, List.nil_append, hcl, mkS_L] at hg
  obtain ⟨t2, acc2, e1, e2, lp⟩ := law6Pieces_loop (cp := cp) m hm4 hm (points (L s)) (points_sc _) (by omega) (points (L s)).length 0 ⟨#[]⟩ [] (by omega) (by simp) (by show 0 ≤ 0; omega)
  rw [List.drop_zero, hg] at e1
  rw [show ((0 : Nat) : Int) = 0 from rfl, strs_nil, show ([] : List ByteArray).length = 0 from rfl] at lp
  have hml : ((points (L s)).map chS).length = (points (L s)).length := by simp
  have hcap : (acc2.length + 1) * 16 ≤ maxBytes ∧ acc2.length + 1 ≤ 9223372036854775807 := by unfold maxBytes; omega
  have htk : (strs acc2).take acc2.length = strs acc2 := List.take_of_length_le (by simp)
  rw [e1, run_fn _ A_law6_pieces _ rfl rfl rfl]
  clear e1 hg
  generalize (points (L s)).map chS = l at *
  generalize (points (L s)).length = z at *
  by_cases c : t2 = ⟨#[]⟩
  · rw [if_pos c]
    simp (disch := omega) [A_law6_pieces, d5, lp, hml, c, htk, dec_yes, dec_no]
  · rw [if_neg c]
    have hsn := strs_snoc acc2 t2
    have hla : (strs (acc2 ++ [t2])).length = acc2.length + 1 := by simp
    have htk2 : (strs (acc2 ++ [t2])).take (acc2.length + 1) = strs (acc2 ++ [t2]) := List.take_of_length_le (by simp)
    simp (disch := omega) [A_law6_pieces, d5, lp, hml, c, hcap, hla, htk2, dec_yes, dec_no, if_yes]
theorem occ_iff {s t : ByteArray} {p i : Nat} (h : p ≤ i) (hi : i + t.size ≤ s.size) : Lib.occAt ((L s).drop p) (L t) (i - p) = decide (s.extract i (i + t.size) = t) := by
  rw [Lib.occAt_iff_take _ _ _ (by rw [List.length_drop, L_len, L_len]; omega), List.drop_drop, show p + (i - p) = i by omega, L_len]
  have e : L (s.extract i (i + t.size)) = ((L s).drop i).take t.size := by rw [L_extract, Nat.add_sub_cancel_left]
  rw [← e]
  by_cases c : s.extract i (i + t.size) = t
  · rw [decide_eq_true c, c]; simp
  · rw [decide_eq_false c]
    have : ¬ L (s.extract i (i + t.size)) = L t := fun h => c (L_inj h)
    simp [this]
set_option maxHeartbeats 4000000 in
theorem law6Find_loop (s t : ByteArray) (hs : s.size < 268435456) (ht : t.size < 268435456) (hne : ¬ t = ⟨#[]⟩) (p : Nat) (hp : p < 2199023255552) : ∀ (m i : Nat), p ≤ i → i ≤ p + s.size + 1 → s.size ≤ i + m → (∀ j, j < i - p → Lib.occAt ((L s).drop p) (L t) j = false) →
    (∃ k : Nat, p ≤ k ∧ k + t.size ≤ s.size ∧ Lib.occAt ((L s).drop p) (L t) (k - p) = true ∧ (∀ j, j < k - p → Lib.occAt ((L s).drop p) (L t) j = false) ∧ Code (EX cp) L_law6_find_0 ⟨[(0, .p (.sc (.string s))), (1, .p (.sc (.string t))), (7, .p (pi i))], []⟩ = some (.ret, ⟨[(6, .p (pi k))], []⟩)) ∨
    (∃ k : Nat, (∀ j, p + j + t.size ≤ s.size → Lib.occAt ((L s).drop p) (L t) j = false) ∧ Code (EX cp) L_law6_find_0 ⟨[(0, .p (.sc (.string s))), (1, .p (.sc (.string t))), (7, .p (pi i))], []⟩ = some (.ex 0, ⟨[(0, .p (.sc (.string s))), (1, .p (.sc (.string t))), (7, .p (pi k)), (20, .p (pb false))], []⟩)) := by
  have h0 : 1 ≤ t.size := by
    rcases Nat.eq_zero_or_pos t.size with h | h
    · exact absurd (empty_eq h) hne
    · exact h
  have stop : ∀ i : Nat, p ≤ i → i ≤ p + s.size + 1 → s.size < i + t.size → (∀ j, j < i - p → Lib.occAt ((L s).drop p) (L t) j = false) → ∃ k : Nat, (∀ j, p + j + t.size ≤ s.size → Lib.occAt ((L s).drop p) (L t) j = false) ∧ Code (EX cp) L_law6_find_0 ⟨[(0, .p (.sc (.string s))), (1, .p (.sc (.string t))), (7, .p (pi i))], []⟩ = some (.ex 0, ⟨[(0, .p (.sc (.string s))), (1, .p (.sc (.string t))), (7, .p (pi k)), (20, .p (pb false))], []⟩) := by
    intro i h1 h2 h3 h4
    refine ⟨i, fun j hj => h4 j (by omega), ?_⟩
    have w1 : IntKind.wrap .i64 ((i : Int) + (t.size : Int)) = (i : Int) + (t.size : Int) := wrap_in _ (by omega) (by omega)
    have c : ¬ (i : Int) + (t.size : Int) ≤ (s.size : Int) := by omega
    rw [L_law6_find_0, k_loop]
    simp (disch := omega) [hne, w1, c, dec_yes, dec_no]
  intro m
  induction m with
  | zero =>
    intro i h1 h2 h3 h4
    exact .inr (stop i h1 h2 (by omega) h4)
  | succ m ih =>
    intro i h1 h2 h3 h4
    by_cases c : i + t.size ≤ s.size
    case neg => exact .inr (stop i h1 h2 (by omega) h4)
    have w1 : IntKind.wrap .i64 ((i : Int) + (t.size : Int)) = ((i + t.size : Nat) : Int) := by rw [wrap_in _ (by omega) (by omega)]; rfl
    have w2 : IntKind.wrap .i64 ((i : Int) + 1) = (i : Int) + 1 := wrap_in _ (by omega) (by omega)
    have ho := occ_iff (s := s) (t := t) h1 c
    have c' : (i + t.size : Nat) ≤ (s.size : Int) := by omega
    have c3 : i ≤ i + t.size := by omega
    by_cases hx : s.extract i (i + t.size) = t
    · left
      refine ⟨i, h1, c, by rw [ho, decide_eq_true hx], h4, ?_⟩
      rw [L_law6_find_0, k_loop]
      have hA0 : 0 ≤ ((i + t.size : Nat) : Int) := by omega
      have hA1 : ((i + t.size : Nat) : Int).toNat = i + t.size := Int.toNat_natCast _
      generalize hA : ((i + t.size : Nat) : Int) = A at *
      simp (disch := omega) [hne, w1, w2, c, c', c3, hA0, hA1, hx, dec_yes, dec_no]
    · have ih' := ih (i + 1) (by omega) (by omega) (by omega) (fun j hj => by
        by_cases e : j = i - p
        · rw [e, ho, decide_eq_false hx]
        · exact h4 j (by omega))
      have hstep : Code (EX cp) L_law6_find_0 ⟨[(0, .p (.sc (.string s))), (1, .p (.sc (.string t))), (7, .p (pi i))], []⟩ = Code (EX cp) L_law6_find_0 ⟨[(0, .p (.sc (.string s))), (1, .p (.sc (.string t))), (7, .p (pi ((i + 1 : Nat) : Int)))], []⟩ := by
        conv => lhs; rw [L_law6_find_0, k_loop]
        have hA0 : 0 ≤ ((i + t.size : Nat) : Int) := by omega
        have hA1 : ((i + t.size : Nat) : Int).toNat = i + t.size := Int.toNat_natCast _
        generalize hA : ((i + t.size : Nat) : Int) = A at *
        simp (disch := omega) [hne, w1, w2, c, c', c3, hA0, hA1, hx, dec_yes, dec_no]
        rfl
      rw [hstep]
      exact ih'
theorem law6Find (s t : ByteArray) (hs : s.size < 268435456) (ht : t.size < 268435456) (f : Int) (hf : f ≤ 1099511627776) : Run (EX cp) 53 [.sc (.string s), .sc (.string t), pi f] = some (.val (pi (findP s t f))) := by
  rw [run_fn _ A_law6_find _ rfl rfl rfl]
  have hmx : (if 0 < f then f else 0) = (if f < 0 then 0 else f) := by split <;> split <;> omega
  have hF0 : 0 ≤ (if f < 0 then 0 else f) := by split <;> omega
  have hF1 : (if f < 0 then 0 else f) ≤ 1099511627776 := by split <;> omega
  unfold findP
  generalize (if f < 0 then 0 else f) = F at *
  obtain ⟨p, rfl⟩ : ∃ p : Nat, F = p := ⟨F.toNat, by omega⟩
  rw [Int.toNat_natCast]
  by_cases c1 : t = ⟨#[]⟩
  · rw [if_pos (.inl c1)]
    have hl : Code (EX cp) L_law6_find_0 ⟨[(0, .p (.sc (.string s))), (1, .p (.sc (.string t))), (7, .p (pi p))], []⟩ = some (.ex 0, ⟨[(0, .p (.sc (.string s))), (1, .p (.sc (.string t))), (7, .p (pi p)), (20, .p (pb false))], []⟩) := by
      rw [L_law6_find_0, k_loop]
      simp (disch := omega) [c1, dec_yes, dec_no]
    simp (disch := omega) [A_law6_find, hmx, hl, dec_yes, dec_no]
  have h0 : 1 ≤ t.size := by
    rcases Nat.eq_zero_or_pos t.size with h | h
    · exact absurd (empty_eq h) c1
    · exact h
  have hsub : L t ≠ [] := fun h => by
    have := L_len t
    rw [h] at this; simp at this; omega
  rcases law6Find_loop (cp := cp) s t hs ht c1 p (by omega) (s.size + 1) p (Nat.le_refl _) (by omega) (by omega) (fun j hj => by omega) with ⟨k, k1, k2, k3, k4, lp⟩ | ⟨k, k1, lp⟩
  · have hix := Lib.index_first (s := (L s).drop p) (sub := L t) (i := k - p) (by rw [List.length_drop, L_len]; omega) k3 k4
    rw [if_neg (by simp [c1]; omega), hix, if_pos (by omega)]
    have e : (p : Int) + ((k - p : Nat) : Int) = (k : Int) := by omega
    rw [e]
    simp (disch := omega) [A_law6_find, hmx, lp, dec_yes, dec_no]
  · have hix : Lib.index ((L s).drop p) (L t) = -1 := by
      refine Lib.index_none fun j hj => ?_
      by_cases hr : p + j + t.size ≤ s.size
      · exact k1 j hr
      · cases ho : Lib.occAt ((L s).drop p) (L t) j with
        | false => rfl
        | true =>
          rcases Lib.occAt_room ho with h | h
          · rw [List.length_drop, L_len, L_len] at h
            rw [List.length_drop, L_len] at hj
            omega
          · exact absurd h hsub
    rw [hix, if_neg (show ¬ (0 : Int) ≤ -1 by omega), ite_self]
    simp (disch := omega) [A_law6_find, hmx, lp, dec_yes, dec_no]
end Go.Proofs.Ytomnggbideepeaa.AM
