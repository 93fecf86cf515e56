/- The reference's code points on the small machine: Valid, IsEdge, Clean, Points. For texts of less than 2^36 bytes. -/
import Derived.Test.YtihgpnfkadldeaaAR4
namespace Go.Proofs.Ytihgpnfkadldeaa.AM
set_option linter.unusedSimpArgs false
set_option linter.unusedVariables false
open Go Go.Proofs.Ytihgpnfkadldeaa.U
variable {cp : List PV → Option Ret}

theorem refValid_loop (s : ByteArray) (hs : s.size < 1099511627776) : ∀ (m i : Nat), s.size ≤ i + m → i ≤ s.size → Code (EX cp) L_ref1_Valid_0 ⟨[(0, .p (.sc (.string s))), (3, .p (pi i))], []⟩ =
    if valid ((L s).drop i) = true then some (.ex 0, ⟨[(0, .p (.sc (.string s))), (3, .p (pi s.size)), (8, .p (pb false))], []⟩) else some (.ret, ⟨[(2, .p (pb false))], []⟩) := by
  intro m
  induction m with
  | zero =>
    intro i h1 h2
    have : i = s.size := by omega
    subst this
    rw [drop_end s _ (Nat.le_refl _), valid_nil, L_ref1_Valid_0, k_loop]
    simp
  | succ m ih =>
    intro i h1 h2
    by_cases hlt : i < s.size
    · have hz := refSize (cp := cp) s i hs
      have hle := sizeAt_le s i h2
      rw [valid_at s i hlt]
      by_cases c : sizeAt s i = 0
      · rw [if_pos c, L_ref1_Valid_0, k_loop]
        simp (disch := omega) [dec_yes, dec_no, hlt, hz, c]
      · have ih' := ih (i + sizeAt s i) (by omega) (by omega)
        have hc : ¬ ((sizeAt s i : Nat) : Int) = 0 := by omega
        rw [if_neg c, ← ih', L_ref1_Valid_0, k_loop]
        simp (disch := omega) [dec_yes, dec_no, hlt, hz, hc, wrap_in, c]
    · have : i = s.size := by omega
      subst this
      rw [drop_end s _ (Nat.le_refl _), valid_nil, L_ref1_Valid_0, k_loop]
      simp
theorem refValid (s : ByteArray) (hs : s.size < 1099511627776) : Run (EX cp) 47 [.sc (.string s)] = some (.val (pb (valid (L s)))) := by
  have h := refValid_loop (cp := cp) s hs s.size 0 (by omega) (by omega)
  rw [run_fn _ A_ref1_Valid _ rfl rfl rfl]
  simp only [List.drop_zero, Int.ofNat_zero, Int.natCast_zero] at h
  cases hv : valid (L s) with
  | true => rw [hv, if_pos rfl] at h; simp [A_ref1_Valid, h]
  | false => rw [hv, if_neg (by simp)] at h; simp [A_ref1_Valid, h]

theorem refIsEdge (s : ByteArray) (i : Int) (hs : s.size < 1099511627776) : Run (EX cp) 48 [.sc (.string s), pi i] = some (.val (pb (edge s i))) := by
  have hv := refValid (cp := cp) s hs
  rw [run_fn _ A_ref1_IsEdge _ rfl rfl rfl]
  by_cases c0 : i < 0
  · rw [edge_out s i (by omega)]
    simp (disch := omega) [A_ref1_IsEdge, dec_yes, dec_no]
  by_cases c1 : (s.size : Int) < i
  · rw [edge_out s i (by omega)]
    simp (disch := omega) [A_ref1_IsEdge, dec_yes, dec_no]
  by_cases c2 : i = s.size
  · subst c2
    rw [edge_end]
    cases hvv : valid (L s) <;> rw [hvv] at hv <;> simp (disch := omega) [A_ref1_IsEdge, dec_yes, dec_no, hv]
  · obtain ⟨n, rfl⟩ : ∃ n : Nat, i = n := ⟨i.toNat, by omega⟩
    obtain ⟨a, t, hd⟩ := drop_at s n (by omega)
    have hb := (bt_at s n a t hd).1
    have hr := bi_range a
    have e4 := fdiv6 a
    rw [edge_at s n a t hd]
    cases hvv : valid (L s) <;> rw [hvv] at hv
    · simp (disch := omega) [A_ref1_IsEdge, dec_yes, dec_no, hv]
    · by_cases c : cont a
      · have e3 : bi a / 64 = 2 := by unfold cont at c; omega
        simp (disch := omega) [A_ref1_IsEdge, dec_yes, dec_no, hv, hb, e3, e4, c, wrap_in, IntKind.bits]
      · have e3 : ¬ bi a / 64 = 2 := by unfold cont at c; omega
        simp (disch := omega) [A_ref1_IsEdge, dec_yes, dec_no, hv, hb, e3, e4, c, wrap_in, IntKind.bits]

theorem clean_at (s : ByteArray) (i : Nat) (h : i < s.size) : clean ((L s).drop i) = if sizeAt s i = 0 then enc 65533 ++ clean ((L s).drop (i + 1)) else ((L s).drop i).take (sizeAt s i) ++ clean ((L s).drop (i + sizeAt s i)) := by
  obtain ⟨a, t, hd⟩ := drop_at s i h
  have ht := (bt_at s i a t hd).2.2
  unfold sizeAt
  rw [decAt_nat]
  by_cases c : (dec ((L s).drop i)).1 = 0
  · rw [if_pos c, hd]
    rw [hd] at c
    rw [clean_none c, ht]
  · rw [if_neg c]
    obtain ⟨hs, r, hr, hn⟩ := dec_enc ((L s).drop i) _ _ (Prod.eta _).symm c
    have e1 : ((L s).drop i).take (dec ((L s).drop i)).1 = enc (dec ((L s).drop i)).2 := by
      conv => lhs; arg 2; rw [hr]
      rw [← hn, List.take_left]
    have e2 : (L s).drop (i + (dec ((L s).drop i)).1) = r := by
      rw [← List.drop_drop]
      conv => lhs; arg 2; rw [hr]
      rw [← hn, List.drop_left]
    rw [e1, e2]
    conv => lhs; rw [hr]
    exact clean_enc1 hs r
theorem enc_bad3 : enc 65533 = [239, 191, 189] := by decide
theorem badS : (⟨#[239, 191, 189]⟩ : ByteArray) = ⟨(enc 65533).toArray⟩ := by rw [enc_bad3]
theorem append_mk (t : ByteArray) (l : List UInt8) : t ++ ⟨l.toArray⟩ = ⟨(L t ++ l).toArray⟩ := by
  apply L_inj; rw [L_append, L_mk l, L_mk (L t ++ l)]
theorem size_mk (l : List UInt8) : (⟨l.toArray⟩ : ByteArray).size = l.length := by rw [← L_len, L_mk]
theorem extract_mk (s : ByteArray) (i n : Nat) : s.extract i (i + n) = ⟨(((L s).drop i).take n).toArray⟩ := by
  apply L_inj; rw [L_extract, L_mk (((L s).drop i).take n), Nat.add_sub_cancel_left]

set_option maxHeartbeats 1000000 in
theorem refClean_loop (s : ByteArray) (hs : s.size < 68719476736) : ∀ (m i : Nat) (acc : List UInt8), s.size ≤ i + m → i ≤ s.size → acc.length ≤ 4 * i → Code (EX cp) L_ref1_Clean_0 ⟨[(0, .p (.sc (.string s))), (3, .p (.sc (.string ⟨acc.toArray⟩))), (4, .p (pi i))], []⟩ =
    some (.ex 0, ⟨[(0, .p (.sc (.string s))), (3, .p (.sc (.string ⟨(acc ++ clean ((L s).drop i)).toArray⟩))), (4, .p (pi s.size)), (12, .p (pb false))], []⟩) := by
  intro m
  induction m with
  | zero =>
    intro i acc h1 h2 h3
    have : i = s.size := by omega
    subst this
    rw [drop_end s _ (Nat.le_refl _), L_ref1_Clean_0, k_loop]
    simp [clean, points_nil]
  | succ m ih =>
    intro i acc h1 h2 h3
    by_cases hlt : i < s.size
    · have hz := refSize (cp := cp) s i (by omega)
      have hle := sizeAt_le s i h2
      rw [clean_at s i hlt]
      have hsz := size_mk acc
      by_cases c : sizeAt s i = 0
      · obtain ⟨bd, hbd, hbl, hbs⟩ : ∃ bd, enc 65533 = bd ∧ bd.length = 3 ∧ (⟨#[239, 191, 189]⟩ : ByteArray) = ⟨bd.toArray⟩ := ⟨_, rfl, by rw [enc_bad3]; rfl, badS⟩
        rw [hbd]
        have ih' := ih (i + 1) (acc ++ bd) (by omega) (by omega) (by simp; omega)
        have hm := append_mk ⟨acc.toArray⟩ bd
        rw [L_mk acc] at hm
        have h3s : (⟨bd.toArray⟩ : ByteArray).size = 3 := by rw [size_mk, hbl]
        rw [if_pos c, ← List.append_assoc, ← ih', L_ref1_Clean_0, k_loop]
        simp (disch := omega) [dec_yes, dec_no, hlt, hz, c, wrap_in, hbs, hsz, h3s, hm, if_yes]
      · have hc : ¬ ((sizeAt s i : Nat) : Int) = 0 := by omega
        have hx := extract_mk s i (sizeAt s i)
        generalize hn : sizeAt s i = n at *
        have htl : (((L s).drop i).take n).length = n := by rw [List.length_take, List.length_drop, L_len]; omega
        generalize ((L s).drop i).take n = seg at *
        have ih' := ih (i + n) (acc ++ seg) (by omega) (by omega) (by simp; omega)
        have hm := append_mk ⟨acc.toArray⟩ seg
        have hss := size_mk seg
        rw [L_mk acc] at hm
        have e9 : ((i : Int) + (n : Int)).toNat = i + n := by omega
        have e8 : i + n ≤ s.size := by omega
        rw [if_neg c, ← List.append_assoc, ← ih', L_ref1_Clean_0, k_loop]
        simp (disch := omega) [dec_yes, dec_no, hlt, hz, hc, c, wrap_in, hsz, hss, htl, hm, hx, e9, e8, if_yes]
    · have : i = s.size := by omega
      subst this
      rw [drop_end s _ (Nat.le_refl _), L_ref1_Clean_0, k_loop]
      simp [clean, points_nil]
theorem refClean (s : ByteArray) (hs : s.size < 68719476736) : Run (EX cp) 33 [.sc (.string s)] = some (.val (.sc (.string (cleanS s)))) := by
  have h1 := refValid (cp := cp) s (by omega)
  have h2 := refClean_loop (cp := cp) s hs s.size 0 [] (by omega) (by omega) (by simp)
  simp only [List.drop_zero, Int.ofNat_zero, Int.natCast_zero, List.nil_append] at h2
  rw [run_fn _ A_ref1_Clean _ rfl rfl rfl]
  cases hv : valid (L s) with
  | true =>
    rw [hv] at h1
    have : cleanS s = s := by unfold cleanS; rw [clean_of_valid _ hv, mk_L]
    simp [A_ref1_Clean, h1, this]
  | false =>
    rw [hv] at h1
    simp [A_ref1_Clean, h1, h2, cleanS]

/-! ### texts in a row -/
def strs (l : List ByteArray) : List (List PV) := l.map fun x => [.sc (.string x)]
@[simp] theorem strs_len (l : List ByteArray) : (strs l).length = l.length := by simp [strs]
@[simp] theorem strs_nil : strs [] = [] := rfl
@[simp] theorem strs_snoc (l : List ByteArray) (x : ByteArray) : strs l ++ [[.sc (.string x)]] = strs (l ++ [x]) := by simp [strs]
theorem strs_at (l : List ByteArray) (n : Nat) (h : n < l.length) : (strs l)[n]? = some [.sc (.string l[n])] := by simp [strs, List.getElem?_eq_getElem h]
/-- A code point's text. -/
def chS (v : Int) : ByteArray := ⟨(enc v).toArray⟩
def ptsS (l : List UInt8) : List ByteArray := (points l).map chS
theorem ptsS_at (s : ByteArray) (i : Nat) (h : i < s.size) (hv : valid ((L s).drop i) = true) : sizeAt s i ≠ 0 ∧ ptsS ((L s).drop i) = (⟨(((L s).drop i).take (sizeAt s i)).toArray⟩ : ByteArray) :: ptsS ((L s).drop (i + sizeAt s i)) ∧ valid ((L s).drop (i + sizeAt s i)) = true := by
  rw [valid_at s i h] at hv
  by_cases c : sizeAt s i = 0
  · rw [if_pos c] at hv; simp at hv
  · rw [if_neg c] at hv
    refine ⟨c, ?_, hv⟩
    unfold ptsS
    rw [points_at s i h, if_neg c, List.map_cons]
    congr 1
    unfold sizeAt at c ⊢
    rw [decAt_nat] at c ⊢
    obtain ⟨hs, r, hr, hn⟩ := dec_enc ((L s).drop i) _ _ (Prod.eta _).symm c
    have e1 : ((L s).drop i).take (dec ((L s).drop i)).1 = enc (dec ((L s).drop i)).2 := by
      conv => lhs; arg 2; rw [hr]
      rw [← hn, List.take_left]
    rw [e1]; rfl
set_option maxHeartbeats 1000000 in
theorem refPoints_loop (s : ByteArray) (hs : s.size < 1099511627776) : ∀ (m i : Nat) (acc : List ByteArray), s.size ≤ i + m → i ≤ s.size → acc.length ≤ i → valid ((L s).drop i) = true → Code (EX cp) L_ref1_Points_0 ⟨[(3, .p (.sc (.string s))), (4, .ms 4 0 acc.length), (5, .p (pi i))], [(4, .row 9 1 false (strs acc))]⟩ =
    some (.ex 0, ⟨[(3, .p (.sc (.string s))), (4, .ms 4 0 (acc ++ ptsS ((L s).drop i)).length), (5, .p (pi s.size)), (12, .p (pb false))], [(4, .row 9 1 false (strs (acc ++ ptsS ((L s).drop i))))]⟩) := by
  intro m
  induction m with
  | zero =>
    intro i acc h1 h2 h3 h4
    have : i = s.size := by omega
    subst this
    rw [drop_end s _ (Nat.le_refl _), L_ref1_Points_0, k_loop]
    simp [ptsS, points_nil]
  | succ m ih =>
    intro i acc h1 h2 h3 h4
    by_cases hlt : i < s.size
    · have hz := refSize (cp := cp) s i hs
      have hle := sizeAt_le s i h2
      obtain ⟨c, hp, hv⟩ := ptsS_at s i hlt h4
      have hx := extract_mk s i (sizeAt s i)
      rw [hp]
      generalize hn : sizeAt s i = n at *
      generalize (⟨(((L s).drop i).take n).toArray⟩ : ByteArray) = seg at *
      have ih' := ih (i + n) (acc ++ [seg]) (by omega) (by omega) (by simp; omega) hv
      have e9 : ((i : Int) + (n : Int)).toNat = i + n := by omega
      have e8 : i + n ≤ s.size := by omega
      have hcap : (acc.length + 1) * 16 ≤ maxBytes ∧ acc.length + 1 ≤ 9223372036854775807 := by unfold maxBytes; omega
      have e : acc ++ seg :: ptsS ((L s).drop (i + n)) = (acc ++ [seg]) ++ ptsS ((L s).drop (i + n)) := by simp
      rw [e, ← ih', L_ref1_Points_0, k_loop]
      simp (disch := omega) [dec_yes, dec_no, hlt, hz, wrap_in, hx, e9, e8, hcap, if_yes]
    · have : i = s.size := by omega
      subst this
      rw [drop_end s _ (Nat.le_refl _), L_ref1_Points_0, k_loop]
      simp [ptsS, points_nil]
theorem refPoints (s : ByteArray) (hs : s.size < 68719476736) : Run (EX cp) 32 [.sc (.string s)] = some (.own 9 1 (strs (ptsS (clean (L s))))) := by
  have h1 := refClean (cp := cp) s hs
  have hle := clean_le (L s)
  rw [L_len] at hle
  have hsz : (cleanS s).size = (clean (L s)).length := size_mk _
  have h2 := refPoints_loop (cp := cp) (cleanS s) (by omega) (cleanS s).size 0 [] (by omega) (by omega) (by simp) (by rw [List.drop_zero]; unfold cleanS; rw [L_mk]; exact clean_valid _)
  rw [run_fn _ A_ref1_Points _ rfl rfl rfl]
  have e : L (cleanS s) = clean (L s) := L_mk _
  rw [List.drop_zero, e] at h2
  simp at h2
  simp [A_ref1_Points, h1, h2]
theorem pts_clean (l : List UInt8) : points (clean l) = points l := points_encs' _ (points_sc l)
end Go.Proofs.Ytihgpnfkadldeaa.AM
