/- Package utf on the small machine: Valid, IsEdge, Points, Make, Clean. For texts of less than 2^40 bytes. -/
import Derived.Test.YtihgpnfkadldeaaAR2
namespace Go.Proofs.Ytihgpnfkadldeaa.AM
set_option linter.unusedSimpArgs false
set_option linter.unusedVariables false
open Go Go.Proofs.Ytihgpnfkadldeaa.U
variable {cp : List PV → Option Ret}

theorem decAt_nat (s : ByteArray) (i : Nat) : decAt s (i : Int) = dec ((L s).drop i) := by
  unfold decAt
  rw [if_neg (by omega), Int.toNat_natCast]
theorem sizeAt_le (s : ByteArray) (i : Nat) (h : i ≤ s.size) : i + sizeAt s i ≤ s.size ∧ sizeAt s i ≤ 4 := by
  unfold sizeAt
  rw [decAt_nat]
  have := dec_le ((L s).drop i)
  rw [List.length_drop, L_len] at this
  omega
theorem valid_at (s : ByteArray) (i : Nat) (h : i < s.size) : valid ((L s).drop i) = if sizeAt s i = 0 then false else valid ((L s).drop (i + sizeAt s i)) := by
  obtain ⟨a, t, hd⟩ := drop_at s i h
  unfold sizeAt
  rw [decAt_nat, hd, valid_cons]
  by_cases c : (dec (a :: t)).1 = 0
  · rw [dif_pos c, if_pos c]
  · rw [dif_neg c, if_neg c, ← hd, List.drop_drop]
theorem points_at (s : ByteArray) (i : Nat) (h : i < s.size) : points ((L s).drop i) = if sizeAt s i = 0 then 65533 :: points ((L s).drop (i + 1)) else (decAt s i).2 :: points ((L s).drop (i + sizeAt s i)) := by
  obtain ⟨a, t, hd⟩ := drop_at s i h
  have ht := (bt_at s i a t hd).2.2
  unfold sizeAt
  rw [decAt_nat, hd, points_cons]
  by_cases c : (dec (a :: t)).1 = 0
  · rw [dif_pos c, if_pos c, ht]
  · rw [dif_neg c, if_neg c, ← hd, List.drop_drop]
theorem dec_range (s : ByteArray) (i : Int) : 0 ≤ (decAt s i).2 ∧ (decAt s i).2 ≤ 1114111 ∨ (decAt s i).1 = 0 := by
  by_cases c : (decAt s i).1 = 0
  · exact .inr c
  · left
    unfold decAt at c ⊢
    split at c
    · simp at c
    · rename_i h
      rw [if_neg h]
      have := dec_sc _ c
      unfold sc at this
      omega

theorem valid_loop (s : ByteArray) (hs : s.size < 1099511627776) : ∀ (m i : Nat), s.size ≤ i + m → i ≤ s.size → Code (EX cp) L_utf_Valid_0 ⟨[(0, .p (.sc (.string s))), (3, .p (pi i))], []⟩ =
    if valid ((L s).drop i) = true then some (.ex 0, ⟨[(0, .p (.sc (.string s))), (3, .p (pi s.size)), (8, .p (pb false))], []⟩) else some (.ret, ⟨[(2, .p (pb false))], []⟩) := by
  intro m
  induction m with
  | zero =>
    intro i h1 h2
    have : i = s.size := by omega
    subst this
    rw [drop_end s _ (Nat.le_refl _), valid_nil, L_utf_Valid_0, k_loop]
    simp
  | succ m ih =>
    intro i h1 h2
    by_cases hlt : i < s.size
    · have hz := utfSize (cp := cp) s i hs
      have hle := sizeAt_le s i h2
      rw [valid_at s i hlt]
      by_cases c : sizeAt s i = 0
      · rw [if_pos c, L_utf_Valid_0, k_loop]
        simp (disch := omega) [dec_yes, dec_no, hlt, hz, c]
      · have ih' := ih (i + sizeAt s i) (by omega) (by omega)
        have hc : ¬ ((sizeAt s i : Nat) : Int) = 0 := by omega
        rw [if_neg c, ← ih', L_utf_Valid_0, k_loop]
        simp (disch := omega) [dec_yes, dec_no, hlt, hz, hc, wrap_in, c]
    · have : i = s.size := by omega
      subst this
      rw [drop_end s _ (Nat.le_refl _), valid_nil, L_utf_Valid_0, k_loop]
      simp
theorem utfValid (s : ByteArray) (hs : s.size < 1099511627776) : Run (EX cp) 64 [.sc (.string s)] = some (.val (pb (valid (L s)))) := by
  have h := valid_loop (cp := cp) s hs s.size 0 (by omega) (by omega)
  rw [run_fn _ A_utf_Valid _ rfl rfl rfl]
  simp only [List.drop_zero, Int.ofNat_zero, Int.natCast_zero] at h
  cases hv : valid (L s) with
  | true => rw [hv, if_pos rfl] at h; simp [A_utf_Valid, h]
  | false => rw [hv, if_neg (by simp)] at h; simp [A_utf_Valid, h]

/-- Is a place an edge? -/
def edge (s : ByteArray) (i : Int) : Bool := decide (0 ≤ i ∧ i ≤ s.size) && (decide (i = s.size) || (match (L s)[i.toNat]? with | some b => !decide (cont b) | none => false)) && valid (L s)
theorem edge_at (s : ByteArray) (i : Nat) (a : UInt8) (t : List UInt8) (hd : (L s).drop i = a :: t) : edge s i = (!decide (cont a) && valid (L s)) := by
  obtain ⟨_, hlt, _⟩ := bt_at s i a t hd
  have hg : (L s)[i]? = some a := by
    have := congrArg (·[0]?) hd
    simpa using this
  unfold edge
  rw [Int.toNat_natCast, hg, decide_eq_true (show (0 : Int) ≤ (i : Int) ∧ (i : Int) ≤ (s.size : Int) by omega), decide_eq_false (show ¬ (i : Int) = (s.size : Int) by omega)]
  simp
theorem edge_out (s : ByteArray) (i : Int) (h : ¬ (0 ≤ i ∧ i ≤ s.size)) : edge s i = false := by
  unfold edge; rw [decide_eq_false h]; rfl
theorem edge_end (s : ByteArray) : edge s s.size = valid (L s) := by
  unfold edge
  rw [decide_eq_true (show (0 : Int) ≤ (s.size : Int) ∧ (s.size : Int) ≤ (s.size : Int) by omega), decide_eq_true (show (s.size : Int) = (s.size : Int) from rfl)]
  simp
theorem utfIsEdge (s : ByteArray) (i : Int) (hs : s.size < 1099511627776) : Run (EX cp) 66 [.sc (.string s), pi i] = some (.val (pb (edge s i))) := by
  have hv := utfValid (cp := cp) s hs
  rw [run_fn _ A_utf_IsEdge _ rfl rfl rfl]
  by_cases c0 : 0 ≤ i
  · by_cases c1 : i ≤ s.size
    · by_cases c2 : i = s.size
      · subst c2
        rw [edge_end]
        simp (disch := omega) [A_utf_IsEdge, dec_yes, dec_no, hv]
      · obtain ⟨n, rfl⟩ : ∃ n : Nat, i = n := ⟨i.toNat, by omega⟩
        obtain ⟨a, t, hd⟩ := drop_at s n (by omega)
        have hb := (bt_at s n a t hd).1
        have hr := bi_range a
        rw [edge_at s n a t hd]
        by_cases c : cont a
        · have e3 : bi a / 64 * 64 = 128 := by unfold cont at c; omega
          simp (disch := omega) [A_utf_IsEdge, dec_yes, dec_no, hv, hb, n192, e3, c]
        · have e3 : ¬ bi a / 64 * 64 = 128 := by unfold cont at c; omega
          simp (disch := omega) [A_utf_IsEdge, dec_yes, dec_no, hv, hb, n192, e3, c]
    · rw [edge_out s i (by omega)]
      simp (disch := omega) [A_utf_IsEdge, dec_yes, dec_no]
  · rw [edge_out s i (by omega)]
    simp (disch := omega) [A_utf_IsEdge, dec_yes, dec_no]

/-! ### whole numbers in a row -/
def ints (l : List Int) : List (List PV) := l.map fun x => [pi x]
@[simp] theorem ints_len (l : List Int) : (ints l).length = l.length := by simp [ints]
@[simp] theorem ints_nil : ints [] = [] := rfl
@[simp] theorem ints_snoc (l : List Int) (x : Int) : ints l ++ [[pi x]] = ints (l ++ [x]) := by simp [ints]
@[simp] theorem ints_take (l : List Int) : (ints l).take l.length = ints l := by rw [List.take_of_length_le (by simp)]
theorem ints_get (l : List Int) (n : Nat) : (ints l)[n]? = (l[n]?).map fun x => [pi x] := by simp [ints]
theorem ints_at (l : List Int) (n : Nat) (h : n < l.length) : (ints l)[n]? = some [pi l[n]] := by rw [ints_get, List.getElem?_eq_getElem h]; rfl
theorem mb (n : Nat) (h : n < 1099511627776) : n ≤ maxBytes := by unfold maxBytes; omega

theorem points_loop (s : ByteArray) (hs : s.size < 1099511627776) : ∀ (m i : Nat) (acc : List Int), s.size ≤ i + m → i ≤ s.size → acc.length ≤ i → Code (EX cp) L_utf_Points_0 ⟨[(0, .p (.sc (.string s))), (3, .ms 3 0 acc.length), (4, .p (pi i))], [(3, .row 3 1 false (ints acc))]⟩ =
    some (.ex 0, ⟨[(0, .p (.sc (.string s))), (3, .ms 3 0 (acc ++ points ((L s).drop i)).length), (4, .p (pi s.size)), (10, .p (pb false))], [(3, .row 3 1 false (ints (acc ++ points ((L s).drop i))))]⟩) := by
  intro m
  induction m with
  | zero =>
    intro i acc h1 h2 h3
    have : i = s.size := by omega
    subst this
    rw [drop_end s _ (Nat.le_refl _), points_nil, L_utf_Points_0, k_loop]
    simp
  | succ m ih =>
    intro i acc h1 h2 h3
    by_cases hlt : i < s.size
    · have hz := point (cp := cp) s i hs
      have hle := sizeAt_le s i h2
      have hr := dec_range s i
      have hcap : (acc.length + 1) * 8 ≤ maxBytes ∧ acc.length + 1 ≤ 9223372036854775807 := by unfold maxBytes; omega
      rw [points_at s i hlt]
      unfold rDec at hz
      by_cases c : sizeAt s i = 0
      · have ih' := ih (i + 1) (acc ++ [65533]) (by omega) (by omega) (by simp; omega)
        have c' : (decAt s i).1 = 0 := c
        rw [if_pos c]
        have e : acc ++ 65533 :: points ((L s).drop (i + 1)) = (acc ++ [65533]) ++ points ((L s).drop (i + 1)) := by simp
        rw [e, ← ih', L_utf_Points_0, k_loop]
        simp (disch := omega) [dec_yes, dec_no, hlt, hz, c', wrap_in, hcap]
      · have ih' := ih (i + sizeAt s i) (acc ++ [(decAt s i).2]) (by omega) (by omega) (by simp; omega)
        have hsz : (decAt s i).1 = sizeAt s i := rfl
        have hc : ¬ ((sizeAt s i : Nat) : Int) = 0 := by omega
        rw [if_neg c]
        have e : acc ++ (decAt s i).2 :: points ((L s).drop (i + sizeAt s i)) = (acc ++ [(decAt s i).2]) ++ points ((L s).drop (i + sizeAt s i)) := by simp
        rw [e, ← ih', L_utf_Points_0, k_loop]
        simp (disch := omega) [dec_yes, dec_no, hlt, hz, hsz, hc, c, wrap_in, hcap]
    · have : i = s.size := by omega
      subst this
      rw [drop_end s _ (Nat.le_refl _), points_nil, L_utf_Points_0, k_loop]
      simp
theorem utfPoints (s : ByteArray) (hs : s.size < 1099511627776) : Run (EX cp) 78 [.sc (.string s)] = some (.own 3 1 (ints (points (L s)))) := by
  have h := points_loop (cp := cp) s hs s.size 0 [] (by omega) (by omega) (by simp)
  rw [run_fn _ A_utf_Points _ rfl rfl rfl]
  simp at h
  simp [A_utf_Points, h]

/-! ### utf.Make -/
def mk1 (n : Int) : Int := if sc n then n else 65533
def mks (l : List Int) : List UInt8 := encs (l.map mk1)
theorem mk1_sc (n : Int) : sc (mk1 n) := by unfold mk1; split; assumption; exact sc_bad
theorem mks_snoc (l : List Int) (n : Int) : mks (l ++ [n]) = mks l ++ enc (mk1 n) := by simp [mks, encs]
theorem mks_len (l : List Int) : (mks l).length ≤ 4 * l.length := by
  induction l with
  | nil => simp [mks]
  | cons a l ih =>
    have := (enc_len (mk1 a)).2
    simp only [mks, List.map_cons, encs_cons, List.length_append, List.length_cons] at ih ⊢
    omega
theorem mks_pts (l : List Int) (h : ∀ v ∈ l, sc v) : mks l = encs l := by
  unfold mks
  congr 1
  conv => rhs; rw [← List.map_id l]
  refine List.map_congr_left fun v hv => ?_
  unfold mk1; rw [if_pos (h v hv)]; rfl
set_option maxHeartbeats 2000000 in
theorem make_loop (l : List Int) (hl : l.length < 1099511627776) : ∀ (m i : Nat), l.length ≤ i + m → i ≤ l.length → Code (EX cp) L_utf_Make_0 ⟨[(3, .mp 3 0 0), (7, .p (.sl 1 (ints l))), (8, .p (pi l.length)), (9, .p (pi i))], [(3, .dp 78 2 (sbRow 5 (bRows (mks (l.take i)))))]⟩ =
    some (.ex 0, ⟨[(3, .mp 3 0 0), (7, .p (.sl 1 (ints l))), (8, .p (pi l.length)), (9, .p (pi l.length)), (10, .p (pb false))], [(3, .dp 78 2 (sbRow 5 (bRows (mks l))))]⟩) := by
  intro m
  induction m with
  | zero =>
    intro i h1 h2
    have : i = l.length := by omega
    subst this
    rw [List.take_length, L_utf_Make_0, k_loop]
    simp
  | succ m ih =>
    intro i h1 h2
    by_cases hlt : i < l.length
    · have ih' := ih (i + 1) (by omega) (by omega)
      have e : l.take (i + 1) = l.take i ++ [l[i]] := List.take_succ_eq_append_getElem hlt
      rw [e, mks_snoc] at ih'
      have hm := mks_len (l.take i)
      have hm2 : (l.take i).length ≤ i := List.length_take_le _ _
      have hen := (enc_len (mk1 l[i])).2
      have hg := ints_at l i hlt
      generalize l[i] = v at *
      generalize hacc : mks (l.take i) = acc at *
      have hp := isPoint (cp := cp) v
      have hcap : acc.length + (enc (mk1 v)).length + 4 ≤ maxBytes := by unfold maxBytes; omega
      rw [← ih', L_utf_Make_0, k_loop]
      by_cases c : sc v
      · have e1 : mk1 v = v := if_pos c
        have c' := c
        unfold sc at c'
        rw [e1] at hcap ⊢
        have hcap2 : acc.length + (Lib.encodeRune v).length + 4 ≤ maxBytes := hcap
        simp (disch := omega) [dec_yes, dec_no, hlt, hg, hp, c, wrap_in, wrap32_in, hcap2, if_yes, enc]
      · have e1 : mk1 v = 65533 := if_neg c
        rw [e1] at hcap ⊢
        have hcap2 : acc.length + (Lib.encodeRune 65533).length + 4 ≤ maxBytes := hcap
        by_cases c0 : 0 ≤ v
        · by_cases c1 : v ≤ 1114111
          · simp (disch := omega) [dec_yes, dec_no, hlt, hg, hp, c, wrap_in, wrap32_in, hcap2, if_yes, enc]
          · simp (disch := omega) [dec_yes, dec_no, hlt, hg, hp, c, wrap_in, wrap32_in, hcap2, if_yes, enc]
        · simp (disch := omega) [dec_yes, dec_no, hlt, hg, hp, c, wrap_in, wrap32_in, hcap2, if_yes, enc]
    · have : i = l.length := by omega
      subst this
      rw [List.take_length, L_utf_Make_0, k_loop]
      simp
theorem utfMake (l : List Int) (hl : l.length < 1099511627776) : Run (EX cp) 77 [.sl 1 (ints l)] = some (.val (.sc (.string ⟨(mks l).toArray⟩))) := by
  have h := make_loop (cp := cp) l hl l.length 0 (by omega) (by omega)
  rw [run_fn _ A_utf_Make _ rfl rfl rfl]
  simp [mks] at h
  simp [A_utf_Make, h, mks]
/-- A clean text. -/
def cleanS (s : ByteArray) : ByteArray := ⟨(clean (L s)).toArray⟩
theorem utfClean (s : ByteArray) (hs : s.size < 1099511627776) : Run (EX cp) 55 [.sc (.string s)] = some (.val (.sc (.string (cleanS s)))) := by
  have h1 := utfValid (cp := cp) s hs
  have h2 := utfPoints (cp := cp) s hs
  have hle := points_le (L s)
  rw [L_len] at hle
  have h3 := utfMake (cp := cp) (points (L s)) (by omega)
  rw [mks_pts _ (points_sc _)] at h3
  rw [run_fn _ A_utf_Clean _ rfl rfl rfl]
  cases hv : valid (L s) with
  | true =>
    rw [hv] at h1
    have : cleanS s = s := by unfold cleanS; rw [clean_of_valid _ hv, mk_L]
    simp [A_utf_Clean, h1, this]
  | false =>
    rw [hv] at h1
    simp [A_utf_Clean, h1, h2, h3, cleanS, clean]
end Go.Proofs.Ytihgpnfkadldeaa.AM
