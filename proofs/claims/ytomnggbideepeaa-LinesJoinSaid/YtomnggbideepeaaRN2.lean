/- A text's lines on the small machine: the reference's Lines; package lines: Count, Line, At. For texts of fewer than 2^28 bytes. -/
import Derived.Test.YtomnggbideepeaaRN1
import Derived.Test.YtomnggbideepeaaRM2
namespace Go.Proofs.Ytomnggbideepeaa.AM
set_option linter.unusedSimpArgs false
set_option linter.unusedVariables false
open Go Go.Proofs.Ytomnggbideepeaa.U
variable {cp : List PV → Option Ret}
/-- Bytes put ahead of the first line. -/
def preL (c : List UInt8) : List (List UInt8) → List (List UInt8)
  | x :: l => (c ++ x) :: l
  | [] => [c]
/-- A text's lines. -/
def lns : List UInt8 → List (List UInt8)
  | [] => [[]]
  | a :: t => if a = 10 then [] :: lns t else preL [a] (lns t)
theorem preL_len (c : List UInt8) {l : List (List UInt8)} (h : l ≠ []) : (preL c l).length = l.length := by
  cases l with
  | nil => exact absurd rfl h
  | cons x l => rfl
theorem preL_preL (c d : List UInt8) {l : List (List UInt8)} (h : l ≠ []) : preL c (preL d l) = preL (c ++ d) l := by
  cases l with
  | nil => exact absurd rfl h
  | cons x l => simp [preL]
theorem preL_nil {l : List (List UInt8)} (h : l ≠ []) : preL [] l = l := by
  cases l with
  | nil => exact absurd rfl h
  | cons x l => simp [preL]
theorem lns_ne (l : List UInt8) : lns l ≠ [] := by
  cases l with
  | nil => simp [lns]
  | cons a t =>
    rw [lns]
    split
    · simp
    · cases lns t <;> simp [preL]
theorem lns_len (l : List UInt8) : (lns l).length = nl l + 1 := by
  induction l with
  | nil => rfl
  | cons a t ih =>
    rw [lns, nl]
    split
    · rw [List.length_cons, ih]; omega
    · rw [preL_len _ (lns_ne t), ih]; omega
/-- Where a line lies in its text. -/
theorem lns_at : ∀ (l : List UInt8) (n : Nat), n ≤ nl l → ∃ pre x post, (lns l)[n]? = some x ∧ l = pre ++ (x ++ post) ∧ nl pre = n ∧ nl x = 0 ∧ (pre = [] ∨ ∃ p, pre = p ++ [10]) ∧ ((post = [] ∧ n = nl l) ∨ ((∃ q, post = 10 :: q) ∧ n < nl l)) := by
  intro l
  induction l with
  | nil =>
    intro n h
    have : n = 0 := by simp only [nl] at h; omega
    subst this
    exact ⟨[], [], [], rfl, rfl, rfl, rfl, .inl rfl, .inl ⟨rfl, rfl⟩⟩
  | cons a t ih =>
    intro n h
    rw [lns]
    rw [nl] at h ⊢
    by_cases c : a = 10
    · rw [if_pos c] at h ⊢
      rw [if_pos c]
      subst c
      cases n with
      | zero => exact ⟨[], [], 10 :: t, rfl, rfl, rfl, rfl, .inl rfl, .inr ⟨⟨t, rfl⟩, by omega⟩⟩
      | succ n =>
        obtain ⟨pre, x, post, e1, e2, e3, e4, e5, e6⟩ := ih n (by omega)
        refine ⟨10 :: pre, x, post, by simpa using e1, by rw [e2]; rfl, by rw [nl, e3]; simp; omega, e4, .inr ?_, ?_⟩
        · rcases e5 with rfl | ⟨p, rfl⟩
          · exact ⟨[], rfl⟩
          · exact ⟨10 :: p, rfl⟩
        · rcases e6 with ⟨h1, h2⟩ | ⟨h1, h2⟩
          · exact .inl ⟨h1, by omega⟩
          · exact .inr ⟨h1, by omega⟩
    · rw [if_neg c] at h ⊢
      rw [if_neg c]
      obtain ⟨pre, x, post, e1, e2, e3, e4, e5, e6⟩ := ih n (by omega)
      cases hl : lns t with
      | nil => exact absurd hl (lns_ne t)
      | cons y l =>
        rw [hl] at e1
        cases n with
        | zero =>
          have hpre : pre = [] := by
            rcases e5 with h | ⟨p, rfl⟩
            · exact h
            · rw [nl_append] at e3
              have : nl [10] = 1 := rfl
              omega
          subst hpre
          simp only [List.getElem?_cons_zero, Option.some.injEq] at e1
          subst e1
          refine ⟨[], a :: y, post, rfl, by rw [e2]; rfl, rfl, by rw [nl, if_neg c, e4], .inl rfl, ?_⟩
          rcases e6 with ⟨h1, h2⟩ | ⟨h1, h2⟩
          · exact .inl ⟨h1, by omega⟩
          · exact .inr ⟨h1, by omega⟩
        | succ n =>
          refine ⟨a :: pre, x, post, by simpa [preL] using e1, by rw [e2]; rfl, by rw [nl, if_neg c, e3]; omega, e4, .inr ?_, ?_⟩
          · rcases e5 with rfl | ⟨p, rfl⟩
            · simp [nl] at e3
            · exact ⟨a :: p, rfl⟩
          · rcases e6 with ⟨h1, h2⟩ | ⟨h1, h2⟩
            · exact .inl ⟨h1, by omega⟩
            · exact .inr ⟨h1, by omega⟩
def mkS (l : List UInt8) : ByteArray := ⟨l.toArray⟩
theorem mkS_L (s : ByteArray) : mkS (L s) = s := mk_L s
theorem L_mkS (l : List UInt8) : L (mkS l) = l := L_mk l
/-- A text's lines, as texts. -/
def linesS (s : ByteArray) : List ByteArray := (lns (L s)).map mkS
/-- A line. -/
def lineS (s : ByteArray) (n : Nat) : ByteArray := mkS (((lns (L s))[n]?).getD [])
theorem linesS_len (s : ByteArray) : (linesS s).length = nl (L s) + 1 := by unfold linesS; rw [List.length_map, lns_len]
theorem linesS_at (s : ByteArray) (n : Nat) (h : n < (linesS s).length) : (linesS s)[n] = lineS s n := by
  unfold lineS
  have h' : n < ((lns (L s)).map mkS).length := h
  show ((lns (L s)).map mkS)[n]'h' = _
  rw [List.getElem_map]
  rw [linesS_len] at h
  rw [List.getElem?_eq_getElem (by rw [lns_len]; exact h)]; rfl
theorem nl_le (l : List UInt8) : nl l ≤ l.length := by
  induction l with
  | nil => exact Nat.le_refl _
  | cons a t ih => rw [nl, List.length_cons]; split <;> omega
set_option maxHeartbeats 2000000 in
theorem ref2Lines_loop (s : ByteArray) (hs : s.size < 268435456) : ∀ (m i f : Nat) (acc : List ByteArray), i + m = s.size → f ≤ i → acc.length ≤ i →
    Code (EX cp) L_ref2_Lines_0 ⟨[(0, .p (.sc (.string s))), (3, .ms 3 0 acc.length), (4, .p (pi f)), (5, .p (pi i))], [(3, .row 9 1 false (strs acc))]⟩ =
      some (.ex 0, ⟨[(0, .p (.sc (.string s))), (3, .ms 3 0 (acc ++ (preL (((L s).drop f).take (i - f)) (lns ((L s).drop i))).map mkS).length), (4, .p (pi ((s.size : Int) + 1))), (5, .p (pi ((s.size : Int) + 1))), (9, .p (pb false))], [(3, .row 9 1 false (strs (acc ++ (preL (((L s).drop f).take (i - f)) (lns ((L s).drop i))).map mkS)))]⟩) := by
  have hend : ∀ (acc : List ByteArray), Code (EX cp) L_ref2_Lines_0 ⟨[(0, .p (.sc (.string s))), (3, .ms 3 0 acc.length), (4, .p (pi ((s.size : Int) + 1))), (5, .p (pi ((s.size : Int) + 1)))], [(3, .row 9 1 false (strs acc))]⟩ = some (.ex 0, ⟨[(0, .p (.sc (.string s))), (3, .ms 3 0 acc.length), (4, .p (pi ((s.size : Int) + 1))), (5, .p (pi ((s.size : Int) + 1))), (9, .p (pb false))], [(3, .row 9 1 false (strs acc))]⟩) := by
    intro acc
    rw [L_ref2_Lines_0, k_loop]
    simp (disch := omega) [dec_no, dec_yes]
  intro m
  induction m with
  | zero =>
    intro i f acc hi hf ha
    have : i = s.size := by omega
    subst this
    have e : (preL (((L s).drop f).take (s.size - f)) (lns ((L s).drop s.size))).map mkS = [s.extract f s.size] := by
      rw [drop_end s _ (Nat.le_refl _), lns, preL, List.append_nil, List.map_cons, List.map_nil]
      congr 1
      exact L_inj (by rw [L_mkS, L_extract])
    have hsn := strs_snoc acc (s.extract f s.size)
    have hcap : (acc.length + 1) * 16 ≤ maxBytes ∧ acc.length + 1 ≤ 9223372036854775807 := by unfold maxBytes; omega
    have w1 : IntKind.wrap .i64 ((s.size : Int) + 1) = (s.size : Int) + 1 := wrap_in _ (by omega) (by omega)
    have hl : (acc ++ [s.extract f s.size]).length = acc.length + 1 := by simp
    have he := hend (acc ++ [s.extract f s.size])
    rw [hl, ← hsn] at he
    rw [e, hl, ← hsn, ← he]
    conv => lhs; rw [L_ref2_Lines_0, k_loop]
    generalize hx : s.extract f s.size = x at *
    simp (disch := omega) [hx, hsn, hcap, w1, dec_no, dec_yes, if_yes]
    rfl
  | succ m ih =>
    intro i f acc hi hf ha
    have hlt : i < s.size := by omega
    obtain ⟨a, t, hd⟩ := drop_at s i hlt
    obtain ⟨hb, _, hdt⟩ := bt_at s i a t hd
    have w1 : IntKind.wrap .i64 ((i : Int) + 1) = ((i + 1 : Nat) : Int) := wrap_in _ (by omega) (by omega)
    have hne : ¬ (i : Int) = (s.size : Int) := by omega
    rw [hd, lns, ← hdt]
    by_cases c : a = 10
    · rw [if_pos c]
      have e : ((L s).drop f).take (i - f) = L (s.extract f i) := by rw [L_extract]
      have hsn := strs_snoc acc (s.extract f i)
      have hcap : (acc.length + 1) * 16 ≤ maxBytes ∧ acc.length + 1 ≤ 9223372036854775807 := by unfold maxBytes; omega
      have hl : (acc ++ [s.extract f i]).length = acc.length + 1 := by simp
      have ih' := ih (i + 1) (i + 1) (acc ++ [s.extract f i]) (by omega) (Nat.le_refl _) (by rw [hl]; omega)
      have e2 : preL (((L s).drop (i + 1)).take (i + 1 - (i + 1))) (lns ((L s).drop (i + 1))) = lns ((L s).drop (i + 1)) := by
        rw [Nat.sub_self, List.take_zero, preL_nil (lns_ne _)]
      have e3 : acc ++ (preL (((L s).drop f).take (i - f)) ([] :: lns ((L s).drop (i + 1)))).map mkS = (acc ++ [s.extract f i]) ++ (lns ((L s).drop (i + 1))).map mkS := by
        rw [e, preL, List.append_nil, List.map_cons, mkS_L]; simp
      rw [e2, hl, ← hsn] at ih'
      have hb10 : bi a = 10 := by rw [c]; rfl
      rw [e3, ← ih']
      generalize (lns ((L s).drop (i + 1))).map mkS = rest at *
      conv => lhs; rw [L_ref2_Lines_0, k_loop]
      have hfi : f ≤ i := hf
      have his : i ≤ s.size := by omega
      generalize hx : s.extract f i = x at *
      simp (disch := omega) [hx, hb, hb10, hne, hfi, his, hsn, hcap, w1, dec_no, dec_yes, if_yes]
      rfl
    · rw [if_neg c, preL_preL _ _ (lns_ne _)]
      have e : ((L s).drop f).take (i - f) ++ [a] = ((L s).drop f).take (i + 1 - f) := by
        have h1 : ((L s).drop f)[i - f]? = some a := by
          rw [List.getElem?_drop, show f + (i - f) = i by omega, ← List.head?_drop, hd]; rfl
        rw [show i + 1 - f = (i - f) + 1 by omega, List.take_add_one, h1]; rfl
      rw [e, ← ih (i + 1) f acc (by omega) (by omega) (by omega)]
      have hb10 : ¬ bi a = 10 := fun h => c (bi_inj (by rw [h]; rfl))
      conv => lhs; rw [L_ref2_Lines_0, k_loop]
      simp (disch := omega) [hb, hb10, hne, w1, dec_no, dec_yes]
      rfl
set_option maxHeartbeats 2000000 in
theorem ref2Lines (s : ByteArray) (hs : s.size < 268435456) : Run (EX cp) 46 [.sc (.string s)] = some (.own 9 1 (strs (linesS s))) := by
  have lp := ref2Lines_loop (cp := cp) s hs s.size 0 0 [] (by omega) (Nat.le_refl _) (by simp)
  rw [Nat.sub_self, List.take_zero, preL_nil (lns_ne _), List.drop_zero, List.nil_append, show ((0 : Nat) : Int) = 0 from rfl, strs_nil, show (([] : List ByteArray).length) = 0 from rfl] at lp
  have e : (lns (L s)).map mkS = linesS s := rfl
  rw [e] at lp
  have hz : (strs (linesS s)).take (linesS s).length = strs (linesS s) := List.take_of_length_le (by simp)
  rw [run_fn _ A_ref2_Lines _ rfl rfl rfl]
  generalize linesS s = l at *
  simp (disch := omega) [A_ref2_Lines, lp, hz, dec_no, dec_yes]
theorem linesCount {r : PV} {s : ByteArray} (h : Rp r s) (hs : s.size < 268435456) : Run (EX cp) 48 [r] = some (.val (pi ((nl (L s) : Int) + 1))) := by
  have d1 := metricWhole (cp := cp) h 3
  rw [get4_nl h.val] at d1
  have := nl_le (L s)
  rw [L_len] at this
  rw [run_fn _ A_lines_Count _ rfl rfl rfl]
  simp (disch := omega) [A_lines_Count, d1, wrap_in]
theorem linesText (hc : CpAll cp) {r : PV} {s : ByteArray} (h : Rp r s) : Run (EX cp) 76 [r] = some (.val (.sc (.string s))) := by
  have d1 := ropeString hc h
  obtain ⟨x, P, rfl, p1, p2, p3, p4⟩ := h
  rw [run_fn _ A_lines_text _ rfl rfl rfl]
  simp [A_lines_text, d1]
/-- Where a line lies. -/
theorem line_place {s : ByteArray} (hv : valid (L s) = true) (n : Nat) (h : n ≤ nl (L s)) : ∃ p x q : Nat, toSpec s 3 n = ((p : Int), 0) ∧ edge s p = true ∧ IsStart (L s) n p ∧ p + x ≤ s.size ∧ lineS s n = s.extract p (p + x) ∧ nl (L (lineS s n)) = 0 ∧
    (n = nl (L s) → p + x = s.size) ∧ (n < nl (L s) → toSpec s 3 ((n : Int) + 1) = (((p + x + 1 : Nat) : Int), 0) ∧ p + x + 1 ≤ s.size ∧ (L s)[p + x]? = some 10) := by
  obtain ⟨pre, x, post, e1, e2, e3, e4, e5, e6⟩ := lns_at (L s) n h
  obtain ⟨p, f1, f2, f3⟩ := toSpec_line hv n h
  have hz : s.size = pre.length + (x.length + post.length) := by rw [← L_len s, e2, List.length_append, List.length_append]
  have g2 : IsStart (L s) n pre.length := by
    refine ⟨by rw [L_len]; omega, ?_, ?_⟩
    · rw [e2, List.take_left]; exact e3
    · rcases e5 with rfl | ⟨q, hq⟩
      · exact .inl rfl
      · right; refine ⟨q, ?_⟩; rw [e2, List.take_left]; exact hq
  have hp := f2.one g2
  have hl : lineS s n = s.extract p (p + x.length) := by
    apply L_inj
    unfold lineS
    rw [e1, L_mkS, L_extract, e2, hp, List.drop_left, Nat.add_sub_cancel_left, List.take_left]; rfl
  have hLl : L (lineS s n) = x := by unfold lineS; rw [e1, L_mkS]; rfl
  refine ⟨p, x.length, 0, f1, f3, f2, by omega, hl, by rw [hLl]; exact e4, ?_, ?_⟩
  · intro hn
    rcases e6 with ⟨h1, _⟩ | ⟨_, h2⟩
    · rw [h1] at hz; simp at hz; omega
    · omega
  · intro hn
    rcases e6 with ⟨_, h2⟩ | ⟨⟨q, h1⟩, _⟩
    · omega
    obtain ⟨p2, k1, k2, k3⟩ := toSpec_line hv (n + 1) (by omega)
    have hz2 : post.length = q.length + 1 := by rw [h1]; rfl
    have hs2 : L s = (pre ++ (x ++ [10])) ++ q := by rw [e2, h1]; simp
    have g3 : IsStart (L s) (n + 1) (pre.length + x.length + 1) := by
      have ht : (L s).take (pre.length + x.length + 1) = pre ++ (x ++ [10]) := by
        rw [hs2, List.take_left' (by simp; omega)]
      refine ⟨by rw [L_len]; omega, ?_, .inr ⟨pre ++ x, by rw [ht]; simp⟩⟩
      rw [ht, nl_append, nl_append, e3, e4]; rfl
    have := k2.one g3
    have hp2 : p2 = p + x.length + 1 := by omega
    subst hp2
    refine ⟨?_, by omega, ?_⟩
    · exact k1
    · rw [hp, e2, List.getElem?_append_right (by omega), Nat.add_sub_cancel_left, List.getElem?_append_right (Nat.le_refl _), Nat.sub_self, h1]; rfl
set_option maxHeartbeats 2000000 in
theorem linesLine (hc : CpAll cp) {r : PV} {s : ByteArray} (h : Rp r s) (hs : s.size < 268435456) (n : Nat) (hn : n ≤ nl (L s)) : Run (EX cp) 47 [r, pi n] = some (.val (.tu [.sc (.string (lineS s n)), pi 0])) := by
  have d1 := linesCount (cp := cp) h hs
  have d2 := metricTo (cp := cp) h hs 3 n
  have d3 := metricWhole (cp := cp) h 0
  have d4 := metricTo (cp := cp) h hs 3 ((n : Int) + 1)
  have d5 := linesText hc h
  have hle := nl_le (L s)
  rw [L_len] at hle
  obtain ⟨p, x, _, f1, f2, f3, f4, f5, _, f6, f7⟩ := line_place h.val n hn
  have e0 : get4 (cntS s) 0 = s.size := cntS_size s h.val
  rw [e0] at d3
  rw [f1] at d2
  have w1 : IntKind.wrap .i64 ((n : Int) + 1) = (n : Int) + 1 := wrap_in _ (by omega) (by omega)
  have a1 : ¬ (nl (L s) : Int) + 1 ≤ (n : Int) := by omega
  rw [f5, run_fn _ A_lines_Line _ rfl rfl rfl]
  by_cases c : n = nl (L s)
  · have hz := f6 c
    have a2 : ¬ (n : Int) < (nl (L s) : Int) := by omega
    rw [hz]
    have a3 : p ≤ s.size := by omega
    generalize nl (L s) = m at *
    simp (disch := omega) [A_lines_Line, d1, d2, d3, d5, w1, a1, a2, a3, dec_no, dec_yes]
  · obtain ⟨g1, g2, g3⟩ := f7 (by omega)
    rw [g1] at d4
    have a2 : (n : Int) < (nl (L s) : Int) := by omega
    have a3 : p ≤ p + x := by omega
    have w2 : IntKind.wrap .i64 (((p + x + 1 : Nat) : Int) - 1) = ((p + x : Nat) : Int) := by rw [wrap_in _ (by omega) (by omega)]; omega
    generalize nl (L s) = m at *
    generalize hA : ((p + x + 1 : Nat) : Int) = A at *
    generalize hB : p + x = B at *
    simp (disch := omega) [A_lines_Line, d1, d2, d3, d4, d5, w1, w2, a1, a2, a3, f4, dec_no, dec_yes]
theorem linesLineNo {r : PV} {s : ByteArray} (h : Rp r s) (hs : s.size < 268435456) (n : Int) (hn : ¬ (0 ≤ n ∧ n ≤ nl (L s))) : Run (EX cp) 47 [r, pi n] = some (.val (.tu [pS #[], pi 10])) := by
  have d1 := linesCount (cp := cp) h hs
  rw [run_fn _ A_lines_Line _ rfl rfl rfl]
  by_cases c : n < 0
  · simp (disch := omega) [A_lines_Line, d1, c, dec_no, dec_yes]
  · have c2 : (nl (L s) : Int) + 1 ≤ n := by omega
    simp (disch := omega) [A_lines_Line, d1, c, c2, dec_no, dec_yes]
/-- A place's line, and how many code points of it are ahead. -/
def atSpec (s : ByteArray) (a : Int) : Int × Int × Int :=
  if (fromSpec s 3 a).2 ≠ 0 then (0, 0, (fromSpec s 3 a).2) else ((nl ((L s).take a.toNat) : Int), ((points (L (lineS (s.extract 0 a.toNat) (nl ((L s).take a.toNat))))).length : Int), 0)
theorem get4_pts (s : ByteArray) : get4 (cntS s) 1 = ((points (L s)).length : Int) := (cnt_range (points (L s))).2.2.1
set_option maxHeartbeats 2000000 in
theorem linesAt {r : PV} {s : ByteArray} (h : Rp r s) (hs : s.size < 268435456) (a : Int) : Run (EX cp) 49 [r, pi a] = some (.val (.tu [pi (atSpec s a).1, pi (atSpec s a).2.1, pi (atSpec s a).2.2])) := by
  have d1 := metricFrom (cp := cp) h hs 3 a
  unfold atSpec
  rw [run_fn _ A_lines_At _ rfl rfl rfl]
  by_cases c : (fromSpec s 3 a).2 = 0
  case neg =>
    rw [if_pos c]
    generalize fromSpec s 3 a = z at *
    simp (disch := omega) [A_lines_At, d1, c, dec_no, dec_yes]
  rw [if_neg (by omega)]
  have hk : ∃ p : Nat, a = p ∧ p ≤ s.size ∧ edge s p = true := by
    unfold fromSpec at c
    rw [if_pos (by omega)] at c
    split at c
    · simp at c
    · rename_i c1
      split at c
      · rename_i c2
        exact ⟨a.toNat, by omega, by omega, by rw [show ((a.toNat : Nat) : Int) = a by omega]; exact c2⟩
      · simp at c
  obtain ⟨p, rfl, hp, he⟩ := hk
  rw [Int.toNat_natCast]
  rw [fromSpec_edge (by omega) p hp he] at d1
  obtain ⟨q, hq, q1, q2, q3⟩ := edge_cut he
  have hqp : q = p := by omega
  subst hqp
  have hr : valid (L (s.extract 0 q)) = true := by rw [ex_take]; exact q2
  rw [get4_nl hr, ex_take] at d1
  have hle2 : nl ((L s).take q) ≤ nl (L s) := by
    conv => rhs; rw [← List.take_append_drop q (L s), nl_append]
    omega
  have hle := nl_le (L s)
  rw [L_len] at hle
  -- the line's place
  obtain ⟨p2, k1, k2, k3⟩ := toSpec_line h.val (nl ((L s).take q)) hle2
  obtain ⟨pre, x, post, e1, e2, e3, e4, e5, e6⟩ := lns_at ((L s).take q) (nl ((L s).take q)) (Nat.le_refl _)
  have hpost : post = [] := by
    rcases e6 with ⟨h, _⟩ | ⟨_, h⟩
    · exact h
    · omega
  subst hpost
  rw [List.append_nil] at e2
  have hql : pre.length + x.length = q := by
    have := congrArg List.length e2
    rw [List.length_take, List.length_append, L_len] at this
    omega
  have hpt : (L s).take pre.length = pre := by
    have : ((L s).take q).take pre.length = pre := by rw [e2, List.take_left]
    rw [List.take_take, Nat.min_eq_left (by omega)] at this
    exact this
  have hp2 : p2 = pre.length := by
    refine k2.one ⟨by rw [L_len]; omega, by rw [hpt]; exact e3, ?_⟩
    rw [hpt]
    rcases e5 with h | ⟨w, h⟩
    · left; rw [h]; rfl
    · exact .inr ⟨w, h⟩
  subst hp2
  obtain ⟨q', hq', q1', q2', q3'⟩ := edge_cut k3
  have : q' = pre.length := by omega
  subst this
  have hline : L (lineS (s.extract 0 q) (nl ((L s).take q))) = x := by
    unfold lineS
    rw [L_mkS, ex_take, e1]; rfl
  rw [hline]
  have d2 := metricTo (cp := cp) h hs 3 (nl ((L s).take q))
  rw [k1] at d2
  have d3 := metricFrom (cp := cp) h hs 1 q
  have d4 := metricFrom (cp := cp) h hs 1 pre.length
  rw [fromSpec_edge (by omega) q hp he, get4_pts, ex_take, e2] at d3
  rw [fromSpec_edge (by omega) pre.length (by omega) k3, get4_pts, ex_take, hpt] at d4
  rw [hpt] at q2'
  rw [points_append q2', List.length_append] at d3
  have b1 := points_le pre
  have b2 := points_le x
  have w1 : IntKind.wrap .i64 ((((points pre).length + (points x).length : Nat) : Int) - ((points pre).length : Int)) = ((points x).length : Int) := by rw [wrap_in _ (by omega) (by omega)]; omega
  generalize nl ((L s).take q) = m at *
  generalize (points pre).length = y1 at *
  generalize (points x).length = y2 at *
  generalize pre.length = y3 at *
  generalize hA : ((y1 + y2 : Nat) : Int) = A at *
  dsimp only at d1 d2 d3 d4
  simp (disch := omega) [A_lines_At, d1, d2, d3, d4, w1, dec_no, dec_yes]
end Go.Proofs.Ytomnggbideepeaa.AM
