/- The law LinesPieces on the small machine. No condition. -/
import Derived.Test.YtomnggbideepeaaRN5
namespace Go.Proofs.Ytomnggbideepeaa.linesPieces
set_option linter.unusedSimpArgs false
set_option linter.unusedVariables false
open Go Go.Proofs.Ytomnggbideepeaa.U Go.Proofs.Ytomnggbideepeaa.AM
def shapes : List PSh := [.one (.tx), .one (.i .u8)]
/-- Pieces are right: not empty, no longer than may be, and no code point more fits. -/
def okM (m : Nat) : List ByteArray → Prop
  | [] => True
  | [x] => 1 ≤ x.size ∧ x.size ≤ m
  | x :: y :: l => (1 ≤ x.size ∧ x.size ≤ m) ∧ m < x.size + sizeAt y 0 ∧ okM m (y :: l)
theorem okM_head {m : Nat} {y : ByteArray} {l : List ByteArray} (h : okM m (y :: l)) : 1 ≤ y.size ∧ y.size ≤ m := by
  cases l with
  | nil => exact h
  | cons z l => exact h.1
theorem backN_max (s : List UInt8) : ∀ n j : Nat, backN s n < j → j ≤ n → ∀ b, s[j]? = some b → cont b := by
  intro n
  induction n with
  | zero => intro j h1 h2; rw [backN] at h1; omega
  | succ n ih =>
    intro j h1 h2 b hb
    rw [backN] at h1
    split at h1
    · rename_i c hc
      split at h1
      · rename_i hcc
        by_cases e : j = n + 1
        · rw [e, hc] at hb
          rw [← Option.some.inj hb]; exact hcc
        · exact ih j h1 (by omega) b hb
      · omega
    · omega
theorem sizeAt_zero (y : ByteArray) : sizeAt y 0 = (dec (L y)).1 := by
  unfold sizeAt
  have := decAt_nat y 0
  rw [List.drop_zero] at this
  rw [show (0 : Int) = ((0 : Nat) : Int) from rfl, this]
/-- The code point behind a cut goes beyond. -/
theorem cut_next (m : Nat) (hm : 4 ≤ m) (s y : ByteArray) (hv : valid (L s) = true) (hms : m < s.size) (hy : valid (L y) = true) (hy0 : 1 ≤ y.size) (rest : List UInt8) (hL : (L s).drop (cutM m s) = L y ++ rest) : m < cutM m s + sizeAt y 0 := by
  obtain ⟨a1, a2, a3, a4, a5, a6⟩ := cutM_ok m hm s hv (by omega)
  have hcut : cutM m s = backN (L s) m := by unfold cutM; rw [if_neg (by omega)]
  rw [sizeAt_zero]
  rcases parts (L y) with h | ⟨a, t, h, h0⟩ | ⟨v, r, hs, h, hd⟩
  · have := L_len y
    rw [h] at this; simp at this; omega
  · rw [h, valid_none (by rw [← h]; exact h0)] at hy; simp at hy
  · rw [hd]
    dsimp only
    rcases Nat.lt_or_ge m (cutM m s + (enc v).length) with hlt | hge
    · exact hlt
    · exfalso
      have hel := (enc_len v).1
      have hj : cutM m s + (enc v).length < (L s).length := by rw [L_len]; omega
      have hg : (L s)[cutM m s + (enc v).length]? = some (L s)[cutM m s + (enc v).length] := List.getElem?_eq_getElem hj
      have hc := backN_max (L s) m (cutM m s + (enc v).length) (by rw [← hcut]; omega) hge _ hg
      have hdd : (L s).drop (cutM m s + (enc v).length) = r ++ rest := by
        rw [← List.drop_drop, hL, h, List.append_assoc, List.drop_left]
      rw [hL, h, List.append_assoc, valid_enc1 hs, ← hdd, List.drop_eq_getElem_cons hj] at a6
      exact valid_head2 a6 hc
theorem pieces_flat (m : Nat) (hm : 4 ≤ m) : ∀ (n : Nat) (s : ByteArray), s.size ≤ n → valid (L s) = true → flat (piecesM m s) = L s ∧ okM m (piecesM m s) := by
  intro n
  induction n with
  | zero =>
    intro s h _
    rw [piecesM_nil m s (by omega)]
    refine ⟨?_, trivial⟩
    have : L s = [] := List.eq_nil_of_length_eq_zero (by rw [L_len]; omega)
    rw [this]; rfl
  | succ n ih =>
    intro s h hv
    by_cases c : s.size = 0
    · rw [piecesM_nil m s c]
      refine ⟨?_, trivial⟩
      have : L s = [] := List.eq_nil_of_length_eq_zero (by rw [L_len]; exact c)
      rw [this]; rfl
    · obtain ⟨a1, a2, a3, a4, a5, a6⟩ := cutM_ok m hm s hv (by omega)
      have hz : (s.extract (cutM m s) s.size).size = s.size - cutM m s := ex_drop_size s _
      have hz0 : (s.extract 0 (cutM m s)).size = cutM m s := ex_take_size s _ a3
      have hvr : valid (L (s.extract (cutM m s) s.size)) = true := by rw [ex_drop]; exact a6
      obtain ⟨i1, i2⟩ := ih (s.extract (cutM m s) s.size) (by omega) hvr
      rw [piecesM_cons m hm s hv (by omega)]
      refine ⟨by rw [flat_cons, i1, ex_take, ex_drop, List.take_append_drop], ?_⟩
      cases hq : piecesM m (s.extract (cutM m s) s.size) with
      | nil =>
        have : 1 ≤ (s.extract 0 (cutM m s)).size ∧ (s.extract 0 (cutM m s)).size ≤ m := by omega
        exact this
      | cons y l =>
        rw [hq] at i1 i2
        have hms : m < s.size := by
          rcases Nat.lt_or_ge m s.size with h | h
          · exact h
          · have hcc : cutM m s = s.size := by unfold cutM; rw [if_pos h]
            rw [piecesM_nil m _ (by omega)] at hq
            cases hq
        have hy := okM_head i2
        have hyv : valid (L y) = true := by
          have e := piecesM_cons m hm _ hvr (by omega)
          rw [hq] at e
          injection e with e _
          obtain ⟨_, _, _, _, b5, _⟩ := cutM_ok m hm _ hvr (by omega)
          rw [e, ex_take]; exact b5
        have hL : (L s).drop (cutM m s) = L y ++ flat l := by rw [← ex_drop, ← i1, flat_cons]
        have := cut_next m hm s y hv hms hyv hy.1 (flat l) hL
        exact ⟨by omega, by omega, i2⟩
theorem okM_at (m : Nat) : ∀ (l : List ByteArray), okM m l → ∀ (i : Nat) (h : i < l.length), (1 ≤ l[i].size ∧ l[i].size ≤ m) ∧ ∀ (h2 : i + 1 < l.length), m < l[i].size + sizeAt l[i + 1] 0 := by
  intro l
  induction l with
  | nil => intro _ i h; simp at h
  | cons x l ih =>
    intro ho i h
    cases l with
    | nil =>
      have : i = 0 := by simp at h; omega
      subst this
      exact ⟨ho, fun h2 => by simp at h2⟩
    | cons y l =>
      cases i with
      | zero => exact ⟨ho.1, fun _ => ho.2.1⟩
      | succ i =>
        have := ih ho.2.2 i (by simpa using h)
        exact ⟨this.1, fun h2 => this.2 (by simpa using h2)⟩
set_option maxHeartbeats 8000000 in
theorem loop (r : PV) (m : Nat) (hm : m < 1000) (l : List ByteArray) (hl : l.length < 268435456) (ho : okM m l) (hf : (flat l).length < 268435456) : ∀ (k i : Nat) (t : ByteArray), i + k = l.length → L t = flat (l.take i) →
    ∃ t2, L t2 = flat l ∧ AM.Code EB L_law6_LinesPieces_0 ⟨[(5, .p r), (7, .p (pi m)), (8, .p (.sl 1 (strs l))), (10, .p (.sc (.string t))), (11, .p (pi i))], []⟩ =
      some (.ex 0, ⟨[(5, .p r), (7, .p (pi m)), (8, .p (.sl 1 (strs l))), (10, .p (.sc (.string t2))), (11, .p (pi l.length)), (41, .p (pb false))], []⟩) := by
  intro k
  induction k with
  | zero =>
    intro i t hi ht
    have : i = l.length := by omega
    subst this
    rw [List.take_length] at ht
    refine ⟨t, ht, ?_⟩
    rw [L_law6_LinesPieces_0, k_loop]
    simp
  | succ k ih =>
    intro i t hi ht
    have hlt : i < l.length := by omega
    have hg := strs_at l i hlt
    obtain ⟨⟨o1, o2⟩, o3⟩ := okM_at m l ho i hlt
    have hft := flat_take_succ l i hlt
    have hle : t.size + l[i].size ≤ (flat l).length := by
      have h1 := congrArg List.length hft
      have h2 := congrArg List.length ht
      have h3 : flat l = flat (l.take (i + 1)) ++ flat (l.drop (i + 1)) := by rw [← flat_append, List.take_append_drop]
      have h4 := congrArg List.length h3
      rw [List.length_append, L_len] at h1
      rw [List.length_append] at h4
      rw [L_len] at h2
      omega
    obtain ⟨t2, e1, e2⟩ := ih (i + 1) (t ++ l[i]) (by omega) (by rw [L_append, ht, hft])
    refine ⟨t2, e1, ?_⟩
    rw [← e2]
    have w1 : IntKind.wrap .i64 ((i : Int) + 1) = ((i + 1 : Nat) : Int) := by rw [wrap_in _ (by omega) (by omega)]; rfl
    have hs1 : (t.size : Int) + (l[i].size : Int) ≤ 9223372036854775807 := by omega
    have a1 : ¬ (m : Int) < (l[i].size : Int) := by omega
    have a2 : ¬ (l[i].size : Int) = 0 := by omega
    have a3 : ¬ l[i].size = 0 := by omega
    by_cases c : i + 1 < l.length
    · have hg2 := strs_at l (i + 1) c
      have o4 := o3 c
      have hz := refSize (cp := cpB) l[i + 1] 0 (by
        have := okM_at m l ho (i + 1) c
        omega)
      have hz4 := (sizeAt_le l[i + 1] 0 (by omega)).2
      rw [show ((0 : Nat) : Int) = 0 from rfl] at hz4
      rw [show EX cpB = EB from rfl] at hz
      have w2 : IntKind.wrap .i64 ((l[i].size : Int) + (sizeAt l[i + 1] 0 : Int)) = (l[i].size : Int) + (sizeAt l[i + 1] 0 : Int) := wrap_in _ (by omega) (by omega)
      have a4 : ¬ (l[i].size : Int) + (sizeAt l[i + 1] 0 : Int) ≤ (m : Int) := by omega
      have a5 : ((i + 1 : Nat) : Int) < (l.length : Int) := by omega
      have a6 : 0 ≤ ((i + 1 : Nat) : Int) := by omega
      have a7 : ((i + 1 : Nat) : Int).toNat = i + 1 := Int.toNat_natCast _
      generalize sizeAt l[i + 1] 0 = z at *
      generalize l[i + 1] = y at *
      generalize l[i] = x at *
      generalize hA : ((i + 1 : Nat) : Int) = A at *
      conv => lhs; rw [L_law6_LinesPieces_0, k_loop]
      simp (disch := omega) [hlt, c, hg, hg2, hz, w1, w2, if_pos hs1, a1, a2, a3, a4, a5, a6, a7, dec_yes, dec_no, -getElem?_pos]
      rfl
    · have a5 : ¬ ((i + 1 : Nat) : Int) < (l.length : Int) := by omega
      generalize l[i] = x at *
      generalize hA : ((i + 1 : Nat) : Int) = A at *
      conv => lhs; rw [L_law6_LinesPieces_0, k_loop]
      simp (disch := omega) [hlt, hg, w1, if_pos hs1, a1, a2, a3, a5, dec_yes, dec_no, -getElem?_pos]
      rfl
set_option maxHeartbeats 4000000 in
theorem law (xs : List PV) (h : WTAs shapes xs) : Run EB 16 xs = some (.val (.sc (.bool true))) := by
  cases h with
  | cons h1 h => cases h with
  | cons h2 h =>
  cases h
  obtain ⟨s, rfl, hs⟩ := wt_str h1
  obtain ⟨b, rfl⟩ := wt_byte h2
  clear h1 h2
  have kn := known6
  rw [show Run EB 16 [.sc (.string s), .sc (.int .u8 b.toNat)] = _ from run_fn _ A_law6_LinesPieces _ rfl rfl rfl, ← show EB = EX cpB from rfl]
  by_cases c0 : s.size ≤ 300
  case neg => simp (disch := omega) [A_law6_LinesPieces, kn, c0, dec_yes, dec_no]
  have zs := clean_small' s c0
  rcases ropeNew (cp := cpB) s (by omega) with ⟨h2, _⟩ | ⟨_, r, hr, d1⟩
  · omega
  generalize cleanS s = u at *
  have hb := b.toNat_lt
  generalize b.toNat = f at *
  obtain ⟨m, hm⟩ : ∃ m : Nat, m = f % 60 + 4 := ⟨_, rfl⟩
  have w1 : (f : Int).tmod 60 = ((f % 60 : Nat) : Int) := tmod_nat f 60
  have w2 : IntKind.wrap .i64 ((f % 60 : Nat) : Int) = ((f % 60 : Nat) : Int) := wrap_in _ (by omega) (by omega)
  have w3 : IntKind.wrap .i64 (((f % 60 : Nat) : Int) + 4) = (m : Int) := by rw [wrap_in _ (by omega) (by omega)]; omega
  have d2 := ropeString (cp := cpB) cpB_all hr
  have d3 := ropeLen (cp := cpB) hr
  have d4 := linesPieces hr (by omega) 0 u.size m
  have e0 : edge u 0 = true := cut_of_edge (s := u) 0 (by omega) (by rw [List.take_zero]; exact valid_nil) (by rw [List.drop_zero]; exact hr.val)
  have e9 := edge_last hr.val
  have hc : chkR u 0 u.size = 0 := by
    unfold chkR
    rw [if_neg (by omega), e0, if_pos ⟨rfl, e9⟩]
  have hE : piecesE u 0 u.size m = (piecesM m u, 0) := by
    unfold piecesE
    rw [hc, if_neg (by simp), if_neg (by omega), show (0 : Int).toNat = 0 from rfl, Int.toNat_natCast, Int.toNat_natCast, ex_whole]
  rw [hE] at d4
  obtain ⟨p1, p2⟩ := pieces_flat m (by omega) _ u (Nat.le_refl _) hr.val
  have hfew := piecesM_few m (by omega) _ u (Nat.le_refl _) hr.val
  obtain ⟨t2, q1, lp⟩ := loop r m (by omega) (piecesM m u) (by omega) p2 (by rw [p1, L_len]; omega) (piecesM m u).length 0 ⟨#[]⟩ (by omega) (by simp [flat]; rfl)
  have ht2 : t2 = u := L_inj (by rw [q1, p1])
  subst ht2
  rw [show ((0 : Nat) : Int) = 0 from rfl] at lp
  rw [show EX cpB = EB from rfl] at *
  dsimp only at d4
  generalize piecesM m t2 = l at *
  generalize f % 60 = f60 at *
  simp (disch := omega) [A_law6_LinesPieces, kn, c0, d1, d2, d3, d4, lp, w1, w2, w3, dec_yes, dec_no]
end Go.Proofs.Ytomnggbideepeaa.linesPieces
