/- Plain: a text's lines, where they begin, and the line ends ahead of a place. No condition. -/
import Derived.Test.YtomnggbideepeaaRM4
namespace Go.Proofs.Ytomnggbideepeaa.AM
set_option linter.unusedSimpArgs false
set_option linter.unusedVariables false
open Go Go.Proofs.Ytomnggbideepeaa.U
/-- Line ends. -/
def nl : List UInt8 → Nat
  | [] => 0
  | a :: t => (if a = 10 then 1 else 0) + nl t
theorem nl_append (a b : List UInt8) : nl (a ++ b) = nl a + nl b := by
  induction a with
  | nil => simp [nl]
  | cons x a ih => rw [List.cons_append, nl, nl, ih]; omega
theorem nl_none {l : List UInt8} (h : ∀ a ∈ l, a ≠ 10) : nl l = 0 := by
  induction l with
  | nil => rfl
  | cons a l ih =>
    rw [nl, if_neg (h a (by simp)), ih fun b hb => h b (by simp [hb])]
theorem nl_enc {v : Int} (h : sc v) : (nl (enc v) : Int) = cl v := by
  unfold cl
  by_cases c : v = 10
  · rw [if_pos c]; subst c; rw [enc_one (by omega) (by omega)]; rfl
  · rw [if_neg c, nl_none]
    · rfl
    · intro a ha e
      subst e
      obtain ⟨b, t, he, hb, ht⟩ := enc_shape v h
      rw [he] at ha
      rcases List.mem_cons.1 ha with hh | hh
      · by_cases h1 : v < 128
        · rw [enc_one (by unfold sc at h; omega) h1] at he
          injection he with he _
          have h0 : 0 ≤ v := by unfold sc at h; omega
          have e1 := bi_of (x := v) h0 (by omega)
          rw [he, ← hh] at e1
          exact c (by rw [← e1]; rfl)
        · have hd := enc_dec v h []
          rw [he, List.append_nil] at hd
          subst hh
          rw [dec.eq_def] at hd
          simp only at hd
          rw [if_pos (by decide)] at hd
          have := (Prod.mk.inj hd).2
          exact c (this.symm.trans rfl)
      · have := ht _ hh
        exact absurd this (by decide)
/-- Of a valid text the fourth count is how many line ends it has. -/
theorem cnt_nl (l : List UInt8) (h : valid l = true) : (cnt (points l)).2.2.2 = (nl l : Int) := by
  induction l using along with
  | h0 => rw [points_nil]; rfl
  | h1 a t h0 _ => rw [valid_none h0] at h; simp at h
  | h2 v r hv ih =>
    rw [valid_enc1 hv] at h
    rw [points_enc1 hv, cnt, nl_append]
    have := ih h
    have e := nl_enc hv
    simp only [add4, one4]
    omega
theorem get4_nl {s : ByteArray} (h : valid (L s) = true) : get4 (cntS s) 3 = (nl (L s) : Int) := cnt_nl _ h
/-- A place where a line begins, with so many ahead. -/
def IsStart (l : List UInt8) (n p : Nat) : Prop := p ≤ l.length ∧ nl (l.take p) = n ∧ (p = 0 ∨ ∃ q, l.take p = q ++ [10])
theorem IsStart.one {l : List UInt8} {n p q : Nat} (h1 : IsStart l n p) (h2 : IsStart l n q) : p = q := by
  have key : ∀ {p q : Nat}, IsStart l n p → IsStart l n q → ¬ p < q := by
    intro p q h1 h2 hpq
    obtain ⟨a1, a2, a3⟩ := h1
    obtain ⟨b1, b2, b3⟩ := h2
    rcases b3 with b3 | ⟨c, b3⟩
    · omega
    · have e : l.take p = c.take p := by
        have h5 := congrArg (List.take p) b3
        have hlen := congrArg List.length b3
        rw [List.length_take, List.length_append, List.length_singleton] at hlen
        rw [List.take_take, Nat.min_eq_left (by omega), List.take_append_of_le_length (by omega)] at h5
        exact h5
      have h6 : nl (l.take q) = nl c + 1 := by rw [b3, nl_append]; rfl
      have h7 : nl c = nl (c.take p) + nl (c.drop p) := by rw [← nl_append, List.take_append_drop]
      rw [← e] at h7
      omega
  have := key h1 h2
  have := key h2 h1
  omega
theorem stop_line (n : Int) : ∀ (us vs : List Int) (c : C4), n = get4 (add4 c (cnt us)) 3 → ∃ us' us'', us = us' ++ us'' ∧ stopAt 3 n (us ++ vs) c = add4 c (cnt us') ∧ n = get4 (add4 c (cnt us')) 3 ∧ (us' = [] ∨ ∃ u0, us' = u0 ++ [10]) := by
  intro us
  induction us with
  | nil =>
    intro vs c h
    refine ⟨[], [], rfl, ?_, h, .inl rfl⟩
    rw [cnt, add4_zero] at h ⊢
    rw [List.nil_append]
    cases vs with
    | nil => rfl
    | cons v vs => rw [stopAt, if_pos (by omega)]
  | cons v us ih =>
    intro vs c h
    by_cases a : n ≤ get4 c 3
    · refine ⟨[], v :: us, rfl, ?_, ?_, .inl rfl⟩
      · rw [List.cons_append, stopAt, if_pos a, cnt, add4_zero]
      · rw [get4_add] at h
        have q := (get4_cnt (v :: us) 3).1
        rw [cnt, add4_zero]; omega
    · obtain ⟨u1, u2, e1, e2, e3, e4⟩ := ih vs (add4 c (one4 v)) (by rw [h, cnt, add4_assoc])
      refine ⟨v :: u1, u2, by rw [e1]; rfl, ?_, ?_, .inr ?_⟩
      · rw [List.cons_append, stopAt, if_neg a, e2, cnt, add4_assoc]
      · rw [e3, cnt, add4_assoc]
      · rcases e4 with rfl | ⟨u0, rfl⟩
        · rw [cnt, add4_zero, get4_add] at e3
          have : v = 10 := by
            by_cases c : v = 10
            · exact c
            · have : get4 (one4 v) 3 = 0 := by unfold get4 one4 cl; simp [c]
              omega
          exact ⟨[], by rw [this]; rfl⟩
        · exact ⟨v :: u0, rfl⟩
/-- Some prefix has just so many lines. -/
theorem line_prefix (n : Int) : ∀ (us : List Int) (c : Int), c ≤ n → n ≤ c + (cnt us).2.2.2 → ∃ u1 u2, us = u1 ++ u2 ∧ n = c + (cnt u1).2.2.2 := by
  intro us
  induction us with
  | nil => intro c h1 h2; exact ⟨[], [], rfl, by simp only [cnt] at h2 ⊢; omega⟩
  | cons v us ih =>
    intro c h1 h2
    by_cases e : n = c
    · exact ⟨[], v :: us, rfl, by simp only [cnt]; omega⟩
    · have := cl_range v
      simp only [cnt, add4, one4] at h2
      obtain ⟨u1, u2, e1, e2⟩ := ih (c + cl v) (by omega) (by omega)
      exact ⟨v :: u1, u2, by rw [e1]; rfl, by simp only [cnt, add4, one4]; omega⟩
/-- To, of lines: where the line begins. -/
theorem toSpec_line {s : ByteArray} (hv : valid (L s) = true) (n : Nat) (h : n ≤ nl (L s)) : ∃ p : Nat, toSpec s 3 n = ((p : Int), 0) ∧ IsStart (L s) n p ∧ edge s p = true := by
  have hg := get4_nl hv
  obtain ⟨u1, u2, e1, e2⟩ := line_prefix n (points (L s)) 0 (by omega) (by have : get4 (cntS s) 3 = (cnt (points (L s))).2.2.2 := rfl; omega)
  rw [Int.zero_add] at e2
  obtain ⟨w1, w2, f1, f2, f3, f4⟩ := stop_line (n : Int) u1 u2 (0, 0, 0, 0) (by rw [zero_add4, e2]; rfl)
  rw [zero_add4] at f2 f3
  have hp : points (L s) = w1 ++ (w2 ++ u2) := by rw [e1, f1, List.append_assoc]
  obtain ⟨p, p1, p2, p3, p4, p5, p6⟩ := cut_points hv hp
  obtain ⟨q, hq, q1, q2, q3⟩ := edge_cut p3
  have hqp : q = p := by omega
  subst hqp
  refine ⟨q, ?_, ⟨by rw [L_len]; exact p2, ?_, ?_⟩, p3⟩
  · unfold toSpec
    rw [if_pos (by omega), if_neg (by omega), e1, f2]
    unfold toEnd
    rw [if_pos f3.symm, p1]
  · have := cnt_nl _ q2
    rw [ex_take] at p5
    rw [p5] at this
    have h3 : (cnt w1).2.2.2 = (n : Int) := f3.symm
    omega
  · rcases f4 with rfl | ⟨u0, rfl⟩
    · left
      have : (cnt ([] : List Int)).1 = 0 := rfl
      omega
    · right
      have hsc := points_sc (L s)
      rw [hp] at hsc
      have e5 : encs (points ((L s).take q)) = (L s).take q := clean_of_valid _ q2
      rw [ex_take] at p5
      rw [p5, encs_append, encs_cons, encs_nil, List.append_nil, enc_one (by omega) (by omega)] at e5
      exact ⟨encs u0, e5.symm⟩
end Go.Proofs.Ytomnggbideepeaa.AM
