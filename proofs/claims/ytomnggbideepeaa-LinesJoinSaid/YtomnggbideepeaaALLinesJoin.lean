/- The law LinesJoin on the small machine. No condition. -/
import Derived.Test.YtomnggbideepeaaRN5
namespace Go.Proofs.Ytomnggbideepeaa.linesJoin
set_option linter.unusedSimpArgs false
set_option linter.unusedVariables false
open Go Go.Proofs.Ytomnggbideepeaa.U Go.Proofs.Ytomnggbideepeaa.AM
def shapes : List PSh := [.one (.tx)]
/-- Where a line begins, At tells that line and nothing ahead in it. -/
theorem at_start {s : ByteArray} (hv : valid (L s) = true) (n p : Nat) (hs : IsStart (L s) n p) (he : edge s p = true) : atSpec s p = ((n : Int), 0, 0) := by
  obtain ⟨h1, h2, h3⟩ := hs
  rw [L_len] at h1
  have hf := fromSpec_edge (s := s) (k := 3) (by omega) p h1 he
  unfold atSpec
  rw [hf, if_neg (by simp), Int.toNat_natCast, h2]
  have hx : L (lineS (s.extract 0 p) n) = [] := by
    unfold lineS
    rw [L_mkS, ex_take]
    obtain ⟨pre, x, post, e1, e2, e3, e4, e5, e6⟩ := lns_at ((L s).take p) n (by omega)
    have hpost : post = [] := by
      rcases e6 with ⟨h, _⟩ | ⟨_, h⟩
      · exact h
      · omega
    subst hpost
    rw [List.append_nil] at e2
    rw [e1]
    show x = []
    rcases h3 with h3 | ⟨q, h3⟩
    · rw [h3, List.take_zero] at e2
      have := congrArg List.length e2
      rw [List.length_append] at this
      exact List.eq_nil_of_length_eq_zero (by simp at this; omega)
    · rcases List.eq_nil_or_concat x with h | ⟨y, b, h⟩
      · exact h
      · exfalso
        rw [h, h3, List.concat_eq_append, ← List.append_assoc] at e2
        have := List.append_inj_right' e2 rfl
        simp only [List.cons.injEq, and_true] at this
        rw [h, ← this, List.concat_eq_append, nl_append] at e4
        have : nl [10] = 1 := rfl
        omega
  rw [hx, points_nil]; rfl
/-- The line end, put behind; told of any text in its place, for then the kernel counts no length. -/
theorem tailz (r x y : PV) (v : SV) (t2 t3 z : ByteArray) (h : (t2.size : Int) + (z.size : Int) ≤ 9223372036854775807) (hc : t2 ++ z = t3) :
    AM.Code EB (ACode.reg [⟨some 68, .mv (t 5), none⟩, ⟨some 69, .s2 (.bin .add) (t 68) (.c (.p (.sc (.string z)))), none⟩, ⟨some 5, .mv (t 69), none⟩] [3, 5, 6, 7]) ⟨[(3, .p r), (5, .p (.sc (.string t2))), (6, .p x), (7, .p y), (67, v)], []⟩ = some (.nor, ⟨[(3, .p r), (5, .p (.sc (.string t3))), (6, .p x), (7, .p y)], []⟩) := by
  simp [if_pos h, hc]
theorem tail10 (r x y : PV) (v : SV) (t2 t3 : ByteArray) (h : (t2.size : Int) + ((⟨#[10]⟩ : ByteArray).size : Int) ≤ 9223372036854775807) (hc : t2 ++ ⟨#[10]⟩ = t3) :
    AM.Code EB (ACode.reg [⟨some 68, .mv (t 5), none⟩, ⟨some 69, .s2 (.bin .add) (t 68) (S #[10]), none⟩, ⟨some 5, .mv (t 69), none⟩] [3, 5, 6, 7]) ⟨[(3, .p r), (5, .p (.sc (.string t2))), (6, .p x), (7, .p y), (67, v)], []⟩ = some (.nor, ⟨[(3, .p r), (5, .p (.sc (.string t3))), (6, .p x), (7, .p y)], []⟩) := tailz r x y v t2 t3 _ h hc
set_option maxHeartbeats 8000000 in
theorem step1 (r : PV) (t0 t1 t2 t3 : ByteArray) (i w p : Nat) (d1 : Run EB 47 [r, pi i] = some (.val (.tu [.sc (.string t1), pi 0]))) (d2 : Run EB 49 [r, pi p] = some (.val (.tu [pi i, pi 0, pi 0]))) (hz0 : t0.size = p) (a1 : (i : Int) < (w : Int) + 1) (a2 : (i : Int) < (w : Int)) (w1 : IntKind.wrap .i64 ((i : Int) + 1) = (i : Int) + 1) (w2 : IntKind.wrap .i64 ((w : Int) + 1 - 1) = (w : Int)) (w3 : IntKind.wrap .i64 (w : Int) = (w : Int))
    (hs1 : (p : Int) + (t1.size : Int) ≤ 9223372036854775807) (hcat : t0 ++ t1 = t2) (hs2 : (t2.size : Int) + ((⟨#[10]⟩ : ByteArray).size : Int) ≤ 9223372036854775807) (hcat2 : t2 ++ ⟨#[10]⟩ = t3) :
    AM.Code EB L_law6_LinesJoin_0 ⟨[(3, .p r), (5, .p (.sc (.string t0))), (6, .p (pi ((w : Int) + 1))), (7, .p (pi i))], []⟩ = AM.Code EB L_law6_LinesJoin_0 ⟨[(3, .p r), (5, .p (.sc (.string t3))), (6, .p (pi ((w : Int) + 1))), (7, .p (pi ((i : Int) + 1)))], []⟩ := by
  have ht := fun x y v => tail10 r x y v t2 t3 hs2 hcat2
  clear hs2 hcat2
  conv => lhs; rw [L_law6_LinesJoin_0, k_loop]
  simp (disch := omega) [d1, d2, hz0, a1, a2, w1, w2, w3, if_pos hs1, hcat, ↓ht, dec_yes, dec_no]
  rfl
set_option maxHeartbeats 8000000 in
theorem loop (r : PV) (s : ByteArray) (hr : Rp r s) (hs : s.size < 1000000) (w : Nat) (hw : w = nl (L s)) : ∀ (k i p : Nat), i + k = w + 1 → (i ≤ w → IsStart (L s) i p ∧ edge s p = true) → (i = w + 1 → p = s.size) → p ≤ s.size →
    AM.Code EB L_law6_LinesJoin_0 ⟨[(3, .p r), (5, .p (.sc (.string (s.extract 0 p)))), (6, .p (pi ((w : Int) + 1))), (7, .p (pi i))], []⟩ =
      some (.ex 0, ⟨[(3, .p r), (5, .p (.sc (.string s))), (6, .p (pi ((w : Int) + 1))), (7, .p (pi ((w : Int) + 1))), (31, .p (pb false))], []⟩) := by
  have hle := nl_le (L s)
  rw [L_len, ← hw] at hle
  intro k
  induction k with
  | zero =>
    intro i p hi _ hp hps
    have : i = w + 1 := by omega
    rw [hp this, ex_whole]
    have e : (i : Int) = (w : Int) + 1 := by omega
    rw [e, L_law6_LinesJoin_0, k_loop]
    simp (disch := omega) [dec_yes, dec_no]
  | succ k ih =>
    intro i p hi h1 _ hps
    obtain ⟨hst, he⟩ := h1 (by omega)
    have d1 := linesLine (cp := cpB) cpB_all hr (by omega) i (by omega)
    have hz0 : (s.extract 0 p).size = p := ex_take_size s p hps
    have d2 := linesAt (cp := cpB) hr (by omega) p
    rw [at_start hr.val i p hst he] at d2
    obtain ⟨p', x, _, f1, f2, f3, f4, f5, f6, f7, f8⟩ := line_place hr.val i (by omega)
    have hpp : p' = p := f3.one hst
    subst hpp
    rw [f5] at d1
    have hx : L (s.extract 0 p' ++ s.extract p' (p' + x)) = (L s).take (p' + x) := by
      rw [L_append, ex_take, L_extract, Nat.add_sub_cancel_left, List.take_add]
    have hcat : s.extract 0 p' ++ s.extract p' (p' + x) = s.extract 0 (p' + x) := L_inj (by rw [hx, ex_take])
    have hzx : (s.extract p' (p' + x)).size = x := by rw [← L_len, L_extract, List.length_take, List.length_drop, L_len]; omega
    have hs1 : ((s.extract 0 p').size : Int) + ((s.extract p' (p' + x)).size : Int) ≤ 9223372036854775807 := by omega
    have hs1' : (p' : Int) + (x : Int) ≤ 9223372036854775807 := by omega
    have w1 : IntKind.wrap .i64 ((i : Int) + 1) = (i : Int) + 1 := wrap_in _ (by omega) (by omega)
    have w2 : IntKind.wrap .i64 ((w : Int) + 1 - 1) = (w : Int) := by rw [wrap_in _ (by omega) (by omega)]; omega
    have w3 : IntKind.wrap .i64 (w : Int) = (w : Int) := wrap_in _ (by omega) (by omega)
    have a1 : (i : Int) < (w : Int) + 1 := by omega
    rw [show EX cpB = EB from rfl] at *
    by_cases c : i < w
    · obtain ⟨g1, g2, g3⟩ := f8 (by omega)
      have hnl : L (s.extract 0 (p' + x) ++ ⟨#[10]⟩) = (L s).take (p' + x + 1) := by
        rw [L_append, ex_take, List.take_add_one, g3]; rfl
      have hcat2 : s.extract 0 (p' + x) ++ ⟨#[10]⟩ = s.extract 0 (p' + x + 1) := L_inj (by rw [hnl, ex_take])
      have hzz : (s.extract 0 (p' + x)).size = p' + x := ex_take_size s _ (by omega)
      obtain ⟨p3, k1, k2, k3⟩ := toSpec_line hr.val (i + 1) (by omega)
      rw [show (((i + 1 : Nat) : Int)) = (i : Int) + 1 from rfl, g1] at k1
      have hp3 : p3 = p' + x + 1 := by
        have := (Prod.mk.inj k1).1
        omega
      subst hp3
      have ih' := ih (i + 1) (p' + x + 1) (by omega) (fun _ => ⟨k2, k3⟩) (fun h => by omega) (by omega)
      rw [show ((i + 1 : Nat) : Int) = (i : Int) + 1 from rfl] at ih'
      rw [← ih']
      have a2 : (i : Int) < (w : Int) := by omega
      have hs2 : ((s.extract 0 (p' + x)).size : Int) + ((⟨#[10]⟩ : ByteArray).size : Int) ≤ 9223372036854775807 := by rw [hzz]; have : (⟨#[10]⟩ : ByteArray).size = 1 := rfl; omega
      have hs2' : ((p' + x : Nat) : Int) + 1 ≤ 9223372036854775807 := by omega
      have hs3 : (p' : Int) + ((s.extract p' (p' + x)).size : Int) ≤ 9223372036854775807 := by omega
      exact step1 r _ _ _ _ i w p' d1 d2 hz0 a1 a2 w1 w2 w3 hs3 hcat hs2 hcat2
    · have hz := f7 (by omega)
      have ih' := ih (i + 1) s.size (by omega) (fun h => by omega) (fun _ => rfl) (Nat.le_refl _)
      rw [ex_whole] at ih'
      rw [hz, ex_whole] at hcat
      rw [show ((i + 1 : Nat) : Int) = (i : Int) + 1 from rfl] at ih'
      rw [← ih']
      have a2 : ¬ (i : Int) < (w : Int) := by omega
      rw [hz] at d1 hs1 hzx
      generalize s.extract 0 p' = t0 at *
      generalize s.extract p' s.size = t1 at *
      conv => lhs; rw [L_law6_LinesJoin_0, k_loop]
      have hs3 : (p' : Int) + (t1.size : Int) ≤ 9223372036854775807 := by omega
      simp (disch := omega) [d1, d2, hz0, a1, a2, w1, w2, w3, if_pos hs3, hcat, dec_yes, dec_no]
      rfl
set_option maxHeartbeats 4000000 in
theorem law (xs : List PV) (h : WTAs shapes xs) : Run EB 15 xs = some (.val (.sc (.bool true))) := by
  cases h with
  | cons h1 h =>
  cases h
  obtain ⟨s, rfl, hs⟩ := wt_str h1
  clear h1
  have kn := known6
  rw [show Run EB 15 [.sc (.string s)] = _ from run_fn _ A_law6_LinesJoin _ rfl rfl rfl, ← show EB = EX cpB from rfl]
  by_cases c0 : s.size ≤ 300
  case neg => simp (disch := omega) [A_law6_LinesJoin, kn, c0, dec_yes, dec_no]
  have zs := clean_small' s c0
  rcases ropeNew (cp := cpB) s (by omega) with ⟨h2, _⟩ | ⟨_, r, hr, d1⟩
  · omega
  generalize cleanS s = u at *
  have e0 : edge u ((0 : Nat) : Int) = true := cut_of_edge (s := u) 0 (by omega) (by rw [List.take_zero]; exact valid_nil) (by rw [List.drop_zero]; exact hr.val)
  have lp := loop r u hr (by omega) (nl (L u)) rfl (nl (L u) + 1) 0 0 (by omega) (fun _ => ⟨⟨Nat.zero_le _, rfl, .inl rfl⟩, e0⟩) (fun h => by omega) (Nat.zero_le _)
  have ez : u.extract 0 0 = ⟨#[]⟩ := empty_eq (by rw [ex_take_size u 0 (Nat.zero_le _)])
  rw [ez, show ((0 : Nat) : Int) = 0 from rfl] at lp
  have d2 := ropeString (cp := cpB) cpB_all hr
  have d3 := linesCount (cp := cpB) hr (by omega)
  have d4 := linesLineNo (cp := cpB) hr (by omega) ((nl (L u) : Int) + 1) (by omega)
  rw [show EX cpB = EB from rfl] at *
  generalize nl (L u) = w at *
  simp (disch := omega) [A_law6_LinesJoin, kn, c0, d1, d2, d3, d4, lp, dec_yes, dec_no]
end Go.Proofs.Ytomnggbideepeaa.linesJoin
