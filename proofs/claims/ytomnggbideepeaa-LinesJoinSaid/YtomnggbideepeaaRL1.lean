/- The reference's counts on the small machine (one, Plus, Of), and law 4's whole. For texts of fewer than 2^28 bytes. -/
import Derived.Test.YtomnggbideepeaaQ10
import Derived.Test.YtomnggbideepeaaRW
namespace Go.Proofs.Ytomnggbideepeaa.AM
set_option linter.unusedSimpArgs false
set_option linter.unusedVariables false
open Go Go.Proofs.Ytomnggbideepeaa.U
variable {cp : List PV → Option Ret}
theorem enc_cu {v : Int} (h : sc v) : ((enc v).length = 4 ∧ 65536 ≤ v) ∨ ((enc v).length ≠ 4 ∧ ¬ 65536 ≤ v) := by
  by_cases a : v < 128
  · rw [enc_one (by unfold sc at h; omega) a]; right; simp; omega
  by_cases b : v < 2048
  · rw [enc_two (by omega) b]; right; simp; omega
  by_cases c : v < 65536
  · rw [enc_three (by omega) c h]; right; simp; omega
  · rw [enc_four (by omega) (by unfold sc at h; omega)]; left; simp; omega
theorem enc_one_one {v w : Int} (h : sc v) (k : sc w) (e : enc v = enc w) : v = w := by
  have h1 := enc_dec v h []
  have h2 := enc_dec w k []
  rw [e, h2] at h1
  exact (Prod.mk.inj h1).2.symm
theorem chS_ten {v : Int} (h : sc v) : chS v = ⟨#[10]⟩ ↔ v = 10 := by
  have e10 : chS 10 = ⟨#[10]⟩ := by
    unfold chS
    rw [enc_one (by omega) (by omega)]; rfl
  constructor
  · intro e
    have e1 : L (chS v) = enc v := L_mk _
    have e2 : L (chS 10) = enc 10 := L_mk _
    rw [← e10] at e
    have h5 : enc v = enc 10 := by rw [← e1, ← e2, e]
    exact enc_one_one h (by unfold sc; omega) h5
  · rintro rfl; exact e10
theorem ref2One (v : Int) (h : sc v) : Run (EX cp) 75 [.sc (.string (chS v))] = some (.val (one4 v).pv) := by
  have h3 : (chS v).size = (enc v).length := size_mk _
  have h4 := chS_ten h
  rw [run_fn _ A_ref2_one _ rfl rfl rfl]
  unfold C4.pv one4 cl cu
  generalize chS v = x at *
  rcases enc_cu h with ⟨h1, h2⟩ | ⟨h1, h2⟩
  · have h5 : ¬ v = 10 := by omega
    rw [if_pos h2, if_neg h5]
    rw [h1] at h3 ⊢
    have h6 : ¬ x = ⟨#[10]⟩ := fun e => h5 (h4.1 e)
    simp (disch := omega) [A_ref2_one, h3, h6, dec_yes, dec_no]
  · rw [if_neg h2]
    by_cases c : v = 10
    · have h6 : x = ⟨#[10]⟩ := h4.2 c
      rw [if_pos c]
      have h7 : x.size = 1 := by rw [h6]; rfl
      have h9 : (x = ⟨#[10]⟩) ↔ True := ⟨fun _ => trivial, fun _ => h6⟩
      rw [← h3, h7]
      clear h3 h4 h6
      simp (disch := omega) [A_ref2_one, h7, h9, dec_yes, dec_no]
    · have h6 : ¬ x = ⟨#[10]⟩ := fun e => c (h4.1 e)
      rw [if_neg c]
      have h8 : ¬ ((enc v).length : Int) = 4 := by omega
      generalize (enc v).length = n at *
      simp (disch := omega) [A_ref2_one, h3, h6, h1, h8, dec_yes, dec_no]
theorem ref2Plus (a b : C4) (ha : a.sm) (hb : b.sm) : Run (EX cp) 74 [a.pv, b.pv] = some (.val (add4 a b).pv) := by
  obtain ⟨a1, a2, a3, a4⟩ := ha
  obtain ⟨b1, b2, b3, b4⟩ := hb
  rw [run_fn _ A_ref2_Plus _ rfl rfl rfl]
  unfold C4.pv add4
  simp (disch := omega) [A_ref2_Plus, wrap_in]
set_option maxHeartbeats 1000000 in
theorem ref2Of_loop (us : List Int) (hu : ∀ v ∈ us, sc v) (hl : us.length < 274877906944) : ∀ (m i : Nat), m + i = us.length →
    Code (EX cp) L_ref2_Of_0 ⟨[(2, .mp 2 0 0), (3, .ms 3 0 us.length), (4, .mp 4 0 0), (5, .p (pi i))], [(2, .row 47 4 false [[pi 0, pi 0, pi 0, pi 0]]), (3, .row 9 1 false (strs (us.map chS))), (4, .row 47 4 false [[pi (cnt (us.take i)).1, pi (cnt (us.take i)).2.1, pi (cnt (us.take i)).2.2.1, pi (cnt (us.take i)).2.2.2]])]⟩ =
      some (.ex 0, ⟨[(2, .mp 2 0 0), (3, .ms 3 0 us.length), (4, .mp 4 0 0), (5, .p (pi us.length)), (12, .p (pb false))], [(2, .row 47 4 false [[pi 0, pi 0, pi 0, pi 0]]), (3, .row 9 1 false (strs (us.map chS))), (4, .row 47 4 false [[pi (cnt us).1, pi (cnt us).2.1, pi (cnt us).2.2.1, pi (cnt us).2.2.2]])]⟩) := by
  intro m
  induction m with
  | zero =>
    intro i hi
    have : i = us.length := by omega
    subst this
    rw [List.take_length, L_ref2_Of_0, k_loop]
    simp
  | succ m ih =>
    intro i hi
    have hlt : i < us.length := by omega
    have hg := strs_at (us.map chS) i (by simp; omega)
    rw [List.getElem_map] at hg
    have hsn := List.take_succ_eq_append_getElem hlt
    have hof := ref2One (cp := cp) us[i] (hu _ (List.getElem_mem _))
    have hr := cnt_range (us.take i)
    have htl : (us.take i).length = i := by rw [List.length_take]; omega
    have hpl := ref2Plus (cp := cp) (cnt (us.take i)) (one4 us[i]) (by unfold C4.sm; omega) (one4_sm _)
    rw [← cnt_snoc, ← hsn] at hpl
    unfold C4.pv at hof hpl
    have hml : (us.map chS).length = us.length := by simp
    rw [← ih (i+1) (by omega), L_ref2_Of_0, k_loop]
    generalize cnt (us.take (i + 1)) = q2 at *
    generalize cnt (us.take i) = q1 at *
    generalize one4 us[i] = q3 at *
    generalize chS us[i] = x at *
    simp (disch := omega) [hlt, hg, hof, hpl, hml, wrap_in, dec_yes, dec_no]
theorem ref2Of (s : ByteArray) (hs : s.size < 68719476736) : Run (EX cp) 44 [.sc (.string s)] = some (.val (cntS s).pv) := by
  have h1 := refPoints (cp := cp) s hs
  have hp := points_le (L s)
  rw [L_len] at hp
  unfold ptsS at h1
  rw [pts_clean] at h1
  have h2 := ref2Of_loop (cp := cp) (points (L s)) (points_sc (L s)) (by omega) (points (L s)).length 0 (by omega)
  rw [List.take_zero, show ((0 : Nat) : Int) = 0 from rfl, show cnt [] = (0, 0, 0, 0) from rfl] at h2
  have hml : ((points (L s)).map chS).length = (points (L s)).length := by simp
  have htk : (strs ((points (L s)).map chS)).take (points (L s)).length = strs ((points (L s)).map chS) := List.take_of_length_le (by simp)
  rw [run_fn _ A_ref2_Of _ rfl rfl rfl]
  unfold C4.pv cntS
  generalize cnt (points (L s)) = q at *
  generalize (points (L s)).map chS = r at *
  generalize (points (L s)).length = n at *
  simp (disch := omega) [A_ref2_Of, h1, h2, hml, htk]
theorem flat_take_succ (l : List ByteArray) (i : Nat) (h : i < l.length) : flat (l.take (i + 1)) = flat (l.take i) ++ L l[i] := by
  rw [List.take_succ_eq_append_getElem h, flat_append, flat_cons]; simp [flat]
set_option maxHeartbeats 1000000 in
theorem whole_loop (r : PV) (s : ByteArray) (l : List ByteArray) (hl : l.length < 1073741824) (ok : okP l) (hb : (flat l).length < 1073741824) : ∀ (m i : Nat) (a : ByteArray), m + i = l.length → L a = flat (l.take i) →
    ∃ b, L b = flat l ∧ Code (EX cp) L_law4_whole_0 ⟨[(0, .p r), (1, .p (.sc (.string s))), (5, .ms 5 0 l.length), (6, .p (.sc (.string a))), (7, .p (pi i))], [(5, .row 9 1 false (strs l))]⟩ =
      some (.ex 0, ⟨[(0, .p r), (1, .p (.sc (.string s))), (5, .ms 5 0 l.length), (6, .p (.sc (.string b))), (7, .p (pi l.length)), (13, .p (pb false))], [(5, .row 9 1 false (strs l))]⟩) := by
  intro m
  induction m with
  | zero =>
    intro i a hi ha
    have : i = l.length := by omega
    subst this
    rw [List.take_length] at ha
    refine ⟨a, ha, ?_⟩
    rw [L_law4_whole_0, k_loop]
    simp
  | succ m ih =>
    intro i a hi ha
    have hlt : i < l.length := by omega
    have hg := strs_at l i hlt
    have hx := ok.val _ (List.getElem_mem hlt)
    have hft := flat_take_succ l i hlt
    have hv := refValid (cp := cp) l[i] (by omega)
    rw [hx.1] at hv
    have hsz : a.size + l[i].size < 1073741824 := by
      have h1 := congrArg List.length hft
      have h2 := congrArg List.length ha
      have h3 : flat l = flat (l.take (i + 1)) ++ flat (l.drop (i + 1)) := by rw [← flat_append, List.take_append_drop]
      have h4 := congrArg List.length h3
      rw [List.length_append, L_len] at h1
      rw [List.length_append] at h4
      rw [L_len] at h2
      omega
    obtain ⟨b, hb1, hb2⟩ := ih (i + 1) (a ++ l[i]) (by omega) (by rw [L_append, ha, hft])
    refine ⟨b, hb1, ?_⟩
    rw [← hb2, L_law4_whole_0, k_loop]
    obtain ⟨_, hx1, hx2⟩ := hx
    generalize l[i] = x at *
    have hn0 : ¬ (x.size : Int) = 0 := by omega
    have hn1 : ¬ (x.size = 0) := by omega
    simp (disch := omega) [hlt, hg, hv, hn0, hn1, wrap_in, dec_yes, dec_no, if_yes]
/-- A rope is right by itself. -/
theorem law4Whole (hc : CpAll cp) {r : PV} {s : ByteArray} (h : Rp r s) : Run (EX cp) 37 [r, .sc (.string s)] = some (.val (pb true)) := by
  obtain ⟨P, P1, P2, d1⟩ := ropeChunks hc h
  have hs := h.size
  have hfl : (flat P).length = s.size := by rw [P2, L_len]
  have d2 := ropeString hc h
  have d3 := ropeLen (cp := cp) h
  have d4 := ropeCounts (cp := cp) h
  have d5 := ref2Of (cp := cp) s (by omega)
  have hle := P1.len
  obtain ⟨b, hb, lp⟩ := whole_loop (cp := cp) r s P (by omega) P1 (by omega) P.length 0 ⟨#[]⟩ (by omega) rfl
  have e : b = s := L_inj (by rw [hb, P2])
  subst e
  rw [show ((0 : Nat) : Int) = 0 from rfl] at lp
  have hf := P1.few
  rw [hfl] at hf
  have tq : (b.size : Int).tdiv 16 = ((b.size / 16 : Nat) : Int) := by rw [Int.tdiv_eq_ediv_of_nonneg (by omega)]; rfl
  have w6 : IntKind.wrap .i64 ((b.size / 16 : Nat) : Int) = ((b.size / 16 : Nat) : Int) := wrap_in _ (by omega) (by omega)
  have w7 : IntKind.wrap .i64 (((b.size / 16 : Nat) : Int) + 2) = ((b.size / 16 : Nat) : Int) + 2 := wrap_in _ (by omega) (by omega)
  generalize b.size / 16 = n6 at *
  have hle2 : (P.length : Int) ≤ (n6 : Int) + 2 := by omega
  have htk : (strs P).take P.length = strs P := List.take_of_length_le (by simp)
  unfold C4.pv at d4 d5
  generalize cntS b = q at *
  rw [run_fn _ A_law4_whole _ rfl rfl rfl]
  simp (disch := omega) [A_law4_whole, d1, d2, d3, d4, d5, lp, tq, w6, w7, hle2, htk, eqCells, dec_yes, dec_no]
end Go.Proofs.Ytomnggbideepeaa.AM
