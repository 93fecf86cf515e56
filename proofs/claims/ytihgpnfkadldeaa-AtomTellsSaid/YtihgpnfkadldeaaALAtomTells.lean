/- The law AtomTells on the small machine. No condition. -/
import Derived.Test.YtihgpnfkadldeaaQ10
namespace Go.Proofs.Ytihgpnfkadldeaa.AM.ATells
set_option linter.unusedSimpArgs false
set_option linter.unusedVariables false
open Go Go.Proofs.Ytihgpnfkadldeaa.U Go.Proofs.Ytihgpnfkadldeaa.AM
variable {cp : List PV → Option Ret}
/-- The loop's state. -/
def stL (l : List At) (rev : Int) (u : List Int) (x3 : Int) (x4 : ByteArray) (x5 x6 : Int) (A : List (List PV)) (ns : List Int) (i : Int) (r : List (Nat × SV)) : St :=
  ⟨[(0, .p (.sl 5 (ats l))), (1, .p (pi rev)), (2, .p (.sl 1 (ints u))), (3, .p (pi x3)), (4, .p (.sc (.string x4))), (5, .p (pi x5)), (6, .p (pi x6)), (15, .ms 15 0 l.length), (16, .ms 16 0 (l.length + 1)), (17, .ms 17 0 (l.length + 1)), (18, .p (pi i))] ++ r,
    [(15, .row 31 5 false A), (16, .row 3 1 false (ints ns)), (17, .row 3 1 false (ints ns))]⟩
set_option maxHeartbeats 2000000 in
theorem tells_loop (l : List At) (rev : Int) (u : List Int) (x3 : Int) (x4 : ByteArray) (x5 x6 : Int) (A : List (List PV)) (ns : List Int) (hn : ns.length = l.length + 1) (hl : l.length ≤ 60) (hu : u.length ≤ 40) (hc : ∀ a ∈ l, a.cuts.length ≤ 9223372036854775807) : ∀ (m i : Nat), m + i = l.length + 1 →
    Code (EX cp) L_law17_AtomTells_0 (stL l rev u x3 x4 x5 x6 A ns i []) = some (.ex 0, stL l rev u x3 x4 x5 x6 A ns ((l.length : Int) + 1) [(55, .p (pb false))]) := by
  intro m
  induction m with
  | zero =>
    intro i hi
    have : i = l.length + 1 := by omega
    subst this
    rw [L_law17_AtomTells_0, k_loop]
    simp [stL]
  | succ m ih =>
    intro i hi
    have hlt : i < l.length + 1 := by omega
    have hg := ints_at ns i (by omega)
    generalize ns[i]'(by omega) = v at *
    rw [← ih (i + 1) (by omega), L_law17_AtomTells_0, k_loop]
    by_cases h1 : i < l.length
    · have ha := ats_at l i h1
      have c1 := visible (cp := cp) l[i] rev u (by omega) (hc _ (List.getElem_mem h1))
      have c2 := refVisible (cp := cp) l[i] rev u (by omega) (hc _ (List.getElem_mem h1))
      have hpl : l[i].pv.length = 5 := rfl
      have hpt : l[i].pv.take 5 = l[i].pv := rfl
      generalize l[i].pv = ap at *
      generalize l[i].vis rev u = b at *
      simp (disch := omega) [stL, hlt, hg, h1, ha, c1, c2, hpl, hpt, dec_yes, dec_no, wrap_in, -getElem?_pos]
    · simp (disch := omega) [stL, hlt, hg, h1, dec_yes, dec_no, wrap_in, -getElem?_pos]
end Go.Proofs.Ytihgpnfkadldeaa.AM.ATells
namespace Go.Proofs.Ytihgpnfkadldeaa.atomTells
set_option linter.unusedSimpArgs false
set_option linter.unusedVariables false
open Go Go.Proofs.Ytihgpnfkadldeaa.U Go.Proofs.Ytihgpnfkadldeaa.AM Go.Proofs.Ytihgpnfkadldeaa.AM.ATells
def shapes : List PSh := [.one (.sl [.tx, .i .i64, .i .i64, .i .i64, .sl [.i .i64, .i .i64]]), .one (.i .i64), .one (.sl [.i .i64]), .one (.i .i64), .one (.tx), .one (.i .i64), .one (.i .i64)]
set_option maxHeartbeats 8000000 in
set_option maxRecDepth 10000 in
theorem law (xs : List PV) (h : WTAs shapes xs) : Run EW 3 xs = some (.val (.sc (.bool true))) := by
  cases h with
  | cons h1 h => cases h with
  | cons h2 h => cases h with
  | cons h3 h => cases h with
  | cons h4 h => cases h with
  | cons h5 h => cases h with
  | cons h6 h => cases h with
  | cons h7 h =>
  cases h
  obtain ⟨l, rfl, hl, hsm⟩ := wt_ats h1
  obtain ⟨rev, rfl, _⟩ := wt_int h2
  obtain ⟨u, rfl, hu⟩ := wt_i64s h3
  obtain ⟨x3, rfl, _⟩ := wt_int h4
  obtain ⟨x4, rfl, hx4⟩ := wt_str h5
  obtain ⟨x5, rfl, _⟩ := wt_int h6
  obtain ⟨x6, rfl, _⟩ := wt_int h7
  clear h1 h2 h3 h4 h5 h6 h7
  have hk : Run EW 15 [] = some (.val (pb true)) := known17
  have hf : Run EW 16 [.sl 5 (ats l)] = some (.val (pb (few17 l))) := refFew l hl
  rw [show Run EW 3 [.sl 5 (ats l), pi rev, .sl 1 (ints u), pi x3, .sc (.string x4), pi x5, pi x6] = _ from run_fn _ A_law17_AtomTells _ rfl rfl rfl, ← show EW = EX cpF from rfl]
  by_cases cf : few17 l = true
  case neg =>
    rw [Bool.not_eq_true] at cf
    rw [cf] at hf
    simp (disch := omega) [A_law17_AtomTells, hk, hf, dec_yes, dec_no]
  rw [cf] at hf
  by_cases cu : u.length ≤ 40
  case neg => simp (disch := omega) [A_law17_AtomTells, hk, hf, dec_yes, dec_no]
  by_cases ct : x4.size ≤ 60
  case neg => simp (disch := omega) [A_law17_AtomTells, hk, hf, cu, dec_yes, dec_no]
  unfold few17 at cf
  rw [Bool.and_eq_true, List.all_eq_true, decide_eq_true_eq] at cf
  obtain ⟨cfa, cfl⟩ := cf
  have hfa : ∀ a ∈ l, a.cuts.length ≤ 20 ∧ a.txt.size ≤ 20 := fun a ha => by
    have := cfa a ha
    unfold fewA at this
    rw [Bool.and_eq_true, decide_eq_true_eq, decide_eq_true_eq] at this
    exact this
  have hsum : ∀ z : List At, (∀ a ∈ z, a.txt.size ≤ 20) → sumT z ≤ 20 * z.length := by
    intro z
    induction z with
    | nil => intro _; simp [sumT]
    | cons a z ih =>
      intro h
      rw [sumT_cons, List.length_cons]
      have h1 := h a (by simp)
      have h2 := ih fun b hb => h b (by simp [hb])
      omega
  have hfit : Fit l := ⟨by omega, by have := hsum l fun a ha => (hfa a ha).2; omega, fun a ha => by have := (hfa a ha).1; omega⟩
  have d1 : Run EW 17 [.sl 5 (ats l)] = _ := refCopy l (by omega) fun a ha => by have := (hfa a ha).1; omega
  have d2 : Run EW 18 _ = _ := atomPlaces (cp := cpF) l rev u hfit (by omega)
  have d3 : Run EW 19 _ = _ := refPlaces (cp := cpF) l rev u hfit (by omega)
  have d4 : Run EW 22 _ = _ := atomCopy (cp := cpF) l (by omega) fun a ha => by have := (hfa a ha).1; omega
  have d5 : Run EW 23 _ = _ := atomPut (cp := cpF) l x3 x4 rev x5 x6 (by omega) (fun a ha => by have := (hfa a ha).1; omega) (by omega)
  have d6 : Run EW 30 _ = _ := refPut l x3 x4 rev x5 x6 (by omega) (fun a ha => by have := (hfa a ha).1; omega) (by omega)
  have d7 : Run EW 24 _ = _ := atomCut (cp := cpF) l x3 rev x5 (by omega) fun a ha => by have := (hfa a ha).1; omega
  have d8 : Run EW 31 _ = _ := refCut l x3 rev x5 (by omega) fun a ha => by have := (hfa a ha).1; omega
  have d9 : Run EW 25 _ = _ := atomIs (cp := cpF) l (by omega) fun a ha => by have := hfa a ha; omega
  have d10 : Run EW 26 _ = _ := refIs (cp := cpF) l (by omega) fun a ha => by have := hfa a ha; omega
  have d11 : Run EW 27 _ = _ := atomText (cp := cpF) l rev u hfit (by omega)
  have d12 : Run EW 28 _ = _ := refText (cp := cpF) l rev u hfit (by omega)
  have hcl : ∀ a ∈ l, a.cuts.length ≤ 9223372036854775807 := fun a ha => by have := (hfa a ha).1; omega
  have s1 : Run EW 29 [.sl 5 (ats l), .sl 5 (ats l)] = some (.val (pb true)) := by
    have := refSame (cp := cpF) l l (by omega) ⟨hcl, hcl⟩
    rw [decide_eq_true rfl] at this; exact this
  have hpm : ∀ a ∈ putL l (clampN x3 l.length) (L x4) rev x5 x6, a.cuts.length ≤ 9223372036854775807 := by
    intro a ha
    unfold putL at ha
    simp only [List.mem_append] at ha
    rcases ha with (ha | ha) | ha
    · exact hcl a (List.mem_of_mem_take ha)
    · obtain ⟨v, _, rfl⟩ := List.mem_map.1 ha
      simp
    · exact hcl a (List.mem_of_mem_drop ha)
  have hpb : (putL l (clampN x3 l.length) (L x4) rev x5 x6).length ≤ 9223372036854775807 := by
    unfold putL
    have h1 := points_le (L x4)
    rw [L_len] at h1
    have h2 := newAts_len (L x4) rev x5 x6
    have h3 : (l.take (clampN x3 l.length)).length ≤ l.length := by rw [List.length_take]; omega
    have h4 : (l.drop (clampN x3 l.length)).length ≤ l.length := by rw [List.length_drop]; omega
    simp only [List.length_append]
    omega
  have s2 : Run EW 29 [.sl 5 (ats (putL l (clampN x3 l.length) (L x4) rev x5 x6)), .sl 5 (ats (putL l (clampN x3 l.length) (L x4) rev x5 x6))] = some (.val (pb true)) := by
    have := refSame (cp := cpF) _ _ hpb ⟨hpm, hpm⟩
    rw [decide_eq_true rfl] at this; exact this
  have hcm : ∀ a ∈ cutL l x3 rev x5, a.cuts.length ≤ 9223372036854775807 := by
    intro a ha
    by_cases hin : 0 ≤ x3 ∧ x3 < l.length
    · obtain ⟨n, rfl⟩ : ∃ n : Nat, x3 = n := ⟨x3.toNat, by omega⟩
      rw [cutL_in l n rev x5 (by omega)] at ha
      rcases List.mem_or_eq_of_mem_set ha with ha | rfl
      · exact hcl a ha
      · have := (hfa l[n] (List.getElem_mem (by omega))).1
        simp [cutAt]; omega
    · rw [cutL_out l x3 rev x5 hin] at ha
      exact hcl a ha
  have hcb : (cutL l x3 rev x5).length = l.length := cutL_length l x3 rev x5
  have s3 : Run EW 29 [.sl 5 (ats (cutL l x3 rev x5)), .sl 5 (ats (cutL l x3 rev x5))] = some (.val (pb true)) := by
    have := refSame (cp := cpF) _ _ (by omega) ⟨hcm, hcm⟩
    rw [decide_eq_true rfl] at this; exact this
  have t1 : (ats l).take l.length = ats l := ats_take l
  have t2 := ats_take (putL l (clampN x3 l.length) (L x4) rev x5 x6)
  have t3 := ats_take (cutL l x3 rev x5)
  rw [hcb] at t3
  have hpln := places_len rev u l
  have hlp := tells_loop (cp := cpF) l rev u x3 x4 x5 x6 (ats l) (places rev u l) hpln cfl cu hcl (l.length + 1) 0 (by omega)
  rw [show EX cpF = EW from rfl, show ((0 : Nat) : Int) = 0 from rfl] at hlp
  unfold stL at hlp
  simp only [List.cons_append, List.nil_append] at hlp
  generalize isAts l = bi at *
  generalize txtS rev u l = tx at *
  generalize places rev u l = ns at *
  generalize hpp : putL l (clampN x3 l.length) (L x4) rev x5 x6 = pp at *
  generalize cutL l x3 rev x5 = qq at *
  unfold putR at d6
  by_cases hp0 : pp = []
  · subst hp0
    rw [if_pos rfl] at d6
    have s2' : Run EW 29 [.sl 5 [], .sl 5 []] = some (.val (pb true)) := s2
    rw [show ats [] = [] from rfl] at d5
    simp (disch := omega) [A_law17_AtomTells, hk, hf, cu, ct, hlp, hpln, hcb, d1, d2, d3, d4, d5, d6, d7, d8, d9, d10, d11, d12, s1, s2', s3, t1, t3, dec_yes, dec_no]
  · rw [if_neg hp0] at d6
    simp (disch := omega) [A_law17_AtomTells, hk, hf, cu, ct, hlp, hpln, hcb, d1, d2, d3, d4, d5, d6, d7, d8, d9, d10, d11, d12, s1, s2, s3, t1, t2, t3, dec_yes, dec_no]
end Go.Proofs.Ytihgpnfkadldeaa.atomTells
