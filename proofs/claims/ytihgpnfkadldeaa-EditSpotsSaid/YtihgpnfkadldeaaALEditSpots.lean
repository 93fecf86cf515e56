/- The law EditSpots on the small machine. No condition. -/
import Derived.Test.YtihgpnfkadldeaaAR37
import Derived.Test.YtihgpnfkadldeaaAT1
namespace Go.Proofs.Ytihgpnfkadldeaa.editSpots
set_option linter.unusedSimpArgs false
set_option linter.unusedVariables false
open Go Go.Proofs.Ytihgpnfkadldeaa.U Go.Proofs.Ytihgpnfkadldeaa.AM
def shapes : List PSh := [.one (.sl [.tx, .i .i64, .i .i64, .i .i64, .sl [.i .i64, .i .i64]]), .one (.i .i64), .one (.sl [.i .i64]), .one (.sl [.i .i64, .i .i64, .tx]), .one (.i .i64), .one (.i .i64), .one (.i .i64)]
set_option maxHeartbeats 8000000 in
set_option maxRecDepth 10000 in
theorem law (xs : List PV) (h : WTAs shapes xs) : Run EW 9 xs = some (.val (.sc (.bool true))) := by
  cases h with
  | cons h1 h => cases h with
  | cons h2 h => cases h with
  | cons h3 h => cases h with
  | cons h4 h => cases h with
  | cons h5 h => cases h with
  | cons h6 h => cases h with
  | cons h7 h =>
  cases h
  obtain ⟨l, rfl, hl, hsm⟩ := wt_ats h1
  obtain ⟨rev, rfl, _⟩ := wt_int h2
  obtain ⟨u, rfl, hu⟩ := wt_i64s h3
  obtain ⟨c, rfl, hcl, hw⟩ := wt_chs h4
  obtain ⟨now, rfl, _⟩ := wt_int h5
  obtain ⟨gr, rfl, _⟩ := wt_int h6
  obtain ⟨rk, rfl, _⟩ := wt_int h7
  clear h1 h2 h3 h4 h5 h6 h7
  have hk : Run EW 34 [] = some (.val (pb true)) := known18
  have hf : Run EW 35 [.sl 5 (ats l), .sl 3 (chs c)] = some (.val (pb (few18 l c))) := refFew18 l c hl hcl
  rw [show Run EW 9 [.sl 5 (ats l), pi rev, .sl 1 (ints u), .sl 3 (chs c), pi now, pi gr, pi rk] = _ from run_fn _ A_law18_EditSpots _ rfl rfl rfl, ← show EW = EX cpF from rfl]
  by_cases cf : few18 l c = true
  case neg =>
    rw [Bool.not_eq_true] at cf
    rw [cf] at hf
    simp (disch := omega) [A_law18_EditSpots, hk, hf, dec_yes, dec_no]
  rw [cf] at hf
  by_cases cu : u.length ≤ 20
  case neg => simp (disch := omega) [A_law18_EditSpots, hk, hf, dec_yes, dec_no]
  unfold few18 at cf
  simp only [Bool.and_eq_true, List.all_eq_true, decide_eq_true_eq] at cf
  obtain ⟨⟨⟨cfa, cfc⟩, cfl⟩, cfn⟩ := cf
  have hfa : ∀ a ∈ l, a.cuts.length ≤ 20 ∧ a.txt.size ≤ 20 := fun a ha => by
    have := cfa a ha
    unfold fewA at this
    rw [Bool.and_eq_true, decide_eq_true_eq, decide_eq_true_eq] at this
    exact this
  have hfc : ∀ x ∈ c, x.s.size ≤ 60 := fun x hx => by
    have := cfc x hx
    unfold fewC at this
    rw [decide_eq_true_eq] at this
    exact this
  have hfit : Fit2 l := fit2_of l (by omega) (fun a ha => by have := (hfa a ha).2; omega) fun a ha => by have := (hfa a ha).1; omega
  have hcs : ∀ x ∈ c, x.s.size < 1099511627776 := fun x hx => by have := hfc x hx; omega
  have hcs2 : ∀ x ∈ c, x.s.size < 1000000 := fun x hx => by have := hfc x hx; omega
  have hlc : ∀ a ∈ l, a.cuts.length < 1000000 := fun a ha => by have := (hfa a ha).1; omega
  have d0 : Run EW 26 _ = _ := refIs (cp := cpF) l (by omega) fun a ha => by have := hfa a ha; omega
  have d1 : Run EW 28 _ = _ := refText (cp := cpF) l rev u hfit.fit (by omega)
  have d2 : Run EW 37 _ = _ := refCheck (cp := cpF) (txtS rev u l) c (hfit.txt rev u) hcl hcs
  have d3 : Run EW 40 _ = _ := editSpots (cp := cpF) l rev u c rk hfit (by omega) hcl hcs
  have d4 : Run EW 41 _ = _ := editCuts (cp := cpF) l rev u c hfit (by omega) hcl hcs
  have d5 : Run EW 17 [.sl 5 (ats l)] = _ := refCopy l (by omega) fun a ha => by have := (hfa a ha).1; omega
  have d6 : Run EW 42 _ = _ := editUpon (cp := cpF) l rev u c now gr rk hfit (by omega) hlc (by omega) hcl hcs2
  have d7 : Run EW 44 _ = _ := refSpots (cp := cpF) l rev u c rk hfit (by omega) hcl hcs
  have d8 : Run EW 45 _ = _ := refCuts (cp := cpF) l rev u c hfit (by omega) hcl hcs
  obtain ⟨r, d9, hr⟩ := refUpon l rev u c now gr rk hfit (by omega) hlc (by omega) hcl hcs2
  rw [show EX cpF = EW from rfl] at d9
  by_cases ci : isAts l = true
  case neg =>
    rw [Bool.not_eq_true] at ci
    rw [ci] at d0
    simp (disch := omega) [A_law18_EditSpots, hk, hf, cu, d0, dec_yes, dec_no]
  rw [ci] at d0
  have hsn : (spotsF l rev u c rk).length ≤ 8 := by
    unfold spotsF
    split
    · rename_i c0
      rw [List.length_map]; exact (chk_good c0).len
    · simp
  have hcn : (cutsF l rev u c).length ≤ l.length := by
    unfold cutsF
    split
    · exact cutsI_len rev u c l _ 0
    · simp
  have s1 : Run EW 43 [.sl 1 (ints (spotsF l rev u c rk)), .sl 1 (ints (spotsF l rev u c rk))] = _ := same18 (cp := cpF) _ (by omega)
  have s2 : Run EW 43 [.sl 1 (ints (cutsF l rev u c)), .sl 1 (ints (cutsF l rev u c))] = _ := same18 (cp := cpF) _ (by omega)
  obtain ⟨b1, b2⟩ := uponF_bd l rev u c now gr rk 21 60 (fun a ha => by have := (hfa a ha).1; omega) hfc
  have hcl2 : ∀ a ∈ l, a.cuts.length ≤ 9223372036854775807 := fun a ha => by have := (hfa a ha).1; omega
  have hcl3 : ∀ a ∈ uponF l rev u c now gr rk, a.cuts.length ≤ 9223372036854775807 := fun a ha => by have := b2 a ha; omega
  have s3 : Run EW 29 [.sl 5 (ats l), .sl 5 (ats l)] = some (.val (pb true)) := by
    have := refSame (cp := cpF) l l hl ⟨hcl2, hcl2⟩
    rw [decide_eq_true rfl] at this; exact this
  have s4 : Run EW 29 [.sl 5 (ats (uponF l rev u c now gr rk)), .sl 5 (ats (uponF l rev u c now gr rk))] = some (.val (pb true)) := by
    have := refSame (cp := cpF) _ _ (by omega) ⟨hcl3, hcl3⟩
    rw [decide_eq_true rfl] at this; exact this
  by_cases c0 : chk (txtS rev u l) c = 0
  case neg =>
    have e1 : spotsF l rev u c rk = [] := by unfold spotsF; rw [if_neg c0]
    have e2 : cutsF l rev u c = [] := by unfold cutsF; rw [if_neg c0]
    rw [e1] at d3
    rw [e2] at d4
    simp (disch := omega) [A_law18_EditSpots, hk, hf, cu, d0, d1, d2, d3, d4, c0, dec_yes, dec_no]
  rw [c0] at d2
  have t1 := ats_take l
  have t2 := ats_take (uponF l rev u c now gr rk)
  have t3 : (ints (spotsF l rev u c rk)).take (spotsF l rev u c rk).length = ints (spotsF l rev u c rk) := List.take_of_length_le (by simp [ints])
  have t4 : (ints (cutsF l rev u c)).take (cutsF l rev u c).length = ints (cutsF l rev u c) := List.take_of_length_le (by simp [ints])
  generalize uponF l rev u c now gr rk = o at *
  generalize spotsF l rev u c rk = sp at *
  generalize cutsF l rev u c = ct at *
  rcases hr with rfl | rfl
  · simp (disch := omega) [A_law18_EditSpots, hk, hf, cu, d0, d1, d2, d3, d4, d5, d6, d7, d8, d9, s1, s2, s3, s4, t1, t2, t3, t4, dec_yes, dec_no]
  · simp (disch := omega) [A_law18_EditSpots, hk, hf, cu, d0, d1, d2, d3, d4, d5, d6, d7, d8, d9, s1, s2, s3, s4, t1, t2, t3, t4, dec_yes, dec_no]
end Go.Proofs.Ytihgpnfkadldeaa.editSpots
