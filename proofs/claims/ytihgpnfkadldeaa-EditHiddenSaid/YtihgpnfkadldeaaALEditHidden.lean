/- The law EditHidden on the small machine. No condition. -/
import Derived.Test.YtihgpnfkadldeaaAR40
import Derived.Test.YtihgpnfkadldeaaAT1
namespace Go.Proofs.Ytihgpnfkadldeaa.AM.EHidden
set_option linter.unusedSimpArgs false
set_option linter.unusedVariables false
open Go Go.Proofs.Ytihgpnfkadldeaa.U Go.Proofs.Ytihgpnfkadldeaa.AM
theorem points_pos (l : List UInt8) (h : l ≠ []) : 1 ≤ (points l).length := by
  rcases parts l with rfl | ⟨a, t, rfl, h1⟩ | ⟨v, r, hv, rfl, _⟩
  · exact absurd rfl h
  · rw [points_none h1]; simp
  · rw [points_enc1 hv]; simp
/-- What the law knows of the atoms: those ahead, the one that is cut, those behind. -/
structure HInv (l1 : List At) (b : At) (l2 : List At) : Prop where
  ok1 : okTx l1
  ok2 : okTx l2
  at1 : ∀ a ∈ l1, a.rv = 1 ∧ a.gr = 0 ∧ a.rk = 0 ∧ a.cuts = []
  at2 : ∀ a ∈ l2, a.rv = 1 ∧ a.gr = 0 ∧ a.rk = 0 ∧ a.cuts = []
  mid : b.rv = 1 ∧ b.gr = 0 ∧ b.rk = 0 ∧ b.cuts = [(2, 1)] ∧ b.txt.size ≤ 4
theorem vis1 (rev : Int) (a : At) (h : a.rv = 1 ∧ a.gr = 0 ∧ a.rk = 0 ∧ a.cuts = []) (h1 : 1 ≤ rev) : a.vis rev [] = true := by
  obtain ⟨q1, q2, q3, q4⟩ := h
  unfold At.vis
  rw [q1, q2, q4, decide_eq_true h1]
  rfl
theorem vis0 (rev : Int) (b : At) (h : b.rv = 1 ∧ b.gr = 0 ∧ b.rk = 0 ∧ b.cuts = [(2, 1)] ∧ b.txt.size ≤ 4) (h1 : 2 ≤ rev) : b.vis rev [] = false := by
  obtain ⟨q1, q2, q3, q4, _⟩ := h
  unfold At.vis
  rw [q1, q2, q4]
  simp [holdsF]; omega
section
variable {l1 l2 : List At} {b : At} (H : HInv l1 b l2)
include H
theorem HInv.txt (rev : Int) (h : 2 ≤ rev) : txtF rev [] (l1 ++ b :: l2) = tl l1 ++ tl l2 := by
  rw [txtF_append, txtF, vis0 rev b H.mid h, if_neg (by simp), List.nil_append, tl_all rev [] l1 fun a ha => vis1 rev a (H.at1 a ha) (by omega), tl_all rev [] l2 fun a ha => vis1 rev a (H.at2 a ha) (by omega)]
theorem HInv.val : valid (tl l1) = true ∧ valid (tl l2) = true := by
  constructor
  · obtain ⟨vs, h1, h2⟩ := H.ok1.vs
    unfold tl; rw [h2, encs_chS]; exact valid_encs' _ h1
  · obtain ⟨vs, h1, h2⟩ := H.ok2.vs
    unfold tl; rw [h2, encs_chS]; exact valid_encs' _ h1
theorem HInv.spot (rk : Int) : spotF 2 [] rk (l1 ++ b :: l2) (places 2 [] (l1 ++ b :: l2)) ((tl l1).length : Nat) = l1.length := by
  rw [spotF_split 2 [] rk l1 (b :: l2) (fun a ha => ⟨vis1 2 a (H.at1 a ha) (by omega), (H.ok1.size a ha).1⟩) _ (by rw [tl_all 2 [] l1 fun a ha => vis1 2 a (H.at1 a ha) (by omega)]), skN_zero]
  · omega
  · intro a ha
    rcases List.mem_cons.1 ha with rfl | ha
    · rw [H.mid.1]; omega
    · rw [(H.at2 a ha).1]; omega
end
end Go.Proofs.Ytihgpnfkadldeaa.AM.EHidden
namespace Go.Proofs.Ytihgpnfkadldeaa.editHidden
set_option linter.unusedSimpArgs false
set_option linter.unusedVariables false
open Go Go.Proofs.Ytihgpnfkadldeaa.U Go.Proofs.Ytihgpnfkadldeaa.AM Go.Proofs.Ytihgpnfkadldeaa.AM.EHidden
def shapes : List PSh := [.one (.tx), .one (.i .u8), .one (.tx)]
set_option maxHeartbeats 8000000 in
set_option maxRecDepth 10000 in
theorem law (xs : List PV) (h : WTAs shapes xs) : Run EW 14 xs = some (.val (.sc (.bool true))) := by
  cases h with
  | cons h1 h => cases h with
  | cons h2 h => cases h with
  | cons h3 h =>
  cases h
  obtain ⟨s, rfl, hs⟩ := wt_str h1
  obtain ⟨w, rfl⟩ := wt_byte h2
  obtain ⟨x, rfl, hx⟩ := wt_str h3
  clear h1 h2 h3
  have hk : Run EW 34 [] = some (.val (pb true)) := known18
  rw [show Run EW 14 [.sc (.string s), .sc (.int .u8 w.toNat), .sc (.string x)] = _ from run_fn _ A_law18_EditHidden _ rfl rfl rfl, ← show EW = EX cpF from rfl]
  by_cases c0 : 2 ≤ s.size
  case neg => simp (disch := omega) [A_law18_EditHidden, hk, c0, dec_yes, dec_no]
  by_cases c1 : s.size ≤ 40
  case neg => simp (disch := omega) [A_law18_EditHidden, hk, c0, c1, dec_yes, dec_no]
  by_cases c2 : x.size ≤ 20
  case neg => simp (disch := omega) [A_law18_EditHidden, hk, c0, c1, c2, dec_yes, dec_no]
  have d1 : Run EW 47 _ = _ := refValid (cp := cpF) x (by omega)
  by_cases c3 : valid (L x) = true
  case neg =>
    rw [Bool.not_eq_true] at c3
    rw [c3] at d1
    simp (disch := omega) [A_law18_EditHidden, hk, c0, c1, c2, d1, dec_yes, dec_no]
  rw [c3] at d1
  -- the atoms
  have d2 : Run EW 30 [.sl 5 [], pi 0, .sc (.string s), pi 1, pi 0, pi 0] = _ := refPut [] 0 s 1 0 0 (by simp) (by simp) (by omega)
  have hpn := points_pos (L s) (fun e => by have := L_len s; rw [e] at this; simp at this; omega)
  have hpl := points_le (L s)
  rw [L_len] at hpl
  have hnl := newAts_len (L s) 1 0 0
  have hok := newAts_ok (L s) 1 0 0
  have hat : ∀ a ∈ newAts (L s) 1 0 0, a.rv = 1 ∧ a.gr = 0 ∧ a.rk = 0 ∧ a.cuts = [] := fun a ha => by
    obtain ⟨q1, q2, q3, q4, _⟩ := newAts_cuts ha
    exact ⟨q2, q3, q4, q1⟩
  rw [putL_nil] at d2
  generalize newAts (L s) 1 0 0 = l at *
  have hlne : l ≠ [] := fun e => by rw [e] at hnl; simp at hnl; omega
  rw [show putR l = Ret.own 31 5 (ats l) from if_neg hlne] at d2
  have hl0 : 1 ≤ l.length := by omega
  have hl1 : l.length ≤ 40 := by omega
  clear hnl hpn hpl
  obtain ⟨k, hkd⟩ : ∃ k, k = w.toNat % l.length := ⟨_, rfl⟩
  have hkl : k < l.length := by rw [hkd]; exact Nat.mod_lt _ hl0
  have htm : (w.toNat : Int).tmod (l.length : Int) = (k : Int) := by rw [tmod_nat, ← hkd]
  have hbb := w.toNat_lt
  have hw : IntKind.wrap .i64 (w.toNat : Int) = (w.toNat : Int) := wrap_in _ (by omega) (by omega)
  have hl0' : ¬ l = [] := hlne
  have d3 : Run EW 31 [.sl 5 (ats l), pi k, pi 2, pi 1] = _ := refCut l k 2 1 (by omega) fun a ha => by rw [(hat a ha).2.2.2]; simp
  rw [cutL_in l k 2 1 hkl] at d3
  -- in three parts
  obtain ⟨l1, b, l2, hsp, hk1, H⟩ : ∃ l1 b l2, l.set k (cutAt l[k] 2 1) = l1 ++ b :: l2 ∧ l1.length = k ∧ HInv l1 b l2 := by
    refine ⟨l.take k, cutAt l[k] 2 1, l.drop (k + 1), ?_, by rw [List.length_take]; omega, ?_, ?_, ?_, ?_, ?_⟩
    · rw [List.set_eq_take_append_cons_drop, if_pos hkl]
    · exact fun a ha => hok a (List.mem_of_mem_take ha)
    · exact fun a ha => hok a (List.mem_of_mem_drop ha)
    · exact fun a ha => hat a (List.mem_of_mem_take ha)
    · exact fun a ha => hat a (List.mem_of_mem_drop ha)
    · obtain ⟨q1, q2, q3, q4⟩ := hat l[k] (List.getElem_mem hkl)
      have := (hok.size l[k] (List.getElem_mem hkl)).2
      refine ⟨q1, q2, q3, ?_, this⟩
      show l[k].cuts ++ [(2, 1)] = _
      rw [q4]; rfl
  have hll : (l1 ++ b :: l2).length = l.length := by rw [← hsp, List.length_set]
  rw [hsp] at d3
  have hsz : ∀ a ∈ l1 ++ b :: l2, a.txt.size ≤ 4 := by
    intro a ha
    rcases List.mem_append.1 ha with ha | ha
    · exact (H.ok1.size a ha).2
    · rcases List.mem_cons.1 ha with rfl | ha
      · exact H.mid.2.2.2.2
      · exact (H.ok2.size a ha).2
  have hcz : ∀ a ∈ l1 ++ b :: l2, a.cuts.length ≤ 1 := by
    intro a ha
    rcases List.mem_append.1 ha with ha | ha
    · rw [(H.at1 a ha).2.2.2]; simp
    · rcases List.mem_cons.1 ha with rfl | ha
      · rw [H.mid.2.2.2.1]; simp
      · rw [(H.at2 a ha).2.2.2]; simp
  have hfit : Fit2 (l1 ++ b :: l2) := fit2_of _ (by omega) (fun a ha => by have := hsz a ha; omega) fun a ha => by have := hcz a ha; omega
  have hlc : ∀ a ∈ l1 ++ b :: l2, a.cuts.length < 1000000 := fun a ha => by have := hcz a ha; omega
  -- the text
  have hT := H.txt 2 (Int.le_refl _)
  have htL : L (txtS 2 [] (l1 ++ b :: l2)) = tl l1 ++ tl l2 := by rw [← hT]; exact L_mk _
  have hts : (txtS 2 [] (l1 ++ b :: l2)).size = (tl l1).length + (tl l2).length := by rw [← L_len, htL, List.length_append]
  have hts2 : (tl l1).length + (tl l2).length ≤ 200 := by
    have h1 := txtF_len 2 [] (l1 ++ b :: l2)
    rw [hT, List.length_append] at h1
    have h2 := sumT_le 4 (l1 ++ b :: l2) hsz
    omega
  obtain ⟨v1, v2⟩ := H.val
  have hval : valid (L (txtS 2 [] (l1 ++ b :: l2))) = true := by rw [htL, valid_append v1]; exact v2
  have d4 : Run EW 28 [.sl 5 (ats (l1 ++ b :: l2)), pi 2, .sl 1 []] = _ := refText (cp := cpF) _ 2 [] hfit.fit (by simp)
  have d5 : Run EW 19 [.sl 5 (ats (l1 ++ b :: l2)), pi 2, .sl 1 []] = _ := refPlaces (cp := cpF) _ 2 [] hfit.fit (by simp)
  have hpk : (ints (places 2 [] (l1 ++ b :: l2)))[k]? = some [pi ((tl l1).length : Nat)] := by
    unfold ints
    rw [List.getElem?_map, places_at 2 [] _ k (by omega), List.take_left' hk1, tl_all 2 [] l1 fun a ha => vis1 2 a (H.at1 a ha) (by omega)]
    rfl
  have hpll := places_len 2 [] (l1 ++ b :: l2)
  rw [hll] at hpll
  -- the changes
  have he1 : edge (txtS 2 [] (l1 ++ b :: l2)) ((tl l1).length : Nat) = true := by
    refine edge_of (by omega) (by rw [hts]; omega) ?_ ?_
    · rw [htL, Int.toNat_natCast, List.take_left]; exact v1
    · rw [htL, Int.toNat_natCast, List.drop_left]; exact v2
  have he0 : edge (txtS 2 [] (l1 ++ b :: l2)) 0 = true := edge_of (by omega) (by rw [hts]; omega) valid_nil hval
  have he2 : edge (txtS 2 [] (l1 ++ b :: l2)) ((txtS 2 [] (l1 ++ b :: l2)).size : Nat) = true := by
    refine edge_of (by omega) (Int.le_refl _) ?_ ?_
    · rw [Int.toNat_natCast, ← L_len, List.take_length]; exact hval
    · rw [Int.toNat_natCast, ← L_len, List.drop_length]; exact valid_nil
  have k1 : chk (txtS 2 [] (l1 ++ b :: l2)) [⟨((tl l1).length : Nat), ((tl l1).length : Nat), x⟩] = 0 := chk_one _ _ hval (by show (0 : Int) ≤ ((tl l1).length : Nat); omega) (Int.le_refl _) (by rw [hts]; show ((tl l1).length : Int) ≤ _; omega) he1 he1 c3 (by omega) (by show x.size ≤ 10000; omega)
  have k2 : chk (txtS 2 [] (l1 ++ b :: l2)) [⟨0, ((txtS 2 [] (l1 ++ b :: l2)).size : Nat), ⟨#[]⟩⟩] = 0 := chk_one _ _ hval (Int.le_refl _) (by show (0 : Int) ≤ ((txtS 2 [] (l1 ++ b :: l2)).size : Nat); omega) (Int.le_refl _) he0 he2 valid_nil (by omega) (Nat.zero_le _)
  have hspot := H.spot 0
  rw [hk1] at hspot
  have d6 : Run EW 40 [.sl 5 (ats (l1 ++ b :: l2)), pi 2, .sl 1 [], .sl 3 [[pi ((tl l1).length : Nat), pi ((tl l1).length : Nat), .sc (.string x)]], pi 0] = _ := editSpots (cp := cpF) _ 2 [] [⟨((tl l1).length : Nat), ((tl l1).length : Nat), x⟩] 0 hfit (by simp) (by simp) (by simp; omega)
  rw [spots_one _ _ _ _ _ _ k1 k hspot] at d6
  have d7 : Run EW 41 [.sl 5 (ats (l1 ++ b :: l2)), pi 2, .sl 1 [], .sl 3 [[pi 0, pi ((txtS 2 [] (l1 ++ b :: l2)).size : Nat), pS #[]]]] = _ := editCuts (cp := cpF) _ 2 [] [⟨0, ((txtS 2 [] (l1 ++ b :: l2)).size : Nat), ⟨#[]⟩⟩] hfit (by simp) (by simp) (fun y hy => by rw [List.mem_singleton] at hy; subst hy; exact Nat.lt_of_le_of_lt (show (⟨#[]⟩ : ByteArray).size ≤ 0 from Nat.le_refl _) (by omega))
  have d8 : Run EW 42 [.sl 5 (ats (l1 ++ b :: l2)), pi 2, .sl 1 [], .sl 3 [[pi ((tl l1).length : Nat), pi ((tl l1).length : Nat), .sc (.string x)]], pi 3, pi 2, pi 0] = _ := editUpon (cp := cpF) _ 2 [] [⟨((tl l1).length : Nat), ((tl l1).length : Nat), x⟩] 3 2 0 hfit (by omega) hlc (by simp) (by simp) (by simp; omega)
  rw [upon_one _ _ _ _ _ _ _ _ k1 k hspot, List.take_left' hk1, List.drop_left' hk1] at d8
  -- what is cut
  obtain ⟨y, hy, hyl, hyn⟩ : ∃ y, cutsF (l1 ++ b :: l2) 2 [] [⟨0, ((txtS 2 [] (l1 ++ b :: l2)).size : Nat), ⟨#[]⟩⟩] = y ∧ (y.length : Int) = (l.length : Int) - 1 ∧ (y.any fun z => z == (k : Int)) = false := by
    refine ⟨_, rfl, ?_, ?_⟩
    · unfold cutsF
      rw [if_pos k2, cutsI_count _ _ _ _ _ _ (by rw [hpll, hll]; omega)]
      · have e1 : l1.countP (fun a => a.vis 2 []) = l1.length := List.countP_eq_length.2 fun a ha => vis1 2 a (H.at1 a ha) (by omega)
        have e2 : l2.countP (fun a => a.vis 2 []) = l2.length := List.countP_eq_length.2 fun a ha => vis1 2 a (H.at2 a ha) (by omega)
        rw [List.countP_append, List.countP_cons, e1, e2, vis0 2 b H.mid (Int.le_refl _), if_neg (by simp)]
        rw [List.length_append, List.length_cons] at hll
        omega
      · intro j a n h1 h2 h3
        have hj : j < (l1 ++ b :: l2).length := by
          rcases Nat.lt_or_ge j (l1 ++ b :: l2).length with h | h
          · exact h
          · rw [List.getElem?_eq_none h] at h1; simp at h1
        rw [places_at 2 [] _ j (by omega)] at h2
        have hn := Option.some.inj h2
        have e1 : txtF 2 [] (l1 ++ b :: l2) = txtF 2 [] ((l1 ++ b :: l2).take j) ++ txtF 2 [] ((l1 ++ b :: l2).drop j) := by rw [← txtF_append, List.take_append_drop]
        rw [List.drop_eq_getElem_cons hj, txtF] at e1
        rw [List.getElem?_eq_getElem hj] at h1
        rw [Option.some.inj h1, h3, if_pos rfl] at e1
        have e2 := congrArg List.length e1
        rw [hT] at e2
        simp only [List.length_append, L_len] at e2
        have e3 : 1 ≤ a.txt.size := by
          have hm := List.getElem_mem hj
          rw [Option.some.inj h1] at hm
          rcases List.mem_append.1 hm with ha | ha
          · exact (H.ok1.size a ha).1
          · rcases List.mem_cons.1 ha with rfl | ha
            · rw [vis0 2 a H.mid (Int.le_refl _)] at h3; simp at h3
            · exact (H.ok2.size a ha).1
        rw [List.any_cons, List.any_nil, Bool.or_false]
        unfold hitB
        rw [Bool.and_eq_true, decide_eq_true_eq, decide_eq_true_eq, hts]
        show (0 : Int) ≤ n ∧ n < (((tl l1).length + (tl l2).length : Nat) : Int)
        omega
    · rw [List.any_eq_false]
      intro z hz hzk
      have hzk' : z = (k : Int) := by simpa using hzk
      subst hzk'
      unfold cutsF at hz
      rw [if_pos k2] at hz
      obtain ⟨a, h1, h2⟩ := cutsI_vis _ _ _ _ _ _ _ hz
      rw [Int.sub_zero, Int.toNat_natCast, ← hk1, List.getElem?_append_right (Nat.le_refl _), Nat.sub_self] at h1
      have : b = a := Option.some.inj h1
      rw [← this, vis0 2 b H.mid (Int.le_refl _)] at h2
      simp at h2
  rw [hy] at d7
  have d9 : Run EW 49 [.sl 1 (ints y), pi k] = _ := refIn (cp := cpF) y k (by omega)
  rw [hyn] at d9
  -- what comes of it
  have hnew : ∀ a ∈ newAts (L x) 3 2 0, a.cuts = [] ∧ a.rv = 3 ∧ a.gr = 2 ∧ a.txt.size ≤ 4 := fun a ha => by
    obtain ⟨q1, q2, q3, q4, q5, q6⟩ := newAts_cuts ha
    exact ⟨q1, q2, q3, q6⟩
  have hxl := points_le (L x)
  rw [L_len] at hxl
  have hnxl := newAts_len (L x) 3 2 0
  have hto : txtF 3 [] (l1 ++ newAts (L x) 3 2 0 ++ b :: l2) = tl l1 ++ L x ++ tl l2 := by
    rw [txtF_append, txtF_append, txtF, vis0 3 b H.mid (by omega), if_neg (by simp), List.nil_append, tl_all 3 [] l1 fun a ha => vis1 3 a (H.at1 a ha) (by omega), tl_all 3 [] l2 fun a ha => vis1 3 a (H.at2 a ha) (by omega), tl_all 3 [] _ fun a ha => by
      obtain ⟨q1, q2, q3, _⟩ := hnew a ha
      unfold At.vis
      rw [q1, q2, q3]; rfl]
    rw [tl_new, clean_of_valid _ c3]
  have hfo : Fit2 (l1 ++ newAts (L x) 3 2 0 ++ b :: l2) := fit2_of _ (by rw [List.length_append, List.length_append] at *; omega) (fun a ha => by
    rcases List.mem_append.1 ha with ha | ha
    · rcases List.mem_append.1 ha with ha | ha
      · have := hsz a (by simp [ha]); omega
      · have := (hnew a ha).2.2.2; omega
    · have := hsz a (by rcases List.mem_cons.1 ha with rfl | ha <;> simp [*]); omega) (fun a ha => by
    rcases List.mem_append.1 ha with ha | ha
    · rcases List.mem_append.1 ha with ha | ha
      · have := hcz a (by simp [ha]); omega
      · rw [(hnew a ha).1]; simp
    · have := hcz a (by rcases List.mem_cons.1 ha with rfl | ha <;> simp [*]); omega)
  have d10 : Run EW 28 [.sl 5 (ats (l1 ++ newAts (L x) 3 2 0 ++ b :: l2)), pi 3, .sl 1 []] = _ := refText (cp := cpF) _ 3 [] hfo.fit (by simp)
  have ht3 : txtS 3 [] (l1 ++ newAts (L x) 3 2 0 ++ b :: l2) = (txtS 2 [] (l1 ++ b :: l2)).extract 0 (tl l1).length ++ x ++ (txtS 2 [] (l1 ++ b :: l2)).extract (tl l1).length (txtS 2 [] (l1 ++ b :: l2)).size := by
    refine L_inj ?_
    rw [L_append, L_append, L_extract, L_extract, htL, hts]
    have e1 : L (txtS 3 [] (l1 ++ newAts (L x) 3 2 0 ++ b :: l2)) = _ := (L_mk _).trans hto
    rw [e1, List.drop_zero, Nat.sub_zero, List.take_left, List.drop_left, List.take_of_length_le (by omega)]
  rw [ht3] at d10
  have hol : (l1 ++ newAts (L x) 3 2 0 ++ b :: l2).length ≤ 100 := by simp only [List.length_append, List.length_cons] at *; omega
  have tk1 := ats_take l
  have tk2 := ats_take (l1 ++ b :: l2)
  have tk3 := ats_take (l1 ++ newAts (L x) 3 2 0 ++ b :: l2)
  have tky : (ints y).take y.length = ints y := List.take_of_length_le (by simp [ints])
  have hyl2 : y.length + 1 = l.length := by omega
  have hpz : ((tl l1).length : Int) ≤ (txtS 2 [] (l1 ++ b :: l2)).size := by omega
  have hpz2 : (tl l1).length ≤ (txtS 2 [] (l1 ++ b :: l2)).size := by omega
  have hz2 : (txtS 2 [] (l1 ++ b :: l2)).size ≤ 200 := by omega
  have hcat1 : ((txtS 2 [] (l1 ++ b :: l2)).extract 0 (tl l1).length).size + x.size ≤ 1000 := by
    rw [← L_len, L_extract, List.length_take, List.length_drop, L_len]; omega
  have hcat2 : ((txtS 2 [] (l1 ++ b :: l2)).extract (tl l1).length (txtS 2 [] (l1 ++ b :: l2)).size).size ≤ 1000 := by
    rw [← L_len, L_extract, List.length_take, List.length_drop, L_len]; omega
  have hdl : (dats (l1 ++ b :: l2)).length = l.length := by rw [dats_len, hll]
  rw [hll] at tk2
  have hpl2 : (places 2 [] (l1 ++ b :: l2)).length = l.length + 1 := hpll
  have hkp : k < l.length + 1 := by omega
  generalize l1 ++ newAts (L x) 3 2 0 ++ b :: l2 = o at *
  generalize places 2 [] (l1 ++ b :: l2) = ps at *
  generalize txtS 2 [] (l1 ++ b :: l2) = t at *
  generalize l1 ++ b :: l2 = l' at *
  generalize (tl l1).length = p at *
  have hky : (ints [(k : Int)])[0]? = some [pi k] := rfl
  have hyi : IntKind.wrap .i64 ((l.length : Int) - 1) = (y.length : Int) := by rw [wrap_in _ (by omega) (by omega)]; omega
  simp (disch := omega) [A_law18_EditHidden, hk, c0, c1, c2, d1, d2, d3, d4, d5, d6, d7, d8, d9, d10, htm, hw, hl0', hkl, hpk, hpl2, hkp, tk1, tk2, tk3, tky, hky, hdl, hll, hpz2, hyi, if_yes, dec_yes, dec_no]
end Go.Proofs.Ytihgpnfkadldeaa.editHidden
