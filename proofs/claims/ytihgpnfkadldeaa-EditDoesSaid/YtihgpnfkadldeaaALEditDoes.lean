/- The law EditDoes on the small machine. No condition. -/
import Derived.Test.YtihgpnfkadldeaaAR39
import Derived.Test.YtihgpnfkadldeaaAT1
namespace Go.Proofs.Ytihgpnfkadldeaa.AM.EDoes
set_option linter.unusedSimpArgs false
set_option linter.unusedVariables false
open Go Go.Proofs.Ytihgpnfkadldeaa.U Go.Proofs.Ytihgpnfkadldeaa.AM
/-- The atoms of the law behind i texts. -/
structure DInv (l : List At) (i : Nat) (t : ByteArray) : Prop where
  ok : okTx l
  txt : tl l = L t
  val : valid (L t) = true
  at_ : ∀ a ∈ l, 1 ≤ a.rv ∧ a.rv ≤ i ∧ 0 ≤ a.gr ∧ a.gr < i ∧ a.cuts = []
  len : l.length ≤ 30 * i
  siz : t.size ≤ 30 * i
theorem DInv.zero : DInv [] 0 ⟨#[]⟩ := ⟨by simp [okTx], rfl, valid_nil, by simp, by simp, Nat.le_refl _⟩
theorem DInv.put {l : List At} {i : Nat} {t : ByteArray} (h : DInv l i t) (x : ByteArray) (hx : x.size ≤ 30) (hv : valid (L x) = true) : DInv (l ++ newAts (L x) ((i : Int) + 1) i 0) (i + 1) (t ++ x) := by
  have hL : L (t ++ x) = L t ++ L x := by unfold L; simp [ByteArray.data_append]
  have hpl := points_le (L x)
  rw [L_len] at hpl
  refine ⟨?_, ?_, ?_, ?_, ?_, ?_⟩
  · intro a ha
    rcases List.mem_append.1 ha with ha | ha
    · exact h.ok a ha
    · exact newAts_ok _ _ _ _ a ha
  · rw [tl_append, h.txt, tl_new, hL, clean_of_valid _ hv]
  · rw [hL, valid_append h.val]; exact hv
  · intro a ha
    rcases List.mem_append.1 ha with ha | ha
    · obtain ⟨q1, q2, q3, q4, q5⟩ := h.at_ a ha
      exact ⟨q1, by omega, q3, by omega, q5⟩
    · obtain ⟨q1, q2, q3, q4, _⟩ := newAts_cuts ha
      rw [q1, q2, q3]
      exact ⟨by omega, by omega, by omega, by omega, rfl⟩
  · have := h.len; rw [List.length_append, newAts_len]; omega
  · have := h.siz; rw [ByteArray.size_append]; omega
/-- Slot 7: the row of atoms, or the empty one. -/
def s7 (r : Bool) (o : List At) : SV := if r then .ms 7 0 o.length else .p (.sl 5 [])
def h7 (r : Bool) (o : List At) : List (Nat × Ob) := if r then [(7, .row 31 5 false (ats o))] else []
set_option maxHeartbeats 4000000 in
theorem does_loop (ts : List ByteArray) (htl : ts.length ≤ 6) (C : List (List PV)) (rk : Int) : ∀ (m i : Nat) (l : List At) (r : Bool) (t : ByteArray), m + i = ts.length → DInv l i t → (r = false → l = []) →
    (Code (EX cpF) L_law18_EditDoes_0 ⟨[(0, .p (.sl 1 (strs ts))), (1, .p (.sl 3 C)), (2, .p (pi rk)), (7, s7 r l), (8, .p (.sc (.string t))), (9, .p (pi i))], h7 r l⟩ = some (.ret, ⟨[(6, .p (pb true))], []⟩)) ∨
    ∃ l' r' t', DInv l' ts.length t' ∧ (r' = false → l' = []) ∧
      Code (EX cpF) L_law18_EditDoes_0 ⟨[(0, .p (.sl 1 (strs ts))), (1, .p (.sl 3 C)), (2, .p (pi rk)), (7, s7 r l), (8, .p (.sc (.string t))), (9, .p (pi i))], h7 r l⟩ = some (.ex 0, ⟨[(0, .p (.sl 1 (strs ts))), (1, .p (.sl 3 C)), (2, .p (pi rk)), (7, s7 r' l'), (8, .p (.sc (.string t'))), (9, .p (pi ts.length)), (38, .p (pb false))], h7 r' l'⟩) := by
  intro m
  induction m with
  | zero =>
    intro i l r t hi hI hr
    have : i = ts.length := by omega
    subst this
    refine Or.inr ⟨l, r, t, hI, hr, ?_⟩
    rw [L_law18_EditDoes_0, k_loop]
    cases r <;> simp [s7, h7]
  | succ m ih =>
    intro i l r t hi hI hr
    have h1 : i < ts.length := by omega
    have hg := strs_at ts i h1
    generalize ts[i] = x at *
    by_cases c0 : x.size ≤ 30
    case neg =>
      left
      rw [L_law18_EditDoes_0, k_loop]
      cases r <;> simp (disch := omega) [s7, h7, h1, hg, c0, dec_yes, dec_no, wrap_in, if_yes, -getElem?_pos]
    have d1 := refValid (cp := cpF) x (by omega)
    by_cases c1 : valid (L x) = true
    case neg =>
      left
      rw [Bool.not_eq_true] at c1
      rw [c1] at d1
      rw [L_law18_EditDoes_0, k_loop]
      cases r <;> simp (disch := omega) [s7, h7, h1, hg, c0, d1, dec_yes, dec_no, wrap_in, if_yes, -getElem?_pos]
    rw [c1] at d1
    have hlen := hI.len
    have hsiz := hI.siz
    have hcu : ∀ a ∈ l, a.cuts.length < 68719476736 := fun a ha => by rw [(hI.at_ a ha).2.2.2.2]; simp
    have d2 := refPut l (l.length : Nat) x ((i : Int) + 1) i 0 (by omega) hcu (by omega)
    have hcl : clampN (l.length : Nat) l.length = l.length := by unfold clampN; omega
    have hpt : putL l l.length (L x) ((i : Int) + 1) i 0 = l ++ newAts (L x) ((i : Int) + 1) i 0 := by unfold putL; rw [List.take_length, List.drop_length, List.append_nil]
    rw [hcl, hpt] at d2
    have hI' := hI.put x c0 c1
    have ht := ats_take l
    have hcat : (t.size : Int) + x.size ≤ 9223372036854775807 := by omega
    have e1 : ((i + 1 : Nat) : Int) = (i : Int) + 1 := rfl
    generalize l ++ newAts (L x) ((i : Int) + 1) i 0 = l2 at *
    by_cases c2 : l2 = []
    · have ih' := ih (i + 1) l2 false (t ++ x) (by omega) hI' (fun _ => c2)
      subst c2
      rw [show putR [] = Ret.val (.sl 5 []) from rfl] at d2
      have step : Code (EX cpF) L_law18_EditDoes_0 ⟨[(0, .p (.sl 1 (strs ts))), (1, .p (.sl 3 C)), (2, .p (pi rk)), (7, s7 r l), (8, .p (.sc (.string t))), (9, .p (pi i))], h7 r l⟩ = Code (EX cpF) L_law18_EditDoes_0 ⟨[(0, .p (.sl 1 (strs ts))), (1, .p (.sl 3 C)), (2, .p (pi rk)), (7, s7 false []), (8, .p (.sc (.string (t ++ x)))), (9, .p (pi ((i + 1 : Nat) : Int)))], h7 false []⟩ := by
        conv => lhs; rw [L_law18_EditDoes_0, k_loop]
        cases r
        · rw [hr rfl] at d2 ⊢
          rw [ats_nil, show ((([] : List At).length : Nat) : Int) = 0 from rfl] at d2
          simp (disch := omega) [s7, h7, h1, hg, c0, d1, d2, ht, hcat, dec_yes, dec_no, wrap_in, if_yes, -getElem?_pos]
          rfl
        · simp (disch := omega) [s7, h7, h1, hg, c0, d1, d2, ht, hcat, dec_yes, dec_no, wrap_in, if_yes, -getElem?_pos]
          rfl
      rw [step]
      exact ih'
    · have ih' := ih (i + 1) l2 true (t ++ x) (by omega) hI' (fun h => by simp at h)
      rw [show putR l2 = Ret.own 31 5 (ats l2) from if_neg c2] at d2
      have step : Code (EX cpF) L_law18_EditDoes_0 ⟨[(0, .p (.sl 1 (strs ts))), (1, .p (.sl 3 C)), (2, .p (pi rk)), (7, s7 r l), (8, .p (.sc (.string t))), (9, .p (pi i))], h7 r l⟩ = Code (EX cpF) L_law18_EditDoes_0 ⟨[(0, .p (.sl 1 (strs ts))), (1, .p (.sl 3 C)), (2, .p (pi rk)), (7, s7 true l2), (8, .p (.sc (.string (t ++ x)))), (9, .p (pi ((i + 1 : Nat) : Int)))], h7 true l2⟩ := by
        conv => lhs; rw [L_law18_EditDoes_0, k_loop]
        cases r
        · rw [hr rfl] at d2 ⊢
          rw [ats_nil, show ((([] : List At).length : Nat) : Int) = 0 from rfl] at d2
          simp (disch := omega) [s7, h7, h1, hg, c0, d1, d2, ht, hcat, dec_yes, dec_no, wrap_in, if_yes, -getElem?_pos]
          rfl
        · simp (disch := omega) [s7, h7, h1, hg, c0, d1, d2, ht, hcat, dec_yes, dec_no, wrap_in, if_yes, -getElem?_pos]
          rfl
      rw [step]
      exact ih'
end Go.Proofs.Ytihgpnfkadldeaa.AM.EDoes
namespace Go.Proofs.Ytihgpnfkadldeaa.editDoes
set_option linter.unusedSimpArgs false
set_option linter.unusedVariables false
open Go Go.Proofs.Ytihgpnfkadldeaa.U Go.Proofs.Ytihgpnfkadldeaa.AM Go.Proofs.Ytihgpnfkadldeaa.AM.EDoes
def shapes : List PSh := [.one (.sl [.tx]), .one (.sl [.i .i64, .i .i64, .tx]), .one (.i .i64)]
set_option maxHeartbeats 8000000 in
set_option maxRecDepth 10000 in
theorem law (xs : List PV) (h : WTAs shapes xs) : Run EW 10 xs = some (.val (.sc (.bool true))) := by
  cases h with
  | cons h1 h => cases h with
  | cons h2 h => cases h with
  | cons h3 h =>
  cases h
  obtain ⟨ts, rfl, htl, htss⟩ := wt_strs h1
  obtain ⟨c, rfl, hcl, hw⟩ := wt_chs h2
  obtain ⟨rk, rfl, _⟩ := wt_int h3
  clear h1 h2 h3
  have hk : Run EW 34 [] = some (.val (pb true)) := known18
  have hf : Run EW 35 [.sl 5 [], .sl 3 (chs c)] = some (.val (pb (few18 [] c))) := refFew18 [] c (by simp) hcl
  rw [show Run EW 10 [.sl 1 (strs ts), .sl 3 (chs c), pi rk] = _ from run_fn _ A_law18_EditDoes _ rfl rfl rfl, ← show EW = EX cpF from rfl]
  by_cases c0 : ts.length ≤ 6
  case neg => simp (disch := omega) [A_law18_EditDoes, hk, hf, c0, dec_yes, dec_no]
  by_cases cf : few18 [] c = true
  case neg =>
    rw [Bool.not_eq_true] at cf
    rw [cf] at hf
    simp (disch := omega) [A_law18_EditDoes, hk, hf, c0, dec_yes, dec_no]
  rw [cf] at hf
  by_cases c1 : c.length ≤ 8
  case neg => simp (disch := omega) [A_law18_EditDoes, hk, hf, c0, c1, dec_yes, dec_no]
  by_cases c2 : 0 ≤ rk
  case neg => simp (disch := omega) [A_law18_EditDoes, hk, hf, c0, c1, c2, dec_yes, dec_no]
  by_cases c3 : rk ≤ 1000
  case neg => simp (disch := omega) [A_law18_EditDoes, hk, hf, c0, c1, c2, c3, dec_yes, dec_no]
  unfold few18 at cf
  simp only [Bool.and_eq_true, List.all_eq_true, decide_eq_true_eq] at cf
  obtain ⟨⟨⟨cfa, cfc⟩, cfl⟩, cfn⟩ := cf
  have hfc : ∀ x ∈ c, x.s.size ≤ 60 := fun x hx => by
    have := cfc x hx
    unfold fewC at this
    rw [decide_eq_true_eq] at this
    exact this
  have hcs : ∀ x ∈ c, x.s.size < 1099511627776 := fun x hx => by have := hfc x hx; omega
  have hcs2 : ∀ x ∈ c, x.s.size < 1000000 := fun x hx => by have := hfc x hx; omega
  rcases does_loop ts c0 (chs c) rk ts.length 0 [] true ⟨#[]⟩ (by omega) DInv.zero (fun _ => rfl) with hl | ⟨l, r, t, hI, hr, hl⟩
  · rw [show ((0 : Nat) : Int) = 0 from rfl, show s7 true [] = .ms 7 0 0 from rfl, show h7 true [] = [(7, .row 31 5 false [])] from rfl, show EX cpF = EW from rfl] at hl
    simp (disch := omega) [A_law18_EditDoes, hk, hf, c0, c1, c2, c3, hl, dec_yes, dec_no]
  rw [show ((0 : Nat) : Int) = 0 from rfl, show s7 true [] = .ms 7 0 0 from rfl, show h7 true [] = [(7, .row 31 5 false [])] from rfl, show EX cpF = EW from rfl] at hl
  -- the atoms
  have hlen := hI.len
  have hsiz := hI.siz
  generalize hn : ts.length = n at *
  have hfit : Fit2 l := fit2_of l (by omega) (fun a ha => by have := (hI.ok.size a ha).2; omega) fun a ha => by rw [(hI.at_ a ha).2.2.2.2]; simp
  have hlc : ∀ a ∈ l, a.cuts.length < 1000000 := fun a ha => by rw [(hI.at_ a ha).2.2.2.2]; simp
  have hvis : ∀ (rev : Int) (u : List Int), (n : Int) ≤ rev → (u = [] ∨ u = [50]) → ∀ a ∈ l, a.vis rev u = true := by
    intro rev u h1 h2 a ha
    obtain ⟨q1, q2, q3, q4, q5⟩ := hI.at_ a ha
    unfold At.vis
    rw [q5, decide_eq_true (by omega)]
    have : holdsF a.gr u = true := by
      unfold holdsF
      rcases h2 with rfl | rfl
      · simp
      · simp; right; omega
    rw [this]; rfl
  have htx : txtS (n : Int) [] l = t := by
    unfold txtS
    rw [tl_all _ _ l (hvis _ [] (Int.le_refl _) (Or.inl rfl)), hI.txt]
    exact mk_L t
  have d1 : Run EW 36 _ = _ := editCheck (cp := cpF) t c (by omega) hcl hcs
  have d2 : Run EW 38 _ = _ := editDo (cp := cpF) t c (by omega) hcl hcs
  have hnow : IntKind.wrap .i64 ((n : Int) + 1) = (n : Int) + 1 := wrap_in _ (by omega) (by omega)
  have hnow2 : IntKind.wrap .i64 (n : Int) = (n : Int) := wrap_in _ (by omega) (by omega)
  by_cases k0 : chk t c = 0
  case neg =>
    have e1 : doS t c = t := by unfold doS; rw [if_neg k0]
    rw [e1] at d2
    cases r
    · rw [hr rfl] at hl
      rw [show s7 false [] = .p (.sl 5 []) from rfl, show h7 false [] = [] from rfl] at hl
      simp (disch := omega) [A_law18_EditDoes, hk, hf, hn, c0, c1, c2, c3, hl, d1, d2, k0, hnow, dec_yes, dec_no]
    · rw [show s7 true l = .ms 7 0 l.length from rfl, show h7 true l = [(7, .row 31 5 false (ats l))] from rfl] at hl
      simp (disch := omega) [A_law18_EditDoes, hk, hf, hn, c0, c1, c2, c3, hl, d1, d2, k0, hnow, dec_yes, dec_no]
  have d3 : Run EW 42 [.sl 5 (ats l), pi n, .sl 1 [], .sl 3 (chs c), pi ((n : Int) + 1), pi 50, pi rk] = _ := editUpon (cp := cpF) l n [] c ((n : Int) + 1) 50 rk hfit (by omega) hlc (by simp) hcl hcs2
  have hG := chk_good k0
  -- what is seen
  have k1 : chk (txtS (n : Int) [] l) c = 0 := by rw [htx]; exact k0
  have hzu := uponF_zU l n [] c ((n : Int) + 1) 50 rk k1
  have hup := up_spotsF l n [] c rk k1
  have hv1 := hvis n [] (Int.le_refl _) (Or.inl rfl)
  have hv2 := hvis ((n : Int) + 1) [] (by omega) (Or.inl rfl)
  have hcv : ∀ a ∈ l, (cutAt a ((n : Int) + 1) 50).vis ((n : Int) + 1) [] = false := by
    intro a ha
    obtain ⟨q1, q2, q3, q4, q5⟩ := hI.at_ a ha
    unfold At.vis cutAt
    rw [q5]
    simp [holdsF]
  have hnw : ∀ x ∈ c, txtF ((n : Int) + 1) [] (newAts (L x.s) ((n : Int) + 1) 50 rk) = L x.s := by
    intro x hx
    rw [tl_all _ _ _ fun a ha => ?_, tl_new, clean_of_valid _ (hG.txt x hx)]
    obtain ⟨q5, q2, q3, q4, _⟩ := newAts_cuts ha
    unfold At.vis
    rw [q5, q2, q3, decide_eq_true (Int.le_refl _)]
    rfl
  have he0 : edge (txtS (n : Int) [] l) 0 = true := by
    rw [htx]
    refine edge_of (by omega) (by omega) valid_nil ?_
    exact hI.val
  have hdo := does (n : Int) ((n : Int) + 1) 50 rk l hv1 hI.ok hv2 c hcv hnw c 0 0 (by rw [htx]; exact hG.chain) (by rw [htx]; exact hG.edg) he0 he0 (Int.le_refl _) (fun x hx => Or.inr hx) (fun x hx => hx) (fun m h1 h2 => by omega)
  have hs0 : spotF (n : Int) [] rk l (places (n : Int) [] l) 0 = 0 := by
    have := spotF_split (n : Int) [] rk [] l (by simp) 0 rfl
    rw [List.nil_append, skN_zero _ _ _ fun a ha => vis_rv (hv1 a ha)] at this
    exact this
  have hspf : spotsF l (n : Int) [] c rk = c.map fun x => (spotF (n : Int) [] rk l (places (n : Int) [] l) x.f : Int) := by unfold spotsF; rw [if_pos k1]
  rw [hs0, htx, ← hspf, ← hzu] at hdo
  have hz1 : ∀ (rev : Int) (u : List Int), (∀ a ∈ l, a.vis rev u = true ∧ (cutAt a ((n : Int) + 1) 50).vis rev u = true) → (∀ x ∈ c, ∀ a ∈ newAts (L x.s) ((n : Int) + 1) 50 rk, a.vis rev u = false) → txtS rev u (uponF l n [] c ((n : Int) + 1) 50 rk) = t := by
    intro rev u h1 h2
    unfold txtS
    rw [hzu, mrg_hide _ _ _ rev u _ _ c 0 h2 (by rw [zU_len]; exact hup), List.drop_zero, txtF_eq_tl rev u _ l (fun b hb => by
      obtain ⟨a, ha, h⟩ := zU_mem _ _ _ _ _ l _ b hb
      rcases h with rfl | rfl
      · exact (h1 b ha).1
      · exact (h1 a ha).2) (zU_txts _ _ _ _ _ l _), hI.txt]
    exact mk_L t
  have t1 : txtS ((n : Int) + 1) [] (uponF l n [] c ((n : Int) + 1) 50 rk) = doS t c := by
    unfold txtS doS
    rw [if_pos k0, hdo]
  have t2 : txtS (n : Int) [] (uponF l n [] c ((n : Int) + 1) 50 rk) = t := hz1 n [] (fun a ha => by
    refine ⟨hv1 a ha, ?_⟩
    obtain ⟨q1, q2, q3, q4, q5⟩ := hI.at_ a ha
    unfold At.vis cutAt
    rw [q5]
    simp [holdsF, q2]; omega) (fun x hx a ha => by
    obtain ⟨q5, q2, q3, q4, _⟩ := newAts_cuts ha
    unfold At.vis
    rw [q2, decide_eq_false (by omega)]; rfl)
  have t3 : txtS ((n : Int) + 1) [50] (uponF l n [] c ((n : Int) + 1) 50 rk) = t := hz1 _ [50] (fun a ha => by
    refine ⟨hvis _ [50] (by omega) (Or.inr rfl) a ha, ?_⟩
    obtain ⟨q1, q2, q3, q4, q5⟩ := hI.at_ a ha
    unfold At.vis cutAt
    rw [q5, decide_eq_true (by show a.rv ≤ (n : Int) + 1; omega)]
    simp [holdsF]; right; omega) (fun x hx a ha => by
    obtain ⟨q5, q2, q3, q4, _⟩ := newAts_cuts ha
    unfold At.vis
    rw [q3]
    simp [holdsF])
  obtain ⟨b1, b2⟩ := uponF_bd l n [] c ((n : Int) + 1) 50 rk 1 60 (fun a ha => by rw [(hI.at_ a ha).2.2.2.2]; simp) hfc
  have hfo : Fit (uponF l n [] c ((n : Int) + 1) 50 rk) := by
    have : Fit2 (uponF l n [] c ((n : Int) + 1) 50 rk) := fit2_of _ (by omega) (fun a ha => by
      rw [hzu] at ha
      rcases mrg_mem _ _ _ _ _ _ _ a ha with ha | ⟨x, hx, ha⟩
      · obtain ⟨b, hb, h⟩ := zU_mem _ _ _ _ _ l _ a ha
        have := (hI.ok.size b hb).2
        rcases h with rfl | rfl
        · omega
        · show b.txt.size ≤ 1000; omega
      · have := (newAts_cuts ha).2.2.2.2.2; omega) (fun a ha => by have := b2 a ha; omega)
    exact this.fit
  have e1 : Run EW 28 [.sl 5 (ats (uponF l n [] c ((n : Int) + 1) 50 rk)), pi ((n : Int) + 1), .sl 1 []] = _ := refText (cp := cpF) _ ((n : Int) + 1) [] hfo (by simp)
  have e2 : Run EW 28 [.sl 5 (ats (uponF l n [] c ((n : Int) + 1) 50 rk)), pi (n : Int), .sl 1 []] = _ := refText (cp := cpF) _ (n : Int) [] hfo (by simp)
  have e3 : Run EW 28 [.sl 5 (ats (uponF l n [] c ((n : Int) + 1) 50 rk)), pi ((n : Int) + 1), .sl 1 [[pi 50]]] = _ := refText (cp := cpF) _ ((n : Int) + 1) [50] hfo (by simp)
  rw [t1] at e1
  rw [t2] at e2
  rw [t3] at e3
  have tk := ats_take (uponF l n [] c ((n : Int) + 1) 50 rk)
  have tk2 := ats_take l
  have k0' := k0
  generalize uponF l n [] c ((n : Int) + 1) 50 rk = o at *
  cases r
  · rw [hr rfl] at hl d3
    rw [show s7 false [] = .p (.sl 5 []) from rfl, show h7 false [] = [] from rfl] at hl
    rw [ats_nil] at d3
    simp (disch := omega) [A_law18_EditDoes, hk, hf, hn, c0, c1, c2, c3, hl, d1, d2, d3, k0', hnow, hnow2, e1, e2, e3, tk, tk2, dec_yes, dec_no]
  · rw [show s7 true l = .ms 7 0 l.length from rfl, show h7 true l = [(7, .row 31 5 false (ats l))] from rfl] at hl
    simp (disch := omega) [A_law18_EditDoes, hk, hf, hn, c0, c1, c2, c3, hl, d1, d2, d3, k0', hnow, hnow2, e1, e2, e3, tk, tk2, dec_yes, dec_no]
end Go.Proofs.Ytihgpnfkadldeaa.editDoes
