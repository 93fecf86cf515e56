/- The law AtomUndoes on the small machine. No condition. -/
import Derived.Test.YtihgpnfkadldeaaAR13
import Derived.Test.YtihgpnfkadldeaaAE
namespace Go.Proofs.Ytihgpnfkadldeaa.AM.AUndo
set_option linter.unusedSimpArgs false
set_option linter.unusedVariables false
open Go Go.Proofs.Ytihgpnfkadldeaa.U Go.Proofs.Ytihgpnfkadldeaa.AM
variable {cp : List PV → Option Ret}
def shapes : List PSh := [.one (.i .u8), .one (.sl [.i .u8]), .one (.sl [.i .u8])]
def d10 (b : UInt8) : Int := ((b.toNat % 10 : Nat) : Int)
theorem d10_eq (b : UInt8) : ((b.toNat : Int).tmod 10) = d10 b := tmod_nat b.toNat 10
theorem d10_range (b : UInt8) : 0 ≤ d10 b ∧ d10 b < 10 := by unfold d10; omega
/-- The cuts of the one atom. -/
def cutsOf : List UInt8 → Int → List (Int × Int)
  | [], _ => []
  | b :: bs, n => (n, d10 b) :: cutsOf bs (n + 1)
theorem cutsOf_len : ∀ (bs : List UInt8) (n : Int), (cutsOf bs n).length = bs.length
  | [], _ => rfl
  | b :: bs, n => by simp [cutsOf, cutsOf_len bs]
theorem cutsOf_snoc : ∀ (bs : List UInt8) (n : Int) (b : UInt8), cutsOf (bs ++ [b]) n = cutsOf bs n ++ [(n + bs.length, d10 b)]
  | [], n, b => by simp [cutsOf]
  | a :: bs, n, b => by
    rw [List.cons_append, cutsOf, cutsOf_snoc bs, cutsOf, List.cons_append]
    congr 3
    simp; omega
def theAt (g : Int) (bs : List UInt8) : At := ⟨chS 120, 1, g, 0, cutsOf bs 2⟩
theorem cut_loop (g : UInt8) (bs us : List UInt8) (hb : bs.length ≤ 20) : ∀ (m i : Nat), m + i = bs.length →
    Code (EX cp) L_law17_AtomUndoes_0 ⟨[(0, .p (.sc (.int .u8 g.toNat))), (1, .p (.sl 1 (bRows bs))), (2, .p (.sl 1 (bRows us))), (7, .ms 7 0 1), (8, .p (pi i))], [(7, .row 31 5 false (ats [theAt (d10 g) (bs.take i)]))]⟩ =
      some (.ex 0, ⟨[(0, .p (.sc (.int .u8 g.toNat))), (1, .p (.sl 1 (bRows bs))), (2, .p (.sl 1 (bRows us))), (7, .ms 7 0 1), (8, .p (pi bs.length)), (32, .p (pb false))], [(7, .row 31 5 false (ats [theAt (d10 g) bs]))]⟩) := by
  intro m
  induction m with
  | zero =>
    intro i hi
    have : i = bs.length := by omega
    subst this
    rw [List.take_length, L_law17_AtomUndoes_0, k_loop]
    simp
  | succ m ih =>
    intro i hi
    have hlt : i < bs.length := by omega
    have hg := bRows_at bs i hlt
    have htk : bs.take (i + 1) = bs.take i ++ [bs[i]] := List.take_succ_eq_append_getElem hlt
    have ih' := ih (i+1) (by omega)
    rw [htk] at ih'
    generalize hbi : bs[i] = b at *
    have htm := d10_eq b
    have hr := d10_range b
    have hc := atomCut (cp := cp) [theAt (d10 g) (bs.take i)] 0 ((i : Int) + 2) (d10 b) (by simp) (by simp [theAt, cutsOf_len]; omega)
    have e : cutL [theAt (d10 g) (bs.take i)] 0 ((i : Int) + 2) (d10 b) = [theAt (d10 g) (bs.take i ++ [b])] := by
      have := cutL_in [theAt (d10 g) (bs.take i)] 0 ((i : Int) + 2) (d10 b) (by simp)
      rw [show (0 : Int) = ((0 : Nat) : Int) from rfl, this]
      simp only [List.getElem_cons_zero, List.set_cons_zero, cutAt, theAt]
      rw [cutsOf_snoc]
      have h1 : (bs.take i).length = i := by rw [List.length_take]; omega
      rw [h1, Int.add_comm]
    rw [e] at hc
    have l1 : ([theAt (d10 g) (bs.take i)] : List At).length = 1 := rfl
    have l2 : ([theAt (d10 g) (bs.take i ++ [b])] : List At).length = 1 := rfl
    have ht1 : (ats [theAt (d10 g) (bs.take i)]).take 1 = ats [theAt (d10 g) (bs.take i)] := rfl
    generalize [theAt (d10 g) (bs.take i)] = x at *
    generalize [theAt (d10 g) (bs.take i ++ [b])] = y at *
    rw [← ih', L_law17_AtomUndoes_0, k_loop]
    simp (disch := omega) [dec_yes, dec_no, hlt, hg, wrap_in, htm, hc, l1, l2, ht1, -getElem?_pos]
/-- What is undone. -/
def undL (us : List UInt8) : List Int := us.map d10
def offB (us : List UInt8) (j : Int) : Bool := (undL us).any fun y => y == j
def offL (us : List UInt8) : List (List PV) := (List.range 10).map fun j : Nat => [pb (offB us (j : Int))]
theorem offL_len (us : List UInt8) : (offL us).length = 10 := by simp [offL]
theorem offL_get (us : List UInt8) (b : UInt8) : (offL us)[(d10 b).toNat]? = some [pb (offB us (d10 b))] := by
  have hr := d10_range b
  unfold offL
  rw [List.getElem?_map, List.getElem?_range (by omega)]
  simp only [Option.map_some, Option.some.injEq, List.cons.injEq, and_true]
  rw [show ((d10 b).toNat : Int) = d10 b by omega]
theorem offL_set (us : List UInt8) (b : UInt8) : (offL us).set (d10 b).toNat [pb true] = offL (us ++ [b]) := by
  have hr := d10_range b
  apply List.ext_getElem (by simp [offL])
  intro k h1 h2
  rw [List.getElem_set]
  simp only [offL, List.getElem_map, List.getElem_range]
  have e : offB (us ++ [b]) (k : Int) = (offB us k || (d10 b == (k : Int))) := by
    unfold offB undL
    rw [List.map_append, List.any_append]
    simp
  rw [e]
  split
  · rename_i h
    have : d10 b = (k : Int) := by omega
    rw [this]; simp
  · rename_i h
    have : (d10 b == (k : Int)) = false := by simp; omega
    rw [this, Bool.or_false]
theorem offL_nil : offL [] = List.replicate 10 [pb false] := rfl
theorem und_loop (g : UInt8) (bs us : List UInt8) (hu : us.length ≤ 20) (A : List (List PV)) : ∀ (m i : Nat), m + i = us.length →
    Code (EX cp) L_law17_AtomUndoes_1 ⟨[(0, .p (.sc (.int .u8 g.toNat))), (1, .p (.sl 1 (bRows bs))), (2, .p (.sl 1 (bRows us))), (7, .ms 7 0 1), (9, .ms 9 0 i), (10, .mp 10 0 0), (11, .p (pi i))], [(7, .row 31 5 false A), (9, .row 3 1 false (ints (undL (us.take i)))), (10, .row 38 1 false (offL (us.take i)))]⟩ =
      some (.ex 2, ⟨[(0, .p (.sc (.int .u8 g.toNat))), (1, .p (.sl 1 (bRows bs))), (2, .p (.sl 1 (bRows us))), (7, .ms 7 0 1), (9, .ms 9 0 us.length), (10, .mp 10 0 0), (11, .p (pi us.length)), (48, .p (pb false))], [(7, .row 31 5 false A), (9, .row 3 1 false (ints (undL us))), (10, .row 38 1 false (offL us))]⟩) := by
  intro m
  induction m with
  | zero =>
    intro i hi
    have : i = us.length := by omega
    subst this
    rw [List.take_length, L_law17_AtomUndoes_1, k_loop]
    simp
  | succ m ih =>
    intro i hi
    have hlt : i < us.length := by omega
    have hg := bRows_at us i hlt
    have htk : us.take (i + 1) = us.take i ++ [us[i]] := List.take_succ_eq_append_getElem hlt
    have ih' := ih (i+1) (by omega)
    rw [htk] at ih'
    generalize hbi : us[i] = b at *
    have htm := d10_eq b
    have hr := d10_range b
    have e1 : undL (us.take i ++ [b]) = undL (us.take i) ++ [d10 b] := by simp [undL]
    have e2 := offL_set (us.take i) b
    have e3 := offL_get (us.take i) b
    have e4 := offL_len (us.take i)
    have e5 : (undL (us.take i)).length = i := by simp [undL]; omega
    rw [e1, ← e2] at ih'
    have hcap : (i + 1) * 8 ≤ maxBytes ∧ i + 1 ≤ 9223372036854775807 := by unfold maxBytes; omega
    generalize undL (us.take i) = un at *
    generalize offL (us.take i) = of at *
    rw [← ih', L_law17_AtomUndoes_1, k_loop]
    simp (disch := omega) [dec_yes, dec_no, hlt, hg, wrap_in, htm, hr.1, hr.2, e3, e4, e5, hcap, if_yes, -getElem?_pos]
/-- What the law wants at a revision: no cut that counts by then. -/
def wl (us : List UInt8) (rev : Int) : List UInt8 → Int → Bool
  | [], _ => true
  | b :: bs, i => if i + 2 ≤ rev then offB us (d10 b) && wl us rev bs (i + 1) else true
theorem want_loop (g : UInt8) (bs us : List UInt8) (hb : bs.length ≤ 20) (A B : List (List PV)) (f1 f2 : Bool) (n : Nat) (rev : Int) : ∀ (m i : Nat) (w : Bool), m + i = bs.length → ∃ j : Int,
    Code (EX cp) L_law17_AtomUndoes_2 ⟨[(0, .p (.sc (.int .u8 g.toNat))), (1, .p (.sl 1 (bRows bs))), (7, .ms 7 0 1), (9, .ms 9 0 n), (10, .mp 10 0 0), (12, .p (pi rev)), (13, .p (pb w)), (14, .p (pi i))], [(7, .row 31 5 f1 A), (9, .row 3 1 f2 B), (10, .row 38 1 false (offL us))]⟩ =
      some (.ex 6, ⟨[(0, .p (.sc (.int .u8 g.toNat))), (1, .p (.sl 1 (bRows bs))), (7, .ms 7 0 1), (9, .ms 9 0 n), (10, .mp 10 0 0), (12, .p (pi rev)), (13, .p (pb (w && wl us rev (bs.drop i) i))), (14, .p (pi j)), (91, .p (pb false))], [(7, .row 31 5 f1 A), (9, .row 3 1 f2 B), (10, .row 38 1 false (offL us))]⟩) := by
  intro m
  induction m with
  | zero =>
    intro i w hi
    have : i = bs.length := by omega
    subst this
    refine ⟨(bs.length : Int), ?_⟩
    rw [L_law17_AtomUndoes_2, k_loop, List.drop_length]
    simp (disch := omega) [wl, dec_no]
  | succ m ih =>
    intro i w hi
    have hlt : i < bs.length := by omega
    have hg := bRows_at bs i hlt
    have hd : bs.drop i = bs[i] :: bs.drop (i + 1) := List.drop_eq_getElem_cons hlt
    have htm := d10_eq bs[i]
    have hr := d10_range bs[i]
    have e3 := offL_get us bs[i]
    have e4 := offL_len us
    rw [hd]
    generalize bs[i] = b at *
    by_cases hv : (i : Int) + 2 ≤ rev
    · obtain ⟨j, ih'⟩ := ih (i+1) (w && offB us (d10 b)) (by omega)
      refine ⟨j, ?_⟩
      have e : (w && wl us rev (b :: bs.drop (i + 1)) i) = (w && offB us (d10 b) && wl us rev (bs.drop (i + 1)) ((i + 1 : Nat) : Int)) := by
        rw [wl, if_pos hv, Bool.and_assoc]; rfl
      rw [e, ← ih', L_law17_AtomUndoes_2, k_loop]
      generalize offL us = of at *
      cases w
      · simp (disch := omega) [dec_yes, dec_no, hlt, hg, wrap_in, htm, hr.1, hr.2, e3, e4, if_yes, hv, -getElem?_pos]
      · simp (disch := omega) [dec_yes, dec_no, hlt, hg, wrap_in, htm, hr.1, hr.2, e3, e4, if_yes, hv, -getElem?_pos]
    · refine ⟨(i : Int), ?_⟩
      have e : (w && wl us rev (b :: bs.drop (i + 1)) i) = w := by rw [wl, if_neg hv, Bool.and_true]
      rw [e, L_law17_AtomUndoes_2, k_loop]
      simp (disch := omega) [dec_yes, dec_no, hlt, wrap_in, hv]
theorem cuts_none (us : List Int) (rev : Int) : ∀ (bs : List UInt8) (n : Int), rev < n → (cutsOf bs n).any (fun q => decide (q.1 ≤ rev) && holdsF q.2 us) = false
  | [], _, _ => rfl
  | b :: bs, n, h => by
    rw [cutsOf, List.any_cons, cuts_none us rev bs (n + 1) (by omega), decide_eq_false (by show ¬ n ≤ rev; omega)]; rfl
theorem holds_off (us : List UInt8) (b : UInt8) : holdsF (d10 b) (undL us) = !offB us (d10 b) := by
  have hr := d10_range b
  unfold holdsF offB
  have : (d10 b == -1) = false := by simp; omega
  rw [this, Bool.false_or]
theorem cuts_wl (us : List UInt8) (rev : Int) : ∀ (bs : List UInt8) (i : Int), (cutsOf bs (i + 2)).any (fun q => decide (q.1 ≤ rev) && holdsF q.2 (undL us)) = !wl us rev bs i
  | [], _ => rfl
  | b :: bs, i => by
    rw [wl]
    split
    · rename_i h
      have := cuts_wl us rev bs (i + 1)
      rw [show i + 1 + 2 = i + 2 + 1 by omega] at this
      rw [cutsOf, List.any_cons, this, holds_off, decide_eq_true (by show i + 2 ≤ rev; exact h)]
      cases offB us (d10 b) <;> simp
    · rename_i h
      exact cuts_none (undL us) rev (b :: bs) (i + 2) (by omega)
theorem vis_want (g : UInt8) (bs us : List UInt8) (rev : Int) : (theAt (d10 g) bs).vis rev (undL us) = (decide (1 ≤ rev) && !offB us (d10 g) && wl us rev bs 0) := by
  unfold At.vis theAt
  have := cuts_wl us rev bs 0
  rw [show (0 : Int) + 2 = 2 by rfl] at this
  simp only [this, holds_off, Bool.not_not]
set_option maxHeartbeats 4000000 in
theorem rev_loop (g : UInt8) (bs us : List UInt8) (hb : bs.length ≤ 20) (hu : us.length ≤ 20) : ∀ (m : Nat) (rev : Nat) (f1 f2 : Bool), m + rev = bs.length + 3 → ∃ f3 f4 : Bool,
    Code (EX cp) L_law17_AtomUndoes_3 ⟨[(0, .p (.sc (.int .u8 g.toNat))), (1, .p (.sl 1 (bRows bs))), (7, .ms 7 0 1), (9, .ms 9 0 us.length), (10, .mp 10 0 0), (12, .p (pi rev))], [(7, .row 31 5 f1 (ats [theAt (d10 g) bs])), (9, .row 3 1 f2 (ints (undL us))), (10, .row 38 1 false (offL us))]⟩ =
      some (.ex 4, ⟨[(0, .p (.sc (.int .u8 g.toNat))), (1, .p (.sl 1 (bRows bs))), (7, .ms 7 0 1), (9, .ms 9 0 us.length), (10, .mp 10 0 0), (12, .p (pi ((bs.length : Int) + 3))), (70, .p (pb false))], [(7, .row 31 5 f3 (ats [theAt (d10 g) bs])), (9, .row 3 1 f4 (ints (undL us))), (10, .row 38 1 false (offL us))]⟩) := by
  intro m
  induction m with
  | zero =>
    intro rev f1 f2 hi
    have : rev = bs.length + 3 := by omega
    subst this
    refine ⟨f1, f2, ?_⟩
    rw [L_law17_AtomUndoes_3, k_loop]
    simp (disch := omega) [wrap_in, dec_no]
  | succ m ih =>
    intro rev f1 f2 hi
    obtain ⟨f3, f4, ih'⟩ := ih (rev+1) true true (by omega)
    refine ⟨f3, f4, ?_⟩
    rw [← ih']
    have htm := d10_eq g
    have hr := d10_range g
    have e3 := offL_get us g
    have e4 := offL_len us
    have hul : (undL us).length = us.length := by simp [undL]
    have hcl : (theAt (d10 g) bs).cuts.length ≤ 9223372036854775807 := by show (cutsOf bs 2).length ≤ _; rw [cutsOf_len]; omega
    have ht1 : (theAt (d10 g) bs).txt.size = 1 := rfl
    have hf : Fit [theAt (d10 g) bs] := by
      refine ⟨by simp, by simp [sumT, ht1], fun a ha => ?_⟩
      rw [List.mem_singleton.1 ha]
      show (cutsOf bs 2).length < _
      rw [cutsOf_len]; omega
    have hv := vis_want g bs us rev
    have c1 := visible (cp := cp) (theAt (d10 g) bs) rev (undL us) (by omega) hcl
    have c2 := atomText (cp := cp) [theAt (d10 g) bs] rev (undL us) hf (by omega)
    have hat : (ats [theAt (d10 g) bs])[0]? = some (theAt (d10 g) bs).pv := rfl
    have hpt : (theAt (d10 g) bs).pv.take 5 = (theAt (d10 g) bs).pv := rfl
    have hpl : (theAt (d10 g) bs).pv.length = 5 := rfl
    have htx : decide (txtS rev (undL us) [theAt (d10 g) bs] = ⟨#[120]⟩) = (theAt (d10 g) bs).vis rev (undL us) := by
      unfold txtS txtF
      cases (theAt (d10 g) bs).vis rev (undL us)
      · exact decide_eq_false (fun h => by have := congrArg ByteArray.size h; simp [txtF] at this; exact absurd this (by decide))
      · exact decide_eq_true rfl
    have hl1 : ([theAt (d10 g) bs] : List At).length = 1 := rfl
    have htk : (ats [theAt (d10 g) bs]).take 1 = ats [theAt (d10 g) bs] := rfl
    have htk2 : (ints (undL us)).take us.length = ints (undL us) := by rw [← hul]; exact List.take_of_length_le (by simp [ints])
    generalize (theAt (d10 g) bs).vis rev (undL us) = vb at *
    generalize txtS rev (undL us) [theAt (d10 g) bs] = tx at *
    generalize [theAt (d10 g) bs] = ass at *
    generalize (theAt (d10 g) bs).pv = ap at *
    by_cases h1 : (1 : Int) ≤ rev
    · obtain ⟨j, cw⟩ := want_loop (cp := cp) g bs us hb (ats ass) (ints (undL us)) f1 f2 us.length rev bs.length 0 (!offB us (d10 g)) (by omega)
      have ev : (!offB us (d10 g) && wl us rev (bs.drop 0) 0) = vb := by rw [hv, decide_eq_true h1, Bool.true_and, List.drop_zero]
      rw [show ((0 : Nat) : Int) = 0 from rfl, ev] at cw
      generalize offL us = of at *
      generalize undL us = un at *
      rw [L_law17_AtomUndoes_3, k_loop]
      simp (disch := omega) [dec_yes, dec_no, wrap_in, htm, hr.1, hr.2, e3, e4, if_yes, h1, cw, c1, c2, hat, hl1, htk, htk2, hul, hpl, hpt, htx, -getElem?_pos]
    · obtain ⟨j, cw⟩ := want_loop (cp := cp) g bs us hb (ats ass) (ints (undL us)) f1 f2 us.length rev bs.length 0 false (by omega)
      have ev : vb = false := by rw [hv, decide_eq_false h1]; rfl
      rw [show ((0 : Nat) : Int) = 0 from rfl, Bool.false_and] at cw
      subst ev
      generalize offL us = of at *
      generalize undL us = un at *
      rw [L_law17_AtomUndoes_3, k_loop]
      simp (disch := omega) [dec_yes, dec_no, wrap_in, htm, hr.1, hr.2, e3, e4, if_yes, h1, cw, c1, c2, hat, hl1, htk, htk2, hul, hpl, hpt, htx, -getElem?_pos]
end Go.Proofs.Ytihgpnfkadldeaa.AM.AUndo
namespace Go.Proofs.Ytihgpnfkadldeaa.atomUndoes
open Go Go.Proofs.Ytihgpnfkadldeaa.U Go.Proofs.Ytihgpnfkadldeaa.AM Go.Proofs.Ytihgpnfkadldeaa.AM.AUndo
def shapes : List PSh := [.one (.i .u8), .one (.sl [.i .u8]), .one (.sl [.i .u8])]
set_option maxHeartbeats 8000000 in
set_option maxRecDepth 10000 in
theorem law (xs : List PV) (h : WTAs shapes xs) : Run EV 4 xs = some (.val (.sc (.bool true))) := by
  cases h with
  | cons h1 h => cases h with
  | cons h2 h => cases h with
  | cons h3 h =>
  cases h
  obtain ⟨g, rfl⟩ := wt_byte h1
  obtain ⟨bs, rfl, hb⟩ := wt_u8s h2
  obtain ⟨us, rfl, hu⟩ := wt_u8s h3
  have hk : Run EV 15 [] = some (.val (pb true)) := known17
  rw [show Run EV 4 [.sc (.int .u8 g.toNat), .sl 1 (bRows bs), .sl 1 (bRows us)] = _ from run_fn _ A_law17_AtomUndoes _ rfl rfl rfl, ← show EV = EX fun _ => none from rfl]
  by_cases c1 : bs.length ≤ 20
  case neg => simp (disch := omega) [A_law17_AtomUndoes, hk, dec_yes, dec_no]
  by_cases c2 : us.length ≤ 20
  case neg => simp (disch := omega) [A_law17_AtomUndoes, hk, dec_yes, dec_no]
  have p1 := atomPut (cp := fun _ => none) [] 0 ⟨#[120]⟩ 1 (d10 g) 0 (by simp) (by simp) (by decide)
  have e1 : putL [] (clampN 0 ([] : List At).length) (L ⟨#[120]⟩) 1 (d10 g) 0 = [theAt (d10 g) []] := by
    rw [putL_nil, show L ⟨#[120]⟩ = enc 120 ++ [] from by rw [enc_one (by decide) (by decide)]; rfl]
    unfold newAts
    rw [points_enc1 (v := 120) (by unfold sc; decide), points_nil]
    rfl
  rw [e1, ats_nil] at p1
  have q1 := cut_loop (cp := fun _ => none) g bs us c1 bs.length 0 (by omega)
  have q2 := und_loop (cp := fun _ => none) g bs us c2 (ats [theAt (d10 g) bs]) us.length 0 (by omega)
  obtain ⟨f3, f4, q3⟩ := rev_loop (cp := fun _ => none) g bs us c1 c2 (bs.length + 3) 0 false false (by omega)
  have htm := d10_eq g
  have hr := d10_range g
  have hw : IntKind.wrap .i64 (d10 g) = d10 g := wrap_in _ (by omega) (by omega)
  rw [List.take_zero] at q1
  rw [List.take_zero, show undL [] = [] from rfl, offL_nil, show ints [] = [] from rfl, show List.replicate 10 [pb false] = [[pb false], [pb false], [pb false], [pb false], [pb false], [pb false], [pb false], [pb false], [pb false], [pb false]] from rfl] at q2
  have l1 : ([theAt (d10 g) []] : List At).length = 1 := rfl
  have l2 : ([theAt (d10 g) bs] : List At).length = 1 := rfl
  have hat : (ats [theAt (d10 g) bs])[0]? = some (theAt (d10 g) bs).pv := rfl
  have hpv : (theAt (d10 g) bs).pv = [.sc (.string (chS 120)), pi 1, pi (d10 g), pi 0, .sl 2 (cutsL (cutsOf bs 2))] := rfl
  rw [hpv] at hat
  have hcl := cutsOf_len bs 2
  generalize [theAt (d10 g) []] = x at *
  generalize [theAt (d10 g) bs] = y at *
  generalize cutsOf bs 2 = cs at *
  generalize offL us = of at *
  generalize undL us = un at *
  rw [show EX (fun _ => none) = EV from rfl] at *
  simp only [show ((0 : Nat) : Int) = 0 from rfl] at q1 q2 q3
  simp (disch := omega) [A_law17_AtomUndoes, hk, dec_yes, dec_no, p1, q1, q2, q3, htm, hw, hat, l1, l2, hcl, wrap_in, if_yes, -getElem?_pos]
end Go.Proofs.Ytihgpnfkadldeaa.atomUndoes
