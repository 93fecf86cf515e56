/- Made by pack.py: ALWholeStale. No condition but what it says. -/
import Derived.Test.YtjpibniecllafaaGreatSK1
import Derived.Test.YtjpibniecllafaaGreatP15
import Derived.Test.YtjpibniecllafaaGreatP14
set_option linter.unusedSimpArgs false
set_option linter.unusedVariables false
section
namespace Go.Proofs.YtjpibniecllafaaGreat.wholeStale
open Go Go.Proofs.YtjpibniecllafaaGreat.U Go.Proofs.YtjpibniecllafaaGreat.AM
attribute [local simp] cellR thereV RV.sv innE inlE reach pos subH SV.mapr RV.mapr Ob.mapr SV.refs RV.id? RV.ref Ob.refs noRow shnE shrE okK closeB freshs at0 newS leftS finishS oneS manyS allP sameFz Ob.noPin startS entryS List.range_succ List.filterMap_cons List.filterMap_nil SV.rv fzvs fzv liveV liveR rcellss rcells fillQ fixN RV.isNil revO canon pinsOf pinOb canF canP
set_option maxHeartbeats 16000000 in
theorem law (xs : List PV) (h : WTAs shapes xs) : Run EV 6 xs = some (.val (.sc (.bool true))) := by
 cases h with
 | cons h1 h => cases h with
 | cons h2 h => cases h with
 | cons h3 h =>
 cases h
 obtain ⟨l, rfl, hl, hlw⟩ := Tzr h1
 obtain ⟨w, rfl⟩ := Tse h2
 obtain ⟨c, rfl, hc, hcw⟩ := T0q h3
 clear h1 h2 h3
 have hk : Run EV 12 [] = some (.val (pb true)) := knownTop0
 have d0 : Run EV 23 _ = _ := runFewSt (cp := fun _ => none) l hl hlw
 have d1 : Run EV 24 _ = _ := runFewCh (cp := fun _ => none) c hc
 rw [show EV = EX fun _ => none from rfl] at *
 rw [Taj _ A_top_WholeStale _ rfl rfl rfl]
 cases c0 : fewSt l with
 | false =>
  rw [c0] at d0
  simp (disch := omega) [A_top_WholeStale, hk, d0, Taa, Tac]
 | true =>
 rw [c0] at d0
 cases c1 : fewCh c with
 | false =>
  rw [c1] at d1
  simp (disch := omega) [A_top_WholeStale, hk, d0, d1, Taa, Tac]
 | true =>
 rw [c1] at d1
 obtain ⟨f1, f2⟩ := Twb c0
 obtain ⟨f3, f4⟩ := Tfl c1
 have d2 := engNew (cp := fun _ => none)
 have d3 := steps l f1 hlw f2 w c l.length 0 Eng.new EOk.new (by omega)
 have hS := Tw4 l Eng.new S0.new
 rw [List.drop_zero] at d3
 have kL := fun st => LC_of (EX fun _ => none) L_top_WholeStale_0 st _ rfl
 have kM := fun st => LC_of (EX fun _ => none) L_top_WholeStale_1 st _ rfl
 have kN := fun st => LC_of (EX fun _ => none) L_top_WholeStale_2 st _ rfl
 unfold aS aT eH mH at d3
 rw [show ((0 : Nat) : Int) = 0 from rfl] at d3
 have hz0 : ats Eng.new.l = [] ∧ Eng.new.U = [[]] ∧ Eng.new.fl = 0 ∧ Eng.new.G = [] ∧ Eng.new.F = [] := ⟨rfl, rfl, rfl, rfl, rfl⟩
 obtain ⟨z1, z2, z3, z4, z5⟩ := hz0
 rw [z1, z2, z3, z4, z5] at d3
 generalize all Eng.new l = E at *
 have ok := hS.ok
 have u1 := ok.u1
 have hd := ok.hd
 have hfl := hS.fl
 have d4 := engHead (cp := fun _ => none) (ats E.l) E.U E.fl E.G E.F
 have d5 := runNow (cp := fun _ => none) E.l E.U E.fl E.G E.F ok.fit2.fit ok.u1 (ok.ul _)
 obtain ⟨b, hb⟩ : ∃ b : Int, b = (w.toNat : Int).tmod (E.fl + E.U.length) := ⟨_, rfl⟩
 have hw8 := w.toNat_lt
 have w1 : IntKind.wrap .i64 (w.toNat : Int) = (w.toNat : Int) := Tad _ (by omega) (by omega)
 have w2 : IntKind.wrap .i64 (E.fl + (E.U.length : Int)) = E.fl + (E.U.length : Int) := Tad _ (by omega) (by omega)
 have hne : ¬ (E.fl + (E.U.length : Int) = 0) := by omega
 have d6 := Tkl (cp := fun _ => none) E ok b 9 0 c (Tm9 c1) ⟨by omega, by omega⟩
 have hS' := hS.edit b 9 0 c
 have hok' := EOk.edit ok b 9 0 c
 have hcs := Eng.edit_cases E b 9 0 c
 have hcnt := Tnb E hS b 9 0 c
 have ht : headT E.l E.U E.fl = E.txt := rfl
 rw [ht] at d5
 simp only [cEdit, Eng.hp, Eng.hp2, engH, engH2] at d2 d4 d5 d6
 generalize hr : E.edit b 9 0 c = r at *
 obtain ⟨n, e, E'⟩ := r
 simp only at d6 hS' hok' hcs hcnt
 by_cases c2 : e = 0
 case neg =>
  rw [if_neg c2] at d6
  generalize E.txt = s at *
  generalize stps l = R at *
  generalize chs c = C at *
  simp (disch := omega) [A_top_WholeStale, hk, d0, d1, d2, d3, d4, d5, d6, kL, w1, w2, hne, ← hb, c2, Taa, Tac, Ta8, -getElem?_pos]
 rw [if_pos c2] at d6
 obtain ⟨hn, hcount⟩ := hcnt c2
 have hn2 : 0 ≤ n ∧ n ≤ 1000 := by omega
 have d7 := puts c f3 f4 E.txt n E' c.length 0 (by omega)
 have d8 := goes E.txt n hn2 (adds c) E' hok' E'.l.length 0 (by omega)
 have d9 := engAtoms (cp := fun _ => none) E'.l E'.U E'.fl E'.G E'.F (by have := hok'.len; omega) (fun a ha => by have := hok'.cl a ha; omega)
 have d10 := runNow (cp := fun _ => none) E'.l E'.U E'.fl E'.G E'.F hok'.fit2.fit hok'.u1 (hok'.ul _)
 have ht' : headT E'.l E'.U E'.fl = E'.txt := rfl
 rw [ht'] at d10
 have e0 : adds (c.take 0) = 0 := by simp [adds]
 have e1 : sumF (goneF n) (E'.l.take 0) = 0 := rfl
 unfold bS bT eH mH at d7
 unfold gS gT eH mH at d8
 rw [e0, show ((0 : Nat) : Int) = 0 from rfl] at d7
 rw [e1, show ((0 : Nat) : Int) = 0 from rfl] at d8
 simp only [engH] at d9 d10
 have ha := adds_le c f4
 have hg := Ttj n E'.l fun x hx => (hok'.tx.size x hx).2
 have hl4 := hok'.len
 have hadds : (c.map fun x => x.s.size).sum = adds c := rfl
 rw [hadds] at hcount
 have hs1 : E.txt.size ≤ 1000000 := by
  have h1 : (txtF (E.fl + E.U.length - 1) (undU E.U E.fl (E.fl + E.U.length - 1)) E.l).length ≤ sumT E.l := Tj7 _ _ _
  have h2 := Tm4 4 E.l fun a ha => (ok.tx.size a ha).2
  have h3 := ok.len
  have h4 : E.txt.size = (txtF (E.fl + E.U.length - 1) (undU E.U E.fl (E.fl + E.U.length - 1)) E.l).length := Tca _
  omega
 clear hcs hcnt hS hS' hadds e0 e1 ht ht' hcw hlw f2 f4 hr
 generalize E.txt = s at *
 generalize E'.txt = s' at *
 generalize sumF (goneF n) E'.l = g at *
 generalize adds c = a at *
 generalize stps l = R at *
 generalize chs c = C at *
 have hfin : ((s'.size : Int) = (s.size : Int) + a - g) := by omega
 have hw3 : IntKind.wrap .i64 ((s.size : Int) + a) = (s.size : Int) + a := Tad _ (by omega) (by omega)
 have hw4 : IntKind.wrap .i64 ((s.size : Int) + a - g) = (s.size : Int) + a - g := Tad _ (by omega) (by omega)
 simp (maxSteps := 2000000) (disch := omega) [A_top_WholeStale, hk, d0, d1, d2, d3, d4, d5, d6, d7, d8, d9, d10, kL, kM, kN, w1, w2, hne, ← hb, c2, hw3, hw4, hfin, Taa, Tac, Ta8, -getElem?_pos]
end Go.Proofs.YtjpibniecllafaaGreat.wholeStale
end
