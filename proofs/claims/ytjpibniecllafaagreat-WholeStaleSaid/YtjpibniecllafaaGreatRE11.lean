/- Made by pack.py: RE11. No condition but what it says. -/
import Derived.Test.YtjpibniecllafaaGreatP15
import Derived.Test.YtjpibniecllafaaGreatP14
set_option linter.unusedSimpArgs false
set_option linter.unusedVariables false
section
namespace Go.Proofs.YtjpibniecllafaaGreat.AM
open Go Go.Proofs.YtjpibniecllafaaGreat.U
variable {cp : List PV → Option Ret}
structure Stp where
 w : Int
 b : Int
 g : Int
 r : Int
 c : List Ch
 gs : List Int
def Stp.pv (s : Stp) : List PV := [pi s.w, pi s.b, pi s.g, pi s.r, .sl 3 (chs s.c), .sl 1 (ints s.gs)]
def stps (l : List Stp) : List (List PV) := l.map Stp.pv
@[simp] theorem Tfk (l : List Stp) : (stps l).length = l.length := by simp [stps]
theorem Tm8 (l : List Stp) (n : Nat) (h : n < l.length) : (stps l)[n]? = some l[n].pv := by simp [stps, List.getElem?_eq_getElem h]
structure Stp.wf (s : Stp) : Prop where
 b : inI s.b
 g : inI s.g
 r : inI s.r
 c : s.c.length ≤ 9223372036854775807 ∧ ∀ x ∈ s.c, x.wf
 gs : s.gs.length ≤ 9223372036854775807 ∧ ∀ x ∈ s.gs, inI x
theorem To7 : ∀ {l : List (List PV)}, WTR [.i .i64] l → ∃ ns : List Int, l = ints ns ∧ ∀ n ∈ ns, inI n
 | _, .nil => ⟨[], rfl, by simp⟩
 | _, .cons hc hl => by
  obtain ⟨ns, rfl, hs⟩ := To7 hl
  cases hc with
  | cons h1 h2 =>
   cases h2
   obtain ⟨n, rfl, hn⟩ := Thx h1
   refine ⟨n :: ns, rfl, fun x hx => ?_⟩
   rcases List.mem_cons.1 hx with rfl | hx
   · exact hn
   · exact hs x hx
theorem To8 : ∀ {l : List (List PV)}, WTR [.i .i64, .i .i64, .i .i64, .i .i64, .sl [.i .i64, .i .i64, .tx], .sl [.i .i64]] l → ∃ az : List Stp, l = stps az ∧ ∀ a ∈ az, a.wf
 | _, .nil => ⟨[], rfl, by simp⟩
 | _, .cons hc hl => by
  obtain ⟨az, rfl, hs⟩ := To8 hl
  cases hc with
  | cons h1 hc => cases hc with
  | cons h2 hc => cases hc with
  | cons h3 hc => cases hc with
  | cons h4 hc => cases hc with
  | cons h5 hc => cases hc with
  | cons h6 hc =>
   cases hc
   obtain ⟨a, rfl, _⟩ := Thx h1
   obtain ⟨b, rfl, hb⟩ := Thx h2
   obtain ⟨c, rfl, hc⟩ := Thx h3
   obtain ⟨d, rfl, hd⟩ := Thx h4
   cases h5 with
   | sl hl5 hr5 =>
    obtain ⟨cs, rfl, hcs⟩ := Tkg hr5
    cases h6 with
    | sl hl6 hr6 =>
     obtain ⟨gs, rfl, hgs⟩ := To7 hr6
     refine ⟨⟨a, b, c, d, cs, gs⟩ :: az, rfl, fun x hx => ?_⟩
     rcases List.mem_cons.1 hx with rfl | hx
     · exact ⟨hb, hc, hd, ⟨by simpa [maxLen] using hl5, hcs⟩, ⟨by simpa [maxLen] using hl6, hgs⟩⟩
     · exact hs x hx
theorem Tzr {x : PV} (h : WTA (.one (.sl [.i .i64, .i .i64, .i .i64, .i .i64, .sl [.i .i64, .i .i64, .tx], .sl [.i .i64]])) x) : ∃ az : List Stp, x = .sl 6 (stps az) ∧ az.length ≤ 9223372036854775807 ∧ ∀ a ∈ az, a.wf := by
 cases h with
 | one h => cases h with
  | sl hl hr =>
   obtain ⟨az, rfl, hs⟩ := To8 hr
   exact ⟨az, rfl, by simpa [maxLen] using hl, hs⟩
def fewCh (c : List Ch) : Bool := c.all (fun x => decide (x.s.size ≤ 60)) && decide (c.length ≤ 12)
theorem Tjc (c : List Ch) (hc : c.length ≤ 9223372036854775807) (h : (c.all fun x => decide (x.s.size ≤ 60)) = true) : ∀ (m i : Nat), m + i = c.length →
 Code (EX cp) L_top_fewChanges_0 ⟨[(0, .p (.sl 3 (chs c))), (3, .p (pi i))], []⟩ = some (.ex 0, ⟨[(0, .p (.sl 3 (chs c))), (3, .p (pi c.length)), (7, .p (pb false))], []⟩)
 | 0, i, hm => by
  obtain rfl : i = c.length := by omega
  rw [L_top_fewChanges_0, Taf]
  simp (disch := omega) [Tac]
 | m + 1, i, hm => by
  have ih := Tjc c hc h m (i + 1) (by omega)
  have hi : i < c.length := by omega
  have h1 := Tb3 c i hi
  have h2 := List.all_eq_true.1 h _ (List.getElem_mem hi)
  rw [decide_eq_true_eq] at h2
  rw [show ((i + 1 : Nat) : Int) = (i : Int) + 1 by omega] at ih
  have hl := Tex c
  rw [← ih, L_top_fewChanges_0, Taf]
  simp (disch := omega) [h1, Ch.pv, hl, Taa, Tac, Tad, -getElem?_pos]
theorem Tlz (c : List Ch) (hc : c.length ≤ 9223372036854775807) : ∀ (m i : Nat), m + i = c.length → ((c.drop i).all fun x => decide (x.s.size ≤ 60)) = false →
 ∃ s, Code (EX cp) L_top_fewChanges_0 ⟨[(0, .p (.sl 3 (chs c))), (3, .p (pi i))], []⟩ = some (.ret, s) ∧ finish A_top_fewChanges s = some (.val (pb false))
 | 0, i, hm, h => by
  obtain rfl : i = c.length := by omega
  simp at h
 | m + 1, i, hm, h => by
  have hi : i < c.length := by omega
  have h1 := Tb3 c i hi
  have hl := Tex c
  rw [List.drop_eq_getElem_cons hi, List.all_cons] at h
  by_cases c0 : c[i].s.size ≤ 60
  · rw [decide_eq_true c0, Bool.true_and] at h
    obtain ⟨s, ih, hf⟩ := Tlz c hc m (i + 1) (by omega) h
    refine ⟨s, ?_, hf⟩
    rw [show ((i + 1 : Nat) : Int) = (i : Int) + 1 by omega] at ih
    rw [← ih, L_top_fewChanges_0, Taf]
    simp (disch := omega) [h1, Ch.pv, hl, Taa, Tac, Tad, -getElem?_pos]
  · refine ⟨⟨[(2, .p (pb false))], []⟩, ?_, by simp [A_top_fewChanges]⟩
    rw [L_top_fewChanges_0, Taf]
    simp (disch := omega) [h1, Ch.pv, hl, Taa, Tac, Tad, -getElem?_pos]
theorem runFewCh (c : List Ch) (hc : c.length ≤ 9223372036854775807) : Run (EX cp) 24 [.sl 3 (chs c)] = some (.val (pb (fewCh c))) := by
 rw [Taj _ A_top_fewChanges _ rfl rfl rfl]
 unfold fewCh
 by_cases h : (c.all fun x => decide (x.s.size ≤ 60)) = true
 · have lp := Tjc (cp := cp) c hc h c.length 0 (by omega)
   rw [show ((0 : Nat) : Int) = 0 from rfl] at lp
   have hl := Tex c
   rw [h, Bool.true_and]
   simp (disch := omega) [A_top_fewChanges, lp, hl]
   omega
 · rw [Bool.not_eq_true] at h
   obtain ⟨s, lp, hf⟩ := Tlz (cp := cp) c hc c.length 0 (by omega) (by simpa using h)
   rw [show ((0 : Nat) : Int) = 0 from rfl] at lp
   rw [h, Bool.false_and, ← hf]
   simp (disch := omega) [A_top_fewChanges, lp]
def fewSt (l : List Stp) : Bool := l.all (fun x => fewCh x.c && decide (x.gs.length ≤ 20)) && decide (l.length ≤ 30)
theorem Tjd (l : List Stp) (hl : l.length ≤ 9223372036854775807) (hw : ∀ x ∈ l, x.wf) (h : (l.all fun x => fewCh x.c && decide (x.gs.length ≤ 20)) = true) : ∀ (m i : Nat), m + i = l.length →
 Code (EX cp) L_top_fewSteps_0 ⟨[(0, .p (.sl 6 (stps l))), (3, .p (pi i))], []⟩ = some (.ex 0, ⟨[(0, .p (.sl 6 (stps l))), (3, .p (pi l.length)), (7, .p (pb false))], []⟩)
 | 0, i, hm => by
  obtain rfl : i = l.length := by omega
  rw [L_top_fewSteps_0, Taf]
  simp (disch := omega) [Tac]
 | m + 1, i, hm => by
  have ih := Tjd l hl hw h m (i + 1) (by omega)
  have hi : i < l.length := by omega
  have h1 := Tm8 l i hi
  have h2 := List.all_eq_true.1 h _ (List.getElem_mem hi)
  rw [Bool.and_eq_true, decide_eq_true_eq] at h2
  have h3 := runFewCh (cp := cp) l[i].c (hw _ (List.getElem_mem hi)).c.1
  rw [h2.1] at h3
  have h4 := h2.2
  have h5 : (ints l[i].gs).length = l[i].gs.length := by simp [ints]
  rw [show ((i + 1 : Nat) : Int) = (i : Int) + 1 by omega] at ih
  have hl := Tfk l
  rw [← ih, L_top_fewSteps_0, Taf]
  simp (disch := omega) [h1, h3, h5, Stp.pv, hl, Taa, Tac, Tad, -getElem?_pos]
theorem Tl0 (l : List Stp) (hl : l.length ≤ 9223372036854775807) (hw : ∀ x ∈ l, x.wf) : ∀ (m i : Nat), m + i = l.length → ((l.drop i).all fun x => fewCh x.c && decide (x.gs.length ≤ 20)) = false →
 ∃ s, Code (EX cp) L_top_fewSteps_0 ⟨[(0, .p (.sl 6 (stps l))), (3, .p (pi i))], []⟩ = some (.ret, s) ∧ finish A_top_fewSteps s = some (.val (pb false))
 | 0, i, hm, h => by
  obtain rfl : i = l.length := by omega
  simp at h
 | m + 1, i, hm, h => by
  have hi : i < l.length := by omega
  have h1 := Tm8 l i hi
  have hl' := Tfk l
  have h3 := runFewCh (cp := cp) l[i].c (hw _ (List.getElem_mem hi)).c.1
  have h5 : (ints l[i].gs).length = l[i].gs.length := by simp [ints]
  rw [List.drop_eq_getElem_cons hi, List.all_cons] at h
  by_cases c0 : fewCh l[i].c = true
  · rw [c0] at h h3
    rw [Bool.true_and] at h
    by_cases c1 : l[i].gs.length ≤ 20
    · rw [decide_eq_true c1, Bool.true_and] at h
      obtain ⟨s, ih, hf⟩ := Tl0 l hl hw m (i + 1) (by omega) h
      refine ⟨s, ?_, hf⟩
      rw [show ((i + 1 : Nat) : Int) = (i : Int) + 1 by omega] at ih
      rw [← ih, L_top_fewSteps_0, Taf]
      simp (disch := omega) [h1, h3, h5, Stp.pv, hl', Taa, Tac, Tad, -getElem?_pos]
    · refine ⟨⟨[(2, .p (pb false))], []⟩, ?_, by simp [A_top_fewSteps]⟩
      rw [L_top_fewSteps_0, Taf]
      simp (disch := omega) [h1, h3, h5, Stp.pv, hl', Taa, Tac, Tad, -getElem?_pos]
  · rw [Bool.not_eq_true] at c0
    rw [c0] at h3
    refine ⟨⟨[(2, .p (pb false))], []⟩, ?_, by simp [A_top_fewSteps]⟩
    rw [L_top_fewSteps_0, Taf]
    simp (disch := omega) [h1, h3, h5, Stp.pv, hl', Taa, Tac, Tad, -getElem?_pos]
theorem runFewSt (l : List Stp) (hl : l.length ≤ 9223372036854775807) (hw : ∀ x ∈ l, x.wf) : Run (EX cp) 23 [.sl 6 (stps l)] = some (.val (pb (fewSt l))) := by
 rw [Taj _ A_top_fewSteps _ rfl rfl rfl]
 unfold fewSt
 have hl' := Tfk l
 by_cases h : (l.all fun x => fewCh x.c && decide (x.gs.length ≤ 20)) = true
 · have lp := Tjd (cp := cp) l hl hw h l.length 0 (by omega)
   rw [show ((0 : Nat) : Int) = 0 from rfl] at lp
   rw [h, Bool.true_and]
   simp (disch := omega) [A_top_fewSteps, lp, hl']
   omega
 · rw [Bool.not_eq_true] at h
   obtain ⟨s, lp, hf⟩ := Tl0 (cp := cp) l hl hw l.length 0 (by omega) (by simpa using h)
   rw [show ((0 : Nat) : Int) = 0 from rfl] at lp
   rw [h, Bool.false_and, ← hf]
   simp (disch := omega) [A_top_fewSteps, lp]
theorem Tfl {c : List Ch} (h : fewCh c = true) : c.length ≤ 12 ∧ ∀ x ∈ c, x.s.size ≤ 60 := by
 unfold fewCh at h
 rw [Bool.and_eq_true, decide_eq_true_eq, List.all_eq_true] at h
 exact ⟨h.2, fun x hx => by simpa using h.1 x hx⟩
theorem Tm9 {c : List Ch} (h : fewCh c = true) : ChW c := ⟨by have := (Tfl h).1; omega, fun x hx => by have := (Tfl h).2 x hx; omega⟩
theorem Twb {l : List Stp} (h : fewSt l = true) : l.length ≤ 30 ∧ ∀ x ∈ l, fewCh x.c = true := by
 unfold fewSt at h
 rw [Bool.and_eq_true, decide_eq_true_eq, List.all_eq_true] at h
 exact ⟨h.2, fun x hx => by have := h.1 x hx; rw [Bool.and_eq_true] at this; exact this.1⟩
section
attribute [local simp] cellR thereV RV.sv innE inlE reach pos subH SV.mapr RV.mapr Ob.mapr SV.refs RV.id? RV.ref Ob.refs noRow shnE shrE okK closeB freshs at0 newS leftS finishS oneS manyS allP sameFz Ob.noPin startS entryS List.range_succ List.filterMap_cons List.filterMap_nil SV.rv fzvs fzv liveV liveR rcellss rcells fillQ fixN RV.isNil revO
theorem doEdit (E : Eng) (H : EOk E) (s : Stp) (hw : ChW s.c) (hg : inR s.g) (hs : s.w ≤ 4) : Run (EX cp) 1000025 [.hp [.mp 0 0 0, .p (.st s.pv)] E.hp] = some (.shr (.p (.tu [pi (E.edit s.b s.g s.r s.c).1, pi (E.edit s.b s.g s.r s.c).2.1])) (if (E.edit s.b s.g s.r s.c).2.1 = 0 then E.hp2 (E.edit s.b s.g s.r s.c).2.2 else E.hp)) := by
 have h1 := Tkl (cp := cp) E H s.b s.g s.r s.c hw hg
 rw [Tbi _ 25 A_top_do _ _ (by decide) (by decide) rfl rfl rfl rfl rfl (by simp [Eng.hp, engH])]
 generalize E.edit s.b s.g s.r s.c = q at *
 obtain ⟨n, e, E'⟩ := q
 simp only [cEdit, Eng.hp, Eng.hp2, engH, engH2] at h1 ⊢
 by_cases c : e = 0
 · rw [if_pos c] at h1 ⊢
   simp (disch := omega) [A_top_do, Stp.pv, h1, hs, Taa, Tac]
 · rw [if_neg c] at h1 ⊢
   simp (disch := omega) [A_top_do, Stp.pv, h1, hs, Taa, Tac]
end
end Go.Proofs.YtjpibniecllafaaGreat.AM
end
