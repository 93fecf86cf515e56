/- Made by pack.py: SK1. No condition but what it says. -/
import Derived.Test.YtjpibniecllafaaGreatRE11
import Derived.Test.YtjpibniecllafaaGreatRF3
set_option linter.unusedSimpArgs false
set_option linter.unusedVariables false
section
namespace Go.Proofs.YtjpibniecllafaaGreat.wholeStale
open Go Go.Proofs.YtjpibniecllafaaGreat.U Go.Proofs.YtjpibniecllafaaGreat.AM
attribute [local simp] cellR thereV RV.sv innE inlE reach pos subH SV.mapr RV.mapr Ob.mapr SV.refs RV.id? RV.ref Ob.refs noRow shnE shrE okK closeB freshs at0 newS leftS finishS oneS manyS allP sameFz Ob.noPin startS entryS List.range_succ List.filterMap_cons List.filterMap_nil SV.rv fzvs fzv liveV liveR rcellss rcells fillQ fixN RV.isNil revO canon pinsOf pinOb canF canP
def shapes : List PSh := [.one (.sl [.i .i64, .i .i64, .i .i64, .i .i64, .sl [.i .i64, .i .i64, .tx], .sl [.i .i64]]), .one (.i .u8), .one (.sl [.i .i64, .i .i64, .tx])]
def eH (d m : Nat) (E : Eng) : Nat × Ob := (d, .gr 100 2 [[.p (.sl 5 (ats E.l)), .mo m]])
def mH (m : Nat) (E : Eng) : Nat × Ob := (m, .mpo E.U E.fl E.G E.F)
def one (E : Eng) (s : Stp) : Eng := if s.w ≤ 4 then (E.edit s.b s.g s.r s.c).2.2 else E
def all (E : Eng) (l : List Stp) : Eng := l.foldl one E
theorem T0v {E : Eng} (H : S0 E) (s : Stp) : S0 (one E s) := by
 unfold one
 split
 · exact H.edit _ _ _ _
 · exact H
theorem Tw4 : ∀ (l : List Stp) (E : Eng), S0 E → S0 (all E l)
 | [], E, H => H
 | s :: l, E, H => Tw4 l (one E s) (T0v H s)
def aS (l : List Stp) (w : UInt8) (c : List Ch) (i : Nat) (E : Eng) : St := ⟨[(0, .p (.sl 6 (stps l))), (1, .p (.sc (.int .u8 w.toNat))), (2, .p (.sl 3 (chs c))), (7, .mp 1000 0 0), (8, .p (pi i))], [eH 1000 1001 E, mH 1001 E]⟩
def aT (l : List Stp) (w : UInt8) (c : List Ch) (E : Eng) : St := ⟨[(0, .p (.sl 6 (stps l))), (1, .p (.sc (.int .u8 w.toNat))), (2, .p (.sl 3 (chs c))), (7, .mp 7 0 0), (8, .p (pi l.length)), (33, .p (pb false))], [(7, (eH 1000 1001 E).2), mH 1001 E]⟩
set_option maxHeartbeats 4000000 in
theorem steps (l : List Stp) (hl : l.length ≤ 30) (hw : ∀ x ∈ l, x.wf) (hf : ∀ x ∈ l, fewCh x.c = true) (w : UInt8) (c : List Ch) : ∀ (m i : Nat) (E : Eng), EOk E → m + i = l.length → LC (EX fun _ => none) L_top_WholeStale_0 (aS l w c i E) = some (.ex 0, aT l w c (all E (l.drop i)))
 | 0, i, E, H, hm => by
  obtain rfl : i = l.length := by omega
  have hbl := Tfk l
  rw [Tbd _ L_top_WholeStale_0 _ _ rfl, List.drop_length]
  unfold aS aT eH mH all
  rw [List.foldl_nil]
  generalize stps l = R at *
  generalize l.length = n at *
  simp (disch := omega) [hbl, Tac, -getElem?_pos]
 | m + 1, i, E, H, hm => by
  have hi : i < l.length := by omega
  have h1 := Tm8 l i hi
  have hmem := List.getElem_mem hi
  have hws := hw _ hmem
  have h2 := doEdit (cp := fun _ => none) E H l[i] (Tm9 (hf _ hmem)) hws.g
  have ih := steps l hl hw hf w c m (i + 1) (one E l[i]) (by
   unfold one
   split
   · exact EOk.edit H _ _ _ _
   · exact H) (by omega)
  have e1 : all E (l.drop i) = all (one E l[i]) (l.drop (i + 1)) := by
   rw [List.drop_eq_getElem_cons hi]; rfl
  have hbl := Tfk l
  rw [Tbd _ L_top_WholeStale_0 _ _ rfl, e1]
  unfold aS eH mH at ih ⊢
  rw [show ((i + 1 : Nat) : Int) = (i : Int) + 1 by omega] at ih
  generalize all (one E l[i]) (l.drop (i + 1)) = EZ at *
  have hcs := Eng.edit_cases E l[i].b l[i].g l[i].r l[i].c
  by_cases c0 : l[i].w ≤ 4
  · have h2 := h2 c0
    unfold one at ih
    rw [if_pos c0] at ih
    by_cases c1 : (E.edit l[i].b l[i].g l[i].r l[i].c).2.1 = 0
    · rw [if_pos c1] at h2
      simp only [Eng.hp, Eng.hp2, engH, engH2] at h2
      generalize E.edit l[i].b l[i].g l[i].r l[i].c = q at *
      obtain ⟨q1, q2, E1⟩ := q
      generalize l[i] = s at *
      generalize stps l = R at *
      generalize l.length = n at *
      simp only [Stp.pv] at h2
      simp (disch := omega) [h1, h2, hbl, Stp.pv, hi, c0, Taa, Tac, Tad, -getElem?_pos]
      exact ih
    · rw [if_neg c1] at h2
      rcases hcs with ⟨_, hE⟩ | ⟨hE, _⟩
      · rw [hE] at ih
        simp only [Eng.hp, Eng.hp2, engH, engH2] at h2
        generalize E.edit l[i].b l[i].g l[i].r l[i].c = q at *
        obtain ⟨q1, q2, E1⟩ := q
        generalize l[i] = s at *
        generalize stps l = R at *
        generalize l.length = n at *
        simp only [Stp.pv] at h2
        simp (disch := omega) [h1, h2, hbl, Stp.pv, hi, c0, Taa, Tac, Tad, -getElem?_pos]
        exact ih
      · exact absurd (by rw [hE]) c1
  · unfold one at ih
    rw [if_neg c0] at ih
    generalize l[i] = s at *
    generalize stps l = R at *
    generalize l.length = n at *
    simp (disch := omega) [h1, hbl, Stp.pv, hi, c0, Taa, Tac, Tad, -getElem?_pos]
    exact ih
def adds (c : List Ch) : Nat := (c.map fun x => x.s.size).sum
def bS (c : List Ch) (s : ByteArray) (n : Int) (i k : Nat) (E : Eng) : St := ⟨[(2, .p (.sl 3 (chs c))), (7, .mp 1000 0 0), (10, .p (.sc (.string s))), (11, .p (pi n)), (13, .p (pi k)), (14, .p (pi i))], [eH 1000 1001 E, mH 1001 E]⟩
def bT (c : List Ch) (s : ByteArray) (n : Int) (E : Eng) : St := ⟨[(2, .p (.sl 3 (chs c))), (7, .mp 7 0 0), (10, .p (.sc (.string s))), (11, .p (pi n)), (13, .p (pi (adds c))), (14, .p (pi c.length)), (72, .p (pb false))], [(7, (eH 1000 1001 E).2), mH 1001 E]⟩
theorem adds_le (c : List Ch) (h : ∀ x ∈ c, x.s.size ≤ 60) : adds c ≤ 60 * c.length := by
 induction c with
 | nil => simp [adds]
 | cons x c ih =>
  have h1 := h x (by simp)
  have h2 := ih fun y hy => h y (by simp [hy])
  unfold adds at *
  rw [List.map_cons, List.sum_cons, List.length_cons]; omega
theorem adds_snoc (c : List Ch) (i : Nat) (h : i < c.length) : adds (c.take (i + 1)) = adds (c.take i) + c[i].s.size := by
 have : c.take (i + 1) = c.take i ++ [c[i]] := by rw [List.take_add_one, List.getElem?_eq_getElem h]; rfl
 unfold adds
 rw [this, List.map_append, List.sum_append]
 simp only [List.map_cons, List.map_nil, List.sum_cons, List.sum_nil, Nat.add_zero]
set_option maxHeartbeats 4000000 in
theorem puts (c : List Ch) (h12 : c.length ≤ 12) (h60 : ∀ x ∈ c, x.s.size ≤ 60) (s : ByteArray) (n : Int) (E : Eng) : ∀ (m i : Nat), m + i = c.length → LC (EX fun _ => none) L_top_WholeStale_1 (bS c s n i (adds (c.take i)) E) = some (.ex 2, bT c s n E)
 | 0, i, hm => by
  obtain rfl : i = c.length := by omega
  have hbl := Tex c
  rw [Tbd _ L_top_WholeStale_1 _ _ rfl, List.take_length]
  unfold bS bT eH mH
  generalize chs c = R at *
  generalize adds c = a at *
  generalize c.length = n at *
  simp (disch := omega) [hbl, Tac, -getElem?_pos]
 | m + 1, i, hm => by
  have hi : i < c.length := by omega
  have ih := puts c h12 h60 s n E m (i + 1) (by omega)
  have h1 := Tb3 c i hi
  have hz := h60 _ (List.getElem_mem hi)
  have ha := adds_le (c.take i) fun x hx => h60 x (List.mem_of_mem_take hx)
  rw [List.length_take] at ha
  have hbl := Tex c
  rw [adds_snoc c i hi] at ih
  rw [Tbd _ L_top_WholeStale_1 _ _ rfl]
  unfold bS eH mH at ih ⊢
  rw [show ((i + 1 : Nat) : Int) = (i : Int) + 1 by omega, Int.natCast_add] at ih
  generalize bT c s n E = Z at *
  generalize adds (c.take i) = a at *
  generalize c[i] = x at *
  generalize chs c = R at *
  generalize c.length = nn at *
  simp (disch := omega) [h1, hbl, Ch.pv, hi, Taa, Tac, Tad, -getElem?_pos]
  exact ih
def gS (s : ByteArray) (n : Int) (a : Nat) (k i : Nat) (E : Eng) : St := ⟨[(7, .mp 1000 0 0), (10, .p (.sc (.string s))), (11, .p (pi n)), (13, .p (pi a)), (15, .ms 1001 0 E.l.length), (16, .p (pi k)), (17, .p (pi i))], [eH 1000 1002 E, (1001, .row 62 5 false (ats E.l)), mH 1002 E]⟩
def gT (s : ByteArray) (n : Int) (a : Nat) (k : Nat) (E : Eng) : St := ⟨[(7, .mp 7 0 0), (10, .p (.sc (.string s))), (11, .p (pi n)), (13, .p (pi a)), (15, .ms 15 0 E.l.length), (16, .p (pi k)), (17, .p (pi E.l.length)), (88, .p (pb false))], [(7, (eH 1000 1002 E).2), (15, .row 62 5 false (ats E.l)), mH 1002 E]⟩
theorem Ttj (n : Int) (l : List At) (h : ∀ a ∈ l, a.txt.size ≤ 4) : sumF (goneF n) l ≤ 4 * l.length := by
 induction l with
 | nil => simp [sumF]
 | cons x c ih =>
  have h1 := h x (by simp)
  have h2 := ih fun y hy => h y (by simp [hy])
  rw [Tb6, List.length_cons]
  have : goneF n x ≤ 4 := by unfold goneF; split <;> omega
  omega
theorem Ttk (n : Int) (l : List At) (i : Nat) (h : i < l.length) : sumF (goneF n) (l.take (i + 1)) = sumF (goneF n) (l.take i) + goneF n l[i] := by
 have : l.take (i + 1) = l.take i ++ [l[i]] := by rw [List.take_add_one, List.getElem?_eq_getElem h]; rfl
 rw [this, Tdv]; simp [sumF]
theorem Ttl (n : Int) (a : At) (h : 0 < a.cuts.length) : lastIs n a = decide (a.cuts[a.cuts.length - 1].1 = n) := by
 unfold lastIs
 rw [List.getLast?_eq_getElem?, List.getElem?_eq_getElem (by omega)]
theorem Ttm (n : Int) (a : At) (h : a.cuts.length = 0) : lastIs n a = false := by
 unfold lastIs
 rw [List.length_eq_zero_iff.1 h]; rfl
set_option maxHeartbeats 8000000 in
theorem goes (s : ByteArray) (n : Int) (hn : 0 ≤ n ∧ n ≤ 1000) (a : Nat) (E : Eng) (H : EOk E) : ∀ (m i : Nat), m + i = E.l.length → LC (EX fun _ => none) L_top_WholeStale_2 (gS s n a (sumF (goneF n) (E.l.take i)) i E) = some (.ex 4, gT s n a (sumF (goneF n) E.l) E)
 | 0, i, hm => by
  obtain rfl : i = E.l.length := by omega
  have hbl := Tdu E.l
  rw [Tbd _ L_top_WholeStale_2 _ _ rfl, List.take_length]
  unfold gS gT eH mH
  generalize ats E.l = R at *
  generalize sumF (goneF n) E.l = a at *
  generalize E.l.length = n at *
  simp (disch := omega) [hbl, Tac, -getElem?_pos]
 | m + 1, i, hm => by
  have hi : i < E.l.length := by omega
  have ih := goes s n hn a E H m (i + 1) (by omega)
  have hmem := List.getElem_mem hi
  have h1 := Tiz E.l i hi
  have hl4 := H.len
  have hcl := H.cl _ hmem
  have hsz := (H.tx.size _ hmem).2
  have ha := Ttj n (E.l.take i) fun x hx => (H.tx.size x (List.mem_of_mem_take hx)).2
  rw [List.length_take] at ha
  have h2 := refVisible (cp := fun _ => none) E.l[i] (n - 1) [] (by simp) (by omega)
  have hbl := Tdu E.l
  rw [Ttk n E.l i hi] at ih
  rw [Tbd _ L_top_WholeStale_2 _ _ rfl]
  unfold gS eH mH at ih ⊢
  rw [show ((i + 1 : Nat) : Int) = (i : Int) + 1 by omega, Int.natCast_add] at ih
  have hlast := Ttl n E.l[i]
  have hnone := Ttm n E.l[i]
  have hcut := fun k (h : k < E.l[i].cuts.length) => Tod E.l[i].cuts k h
  have hgo : goneF n E.l[i] = (if lastIs n E.l[i] = true ∧ E.l[i].vis (n - 1) [] = true then E.l[i].txt.size else 0) := rfl
  rw [hgo] at ih
  clear hgo
  generalize gT s n a (sumF (goneF n) E.l) E = Z at *
  generalize sumF (goneF n) (E.l.take i) = g at *
  generalize E.l[i] = x at *
  generalize ats E.l = R at *
  generalize E.l.length = nn at *
  have hcl2 : (cutsL x.cuts).length = x.cuts.length := by simp [cutsL]
  simp only [show ints [] = [] from rfl, At.pv] at h2
  by_cases c0 : x.cuts.length = 0
  · rw [hnone c0, if_neg (by simp), Int.natCast_zero, Int.add_zero] at ih
    simp (disch := omega) [h1, hbl, At.pv, hcl2, hi, c0, Taa, Tac, Tad, -getElem?_pos]
    exact ih
  · rw [hlast (by omega)] at ih
    have hc := hcut (x.cuts.length - 1) (by omega)
    have c0' : (0 : Int) < (x.cuts.length : Int) := by omega
    have ek : ((x.cuts.length : Int) - 1).toNat = x.cuts.length - 1 := by omega
    have e0 : (0 : Int) ≤ (x.cuts.length : Int) - 1 := by omega
    have hpos : 0 < x.cuts.length := by omega
    generalize x.cuts[x.cuts.length - 1] = q at *
    obtain ⟨q1, q2⟩ := q
    clear hlast hnone hcut
    by_cases c1 : q1 = n
    · rw [decide_eq_true c1] at ih
      cases c2 : x.vis (n - 1) [] with
      | true =>
       rw [c2] at ih h2
       rw [if_pos ⟨rfl, rfl⟩] at ih
       simp (disch := omega) [h1, h2, hc, ek, e0, hpos, hbl, At.pv, hcl2, hi, c0, c0', c1, Taa, Tac, Tad, Ta8, -getElem?_pos]
       exact ih
      | false =>
       rw [c2] at ih h2
       rw [if_neg (by simp), Int.natCast_zero, Int.add_zero] at ih
       simp (disch := omega) [h1, h2, hc, ek, e0, hpos, hbl, At.pv, hcl2, hi, c0, c0', c1, Taa, Tac, Tad, Ta8, -getElem?_pos]
       exact ih
    · rw [decide_eq_false c1, if_neg (by simp), Int.natCast_zero, Int.add_zero] at ih
      simp (disch := omega) [h1, hc, ek, e0, hpos, hbl, At.pv, hcl2, hi, c0, c0', c1, Taa, Tac, Tad, Ta8, -getElem?_pos]
      exact ih
end Go.Proofs.YtjpibniecllafaaGreat.wholeStale
end
