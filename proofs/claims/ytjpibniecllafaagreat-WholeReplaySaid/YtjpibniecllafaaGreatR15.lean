/- Made by pack.py: RE8, RE9, RE10, RE11, AR39, AR40, RF1, RF3, RG1, RF4, PK1, AT0, ALWholeReplay. No condition but what each says. -/
import Derived.Test.YtjpibniecllafaaGreatR14
import Derived.Test.YtjpibniecllafaaGreatR12
import Derived.Test.YtjpibniecllafaaGreatR13
import Derived.Test.YtjpibniecllafaaGreatR11
set_option linter.unusedSimpArgs false
set_option linter.unusedVariables false
section
namespace Go.Proofs.YtjpibniecllafaaGreat.AM
open Go Go.Proofs.YtjpibniecllafaaGreat.U
attribute [local simp] cellR thereV RV.sv innE inlE reach pos subH SV.mapr RV.mapr Ob.mapr SV.refs RV.id? RV.ref Ob.refs noRow shnE shrE okK closeB freshs at0 newS leftS finishS oneS manyS allP sameFz Ob.noPin startS entryS List.range_succ List.filterMap_cons List.filterMap_nil SV.rv fzvs fzv liveV liveR rcellss rcells fillQ fixN RV.isNil revO
variable {cp : List PV → Option Ret}
section
variable (E : Eng) (H : EOk E) (b g rk : Int) (c : List Ch)
include H
variable (hw : ChW c) (hb : E.fl ≤ b ∧ b ≤ E.fl + E.U.length - 1) (hk : chk (E.textAt b) c = 0) (hg : inR g)
include hw hb hk hg
variable (ha : revAdd E.U E.fl E.G E.F g = .shr (.p (.tu [pi (E.fl + E.U.length), pi 0])) [(0, revO (E.U ++ [lastS E.U]) E.fl (insS g E.G) E.F)]) (hr : 0 ≤ rk ∧ rk ≤ 1000000)
include ha hr
set_option maxHeartbeats 4000000 in
theorem Trf (hn : 4000 < (E.upon b g rk c).length) : Run (EX cp) 1000021 (cEdit E b g rk c) = some (.shr (.p (.tu [pi 0, pi 70])) E.hp) := by
 have h1 := engText (cp := cp) E.l E.U E.fl E.G E.F b H.fit2.fit (H.ul b) hb
 have h2 := editCheck (cp := cp) (E.textAt b) c (H.fit2.txt b (E.ut b)) hw.1 (fun x hx => by have := hw.2 x hx; omega)
 have h1' : txtS b (undU E.U E.fl b) E.l = E.textAt b := rfl
 rw [h1'] at h1
 rw [hk] at h2
 have h3 := engCopy (cp := cp) E.l E.U E.fl E.G E.F (by have := H.len; omega) (fun a ha => by have := H.cl a ha; omega)
 have h4 := Tcy (cp := cp) E.U E.fl E.G E.F g hg
 rw [ha] at h4
 have h5 := engUndoneAt (cp := cp) (ats E.l) E.U E.fl E.G E.F b
 have h6 := editUpon (cp := cp) E.l b (undU E.U E.fl b) c (E.fl + E.U.length) g rk H.fit2 (by have := H.len; omega) (fun a ha => by have := H.cl a ha; omega) (H.ul b) hw.1 hw.2
 have e6 : uponF E.l b (undU E.U E.fl b) c (E.fl + E.U.length) g rk = E.upon b g rk c := rfl
 rw [e6] at h6
 have r1 : decide (rk < 0) = false := decide_eq_false (by omega)
 have r2 : decide (1000000 < rk) = false := decide_eq_false (by omega)
 have hlen : (ats (E.upon b g rk c)).length = (E.upon b g rk c).length := Tlc _
 generalize E.upon b g rk c = l' at *
 have r3 : decide ((4000 : Int) < (l'.length : Int)) = true := decide_eq_true (by omega)
 simp only [engH, revO] at h1 h3 h4 h5
 rw [Td5 _ 21 A_engine_Engine_Edit _ _ (by decide) (by decide) rfl rfl rfl rfl rfl (by simp [Eng.hp, engH])]
 simp (disch := omega) [A_engine_Engine_Edit, Eng.hp, engH, h1, h2, h3, h4, h5, h6, hlen, Tab, Tad]
set_option maxHeartbeats 4000000 in
theorem Trg (hn : (E.upon b g rk c).length ≤ 4000) (hs : 20000 < (headT (E.upon b g rk c) (E.U ++ [lastS E.U]) E.fl).size) (hf : Fit (E.upon b g rk c)) (hu : (undU (E.U ++ [lastS E.U]) E.fl (E.fl + (E.U ++ [lastS E.U]).length - 1)).length ≤ 9223372036854775807) :
 Run (EX cp) 1000021 (cEdit E b g rk c) = some (.shr (.p (.tu [pi 0, pi 13])) E.hp) := by
 have h1 := engText (cp := cp) E.l E.U E.fl E.G E.F b H.fit2.fit (H.ul b) hb
 have h2 := editCheck (cp := cp) (E.textAt b) c (H.fit2.txt b (E.ut b)) hw.1 (fun x hx => by have := hw.2 x hx; omega)
 have h1' : txtS b (undU E.U E.fl b) E.l = E.textAt b := rfl
 rw [h1'] at h1
 rw [hk] at h2
 have h3 := engCopy (cp := cp) E.l E.U E.fl E.G E.F (by have := H.len; omega) (fun a ha => by have := H.cl a ha; omega)
 have h4 := Tcy (cp := cp) E.U E.fl E.G E.F g hg
 rw [ha] at h4
 have h5 := engUndoneAt (cp := cp) (ats E.l) E.U E.fl E.G E.F b
 have h6 := editUpon (cp := cp) E.l b (undU E.U E.fl b) c (E.fl + E.U.length) g rk H.fit2 (by have := H.len; omega) (fun a ha => by have := H.cl a ha; omega) (H.ul b) hw.1 hw.2
 have e6 : uponF E.l b (undU E.U E.fl b) c (E.fl + E.U.length) g rk = E.upon b g rk c := rfl
 rw [e6] at h6
 have h7 := engFits (cp := cp) (E.upon b g rk c) (E.U ++ [lastS E.U]) E.fl (insS g E.G) E.F hf (by simp) hu
 rw [decide_eq_false (by omega : ¬ ((headT (E.upon b g rk c) (E.U ++ [lastS E.U]) E.fl).size : Int) ≤ 20000)] at h7
 have r1 : decide (rk < 0) = false := decide_eq_false (by omega)
 have r2 : decide (1000000 < rk) = false := decide_eq_false (by omega)
 have hlen : (ats (E.upon b g rk c)).length = (E.upon b g rk c).length := Tlc _
 generalize E.upon b g rk c = l' at *
 have r3 : decide ((4000 : Int) < (l'.length : Int)) = false := decide_eq_false (by omega)
 simp only [engH, revO] at h1 h3 h4 h5 h7
 rw [Td5 _ 21 A_engine_Engine_Edit _ _ (by decide) (by decide) rfl rfl rfl rfl rfl (by simp [Eng.hp, engH])]
 simp (disch := omega) [A_engine_Engine_Edit, Eng.hp, engH, h1, h2, h3, h4, h5, h6, h7, hlen, Tab, Tad]
end
end Go.Proofs.YtjpibniecllafaaGreat.AM
end
section
namespace Go.Proofs.YtjpibniecllafaaGreat.AM
open Go Go.Proofs.YtjpibniecllafaaGreat.U
attribute [local simp] cellR thereV RV.sv innE inlE reach pos subH SV.mapr RV.mapr Ob.mapr SV.refs RV.id? RV.ref Ob.refs noRow shnE shrE okK closeB freshs at0 newS leftS finishS oneS manyS allP sameFz Ob.noPin startS entryS List.range_succ List.filterMap_cons List.filterMap_nil SV.rv fzvs fzv liveV liveR rcellss rcells fillQ fixN RV.isNil revO
variable {cp : List PV → Option Ret}
theorem Trh (U : List (List Int)) (fl : Int) (s : List Int) (h0 : 0 ≤ fl) : undU (U ++ [s]) fl (fl + (U ++ [s]).length - 1) = s := by
 unfold undU
 rw [if_pos (by simp; omega)]
 have e : (fl + ((U ++ [s]).length : Int) - 1 - fl).toNat = U.length := by simp; omega
 rw [e]
 simp
section
variable (E : Eng) (H : EOk E) (b g rk : Int) (c : List Ch)
include H
theorem EOk.fitN (hn : (E.upon b g rk c).length ≤ 4000) : Fit2 (E.upon b g rk c) := by
 have h1 : okTx (E.upon b g rk c) := Trc H.tx _ _ _ _ _ _
 have h2 : ∀ a ∈ E.upon b g rk c, (a.cuts.length : Int) ≤ E.fl + E.U.length - 1 + 1 := Tkn E.l b (E.ut b) c (E.fl + E.U.length) g rk (E.fl + E.U.length - 1) (by have := H.fl0; have := H.u1; omega) H.cuts
 have h3 := H.hd
 exact Tra _ (by omega) (fun a ha => by have := h1.size a ha; omega) (fun a ha => by have := h2 a ha; omega)
theorem Tt9 (hw : ChW c) (hg : inR g) : Run (EX cp) 1000021 (cEdit E b g rk c) = some (.shr (.p (.tu [pi (E.edit b g rk c).1, pi (E.edit b g rk c).2.1])) (if (E.edit b g rk c).2.1 = 0 then E.hp2 (E.edit b g rk c).2.2 else E.hp)) := by
 unfold Eng.edit
 by_cases c1 : E.fl ≤ b ∧ b ≤ E.fl + E.U.length - 1
 case neg =>
  rw [if_pos c1]
  exact Trd E H b g rk c c1
 rw [if_neg (fun h => h c1)]
 by_cases c2 : chk (E.textAt b) c = 0
 case neg =>
  rw [if_pos c2]
  rw [Tt8 E H b g rk c hw c1 c2]
  show _ = some (Ret.shr _ (if chk (E.textAt b) c = 0 then _ else E.hp))
  rw [if_neg c2]
 rw [if_neg (fun h => h c2)]
 have e0 : revAdd E.U E.fl E.G E.F g = if g ∈ E.F ∨ g < 0 ∨ 60 ≤ g then .shr (.p (.tu [pi 0, pi 210])) [(0, revO E.U E.fl E.G E.F)]
  else if 200 ≤ E.fl + E.U.length - 1 then .shr (.p (.tu [pi 0, pi 70])) [(0, revO E.U E.fl E.G E.F)]
  else .shr (.p (.tu [pi (E.fl + E.U.length), pi 0])) [(0, revO (E.U ++ [lastS E.U]) E.fl (insS g E.G) E.F)] := rfl
 by_cases c3 : g ∈ E.F ∨ g < 0 ∨ 60 ≤ g
 · rw [if_pos c3]
   rw [if_pos c3] at e0
   exact Tnl E H b g rk c hw c1 c2 hg 210 (by omega) e0
 rw [if_neg c3]
 rw [if_neg c3] at e0
 by_cases c4 : 200 ≤ E.fl + (E.U.length : Int) - 1
 · rw [if_pos c4]
   rw [if_pos c4] at e0
   exact Tnl E H b g rk c hw c1 c2 hg 70 (by omega) e0
 rw [if_neg c4]
 rw [if_neg c4] at e0
 by_cases c5 : rk < 0 ∨ 1000000 < rk
 · rw [if_pos c5]
   exact Tre E H b g rk c hw c1 c2 hg e0 c5
 rw [if_neg c5]
 by_cases c6 : 4000 < (E.upon b g rk c).length
 · rw [if_pos c6]
   exact Trf E H b g rk c hw c1 c2 hg e0 (by omega) c6
 rw [if_neg c6]
 have hf := EOk.fitN E H b g rk c (by omega)
 have hu : (undU (E.U ++ [lastS E.U]) E.fl (E.fl + (E.U ++ [lastS E.U]).length - 1)).length ≤ 9223372036854775807 := by
  rw [Trh _ _ _ H.fl0]
  have := H.us _ (Tkm E.U H.u1); have := H.hd; omega
 by_cases c7 : 20000 < (headT (E.upon b g rk c) (E.U ++ [lastS E.U]) E.fl).size
 · rw [if_pos c7]
   exact Trg E H b g rk c hw c1 c2 hg e0 (by omega) (by omega) c7 hf.fit hu
 rw [if_neg c7]
 exact engEdit (cp := cp) E.l E.U E.fl E.G E.F b g rk c (E.upon b g rk c) (by have := H.len; omega) (fun a ha => by have := H.cl a ha; omega) H.fit2 c1 (H.ul b) hw.1 hw.2 c2 hg c3 c4 (by omega) rfl (by omega) hf.fit hu (by omega)
end
section
variable (E : Eng) (H : EOk E) (g : Int)
include H
end
end Go.Proofs.YtjpibniecllafaaGreat.AM
end
section
namespace Go.Proofs.YtjpibniecllafaaGreat.AM
open Go Go.Proofs.YtjpibniecllafaaGreat.U
attribute [local simp] cellR thereV RV.sv innE inlE reach pos subH SV.mapr RV.mapr Ob.mapr SV.refs RV.id? RV.ref Ob.refs noRow shnE shrE okK closeB freshs at0 newS leftS finishS oneS manyS allP sameFz Ob.noPin startS entryS List.range_succ List.filterMap_cons List.filterMap_nil SV.rv fzvs fzv liveV liveR rcellss rcells fillQ fixN RV.isNil revO
variable {cp : List PV → Option Ret}
noncomputable def loopcC (E : Env) (keep : List Nat) (a : ACode) : Option (Out × St) → Option (Out × St)
 | some (.nor, s) => Code E (.loopc keep a) s
 | r => r
noncomputable def LC (E : Env) (c : ACode) (s : St) : Option (Out × St) := match c with
 | .loopc keep a => loopcC E keep a (Code E a s)
 | _ => none
noncomputable def lcC (E : Env) (c : ACode) (keep : List Nat) : Option (Out × St) → Option (Out × St)
 | some (.nor, s) => LC E c (canon (norm keep s))
 | r => r
section
variable (E : Env) (c : ACode) (s : St) (keep : List Nat)
@[simp] theorem Ty7 : lcC E c keep (some (.nor, s)) = LC E c (canon (norm keep s)) := rfl
@[simp] theorem lcC_ex (i : Nat) : lcC E c keep (some (.ex i, s)) = some (.ex i, s) := rfl
@[simp] theorem Ty8 : lcC E c keep (some (.ret, s)) = some (.ret, s) := rfl
@[simp] theorem Tyz : lcC E c keep none = none := rfl
theorem LC_of {a : ACode} (h : c = .loopc keep a) : Code E c s = LC E c (canon (norm keep s)) := by
 subst h
 rw [Tnr]; unfold LC loopcC; rfl
theorem Tfe {a : ACode} (h : c = .loopc keep a) : LC E c s = lcC E c keep (Code E a s) := by
 subst h
 show loopcC E keep a (Code E a s) = _
 cases hc : Code E a s with
 | none => rfl
 | some q =>
  obtain ⟨o, s'⟩ := q
  cases o with
  | nor => exact LC_of E _ s' keep rfl
  | ex i => rfl
  | ret => rfl
end
end Go.Proofs.YtjpibniecllafaaGreat.AM
end
section
namespace Go.Proofs.YtjpibniecllafaaGreat.AM
open Go Go.Proofs.YtjpibniecllafaaGreat.U
variable {cp : List PV → Option Ret}
structure Stp where
 w : Int
 b : Int
 g : Int
 r : Int
 c : List Ch
 gs : List Int
def Stp.pv (s : Stp) : List PV := [pi s.w, pi s.b, pi s.g, pi s.r, .sl 3 (chs s.c), .sl 1 (ints s.gs)]
def stps (l : List Stp) : List (List PV) := l.map Stp.pv
@[simp] theorem Ty0 (l : List Stp) : (stps l).length = l.length := by simp [stps]
structure Stp.wf (s : Stp) : Prop where
 b : inI s.b
 g : inI s.g
 r : inI s.r
 c : s.c.length ≤ 9223372036854775807 ∧ ∀ x ∈ s.c, x.wf
 gs : s.gs.length ≤ 9223372036854775807 ∧ ∀ x ∈ s.gs, inI x
def fewCh (c : List Ch) : Bool := c.all (fun x => decide (x.s.size ≤ 60)) && decide (c.length ≤ 12)
theorem Th6 (c : List Ch) (hc : c.length ≤ 9223372036854775807) (h : (c.all fun x => decide (x.s.size ≤ 60)) = true) : ∀ (m i : Nat), m + i = c.length →
 Code (EX cp) L_top_fewChanges_0 ⟨[(0, .p (.sl 3 (chs c))), (3, .p (pi i))], []⟩ = some (.ex 0, ⟨[(0, .p (.sl 3 (chs c))), (3, .p (pi c.length)), (7, .p (pb false))], []⟩)
 | 0, i, hm => by
  obtain rfl : i = c.length := by omega
  rw [L_top_fewChanges_0, Tag]
  simp (disch := omega) [Tad]
 | m + 1, i, hm => by
  have ih := Th6 c hc h m (i + 1) (by omega)
  have hi : i < c.length := by omega
  have h1 := Tbs c i hi
  have h2 := List.all_eq_true.1 h _ (List.getElem_mem hi)
  rw [decide_eq_true_eq] at h2
  rw [show ((i + 1 : Nat) : Int) = (i : Int) + 1 by omega] at ih
  have hl := Tg2 c
  rw [← ih, L_top_fewChanges_0, Tag]
  simp (disch := omega) [h1, Ch.pv, hl, Tab, Tad, Tae, -getElem?_pos]
theorem Tko (c : List Ch) (hc : c.length ≤ 9223372036854775807) : ∀ (m i : Nat), m + i = c.length → ((c.drop i).all fun x => decide (x.s.size ≤ 60)) = false →
 ∃ s, Code (EX cp) L_top_fewChanges_0 ⟨[(0, .p (.sl 3 (chs c))), (3, .p (pi i))], []⟩ = some (.ret, s) ∧ finish A_top_fewChanges s = some (.val (pb false))
 | 0, i, hm, h => by
  obtain rfl : i = c.length := by omega
  simp at h
 | m + 1, i, hm, h => by
  have hi : i < c.length := by omega
  have h1 := Tbs c i hi
  have hl := Tg2 c
  rw [List.drop_eq_getElem_cons hi, List.all_cons] at h
  by_cases c0 : c[i].s.size ≤ 60
  · rw [decide_eq_true c0, Bool.true_and] at h
    obtain ⟨s, ih, hf⟩ := Tko c hc m (i + 1) (by omega) h
    refine ⟨s, ?_, hf⟩
    rw [show ((i + 1 : Nat) : Int) = (i : Int) + 1 by omega] at ih
    rw [← ih, L_top_fewChanges_0, Tag]
    simp (disch := omega) [h1, Ch.pv, hl, Tab, Tad, Tae, -getElem?_pos]
  · refine ⟨⟨[(2, .p (pb false))], []⟩, ?_, by simp [A_top_fewChanges]⟩
    rw [L_top_fewChanges_0, Tag]
    simp (disch := omega) [h1, Ch.pv, hl, Tab, Tad, Tae, -getElem?_pos]
theorem runFewCh (c : List Ch) (hc : c.length ≤ 9223372036854775807) : Run (EX cp) 24 [.sl 3 (chs c)] = some (.val (pb (fewCh c))) := by
 rw [Tam _ A_top_fewChanges _ rfl rfl rfl]
 unfold fewCh
 by_cases h : (c.all fun x => decide (x.s.size ≤ 60)) = true
 · have lp := Th6 (cp := cp) c hc h c.length 0 (by omega)
   rw [show ((0 : Nat) : Int) = 0 from rfl] at lp
   have hl := Tg2 c
   rw [h, Bool.true_and]
   simp (disch := omega) [A_top_fewChanges, lp, hl]
   omega
 · rw [Bool.not_eq_true] at h
   obtain ⟨s, lp, hf⟩ := Tko (cp := cp) c hc c.length 0 (by omega) (by simpa using h)
   rw [show ((0 : Nat) : Int) = 0 from rfl] at lp
   rw [h, Bool.false_and, ← hf]
   simp (disch := omega) [A_top_fewChanges, lp]
theorem Tfw {c : List Ch} (h : fewCh c = true) : c.length ≤ 12 ∧ ∀ x ∈ c, x.s.size ≤ 60 := by
 unfold fewCh at h
 rw [Bool.and_eq_true, decide_eq_true_eq, List.all_eq_true] at h
 exact ⟨h.2, fun x hx => by simpa using h.1 x hx⟩
theorem Txf {c : List Ch} (h : fewCh c = true) : ChW c := ⟨by have := (Tfw h).1; omega, fun x hx => by have := (Tfw h).2 x hx; omega⟩
section
attribute [local simp] cellR thereV RV.sv innE inlE reach pos subH SV.mapr RV.mapr Ob.mapr SV.refs RV.id? RV.ref Ob.refs noRow shnE shrE okK closeB freshs at0 newS leftS finishS oneS manyS allP sameFz Ob.noPin startS entryS List.range_succ List.filterMap_cons List.filterMap_nil SV.rv fzvs fzv liveV liveR rcellss rcells fillQ fixN RV.isNil revO
end
end Go.Proofs.YtjpibniecllafaaGreat.AM
end
section
namespace Go.Proofs.YtjpibniecllafaaGreat.AM
open Go Go.Proofs.YtjpibniecllafaaGreat.U
theorem Tux {α : Type} (z : List α) (a b c : Nat) (h1 : a ≤ b) (h2 : b ≤ c) : (z.drop a).take (c - a) = (z.drop a).take (b - a) ++ (z.drop b).take (c - b) := by
 have := List.take_add (l := z.drop a) (i := b - a) (j := c - b)
 rw [List.drop_drop, show a + (b - a) = b by omega, show b - a + (c - b) = c - a by omega] at this
 exact this
theorem Tyh {α : Type} (z : List α) (a b : Nat) (x : α) (h : x ∈ (z.drop a).take (b - a)) : ∃ i, a ≤ i ∧ i < b ∧ z[i]? = some x := by
 obtain ⟨i, hi⟩ := List.mem_iff_getElem?.1 h
 rw [List.getElem?_take] at hi
 split at hi
 · rw [List.getElem?_drop] at hi
   exact ⟨a + i, by omega, by omega, hi⟩
 · simp at hi
theorem sg_eq {α : Type} (z l : List α) (a b : Nat) (h : ∀ i, a ≤ i → i < b → z[i]? = l[i]?) : (z.drop a).take (b - a) = (l.drop a).take (b - a) := by
 apply List.ext_getElem?
 intro i
 rw [List.getElem?_take, List.getElem?_take]
 split
 · rw [List.getElem?_drop, List.getElem?_drop]
   exact h (a + i) (by omega) (by omega)
 · rfl
section
variable (rev now gr rk : Int) (l : List At) (hv : ∀ a ∈ l, a.vis rev [] = true) (ho : okTx l) (hv2 : ∀ a ∈ l, a.vis now [] = true) (C0 : List Ch)
include hv
include ho
include hv2
end
end Go.Proofs.YtjpibniecllafaaGreat.AM
end
section
namespace Go.Proofs.YtjpibniecllafaaGreat.AM
open Go Go.Proofs.YtjpibniecllafaaGreat.U
theorem Eng.edit_good (E : Eng) (b g rk : Int) (c : List Ch) (l' : List At) (hb : E.fl ≤ b ∧ b ≤ E.fl + E.U.length - 1) (hk : chk (E.textAt b) c = 0) (hg : g ∉ E.F ∧ 0 ≤ g ∧ g < 60) (hn : E.fl + (E.U.length : Int) ≤ 200) (hr : 0 ≤ rk ∧ rk ≤ 1000000)
 (hl : E.upon b g rk c = l') (h4 : l'.length ≤ 4000) (hs : (headT l' (E.U ++ [lastS E.U]) E.fl).size ≤ 20000) : E.edit b g rk c = (E.fl + E.U.length, 0, ⟨l', E.U ++ [lastS E.U], E.fl, insS g E.G, E.F⟩) := by
 unfold Eng.edit
 rw [if_neg (fun h => h hb), if_neg (fun h => h hk), if_neg (by rintro (h | h | h); exact hg.1 h; omega; omega), if_neg (by omega), if_neg (by omega), hl, if_neg (by omega), if_neg (by omega)]
theorem Tnm (n : Nat) (fl r : Int) : undU (List.replicate n []) fl r = [] := by
 unfold undU
 split
 · rw [List.getD_eq_getElem?_getD, List.getElem?_replicate]; split <;> rfl
 · rfl
theorem Tg6 (n : Nat) : lastS (List.replicate n []) = [] := by
 unfold lastS
 cases n with
 | zero => rfl
 | succ n => rw [List.replicate_succ', List.getLastD_concat]
theorem Tja (n : Nat) : List.replicate n ([] : List Int) ++ [[]] = List.replicate (n + 1) [] := by rw [List.replicate_succ']
theorem Tkp (l : List At) (n : Nat) : headT l (List.replicate n []) 0 = txtS ((n : Int) - 1) [] l := by
 unfold headT
 rw [Tnm, List.length_replicate, Int.zero_add]
theorem Tbw (rev : Int) (u : List Int) : ∀ l : List At, txtF rev u l = tl (l.filter fun a => a.vis rev u)
 | [] => rfl
 | a :: l => by
  rw [txtF, Tbw rev u l, List.filter_cons]
  cases h : a.vis rev u with
  | true => simp only [if_true]; rfl
  | false => simp
structure S0 (E : Eng) : Prop where
 ok : EOk E
 fl : E.fl = 0
 u : ∃ n, E.U = List.replicate (n + 1) []
 rv : ∀ a ∈ E.l, a.rv ≤ E.fl + E.U.length - 1
 cr : ∀ a ∈ E.l, ∀ q ∈ a.cuts, q.1 ≤ E.fl + E.U.length - 1
theorem S0.new : S0 Eng.new := ⟨EOk.new, rfl, ⟨0, rfl⟩, fun a h => by simp [Eng.new] at h, fun a h => by simp [Eng.new] at h⟩
theorem S0.ut {E : Eng} (H : S0 E) (r : Int) : undU E.U E.fl r = [] := by
 obtain ⟨n, hn⟩ := H.u
 rw [hn, Tnm]
theorem Eng.edit_cases (E : Eng) (b g rk : Int) (c : List Ch) : (E.edit b g rk c).2.1 ≠ 0 ∧ (E.edit b g rk c).2.2 = E ∨
 E.edit b g rk c = (E.fl + E.U.length, 0, ⟨E.upon b g rk c, E.U ++ [lastS E.U], E.fl, insS g E.G, E.F⟩) ∧ chk (E.textAt b) c = 0 ∧ E.fl ≤ b ∧ b ≤ E.fl + E.U.length - 1 := by
 unfold Eng.edit
 split
 · exact Or.inl ⟨by simp, rfl⟩
 rename_i h1
 split
 · rename_i h; exact Or.inl ⟨h, rfl⟩
 rename_i h2
 split
 · exact Or.inl ⟨by simp, rfl⟩
 split
 · exact Or.inl ⟨by simp, rfl⟩
 split
 · exact Or.inl ⟨by simp, rfl⟩
 split
 · exact Or.inl ⟨by simp, rfl⟩
 split
 · exact Or.inl ⟨by simp, rfl⟩
 · exact Or.inr ⟨rfl, by simpa using h2, by omega, by omega⟩
theorem S0.edit {E : Eng} (H : S0 E) (b g rk : Int) (c : List Ch) : S0 (E.edit b g rk c).2.2 := by
 have hok := EOk.edit H.ok b g rk c
 rcases Eng.edit_cases E b g rk c with ⟨_, h⟩ | ⟨h, _⟩
 · rw [h]; exact H
 · rw [h] at hok ⊢
   obtain ⟨n, hn⟩ := H.u
   refine ⟨hok, H.fl, ⟨n + 1, by show E.U ++ [lastS E.U] = _; rw [hn, Tg6, Tja]⟩, fun a ha => ?_, fun a ha q hq => ?_⟩
   · show a.rv ≤ E.fl + ((E.U ++ [lastS E.U]).length : Int) - 1
     rw [List.length_append, List.length_singleton]
     rcases Tfv _ _ _ _ _ _ _ a ha with ⟨d, hd, rfl | rfl⟩ | ⟨x, _, hx⟩
     · have := H.rv _ hd; omega
     · have := H.rv _ hd
       show d.rv ≤ _
       omega
     · rw [(Tde hx).2.1]; omega
   · show q.1 ≤ E.fl + ((E.U ++ [lastS E.U]).length : Int) - 1
     rw [List.length_append, List.length_singleton]
     rcases Tfv _ _ _ _ _ _ _ a ha with ⟨d, hd, rfl | rfl⟩ | ⟨x, _, hx⟩
     · have := H.cr _ hd q hq; omega
     · have hq' : q ∈ d.cuts ++ [(E.fl + (E.U.length : Int), g)] := hq
       rcases List.mem_append.1 hq' with h' | h'
       · have := H.cr _ hd q h'; omega
       · rw [List.mem_singleton] at h'; subst h'; show E.fl + (E.U.length : Int) ≤ _; omega
     · rw [(Tde hx).1] at hq; simp at hq
def sumF (f : At → Nat) (l : List At) : Nat := (l.map f).sum
theorem Td7 (f : At → Nat) (a b : List At) : sumF f (a ++ b) = sumF f a + sumF f b := by simp [sumF]
theorem Tri (f : At → Nat) (a : At) (l : List At) : sumF f (a :: l) = f a + sumF f l := by simp [sumF]
theorem Trj (f : At → Nat) (now gr rk : Int) (z : List At) : ∀ (sp : List Int) (c : List Ch) (k : Nat), sp.length = c.length → Up z.length sp k → sumF f (mrg now gr rk z sp c k) = sumF f (z.drop k) + (c.map fun x => sumF f (newAts (L x.s) now gr rk)).sum
 | [], [], k, _, _ => by simp [mrg]
 | [], x :: c, k, h, _ => by simp at h
 | s :: sp, [], k, h, _ => by simp at h
 | s :: sp, x :: c, k, h, hu => by
  obtain ⟨h0, h1, h2, h3⟩ := hu
  rw [mrg, Td7, Td7, Trj f now gr rk z sp c _ (by simpa using h) h3, List.map_cons, List.sum_cons]
  have e : z.drop k = (z.drop k).take (s.toNat - k) ++ z.drop s.toNat := by
   have := List.take_append_drop (s.toNat - k) (z.drop k)
   rw [List.drop_drop, show k + (s.toNat - k) = s.toNat by omega] at this
   exact this.symm
  have e2 := congrArg (sumF f) e
  rw [Td7] at e2
  omega
theorem Tlt (a : At) (r : Int) : a.vis r [] = (decide (a.rv ≤ r) && !(a.cuts.any fun q => decide (q.1 ≤ r))) := by
 unfold At.vis holdsF; simp
end Go.Proofs.YtjpibniecllafaaGreat.AM
end
section
namespace Go.Proofs.YtjpibniecllafaaGreat.AM
open Go Go.Proofs.YtjpibniecllafaaGreat.U
theorem cutF {α : Type} (p : α → Bool) : ∀ (l : List α) (k : Nat), k ≤ (l.filter p).length → ∃ l1 l2, l = l1 ++ l2 ∧ l1.filter p = (l.filter p).take k ∧ l2.filter p = (l.filter p).drop k ∧ (l1 = [] ∨ ∃ m a, l1 = m ++ [a] ∧ p a = true)
 | l, 0, _ => ⟨[], l, rfl, rfl, rfl, Or.inl rfl⟩
 | [], k + 1, h => by simp at h
 | a :: l, k + 1, h => by
  by_cases c : p a = true
  · rw [List.filter_cons_of_pos c, List.length_cons] at h
    obtain ⟨l1, l2, h1, h2, h3, h4⟩ := cutF p l k (by omega)
    refine ⟨a :: l1, l2, by rw [h1]; rfl, ?_, ?_, Or.inr ?_⟩
    · rw [List.filter_cons_of_pos c, List.filter_cons_of_pos c, List.take_succ_cons, h2]
    · rw [List.filter_cons_of_pos c, List.drop_succ_cons, h3]
    · rcases h4 with rfl | ⟨m, b, rfl, hb⟩
      · exact ⟨[], a, rfl, c⟩
      · exact ⟨a :: m, b, rfl, hb⟩
  · rw [List.filter_cons_of_neg c] at h ⊢
    obtain ⟨l1, l2, h1, h2, h3, h4⟩ := cutF p l (k + 1) h
    refine ⟨a :: l1, l2, by rw [h1]; rfl, ?_, h3, Or.inr ?_⟩
    · rw [List.filter_cons_of_neg c, h2]
    · rcases h4 with rfl | ⟨m, b, rfl, hb⟩
      · have := congrArg List.length h2
        rw [List.filter_nil, List.length_take] at this
        simp at this; omega
      · exact ⟨a :: m, b, rfl, hb⟩
theorem Trk (rev : Int) (u : List Int) (l : List At) : L (txtS rev u l) = txtF rev u l := L_mk _
theorem cutE (rev : Int) (u : List Int) (l : List At) (ho : okTx l) (e : Int) (he : edge (txtS rev u l) e = true) :
 ∃ l1 l2, l = l1 ++ l2 ∧ txtF rev u l1 = (txtF rev u l).take e.toNat ∧ txtF rev u l2 = (txtF rev u l).drop e.toNat ∧ (l1 = [] ∨ ∃ m a, l1 = m ++ [a] ∧ a.vis rev u = true) ∧ e = (txtF rev u l1).length := by
 obtain ⟨h0, h1, h2, h3⟩ := Th2 he
 rw [Trk, Tbw] at h2
 rw [← L_len, Trk] at h1
 obtain ⟨k, hk, e1, e2⟩ := Tt4 (l.filter fun a => a.vis rev u) (fun a ha => ho a (List.mem_filter.1 ha).1) e.toNat h2
 obtain ⟨l1, l2, q1, q2, q3, q4⟩ := cutF (fun a : At => a.vis rev u) l k hk
 have t1 : txtF rev u l1 = (txtF rev u l).take e.toNat := by rw [Tbw rev u l1, Tbw rev u l, q2, e1]
 refine ⟨l1, l2, q1, t1, by rw [Tbw rev u l2, Tbw rev u l, q3, e2], q4, ?_⟩
 rw [t1, List.length_take]; omega
theorem Tnn (rev : Int) (u : List Int) (l : List At) (i j : Nat) (h : i ≤ j) : (txtF rev u (l.take i)).length ≤ (txtF rev u (l.take j)).length := by
 have : l.take j = l.take i ++ (l.take j).drop i := by
  have := List.take_append_drop i (l.take j)
  rw [List.take_take, Nat.min_eq_left h] at this
  exact this.symm
 rw [this, Ta8, List.length_append]; omega
theorem at_le (rev : Int) (u : List Int) (l : List At) (e : Int) (n : Nat) (h : ∀ i, n ≤ i → i < l.length → e ≤ ((txtF rev u (l.take i)).length : Int)) : ∀ i, i ≤ l.length → n ≤ i → atI rev u e l (places rev u l) i = atI rev u e l (places rev u l) n := by
  intro i
  induction i with
  | zero => intro _ h2; obtain rfl : n = 0 := by omega
            rfl
  | succ i ih =>
    intro h1 h2
    rcases Nat.lt_or_ge i n with c | c
    · obtain rfl : n = i + 1 := by omega
      rfl
    · rw [atI, ih (by omega) c, if_neg]
      unfold okAt
      rw [Tgx rev u l i (by omega), List.getElem?_eq_getElem (by omega)]
      have := h i c (by omega)
      simp; omega
section
variable (rev : Int) (u : List Int) (rk : Int) (l : List At) (ho : okTx l) (hr : ∀ a ∈ l, a.rv ≤ rev)
include ho hr
theorem spotG (e : Int) (he : edge (txtS rev u l) e = true) : ∃ l1 l2, l = l1 ++ l2 ∧ spotF rev u rk l (places rev u l) e = l1.length ∧ txtF rev u l1 = (txtF rev u l).take e.toNat ∧ txtF rev u l2 = (txtF rev u l).drop e.toNat ∧ (l1 = [] ∨ ∃ m a, l1 = m ++ [a] ∧ a.vis rev u = true) ∧ e = (txtF rev u l1).length := by
 obtain ⟨l1, l2, q1, q2, q3, q4, q5⟩ := cutE rev u l ho e he
 refine ⟨l1, l2, q1, ?_, q2, q3, q4, q5⟩
 have hat : atI rev u e l (places rev u l) l.length = l1.length := by
  rw [at_le rev u l e l1.length (fun i h1 h2 => by
   have := Tnn rev u l l1.length i h1
   rw [q1, List.take_left, ← q1] at this
   omega) l.length (Nat.le_refl _) (by rw [q1]; simp)]
  rcases q4 with rfl | ⟨m, a, rfl, ha⟩
  · rfl
  · rw [List.length_append, List.length_singleton, atI, if_pos]
    unfold okAt
    have hlen : m.length < l.length := by rw [q1]; simp
    rw [Tgx rev u l m.length (by omega), List.getElem?_eq_getElem hlen]
    have e1 : l.take m.length = m := by rw [q1, List.append_assoc, List.take_left]
    have e2 : l[m.length] = a := by
     have h1 := List.getElem?_eq_getElem hlen
     have h2 : l[m.length]? = some a := by
      rw [q1, List.append_assoc, List.getElem?_append_right (Nat.le_refl _), Nat.sub_self]; rfl
     exact oIj (h1.symm.trans h2)
    have e3 := (ho a (by rw [q1]; simp)).choose_spec
    have e4 : 1 ≤ a.txt.size := (ho.size a (by rw [q1]; simp)).1
    rw [e1, e2]
    show (decide _ && a.vis rev u) = true
    rw [ha, Bool.and_true, q5, Ta8, List.length_append, txtF, if_pos ha, List.length_append, L_len]
    exact decide_eq_true (by omega)
 unfold spotF
 rw [hat]
 have : l.drop l1.length = l2 := by rw [q1, List.drop_left]
 rw [this, Tt5 rev rk l2 fun a ha => hr a (by rw [q1]; simp [ha]), Nat.add_zero]
theorem G_lt (e : Int) (he : edge (txtS rev u l) e = true) (i : Nat) (hi : i < spotF rev u rk l (places rev u l) e) : ((txtF rev u (l.take i)).length : Int) < e := by
 obtain ⟨l1, l2, q1, q2, q3, q4, q5, q6⟩ := spotG rev u rk l ho hr e he
 rw [q2] at hi
 rcases q5 with rfl | ⟨m, a, rfl, ha⟩
 · simp at hi
 · rw [List.length_append, List.length_singleton] at hi
   have h1 := Tnn rev u l i m.length (by omega)
   have e1 : l.take m.length = m := by rw [q1, List.append_assoc, List.take_left]
   have e4 : 1 ≤ a.txt.size := (ho.size a (by rw [q1]; simp)).1
   rw [e1] at h1
   rw [q6, Ta8, List.length_append, txtF, if_pos ha, List.length_append, L_len]
   omega
theorem G_ge (e : Int) (he : edge (txtS rev u l) e = true) (i : Nat) (hi : spotF rev u rk l (places rev u l) e ≤ i) : e ≤ ((txtF rev u (l.take i)).length : Int) := by
 obtain ⟨l1, l2, q1, q2, q3, q4, q5, q6⟩ := spotG rev u rk l ho hr e he
 rw [q2] at hi
 have h1 := Tnn rev u l l1.length i hi
 have e1 : l.take l1.length = l1 := by rw [q1, List.take_left]
 rw [e1] at h1
 omega
theorem Tyi (e : Int) (he : edge (txtS rev u l) e = true) : spotF rev u rk l (places rev u l) e ≤ l.length ∧ txtF rev u (l.take (spotF rev u rk l (places rev u l) e)) = (txtF rev u l).take e.toNat ∧ txtF rev u (l.drop (spotF rev u rk l (places rev u l) e)) = (txtF rev u l).drop e.toNat := by
 obtain ⟨l1, l2, q1, q2, q3, q4, q5, q6⟩ := spotG rev u rk l ho hr e he
 rw [q2]
 have e1 : l.take l1.length = l1 := by rw [q1, List.take_left]
 have e2 : l.drop l1.length = l2 := by rw [q1, List.drop_left]
 exact ⟨by rw [q1]; simp, by rw [e1, q3], by rw [e2, q4]⟩
end
section
variable (rev now gr rk : Int) (u v : List Int) (l : List At) (ho : okTx l) (hr : ∀ a ∈ l, a.rv ≤ rev) (hn : ∀ a ∈ l, a.vis now v = a.vis rev u) (C0 : List Ch)
include ho hr hn
theorem doesG (hcv : ∀ a ∈ l, (cutAt a now gr).vis now v = false) (hnew : ∀ x ∈ C0, txtF now v (newAts (L x.s) now gr rk) = L x.s) : ∀ (c : List Ch) (k j : Int), Chain (txtS rev u l) c k → (∀ x ∈ c, edge (txtS rev u l) x.f = true ∧ edge (txtS rev u l) x.t = true) → edge (txtS rev u l) k = true → edge (txtS rev u l) j = true → j ≤ k → (∀ x ∈ C0, x.t ≤ k ∨ x ∈ c) → (∀ x ∈ c, x ∈ C0) → (∀ n : Int, j ≤ n → n < k → C0.any (hitB n) = true) →
 txtF now v (mrg now gr rk (zU rev u C0 now gr l (places rev u l)) (c.map fun x => (spotF rev u rk l (places rev u l) x.f : Int)) c (spotF rev u rk l (places rev u l) j)) = doF (txtS rev u l) c k := by
 have hz : ∀ i (hi : i < l.length), (zU rev u C0 now gr l (places rev u l))[i]? = some (if l[i].vis rev u = true ∧ C0.any (hitB ((txtF rev u (l.take i)).length : Nat)) = true then cutAt l[i] now gr else l[i]) := by
  intro i hi
  rw [zU_at rev u C0 now gr l (places rev u l) i l[i] _ (List.getElem?_eq_getElem hi) (Tgx rev u l i (by omega))]
 have hzl := Tnk rev u C0 now gr l (places rev u l)
 have hLs := Trk rev u l
 have hKl : ∀ e, spotF rev u rk l (places rev u l) e ≤ l.length := fun e => Tnc rev u rk l _ e
 have hge := G_ge rev u rk l ho hr
 have hlt := G_lt rev u rk l ho hr
 have hsp := fun e => Tyi rev u rk l ho hr e
 have hmono := fun (f g : Int) (h : f ≤ g) => Th3 rev u rk l (places rev u l) f g h
 have hT := Tnn rev u l
 generalize zU rev u C0 now gr l (places rev u l) = z at *
 generalize hK : (fun e => spotF rev u rk l (places rev u l) e) = K at *
 have hK' : ∀ e, spotF rev u rk l (places rev u l) e = K e := fun e => congrFun hK e
 simp only [hK'] at *
 generalize txtS rev u l = s at *
 have segv : ∀ (a b : Nat) (z' : List At), (∀ i, a ≤ i → i < b → z'[i]? = l[i]?) → txtF now v ((z'.drop a).take (b - a)) = txtF rev u ((l.drop a).take (b - a)) := by
  intro a b z' h
  rw [sg_eq z' l a b h]
  have hm : ∀ x ∈ (l.drop a).take (b - a), x ∈ l := fun x hx => List.mem_of_mem_drop (List.mem_of_mem_take hx)
  generalize (l.drop a).take (b - a) = y at *
  clear h
  induction y with
  | nil => rfl
  | cons x y ih =>
   rw [txtF, txtF, hn x (hm x (by simp)), ih fun w hw => hm w (by simp [hw])]
 have cutS : ∀ j k : Int, edge s j = true → edge s k = true → (∀ n : Int, j ≤ n → n < k → C0.any (hitB n) = true) → txtF now v ((z.drop (K j)).take (K k - K j)) = [] := by
  intro j k hj hk h
  refine Tj9 now v _ fun x hx => ?_
  obtain ⟨i, i1, i2, i3⟩ := Tyh z _ _ x hx
  have hi : i < l.length := by have := hKl k; omega
  rw [hz i hi] at i3
  have hm := List.getElem_mem hi
  have hh := h _ (hge j hj i i1) (hlt k hk i i2)
  rw [← oIj i3]
  by_cases c : l[i].vis rev u = true
  · rw [if_pos ⟨c, hh⟩]
    exact hcv _ hm
  · rw [if_neg (fun h => c h.1), hn _ hm]
    simpa using c
 have keepS : ∀ (k : Int) (b : Nat), edge s k = true → K k ≤ b → b ≤ l.length → (∀ i, K k ≤ i → i < b → C0.any (hitB ((txtF rev u (l.take i)).length : Nat)) = false) → txtF now v ((z.drop (K k)).take (b - K k)) = txtF rev u ((l.drop (K k)).take (b - K k)) := by
  intro k b hk h1 h2 h
  exact segv (K k) b z fun i i1 i2 => by
   rw [hz i (by omega), if_neg (by rw [h i i1 i2]; simp), List.getElem?_eq_getElem (by omega)]
 intro c
 induction c with
 | nil =>
  intro k j hch he hk hj hjk hC hc hcut
  have m1 := hmono j k hjk
  have hb := hKl k
  obtain ⟨k1, k2, k3⟩ := hsp k hk
  show txtF now v (z.drop (K j)) = (L s).drop k.toNat
  have e1 : z.drop (K j) = (z.drop (K j)).take (l.length - K j) := (List.take_of_length_le (by rw [List.length_drop, hzl]; exact Nat.le_refl _)).symm
  rw [e1, Tux z (K j) (K k) l.length m1 hb, Ta8, cutS j k hj hk hcut, List.nil_append, keepS k l.length hk hb (Nat.le_refl _) fun i i1 i2 => by
   rw [List.any_eq_false]
   intro x hx
   have h1 := hge k hk i i1
   rcases hC x hx with h | h
   · unfold hitB; simp; omega
   · simp at h]
  rw [List.take_of_length_le (by rw [List.length_drop]; exact Nat.le_refl _), k3, hLs]
 | cons x c ih =>
  intro k j hch he hk hj hjk hC hc hcut
  obtain ⟨g0, g1, g2, g3, g4⟩ := hch
  obtain ⟨ef, et⟩ := he x (by simp)
  have m1 := hmono j k hjk
  have m2 := hmono k x.f g1
  have hb := hKl x.f
  obtain ⟨k1, k2, k3⟩ := hsp k hk
  obtain ⟨f1, f2, f3⟩ := hsp x.f ef
  rw [List.map_cons, mrg, doF, Ta8, Ta8, Int.toNat_natCast, Tux z (K j) (K k) (K x.f) m1 m2, Ta8, cutS j k hj hk hcut, List.nil_append, hnew x (hc x (by simp)), keepS k (K x.f) hk m2 hb fun i i1 i2 => by
   rw [List.any_eq_false]
   intro y hy
   have h1 := hge k hk i i1
   have h2 := hlt x.f ef i i2
   rcases hC y hy with h | h
   · unfold hitB; simp; omega
   · rcases List.mem_cons.1 h with rfl | h
     · unfold hitB; simp; omega
     · have := Ti7 s c x.t g4 y h
       unfold hitB; simp; omega]
  rw [ih x.t x.f g4 (fun y hy => he y (by simp [hy])) et ef g2 (fun y hy => by
   rcases hC y hy with h | h
   · left; omega
   · rcases List.mem_cons.1 h with rfl | h
     · left; omega
     · right; exact h) (fun y hy => hc y (by simp [hy])) (fun n n1 n2 => by
   rw [List.any_eq_true]
   exact ⟨x, hc x (by simp), by unfold hitB; simp; omega⟩)]
  congr 2
  have e1 : txtF rev u (l.take (K x.f)) = txtF rev u (l.take (K k)) ++ txtF rev u ((l.drop (K k)).take (K x.f - K k)) := by
   rw [← Ta8]
   congr 1
   have := List.take_add (l := l) (i := K k) (j := K x.f - K k)
   rw [show K k + (K x.f - K k) = K x.f by omega] at this
   exact this
  rw [f2, k2] at e1
  rw [hLs]
  have e2 : ((txtF rev u l).take x.f.toNat).drop k.toNat = txtF rev u ((l.drop (K k)).take (K x.f - K k)) := by
   rw [e1, List.drop_append]
   have hkl : ((txtF rev u l).take k.toNat).length = min k.toNat (txtF rev u l).length := List.length_take
   have e3 : ((txtF rev u l).take k.toNat).drop k.toNat = [] := List.drop_eq_nil_of_le (by rw [hkl]; omega)
   have hle : k.toNat ≤ (txtF rev u l).length := by
    obtain ⟨_, q, _, _⟩ := Th2 hk
    rw [← L_len, hLs] at q; omega
   rw [e3, hkl, Nat.min_eq_left hle, Nat.sub_self, List.nil_append, List.drop_zero]
  rw [← e2, List.drop_take]
  congr 1
  omega
end
theorem Tkq (rev now gr rk : Int) (u v : List Int) (l : List At) (ho : okTx l) (hr : ∀ a ∈ l, a.rv ≤ rev) (hn : ∀ a ∈ l, a.vis now v = a.vis rev u) (c : List Ch) (hk : chk (txtS rev u l) c = 0) (hcv : ∀ a ∈ l, (cutAt a now gr).vis now v = false) (hnew : holdsF gr v = true) :
 txtS now v (uponF l rev u c now gr rk) = doS (txtS rev u l) c := by
 have hg := Tco hk
 have e0 : edge (txtS rev u l) 0 = true := by
  unfold edge
  rw [hg.val]
  have hv := hg.val
  cases hL : L (txtS rev u l) with
  | nil =>
   have := L_len (txtS rev u l)
   rw [hL] at this
   simp at this ⊢
   omega
  | cons a t =>
   have hna : ¬ cont a := by
    intro hc
    rw [hL, Tdp] at hv
    rw [dif_pos (Ts1 hc t)] at hv
    cases hv
   have := L_len (txtS rev u l)
   simp [hna]
 apply L_inj
 rw [show L (txtS now v (uponF l rev u c now gr rk)) = _ from L_mk _, Ti9 l rev u c now gr rk hk]
 have s0 : spotF rev u rk l (places rev u l) 0 = 0 := by
  obtain ⟨l1, l2, q1, q2, q3, q4, q5, q6⟩ := spotG rev u rk l ho hr 0 e0
  rw [q2]
  rcases q5 with rfl | ⟨m, a, rfl, ha⟩
  · rfl
  · have e4 : 1 ≤ a.txt.size := (ho.size a (by rw [q1]; simp)).1
    rw [Ta8, List.length_append, txtF, if_pos ha, List.length_append, L_len] at q6
    omega
 have := doesG rev now gr rk u v l ho hr hn c hcv (fun x hx => by
  have h1 := hg.txt x hx
  rw [Tyf now v _ fun a ha => ?_, Tyg, Tbx _ h1]
  obtain ⟨q1, q2, q3, q4, _⟩ := Tde ha
  unfold At.vis
  rw [q1, q2, q3, hnew]
  simp) c 0 0 hg.chain hg.edg e0 e0 (Int.le_refl _) (fun x hx => Or.inr hx) (fun x hx => hx) (fun n h1 h2 => by omega)
 rw [s0] at this
 unfold spotsF
 rw [if_pos hk, this]
 unfold doS
 rw [if_pos hk, L_mk]
end Go.Proofs.YtjpibniecllafaaGreat.AM
end
section
namespace Go.Proofs.YtjpibniecllafaaGreat.AM
open Go Go.Proofs.YtjpibniecllafaaGreat.U
theorem Tno {E : Eng} (H : S0 E) : ∀ a ∈ E.l, a.vis (E.fl + E.U.length) [] = a.vis (E.fl + E.U.length - 1) [] := by
 intro a ha
 have h1 := H.rv a ha
 have h2 := H.cr a ha
 rw [Tlt, Tlt, decide_eq_true (by omega), decide_eq_true (by omega)]
 congr 2
 have hany : ∀ cs : List (Int × Int), (∀ q ∈ cs, q.1 ≤ E.fl + E.U.length - 1) → (cs.any fun q => decide (q.1 ≤ E.fl + (E.U.length : Int))) = cs.any fun q => decide (q.1 ≤ E.fl + (E.U.length : Int) - 1) := by
  intro cs
  induction cs with
  | nil => intro _; rfl
  | cons q cs ih =>
   intro h
   have := h q (by simp)
   rw [List.any_cons, List.any_cons, ih fun w hw => h w (by simp [hw]), decide_eq_true (by omega), decide_eq_true (by omega)]
 exact hany a.cuts h2
theorem Trl (a : At) (n g : Int) : (cutAt a n g).vis n [] = false := by rw [Tlt]; simp [cutAt]
theorem Tjb (l : List At) : sumF (fun _ => 1) l = l.length := by
 induction l with
 | nil => rfl
 | cons a l ih => rw [Tri, ih, List.length_cons]; omega
theorem Tnp (l : List At) (rev : Int) (u : List Int) (c : List Ch) (now gr rk : Int) (hk : chk (txtS rev u l) c = 0) : (uponF l rev u c now gr rk).length ≤ l.length + (c.map fun x => x.s.size).sum := by
 rw [← Tjb (uponF l rev u c now gr rk), Ti9 _ _ _ _ _ _ _ hk, Trj _ _ _ _ _ _ _ _ (Th4 _ _ _ _ _ hk) (by rw [Tnk]; exact Tkk _ _ _ _ _ hk), List.drop_zero, Tjb, Tnk]
 clear hk
 have : (c.map fun x => sumF (fun _ => 1) (newAts (L x.s) now gr rk)).sum ≤ (c.map fun x => x.s.size).sum := by
  induction c with
  | nil => simp
  | cons x c ih =>
   rw [List.map_cons, List.map_cons, List.sum_cons, List.sum_cons, Tjb, Te8]
   have := Ten (L x.s)
   rw [L_len] at this
   omega
 omega
theorem Trm (E : Eng) (H : S0 E) (g rk : Int) (c : List Ch) (hg : g ∉ E.F ∧ 0 ≤ g ∧ g < 60) (hr : 0 ≤ rk ∧ rk ≤ 1000000) (hn : E.fl + (E.U.length : Int) ≤ 200) (h4 : E.l.length + (c.map fun x => x.s.size).sum ≤ 4000) (hs : E.txt.size + (c.map fun x => x.s.size).sum ≤ 20000) :
 E.edit (E.fl + E.U.length - 1) g rk c = if chk E.txt c = 0 then (E.fl + E.U.length, 0, ⟨E.upon (E.fl + E.U.length - 1) g rk c, E.U ++ [lastS E.U], E.fl, insS g E.G, E.F⟩) else (0, chk E.txt c, E) := by
 have u1 := H.ok.u1
 have et : E.textAt (E.fl + E.U.length - 1) = E.txt := rfl
 by_cases hk : chk E.txt c = 0
 · rw [if_pos hk]
   have hd := Tkq (E.fl + E.U.length - 1) (E.fl + E.U.length) g rk [] [] E.l H.ok.tx H.rv (Tno H) c (by
    have : txtS (E.fl + E.U.length - 1) [] E.l = E.txt := by show _ = txtS _ (undU _ _ _) _; rw [H.ut]
    rw [this]; exact hk) (fun a _ => Trl a _ g) (by simp [holdsF])
   have e1 : txtS (E.fl + E.U.length - 1) [] E.l = E.txt := by show _ = txtS _ (undU _ _ _) _; rw [H.ut]
   have e2 : E.upon (E.fl + E.U.length - 1) g rk c = uponF E.l (E.fl + E.U.length - 1) [] c (E.fl + E.U.length) g rk := by
    show uponF E.l _ (undU _ _ _) _ _ _ _ = _; rw [H.ut]
   refine Eng.edit_good E _ g rk c _ ⟨by omega, by omega⟩ (by rw [et]; exact hk) hg hn hr rfl ?_ ?_
   · rw [e2]
     have := Tnp E.l (E.fl + E.U.length - 1) [] c (E.fl + E.U.length) g rk (by rw [e1]; exact hk)
     omega
   · have e3 : headT (E.upon (E.fl + E.U.length - 1) g rk c) (E.U ++ [lastS E.U]) E.fl = doS E.txt c := by
      obtain ⟨n, hn⟩ := H.u
      rw [e2, ← e1, ← hd, hn, Tg6, Tja, H.fl, Tkp]
      simp only [List.length_replicate]
      congr 1
      omega
     rw [e3]
     unfold doS
     rw [if_pos hk, Tiy]
     have := Tq4 E.txt c 0 (Tco hk).chain
     omega
 · rw [if_neg hk]
   unfold Eng.edit
   rw [if_neg (fun h => h ⟨by omega, by omega⟩), if_pos (by rw [et]; exact hk), et]
theorem Trn (E : Eng) (H : S0 E) (g rk : Int) (c : List Ch) (hk : chk E.txt c = 0) : headT (E.upon (E.fl + E.U.length - 1) g rk c) (E.U ++ [lastS E.U]) E.fl = doS E.txt c := by
 have e1 : txtS (E.fl + E.U.length - 1) [] E.l = E.txt := by show _ = txtS _ (undU _ _ _) _; rw [H.ut]
 have hd := Tkq (E.fl + E.U.length - 1) (E.fl + E.U.length) g rk [] [] E.l H.ok.tx H.rv (Tno H) c (by rw [e1]; exact hk) (fun a _ => Trl a _ g) (by simp [holdsF])
 have e2 : E.upon (E.fl + E.U.length - 1) g rk c = uponF E.l (E.fl + E.U.length - 1) [] c (E.fl + E.U.length) g rk := by
  show uponF E.l _ (undU _ _ _) _ _ _ _ = _; rw [H.ut]
 obtain ⟨n, hn⟩ := H.u
 rw [e2, ← e1, ← hd, hn, Tg6, Tja, H.fl, Tkp]
 simp only [List.length_replicate]
 congr 1
 omega
structure RInv (E : Eng) (t : ByteArray) (a i : Nat) : Prop where
 s0 : S0 E
 f : E.F = []
 tx : E.txt = t
 len : E.l.length ≤ a
 sz : t.size ≤ a
 a : a ≤ 2000
 u : E.U.length ≤ i + 1
theorem RInv.new : RInv Eng.new ByteArray.empty 0 0 := ⟨S0.new, rfl, rfl, Nat.le_refl _, Nat.le_refl _, by omega, by simp [Eng.new]⟩
theorem RInv.step {E : Eng} {t : ByteArray} {a i : Nat} (H : RInv E t a i) (g : Int) (hg : 0 ≤ g ∧ g < 60) (hi : i ≤ 100) (c : List Ch) (ha : a + (c.map fun x => x.s.size).sum ≤ 2000) :
 ∃ n E', E.edit (E.fl + E.U.length - 1) g 0 c = (n, chk t c, E') ∧ RInv E' (if chk t c = 0 then doS t c else t) (a + (c.map fun x => x.s.size).sum) (i + 1) ∧ (chk t c ≠ 0 → E' = E ∧ n = 0) := by
 have hfl := H.s0.fl
 have hu := H.u
 have h1 := H.len
 have h2 := H.sz
 have ht := H.tx
 have := Trm E H.s0 g 0 c ⟨by rw [H.f]; simp, hg⟩ ⟨by omega, by omega⟩ (by omega) (by omega) (by rw [ht]; omega)
 have hS := H.s0.edit (E.fl + E.U.length - 1) g 0 c
 rw [ht] at this
 rw [this] at hS ⊢
 by_cases hk : chk t c = 0
 · rw [if_pos hk] at hS ⊢
   refine ⟨_, _, by rw [hk], ?_, fun h => absurd hk h⟩
   rw [if_pos hk]
   have hk' : chk E.txt c = 0 := by rw [ht]; exact hk
   have hd : (doS t c).size ≤ t.size + (c.map fun x => x.s.size).sum := by
    unfold doS
    rw [if_pos hk, Tiy]
    exact Tq4 t c 0 (Tco hk).chain
   refine ⟨hS, H.f, by rw [← ht]; exact Trn E H.s0 g 0 c hk', ?_, by omega, ha, by simp; omega⟩
   have e1 : txtS (E.fl + E.U.length - 1) (E.ut (E.fl + E.U.length - 1)) E.l = E.txt := rfl
   have := Tnp E.l (E.fl + E.U.length - 1) (E.ut (E.fl + E.U.length - 1)) c (E.fl + E.U.length) g 0 (by rw [e1]; exact hk')
   show (E.upon _ g 0 c).length ≤ _
   unfold Eng.upon
   omega
 · rw [if_neg hk] at hS ⊢
   refine ⟨_, _, rfl, ?_, fun _ => ⟨rfl, rfl⟩⟩
   rw [if_neg hk]
   exact ⟨H.s0, H.f, ht, by omega, by omega, ha, by omega⟩
end Go.Proofs.YtjpibniecllafaaGreat.AM
end
section
namespace Go.Proofs.YtjpibniecllafaaGreat.wholeReplay
open Go Go.Proofs.YtjpibniecllafaaGreat.U Go.Proofs.YtjpibniecllafaaGreat.AM
attribute [local simp] cellR thereV RV.sv innE inlE reach pos subH SV.mapr RV.mapr Ob.mapr SV.refs RV.id? RV.ref Ob.refs noRow shnE shrE okK closeB freshs at0 newS leftS finishS oneS manyS allP sameFz Ob.noPin startS entryS List.range_succ List.filterMap_cons List.filterMap_nil SV.rv fzvs fzv liveV liveR rcellss rcells fillQ fixN RV.isNil revO canon pinsOf pinOb canF canP
def shapes : List PSh := [.one (.sl [.sl [.i .i64, .i .i64, .tx]]), .one (.sl [.i .u8])]
def chss (l : List (List Ch)) : List (List PV) := l.map fun c => [.sl 3 (chs c)]
theorem Tfx (l : List (List Ch)) : (chss l).length = l.length := by simp [chss]
theorem Txg (l : List (List Ch)) (n : Nat) (h : n < l.length) : (chss l)[n]? = some [.sl 3 (chs l[n])] := by simp [chss, List.getElem?_eq_getElem h]
theorem Tnq : ∀ {l : List (List PV)}, WTR [.sl [.i .i64, .i .i64, .tx]] l → ∃ cs : List (List Ch), l = chss cs ∧ ∀ c ∈ cs, c.length ≤ 9223372036854775807
 | _, .nil => ⟨[], rfl, by simp⟩
 | _, .cons hc hl => by
  obtain ⟨cs, rfl, hs⟩ := Tnq hl
  cases hc with
  | cons h1 hc =>
   cases hc
   cases h1 with
   | sl hl1 hr1 =>
    obtain ⟨c, rfl, _⟩ := Tq3 hr1
    refine ⟨c :: cs, rfl, fun x hx => ?_⟩
    rcases List.mem_cons.1 hx with rfl | hx
    · simpa [maxLen] using hl1
    · exact hs x hx
theorem Txh {x : PV} (h : WTA (.one (.sl [.sl [.i .i64, .i .i64, .tx]])) x) : ∃ cs : List (List Ch), x = .sl 1 (chss cs) ∧ cs.length ≤ 9223372036854775807 ∧ ∀ c ∈ cs, c.length ≤ 9223372036854775807 := by
 cases h with
 | one h => cases h with
  | sl hl hr =>
   obtain ⟨cs, rfl, hs⟩ := Tnq hr
   exact ⟨cs, rfl, by simpa [maxLen, Tfx] using hl, hs⟩
def eH (d m : Nat) (E : Eng) : Nat × Ob := (d, .gr 100 2 [[.p (.sl 5 (ats E.l)), .mo m]])
def mH (m : Nat) (E : Eng) : Nat × Ob := (m, .mpo E.U E.fl E.G E.F)
def adds (c : List Ch) : Nat := (c.map fun x => x.s.size).sum
theorem Tlu (c : List Ch) (h : ∀ x ∈ c, x.s.size ≤ 60) : adds c ≤ 60 * c.length := by
 induction c with
 | nil => simp [adds]
 | cons x c ih =>
  have h1 := h x (by simp)
  have h2 := ih fun y hy => h y (by simp [hy])
  unfold adds at *
  rw [List.map_cons, List.sum_cons, List.length_cons]; omega
theorem Tro (c : List Ch) (i : Nat) (h : i < c.length) : adds (c.take (i + 1)) = adds (c.take i) + c[i].s.size := by
 have : c.take (i + 1) = c.take i ++ [c[i]] := by rw [List.take_add_one, List.getElem?_eq_getElem h]; rfl
 unfold adds
 rw [this, List.map_append, List.sum_append]
 simp only [List.map_cons, List.map_nil, List.sum_cons, List.sum_nil, Nat.add_zero]
def jS (C G : List (List PV)) (t : ByteArray) (a i k : Nat) (E : Eng) : St := ⟨[(0, .p (.sl 1 C)), (1, .p (.sl 1 G)), (5, .mp 1000 0 0), (6, .p (.sc (.string t))), (7, .p (pi a)), (8, .p (pi i)), (9, .p (pi k))], [eH 1000 1001 E, mH 1001 E]⟩
def jT (C G : List (List PV)) (t : ByteArray) (a i k : Nat) (E : Eng) : St := ⟨[(0, .p (.sl 1 C)), (1, .p (.sl 1 G)), (5, .mp 5 0 0), (6, .p (.sc (.string t))), (7, .p (pi a)), (8, .p (pi i)), (9, .p (pi k)), (44, .p (pb false))], [(5, (eH 1000 1001 E).2), mH 1001 E]⟩
set_option maxHeartbeats 4000000 in
theorem inner (C G : List (List PV)) (t : ByteArray) (a i : Nat) (ha : a ≤ 2000) (hi : i ≤ 100) (c : List Ch) (hC : C[i]? = some [.sl 3 (chs c)]) (h12 : c.length ≤ 12) (h60 : ∀ x ∈ c, x.s.size ≤ 60) (E : Eng) : ∀ (m k : Nat), m + k = c.length → LC (EX fun _ => none) L_top_WholeReplay_0 (jS C G t (a + adds (c.take k)) i k E) = some (.ex 2, jT C G t (a + adds c) i c.length E)
 | 0, k, hm => by
  obtain rfl : k = c.length := by omega
  have hbl := Tg2 c
  rw [Tfe _ L_top_WholeReplay_0 _ _ rfl, List.take_length]
  unfold jS jT eH mH
  generalize chs c = R at *
  generalize adds c = s at *
  generalize c.length = n at *
  simp (disch := omega) [hC, hbl, Tad, -getElem?_pos]
 | m + 1, k, hm => by
  have hk : k < c.length := by omega
  have ih := inner C G t a i ha hi c hC h12 h60 E m (k + 1) (by omega)
  have h1 := Tbs c k hk
  have hz := h60 _ (List.getElem_mem hk)
  have hs := Tlu (c.take k) fun x hx => h60 x (List.mem_of_mem_take hx)
  rw [List.length_take] at hs
  have hbl := Tg2 c
  rw [Tro c k hk, ← Nat.add_assoc] at ih
  rw [Tfe _ L_top_WholeReplay_0 _ _ rfl]
  unfold jS eH mH at ih ⊢
  rw [show ((k + 1 : Nat) : Int) = (k : Int) + 1 by omega, Int.natCast_add (a + adds (c.take k))] at ih
  generalize jT C G t (a + adds c) i c.length E = Z at *
  have hs2 : a + adds (c.take k) ≤ 3000 := by omega
  generalize a + adds (c.take k) = s at *
  generalize c[k] = x at *
  generalize chs c = R at *
  generalize c.length = nn at *
  simp (disch := omega) [h1, hC, hbl, Ch.pv, hk, Tab, Tad, Tae, -getElem?_pos]
  exact ih
def rS (C G : List (List PV)) (t : ByteArray) (a i : Nat) (E : Eng) : St := ⟨[(0, .p (.sl 1 C)), (1, .p (.sl 1 G)), (5, .mp 1000 0 0), (6, .p (.sc (.string t))), (7, .p (pi a)), (8, .p (pi i))], [eH 1000 1001 E, mH 1001 E]⟩
def rX (E : Eng) : St := ⟨[(4, .p (pb true))], [mH 1001 E]⟩
theorem mod6 (q : UInt8) : ∃ g : Nat, g < 6 ∧ (q.toNat : Int).tmod 6 = (g : Int) ∧ IntKind.wrap .i64 (g : Int) = (g : Int) := by
 have := Nat.mod_lt q.toNat (show 0 < 6 by omega)
 exact ⟨q.toNat % 6, this, Tte _ 6, Tae _ (by omega) (by omega)⟩
section
variable (C G : List (List PV)) (t : ByteArray) (a i : Nat) (E : Eng) (ha : a ≤ 2000) (hi : i ≤ 100) (n : Nat) (hn : C.length = n) (hin : i < n) (hn15 : n ≤ 15) (c : List Ch) (hC : C[i]? = some [.sl 3 (chs c)]) (hcl : c.length ≤ 9223372036854775807)
include ha hi hn hin hn15 hC hcl
theorem roundA (hf : fewCh c = false) : LC (EX fun _ => none) L_top_WholeReplay_1 (rS C G t a i E) = some (.ret, rX E) := by
 have _h := And.intro ha (And.intro hi (And.intro hn (And.intro hin (And.intro hn15 (And.intro hcl hC)))))
 have d1 := runFewCh (cp := fun _ => none) c hcl
 rw [hf] at d1
 rw [Tfe _ L_top_WholeReplay_1 _ _ rfl]
 unfold rS rX eH mH
 simp (disch := omega) [hC, hn, hin, d1, Tab, Tad, Tae, -getElem?_pos]
variable (hf : fewCh c = true)
include hf
set_option maxHeartbeats 4000000 in
theorem roundB (hb : 2000 < a + adds c) : LC (EX fun _ => none) L_top_WholeReplay_1 (rS C G t a i E) = some (.ret, rX E) := by
 have _h := And.intro ha (And.intro hi (And.intro hn (And.intro hin (And.intro hn15 (And.intro hcl hC)))))
 obtain ⟨f3, f4⟩ := Tfw hf
 have d1 := runFewCh (cp := fun _ => none) c hcl
 rw [hf] at d1
 have d2 := inner C G t a i ha hi c hC f3 f4 E c.length 0 (by omega)
 have kL := fun st => LC_of (EX fun _ => none) L_top_WholeReplay_0 st _ rfl
 have hs := Tlu c f4
 rw [Tfe _ L_top_WholeReplay_1 _ _ rfl]
 unfold rS rX eH mH
 unfold jS jT eH mH at d2
 rw [show adds (c.take 0) = 0 by simp [adds], Nat.add_zero, show ((0 : Nat) : Int) = 0 from rfl] at d2
 generalize a + adds c = b at *
 generalize chs c = R at *
 generalize c.length = m at *
 simp (disch := omega) [hC, hn, hin, d1, d2, kL, Tab, Tad, Tae, -getElem?_pos]
variable (b : UInt8) (hG : G[i]? = some [.sc (.int .u8 b.toNat)]) (hgl : i < G.length)
include hG hgl
set_option maxHeartbeats 16000000 in
theorem roundC (R : RInv E t a i) (hb : a + adds c ≤ 2000) : ∃ E' t' a', RInv E' t' a' (i + 1) ∧ LC (EX fun _ => none) L_top_WholeReplay_1 (rS C G t a i E) = LC (EX fun _ => none) L_top_WholeReplay_1 (rS C G t' a' (i + 1) E') := by
 have _h2 := hgl
 have _h := And.intro ha (And.intro hi (And.intro hn (And.intro hin (And.intro hn15 (And.intro hcl hC)))))
 obtain ⟨f3, f4⟩ := Tfw hf
 have hw := Txf hf
 have d1 := runFewCh (cp := fun _ => none) c hcl
 rw [hf] at d1
 have d2 := inner C G t a i ha hi c hC f3 f4 E c.length 0 (by omega)
 have kL := fun st => LC_of (EX fun _ => none) L_top_WholeReplay_0 st _ rfl
 have hs := Tlu c f4
 obtain ⟨g, g6, g1, g2⟩ := mod6 b
 have ok := R.s0.ok
 have hsz := R.sz
 have hcs : ∀ x ∈ c, x.s.size < 1099511627776 := fun x hx => by have := f4 x hx; omega
 have d3 := refCheck (cp := fun _ => none) t c (by omega) hcl hcs
 have d4 := refDo (cp := fun _ => none) t c (by omega) hcl hcs
 have d5 := engHead (cp := fun _ => none) (ats E.l) E.U E.fl E.G E.F
 have d6 := Tt9 (cp := fun _ => none) E ok (E.fl + E.U.length - 1) g 0 c hw ⟨by omega, by omega⟩
 obtain ⟨q, E', he, R', hno⟩ := R.step g ⟨by omega, by omega⟩ hi c hb
 rw [he] at d6
 have ok' := R'.s0.ok
 have d7 := runNow (cp := fun _ => none) E'.l E'.U E'.fl E'.G E'.F ok'.fit2.fit ok'.u1 (ok'.ul _)
 have ht : headT E'.l E'.U E'.fl = _ := R'.tx
 rw [ht] at d7
 refine ⟨E', _, _, R', ?_⟩
 obtain ⟨res, ih⟩ : ∃ res, LC (EX fun _ => none) L_top_WholeReplay_1 (rS C G (if chk t c = 0 then doS t c else t) (a + (c.map fun x => x.s.size).sum) (i + 1) E') = res := ⟨_, rfl⟩
 rw [ih]
 rw [Tfe _ L_top_WholeReplay_1 _ _ rfl]
 unfold rS eH mH at ih ⊢
 unfold jS jT eH mH at d2
 rw [show adds (c.take 0) = 0 by simp [adds], Nat.add_zero, show ((0 : Nat) : Int) = 0 from rfl] at d2
 have hadds : (c.map fun x => x.s.size).sum = adds c := rfl
 rw [hadds] at ih
 rw [show ((i + 1 : Nat) : Int) = (i : Int) + 1 by omega] at ih
 simp only [cEdit, Eng.hp, Eng.hp2, engH, engH2] at d5 d6 d7
 clear R R' he hs hw hcs hsz ht hadds ok ok' f4
 by_cases hk : chk t c = 0
 · rw [hk] at d3 d6
   rw [if_pos hk] at d7 ih
   rw [if_pos rfl] at d6
   generalize doS t c = T at *
   generalize a + adds c = s at *
   generalize chs c = Q at *
   generalize c.length = m at *
   simp (maxSteps := 1000000) (disch := omega) [hC, hn, hin, hG, hgl, d1, d2, d3, d4, d5, d6, d7, kL, g1, g2, Tab, Tad, Tae, -getElem?_pos]
   exact ih
 · obtain ⟨hE, hq⟩ := hno hk
   subst hE
   subst hq
   rw [if_neg hk] at d6 d7 ih
   generalize chk t c = z at *
   generalize a + adds c = s at *
   generalize chs c = Q at *
   generalize c.length = m at *
   simp (maxSteps := 1000000) (disch := omega) [hC, hn, hin, hG, hgl, d1, d2, d3, d5, d6, d7, kL, g1, g2, hk, Tab, Tad, Tae, -getElem?_pos]
   exact ih
end
end Go.Proofs.YtjpibniecllafaaGreat.wholeReplay
end
section
namespace Go.Proofs.YtjpibniecllafaaGreat.AM
open Go
def isT : Option Ret → Bool
 | some (.val (.sc (.bool true))) => true
 | _ => false
theorem Tyj {x : Option Ret} (h : isT x = true) : x = some (.val (pb true)) := by
 unfold isT at h
 split at h
 · rfl
 · simp at h
theorem Trp {E : Env} {f : FuncId} {a : List PV} (n : Nat) (h : isT (call E n f a) = true) : Run E f a = some (.val (pb true)) := (Tc3 _ _ _ _).2 ⟨n, Tyj h⟩
theorem knownTop0 : Run (EX fun _ => none) 12 [] = some (.val (pb true)) := Trp 3000 (by decide +kernel)
end Go.Proofs.YtjpibniecllafaaGreat.AM
end
section
namespace Go.Proofs.YtjpibniecllafaaGreat.wholeReplay
open Go Go.Proofs.YtjpibniecllafaaGreat.U Go.Proofs.YtjpibniecllafaaGreat.AM
attribute [local simp] cellR thereV RV.sv innE inlE reach pos subH SV.mapr RV.mapr Ob.mapr SV.refs RV.id? RV.ref Ob.refs noRow shnE shrE okK closeB freshs at0 newS leftS finishS oneS manyS allP sameFz Ob.noPin startS entryS List.range_succ List.filterMap_cons List.filterMap_nil SV.rv fzvs fzv liveV liveR rcellss rcells fillQ fixN RV.isNil revO canon pinsOf pinOb canF canP
def rT (C G : List (List PV)) (t : ByteArray) (a i : Nat) (E : Eng) : St := ⟨[(0, .p (.sl 1 C)), (1, .p (.sl 1 G)), (5, .mp 5 0 0), (6, .p (.sc (.string t))), (7, .p (pi a)), (8, .p (pi i)), (29, .p (pb false))], [(5, (eH 1000 1001 E).2), mH 1001 E]⟩
theorem outer (cc : List (List Ch)) (hcc : ∀ c ∈ cc, c.length ≤ 9223372036854775807) (bs : List UInt8) (h15 : cc.length ≤ 15) (hb : cc.length ≤ bs.length) : ∀ (m i : Nat) (E : Eng) (t : ByteArray) (a : Nat), m + i = cc.length → RInv E t a i →
 ∃ q, LC (EX fun _ => none) L_top_WholeReplay_1 (rS (chss cc) (bRows bs) t a i E) = some q ∧ ((∃ h, q = (.ret, ⟨[(4, .p (pb true))], h⟩)) ∨ ∃ E' t' a', q = (.ex 0, rT (chss cc) (bRows bs) t' a' cc.length E'))
 | 0, i, E, t, a, hm, R => by
  obtain rfl : i = cc.length := by omega
  have hl := Tfx cc
  refine ⟨_, ?_, Or.inr ⟨E, t, a, rfl⟩⟩
  rw [Tfe _ L_top_WholeReplay_1 _ _ rfl]
  unfold rS rT eH mH
  generalize chss cc = C at *
  generalize bRows bs = G at *
  generalize cc.length = n at *
  simp (disch := omega) [hl, Tad, -getElem?_pos]
 | m + 1, i, E, t, a, hm, R => by
  have hi : i < cc.length := by omega
  have hl := Tfx cc
  have hC := Txg cc i hi
  have hcl := hcc _ (List.getElem_mem hi)
  have hG := Ttd bs i (by omega)
  have hgl : i < (bRows bs).length := by rw [Tj5]; omega
  cases hf : fewCh cc[i] with
  | false => exact ⟨_, roundA (chss cc) (bRows bs) t a i E R.a (by omega) cc.length hl hi h15 cc[i] hC hcl hf, Or.inl ⟨_, rfl⟩⟩
  | true =>
   by_cases hb2 : 2000 < a + adds cc[i]
   · exact ⟨_, roundB (chss cc) (bRows bs) t a i E R.a (by omega) cc.length hl hi h15 cc[i] hC hcl hf hb2, Or.inl ⟨_, rfl⟩⟩
   · obtain ⟨E', t', a', R', he⟩ := roundC (chss cc) (bRows bs) t a i E R.a (by omega) cc.length hl hi h15 cc[i] hC hcl hf bs[i] hG hgl R (by omega)
     obtain ⟨q, h1, h2⟩ := outer cc hcc bs h15 hb m (i + 1) E' t' a' (by omega) R'
     exact ⟨q, he.trans h1, h2⟩
set_option maxHeartbeats 8000000 in
theorem law (xs : List PV) (h : WTAs shapes xs) : Run EV 9 xs = some (.val (.sc (.bool true))) := by
 cases h with
 | cons h1 h => cases h with
 | cons h2 h =>
 cases h
 obtain ⟨cc, rfl, hcl, hcc⟩ := Txh h1
 obtain ⟨bs, rfl, hbl⟩ := Tx9 h2
 clear h1 h2
 have hk : Run EV 12 [] = some (.val (pb true)) := knownTop0
 rw [show EV = EX fun _ => none from rfl] at *
 rw [Tam _ A_top_WholeReplay _ rfl rfl rfl]
 have l1 := Tfx cc
 have l2 := Tj5 bs
 by_cases c0 : cc.length ≤ 15
 case neg => simp (disch := omega) [A_top_WholeReplay, hk, l1, l2, c0, Tab, Tad]
 by_cases c1 : cc.length ≤ bs.length
 case neg => simp (disch := omega) [A_top_WholeReplay, hk, l1, l2, c0, c1, Tab, Tad]
 have d2 := engNew (cp := fun _ => none)
 obtain ⟨q, d3, d4⟩ := outer cc hcc bs c0 c1 cc.length 0 Eng.new ByteArray.empty 0 (by omega) RInv.new
 have kL := fun st => LC_of (EX fun _ => none) L_top_WholeReplay_1 st _ rfl
 have hz0 : ats Eng.new.l = [] ∧ Eng.new.U = [[]] ∧ Eng.new.fl = 0 ∧ Eng.new.G = [] ∧ Eng.new.F = [] := ⟨rfl, rfl, rfl, rfl, rfl⟩
 obtain ⟨z1, z2, z3, z4, z5⟩ := hz0
 unfold rS eH mH at d3
 rw [z1, z2, z3, z4, z5, show ((0 : Nat) : Int) = 0 from rfl, show ByteArray.empty = (⟨#[]⟩ : ByteArray) from rfl] at d3
 simp only [engH] at d2
 generalize chss cc = C at *
 generalize bRows bs = G at *
 rcases d4 with ⟨h, rfl⟩ | ⟨E', t', a', rfl⟩
 · simp (disch := omega) [A_top_WholeReplay, hk, l1, l2, c0, c1, d2, d3, kL, Tab, Tad]
 · unfold rT eH mH at d3
   simp (disch := omega) [A_top_WholeReplay, hk, l1, l2, c0, c1, d2, d3, kL, Tab, Tad]
end Go.Proofs.YtjpibniecllafaaGreat.wholeReplay
end
