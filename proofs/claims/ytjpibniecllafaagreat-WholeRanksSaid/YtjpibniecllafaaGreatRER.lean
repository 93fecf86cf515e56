/- Made by pack.py: RER. No condition but what it says. -/
import Derived.Test.YtjpibniecllafaaGreatP15
set_option linter.unusedSimpArgs false
set_option linter.unusedVariables false
section
namespace Go.Proofs.YtjpibniecllafaaGreat.AM
open Go Go.Proofs.YtjpibniecllafaaGreat.U
attribute [local simp] cellR thereV RV.sv innE inlE reach pos subH SV.mapr RV.mapr Ob.mapr SV.refs RV.id? RV.ref Ob.refs noRow shnE shrE okK closeB freshs at0 newS leftS finishS oneS manyS allP sameFz Ob.noPin startS entryS List.range_succ List.filterMap_cons List.filterMap_nil SV.rv fzvs fzv liveV liveR rcellss rcells fillQ fixN RV.isNil revO
variable {cp : List PV → Option Ret}
def engHR (fz : Bool) (l : List (List PV)) (U : List (List Int)) (fl : Int) (G F : List Int) (c : List (List PV)) : List (Nat × Ob) := [(0, .gr 100 2 [[.p (.sl 5 l), .mo 2]]), (1, .row 49 3 fz c), (2, .mpo U fl G F)]
def engH2R (l : List (List PV)) (U : List (List Int)) (fl : Int) (G F : List Int) (U' : List (List Int)) (fl' : Int) (G' F' : List Int) (c : List (List PV)) : List (Nat × Ob) := [(0, .gr 100 2 [[.p (.sl 5 l), .mo 3]]), (1, .row 49 3 true c), (2, .mpo U fl G F), (3, .mpo U' fl' G' F')]
abbrev Eng.hpR (E : Eng) (fz : Bool) (c : List Ch) : List (Nat × Ob) := engHR fz (ats E.l) E.U E.fl E.G E.F (chs c)
abbrev Eng.hp2R (E E' : Eng) (c : List Ch) : List (Nat × Ob) := engH2R (ats E'.l) E.U E.fl E.G E.F E'.U E'.fl E'.G E'.F (chs c)
abbrev cEditR (E : Eng) (fz : Bool) (b g rk : Int) (c : List Ch) : List PV := [.hp [.mp 0 0 0, .p (pi b), .p (pi g), .p (pi rk), .ms 1 0 c.length] (E.hpR fz c)]
set_option maxHeartbeats 4000000 in
theorem engEditX (l : List At) (U : List (List Int)) (fl : Int) (G F : List Int) (base g rk : Int) (l' : List At) (hl : l.length < 1000000) (hlc : ∀ a ∈ l, a.cuts.length < 1000000) (hf : Fit2 l)
 (hb : fl ≤ base ∧ base ≤ fl + U.length - 1) (hu : (undU U fl base).length ≤ 9223372036854775807) (hk : chk (txtS base (undU U fl base) l) [] = 0)
 (hg : inR g) (hg2 : ¬ (g ∈ F ∨ g < 0 ∨ 60 ≤ g)) (hn : ¬ 200 ≤ fl + (U.length : Int) - 1) (hr : 0 ≤ rk ∧ rk ≤ 1000000)
 (hl' : uponF l base (undU U fl base) [] (fl + U.length) g rk = l') (h40 : l'.length ≤ 4000) (hf' : Fit l') (hu' : (undU (U ++ [lastS U]) fl (fl + (U ++ [lastS U]).length - 1)).length ≤ 9223372036854775807)
 (hft : (headT l' (U ++ [lastS U]) fl).size ≤ 20000) :
 Run (EX cp) 1000021 [.hp [.mp 0 0 0, .p (pi base), .p (pi g), .p (pi rk), .xs 3 []] (engH (ats l) U fl G F)] = some (.shr (.p (.tu [pi (fl + U.length), pi 0])) (engH2 (ats l') U fl G F (U ++ [lastS U]) fl (insS g G) F)) := by
 have h1 := engText (cp := cp) l U fl G F base hf.fit hu hb
 have h2 := editCheck (cp := cp) (txtS base (undU U fl base) l) [] (hf.txt base (undU U fl base)) (by simp) (by simp)
 rw [hk] at h2
 have h3 := engCopy (cp := cp) l U fl G F (by omega) (fun a ha => by have := hlc a ha; omega)
 have h4 := Tbc (cp := cp) U fl G F g hg
 have e4 : revAdd U fl G F g = .shr (.p (.tu [pi (fl + U.length), pi 0])) [(0, revO (U ++ [lastS U]) fl (insS g G) F)] := by
  unfold revAdd
  rw [if_neg hg2, if_neg hn]
 rw [e4] at h4
 have h5 := engUndoneAt (cp := cp) (ats l) U fl G F base
 have h6 := editUpon (cp := cp) l base (undU U fl base) [] (fl + U.length) g rk hf hl hlc hu (by simp) (by simp)
 rw [hl'] at h6
 have h7 := engFits (cp := cp) l' (U ++ [lastS U]) fl (insS g G) F hf' (by simp) hu'
 rw [decide_eq_true (by omega : ((headT l' (U ++ [lastS U]) fl).size : Int) ≤ 20000)] at h7
 have r1 : decide (rk < 0) = false := decide_eq_false (by omega)
 have r2 : decide (1000000 < rk) = false := decide_eq_false (by omega)
 have r3 : decide ((4000 : Int) < (l'.length : Int)) = false := decide_eq_false (by omega)
 have hlen : (ats l').length = l'.length := Tdu l'
 simp only [engH, revO, Tsw] at h1 h2 h3 h4 h5 h6 h7
 rw [Tbi _ 21 A_engine_Engine_Edit _ _ (by decide) (by decide) rfl rfl rfl rfl rfl (by simp [engH])]
 simp (disch := omega) [A_engine_Engine_Edit, engH, engH2, h1, h2, h3, h4, h5, h6, h7, hlen, Taa, Tac]
set_option maxHeartbeats 4000000 in
theorem engEditR (fz : Bool) (l : List At) (U : List (List Int)) (fl : Int) (G F : List Int) (base g rk : Int) (c : List Ch) (l' : List At) (hl : l.length < 1000000) (hlc : ∀ a ∈ l, a.cuts.length < 1000000) (hf : Fit2 l)
 (hb : fl ≤ base ∧ base ≤ fl + U.length - 1) (hu : (undU U fl base).length ≤ 9223372036854775807) (hcl : c.length ≤ 9223372036854775807) (hcs : ∀ x ∈ c, x.s.size < 1000000) (hk : chk (txtS base (undU U fl base) l) c = 0)
 (hg : inR g) (hg2 : ¬ (g ∈ F ∨ g < 0 ∨ 60 ≤ g)) (hn : ¬ 200 ≤ fl + (U.length : Int) - 1) (hr : 0 ≤ rk ∧ rk ≤ 1000000)
 (hl' : uponF l base (undU U fl base) c (fl + U.length) g rk = l') (h40 : l'.length ≤ 4000) (hf' : Fit l') (hu' : (undU (U ++ [lastS U]) fl (fl + (U ++ [lastS U]).length - 1)).length ≤ 9223372036854775807)
 (hft : (headT l' (U ++ [lastS U]) fl).size ≤ 20000) :
 Run (EX cp) 1000021 [.hp [.mp 0 0 0, .p (pi base), .p (pi g), .p (pi rk), .ms 1 0 c.length] (engHR fz (ats l) U fl G F (chs c))] = some (.shr (.p (.tu [pi (fl + U.length), pi 0])) (engH2R (ats l') U fl G F (U ++ [lastS U]) fl (insS g G) F (chs c))) := by
 have h1 := engText (cp := cp) l U fl G F base hf.fit hu hb
 have hcs2 : ∀ x ∈ c, x.s.size < 1099511627776 := fun x hx => by have := hcs x hx; omega
 have h2 := editCheck (cp := cp) (txtS base (undU U fl base) l) c (hf.txt base (undU U fl base)) hcl hcs2
 rw [hk] at h2
 have h3 := engCopy (cp := cp) l U fl G F (by omega) (fun a ha => by have := hlc a ha; omega)
 have h4 := Tbc (cp := cp) U fl G F g hg
 have e4 : revAdd U fl G F g = .shr (.p (.tu [pi (fl + U.length), pi 0])) [(0, revO (U ++ [lastS U]) fl (insS g G) F)] := by
  unfold revAdd
  rw [if_neg hg2, if_neg hn]
 rw [e4] at h4
 have h5 := engUndoneAt (cp := cp) (ats l) U fl G F base
 have h6 := editUpon (cp := cp) l base (undU U fl base) c (fl + U.length) g rk hf hl hlc hu hcl hcs
 rw [hl'] at h6
 have h7 := engFits (cp := cp) l' (U ++ [lastS U]) fl (insS g G) F hf' (by simp) hu'
 rw [decide_eq_true (by omega : ((headT l' (U ++ [lastS U]) fl).size : Int) ≤ 20000)] at h7
 have r1 : decide (rk < 0) = false := decide_eq_false (by omega)
 have r2 : decide (1000000 < rk) = false := decide_eq_false (by omega)
 have r3 : decide ((4000 : Int) < (l'.length : Int)) = false := decide_eq_false (by omega)
 have hlen : (ats l').length = l'.length := Tdu l'
 simp only [engH, revO] at h1 h2 h3 h4 h5 h6 h7
 rw [Tbi _ 21 A_engine_Engine_Edit _ _ (by decide) (by decide) rfl rfl rfl rfl rfl (by simp [engHR])]
 simp (disch := omega) [A_engine_Engine_Edit, engHR, engH2R, Tcz, h1, h2, h3, h4, h5, h6, h7, hlen, Taa, Tac]
section
variable (E : Eng) (H : EOk E) (fz : Bool) (b g rk : Int) (c : List Ch)
include H
set_option maxHeartbeats 4000000 in
theorem Tqh (hb : ¬ (E.fl ≤ b ∧ b ≤ E.fl + E.U.length - 1)) : Run (EX cp) 1000021 (cEditR E fz b g rk c) = some (.shr (.p (.tu [pi 0, pi 190])) (E.hpR fz c)) := by
 have _h := H
 have h1 := Ti1 (cp := cp) (ats E.l) E.U E.fl E.G E.F b hb
 simp only [engH] at h1
 rw [Tbi _ 21 A_engine_Engine_Edit _ _ (by decide) (by decide) rfl rfl rfl rfl rfl (by simp [Eng.hpR, engHR])]
 simp (disch := omega) [A_engine_Engine_Edit, Eng.hpR, engHR, Tcz, h1]
set_option maxHeartbeats 4000000 in
theorem Ttb (hw : ChW c) (hb : E.fl ≤ b ∧ b ≤ E.fl + E.U.length - 1) (hk : chk (E.textAt b) c ≠ 0) : Run (EX cp) 1000021 (cEditR E fz b g rk c) = some (.shr (.p (.tu [pi 0, pi (chk (E.textAt b) c)])) (E.hpR true c)) := by
 have h1 := engText (cp := cp) E.l E.U E.fl E.G E.F b H.fit2.fit (H.ul b) hb
 have h2 := editCheck (cp := cp) (E.textAt b) c (H.fit2.txt b (E.ut b)) hw.1 (fun x hx => by have := hw.2 x hx; omega)
 have h1' : txtS b (undU E.U E.fl b) E.l = E.textAt b := rfl
 rw [h1'] at h1
 generalize E.textAt b = t at *
 generalize chk t c = n at *
 simp only [engH] at h1
 rw [Tbi _ 21 A_engine_Engine_Edit _ _ (by decide) (by decide) rfl rfl rfl rfl rfl (by simp [Eng.hpR, engHR])]
 simp (disch := omega) [A_engine_Engine_Edit, Eng.hpR, engHR, Tcz, h1, h2, hk, Taa, Tac]
variable (hw : ChW c) (hb : E.fl ≤ b ∧ b ≤ E.fl + E.U.length - 1) (hk : chk (E.textAt b) c = 0) (hg : inR g)
include hw hb hk hg
set_option maxHeartbeats 4000000 in
theorem Tlw (n : Int) (hn : n ≠ 0) (ha : revAdd E.U E.fl E.G E.F g = .shr (.p (.tu [pi 0, pi n])) [(0, revO E.U E.fl E.G E.F)]) : Run (EX cp) 1000021 (cEditR E fz b g rk c) = some (.shr (.p (.tu [pi 0, pi n])) (E.hpR true c)) := by
 have h1 := engText (cp := cp) E.l E.U E.fl E.G E.F b H.fit2.fit (H.ul b) hb
 have h2 := editCheck (cp := cp) (E.textAt b) c (H.fit2.txt b (E.ut b)) hw.1 (fun x hx => by have := hw.2 x hx; omega)
 have h1' : txtS b (undU E.U E.fl b) E.l = E.textAt b := rfl
 rw [h1'] at h1
 rw [hk] at h2
 have h3 := engCopy (cp := cp) E.l E.U E.fl E.G E.F (by have := H.len; omega) (fun a ha => by have := H.cl a ha; omega)
 have h4 := Tbc (cp := cp) E.U E.fl E.G E.F g hg
 rw [ha] at h4
 simp only [engH, revO] at h1 h3 h4
 rw [Tbi _ 21 A_engine_Engine_Edit _ _ (by decide) (by decide) rfl rfl rfl rfl rfl (by simp [Eng.hpR, engHR])]
 simp (disch := omega) [A_engine_Engine_Edit, Eng.hpR, engHR, Tcz, h1, h2, h3, h4, hn, Taa, Tac]
variable (ha : revAdd E.U E.fl E.G E.F g = .shr (.p (.tu [pi (E.fl + E.U.length), pi 0])) [(0, revO (E.U ++ [lastS E.U]) E.fl (insS g E.G) E.F)])
include ha
set_option maxHeartbeats 4000000 in
theorem Tqi (hr : rk < 0 ∨ 1000000 < rk) : Run (EX cp) 1000021 (cEditR E fz b g rk c) = some (.shr (.p (.tu [pi 0, pi 10])) (E.hpR true c)) := by
 have h1 := engText (cp := cp) E.l E.U E.fl E.G E.F b H.fit2.fit (H.ul b) hb
 have h2 := editCheck (cp := cp) (E.textAt b) c (H.fit2.txt b (E.ut b)) hw.1 (fun x hx => by have := hw.2 x hx; omega)
 have h1' : txtS b (undU E.U E.fl b) E.l = E.textAt b := rfl
 rw [h1'] at h1
 rw [hk] at h2
 have h3 := engCopy (cp := cp) E.l E.U E.fl E.G E.F (by have := H.len; omega) (fun a ha => by have := H.cl a ha; omega)
 have h4 := Tbc (cp := cp) E.U E.fl E.G E.F g hg
 rw [ha] at h4
 simp only [engH, revO] at h1 h3 h4
 rw [Tbi _ 21 A_engine_Engine_Edit _ _ (by decide) (by decide) rfl rfl rfl rfl rfl (by simp [Eng.hpR, engHR])]
 by_cases r1 : rk < 0
 · simp (disch := omega) [A_engine_Engine_Edit, Eng.hpR, engHR, Tcz, h1, h2, h3, h4, Taa, Tac]
 · simp (disch := omega) [A_engine_Engine_Edit, Eng.hpR, engHR, Tcz, h1, h2, h3, h4, Taa, Tac]
end
section
variable (E : Eng) (H : EOk E) (fz : Bool) (b g rk : Int) (c : List Ch)
include H
variable (hw : ChW c) (hb : E.fl ≤ b ∧ b ≤ E.fl + E.U.length - 1) (hk : chk (E.textAt b) c = 0) (hg : inR g)
include hw hb hk hg
variable (ha : revAdd E.U E.fl E.G E.F g = .shr (.p (.tu [pi (E.fl + E.U.length), pi 0])) [(0, revO (E.U ++ [lastS E.U]) E.fl (insS g E.G) E.F)]) (hr : 0 ≤ rk ∧ rk ≤ 1000000)
include ha hr
set_option maxHeartbeats 4000000 in
theorem Tqj (hn : 4000 < (E.upon b g rk c).length) : Run (EX cp) 1000021 (cEditR E fz b g rk c) = some (.shr (.p (.tu [pi 0, pi 70])) (E.hpR true c)) := by
 have h1 := engText (cp := cp) E.l E.U E.fl E.G E.F b H.fit2.fit (H.ul b) hb
 have h2 := editCheck (cp := cp) (E.textAt b) c (H.fit2.txt b (E.ut b)) hw.1 (fun x hx => by have := hw.2 x hx; omega)
 have h1' : txtS b (undU E.U E.fl b) E.l = E.textAt b := rfl
 rw [h1'] at h1
 rw [hk] at h2
 have h3 := engCopy (cp := cp) E.l E.U E.fl E.G E.F (by have := H.len; omega) (fun a ha => by have := H.cl a ha; omega)
 have h4 := Tbc (cp := cp) E.U E.fl E.G E.F g hg
 rw [ha] at h4
 have h5 := engUndoneAt (cp := cp) (ats E.l) E.U E.fl E.G E.F b
 have h6 := editUpon (cp := cp) E.l b (undU E.U E.fl b) c (E.fl + E.U.length) g rk H.fit2 (by have := H.len; omega) (fun a ha => by have := H.cl a ha; omega) (H.ul b) hw.1 hw.2
 have e6 : uponF E.l b (undU E.U E.fl b) c (E.fl + E.U.length) g rk = E.upon b g rk c := rfl
 rw [e6] at h6
 have r1 : decide (rk < 0) = false := decide_eq_false (by omega)
 have r2 : decide (1000000 < rk) = false := decide_eq_false (by omega)
 have hlen : (ats (E.upon b g rk c)).length = (E.upon b g rk c).length := Tdu _
 generalize E.upon b g rk c = l' at *
 have r3 : decide ((4000 : Int) < (l'.length : Int)) = true := decide_eq_true (by omega)
 simp only [engH, revO] at h1 h3 h4 h5
 rw [Tbi _ 21 A_engine_Engine_Edit _ _ (by decide) (by decide) rfl rfl rfl rfl rfl (by simp [Eng.hpR, engHR])]
 simp (disch := omega) [A_engine_Engine_Edit, Eng.hpR, engHR, Tcz, h1, h2, h3, h4, h5, h6, hlen, Taa, Tac]
set_option maxHeartbeats 4000000 in
theorem Tqk (hn : (E.upon b g rk c).length ≤ 4000) (hs : 20000 < (headT (E.upon b g rk c) (E.U ++ [lastS E.U]) E.fl).size) (hf : Fit (E.upon b g rk c)) (hu : (undU (E.U ++ [lastS E.U]) E.fl (E.fl + (E.U ++ [lastS E.U]).length - 1)).length ≤ 9223372036854775807) :
 Run (EX cp) 1000021 (cEditR E fz b g rk c) = some (.shr (.p (.tu [pi 0, pi 13])) (E.hpR true c)) := by
 have h1 := engText (cp := cp) E.l E.U E.fl E.G E.F b H.fit2.fit (H.ul b) hb
 have h2 := editCheck (cp := cp) (E.textAt b) c (H.fit2.txt b (E.ut b)) hw.1 (fun x hx => by have := hw.2 x hx; omega)
 have h1' : txtS b (undU E.U E.fl b) E.l = E.textAt b := rfl
 rw [h1'] at h1
 rw [hk] at h2
 have h3 := engCopy (cp := cp) E.l E.U E.fl E.G E.F (by have := H.len; omega) (fun a ha => by have := H.cl a ha; omega)
 have h4 := Tbc (cp := cp) E.U E.fl E.G E.F g hg
 rw [ha] at h4
 have h5 := engUndoneAt (cp := cp) (ats E.l) E.U E.fl E.G E.F b
 have h6 := editUpon (cp := cp) E.l b (undU E.U E.fl b) c (E.fl + E.U.length) g rk H.fit2 (by have := H.len; omega) (fun a ha => by have := H.cl a ha; omega) (H.ul b) hw.1 hw.2
 have e6 : uponF E.l b (undU E.U E.fl b) c (E.fl + E.U.length) g rk = E.upon b g rk c := rfl
 rw [e6] at h6
 have h7 := engFits (cp := cp) (E.upon b g rk c) (E.U ++ [lastS E.U]) E.fl (insS g E.G) E.F hf (by simp) hu
 rw [decide_eq_false (by omega : ¬ ((headT (E.upon b g rk c) (E.U ++ [lastS E.U]) E.fl).size : Int) ≤ 20000)] at h7
 have r1 : decide (rk < 0) = false := decide_eq_false (by omega)
 have r2 : decide (1000000 < rk) = false := decide_eq_false (by omega)
 have hlen : (ats (E.upon b g rk c)).length = (E.upon b g rk c).length := Tdu _
 generalize E.upon b g rk c = l' at *
 have r3 : decide ((4000 : Int) < (l'.length : Int)) = false := decide_eq_false (by omega)
 simp only [engH, revO] at h1 h3 h4 h5 h7
 rw [Tbi _ 21 A_engine_Engine_Edit _ _ (by decide) (by decide) rfl rfl rfl rfl rfl (by simp [Eng.hpR, engHR])]
 simp (disch := omega) [A_engine_Engine_Edit, Eng.hpR, engHR, Tcz, h1, h2, h3, h4, h5, h6, h7, hlen, Taa, Tac]
end
section
variable (E : Eng) (H : EOk E) (fz : Bool) (b g rk : Int) (c : List Ch)
include H
theorem Th5 (hw : ChW c) (hg : inR g) : Run (EX cp) 1000021 (cEditR E fz b g rk c) = some (.shr (.p (.tu [pi (E.edit b g rk c).1, pi (E.edit b g rk c).2.1])) (if (E.edit b g rk c).2.1 = 0 then E.hp2R (E.edit b g rk c).2.2 c else E.hpR (fz || decide (E.fl ≤ b ∧ b ≤ E.fl + E.U.length - 1)) c)) := by
 unfold Eng.edit
 by_cases c1 : E.fl ≤ b ∧ b ≤ E.fl + E.U.length - 1
 case neg =>
  rw [if_pos c1, decide_eq_false c1, Bool.or_false]
  exact Tqh E H fz b g rk c c1
 rw [if_neg (fun h => h c1), decide_eq_true c1, Bool.or_true]
 by_cases c2 : chk (E.textAt b) c = 0
 case neg =>
  rw [if_pos c2]
  rw [Ttb E H fz b g rk c hw c1 c2]
  show _ = some (Ret.shr _ (if chk (E.textAt b) c = 0 then _ else E.hpR true c))
  rw [if_neg c2]
 rw [if_neg (fun h => h c2)]
 have e0 : revAdd E.U E.fl E.G E.F g = if g ∈ E.F ∨ g < 0 ∨ 60 ≤ g then .shr (.p (.tu [pi 0, pi 210])) [(0, revO E.U E.fl E.G E.F)]
  else if 200 ≤ E.fl + E.U.length - 1 then .shr (.p (.tu [pi 0, pi 70])) [(0, revO E.U E.fl E.G E.F)]
  else .shr (.p (.tu [pi (E.fl + E.U.length), pi 0])) [(0, revO (E.U ++ [lastS E.U]) E.fl (insS g E.G) E.F)] := rfl
 by_cases c3 : g ∈ E.F ∨ g < 0 ∨ 60 ≤ g
 · rw [if_pos c3]
   rw [if_pos c3] at e0
   exact Tlw E H fz b g rk c hw c1 c2 hg 210 (by omega) e0
 rw [if_neg c3]
 rw [if_neg c3] at e0
 by_cases c4 : 200 ≤ E.fl + (E.U.length : Int) - 1
 · rw [if_pos c4]
   rw [if_pos c4] at e0
   exact Tlw E H fz b g rk c hw c1 c2 hg 70 (by omega) e0
 rw [if_neg c4]
 rw [if_neg c4] at e0
 by_cases c5 : rk < 0 ∨ 1000000 < rk
 · rw [if_pos c5]
   exact Tqi E H fz b g rk c hw c1 c2 hg e0 c5
 rw [if_neg c5]
 by_cases c6 : 4000 < (E.upon b g rk c).length
 · rw [if_pos c6]
   exact Tqj E H fz b g rk c hw c1 c2 hg e0 (by omega) c6
 rw [if_neg c6]
 have hf := EOk.fitN E H b g rk c (by omega)
 have hu : (undU (E.U ++ [lastS E.U]) E.fl (E.fl + (E.U ++ [lastS E.U]).length - 1)).length ≤ 9223372036854775807 := by
  rw [Td7 _ _ _ H.fl0]
  have := H.us _ (Tdh E.U H.u1); have := H.hd; omega
 by_cases c7 : 20000 < (headT (E.upon b g rk c) (E.U ++ [lastS E.U]) E.fl).size
 · rw [if_pos c7]
   exact Tqk E H fz b g rk c hw c1 c2 hg e0 (by omega) (by omega) c7 hf.fit hu
 rw [if_neg c7]
 exact engEditR (cp := cp) fz E.l E.U E.fl E.G E.F b g rk c (E.upon b g rk c) (by have := H.len; omega) (fun a ha => by have := H.cl a ha; omega) H.fit2 c1 (H.ul b) hw.1 hw.2 c2 hg c3 c4 (by omega) rfl (by omega) hf.fit hu (by omega)
end
theorem Tv7 (E : Eng) (H : EOk E) (b g rk : Int) (hg : inR g) (h0 : (E.edit b g rk []).2.1 = 0) : Run (EX cp) 1000021 [.hp [.mp 0 0 0, .p (pi b), .p (pi g), .p (pi rk), .xs 3 []] E.hp] = some (.shr (.p (.tu [pi (E.edit b g rk []).1, pi 0])) (E.hp2 (E.edit b g rk []).2.2)) := by
 unfold Eng.edit at h0 ⊢
 by_cases c1 : E.fl ≤ b ∧ b ≤ E.fl + E.U.length - 1
 case neg =>
  rw [if_pos c1] at h0
  cases h0
 rw [if_neg (fun h => h c1)] at h0 ⊢
 by_cases c2 : chk (E.textAt b) [] = 0
 case neg =>
  rw [if_pos c2] at h0
  exact absurd h0 c2
 rw [if_neg (fun h => h c2)] at h0 ⊢
 by_cases c3 : g ∈ E.F ∨ g < 0 ∨ 60 ≤ g
 · rw [if_pos c3] at h0
   cases h0
 rw [if_neg c3] at h0 ⊢
 by_cases c4 : 200 ≤ E.fl + (E.U.length : Int) - 1
 · rw [if_pos c4] at h0
   cases h0
 rw [if_neg c4] at h0 ⊢
 by_cases c5 : rk < 0 ∨ 1000000 < rk
 · rw [if_pos c5] at h0
   cases h0
 rw [if_neg c5] at h0 ⊢
 by_cases c6 : 4000 < (E.upon b g rk []).length
 · rw [if_pos c6] at h0
   cases h0
 rw [if_neg c6] at h0 ⊢
 have hf := EOk.fitN E H b g rk [] (by omega)
 have hu : (undU (E.U ++ [lastS E.U]) E.fl (E.fl + (E.U ++ [lastS E.U]).length - 1)).length ≤ 9223372036854775807 := by
  rw [Td7 _ _ _ H.fl0]
  have := H.us _ (Tdh E.U H.u1); have := H.hd; omega
 by_cases c7 : 20000 < (headT (E.upon b g rk []) (E.U ++ [lastS E.U]) E.fl).size
 · rw [if_pos c7] at h0
   cases h0
 rw [if_neg c7]
 exact engEditX (cp := cp) E.l E.U E.fl E.G E.F b g rk (E.upon b g rk []) (by have := H.len; omega) (fun a ha => by have := H.cl a ha; omega) H.fit2 c1 (H.ul b) c2 hg c3 c4 (by omega) rfl (by omega) hf.fit hu (by omega)
end Go.Proofs.YtjpibniecllafaaGreat.AM
end
