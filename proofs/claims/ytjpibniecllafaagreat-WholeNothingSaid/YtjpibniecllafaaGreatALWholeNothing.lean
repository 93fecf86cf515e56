/- Made by pack.py: ALWholeNothing. No condition but what it says. -/
import Derived.Test.YtjpibniecllafaaGreatRER
import Derived.Test.YtjpibniecllafaaGreatP15
import Derived.Test.YtjpibniecllafaaGreatP14
set_option linter.unusedSimpArgs false
set_option linter.unusedVariables false
section
namespace Go.Proofs.YtjpibniecllafaaGreat.wholeNothing
open Go Go.Proofs.YtjpibniecllafaaGreat.U Go.Proofs.YtjpibniecllafaaGreat.AM
attribute [local simp] cellR thereV RV.sv innE inlE reach pos subH SV.mapr RV.mapr Ob.mapr SV.refs RV.id? RV.ref Ob.refs noRow shnE shrE okK closeB freshs at0 newS leftS finishS oneS manyS allP sameFz Ob.noPin startS entryS List.range_succ List.filterMap_cons List.filterMap_nil SV.rv fzvs fzv liveV liveR rcellss rcells fillQ fixN RV.isNil revO canon pinsOf pinOb canF canP
def shapes : List PSh := [.one (.tx), .one (.i .u8)]
def nE (s : ByteArray) (i : Nat) : Eng := ⟨newAts (L s) 1 1 0, List.replicate (i + 2) [], 0, if i = 0 then [1] else [1, 2], []⟩
theorem Tkm (s : ByteArray) (hs : s.size ≤ 60) (hv : valid (L s) = true) : (newAts (L s) 1 1 0).length ≤ 60 := by
 rw [Tdg]
 have := Td4 (L s)
 rw [L_len] at this; omega
theorem Tlx (s : ByteArray) (hv : valid (L s) = true) (r : Int) (h1 : 1 ≤ r) (u : List Int) (hu : holdsF 1 u = true) : txtS r u (newAts (L s) 1 1 0) = s := by
 apply L_inj
 rw [show L (txtS r u (newAts (L s) 1 1 0)) = txtF r u (newAts (L s) 1 1 0) from L_mk _, Twy r u _ fun a ha => ?_, Ts4, Ta5 _ hv]
 obtain ⟨q1, q2, q3, q4, _⟩ := Tbo ha
 unfold At.vis
 rw [q1, q2, q3, hu]
 simp [h1]
theorem nE_ok (s : ByteArray) (hs : s.size ≤ 60) (hv : valid (L s) = true) (i : Nat) (hi : i ≤ 20) : EOk (nE s i) := by
 have := Tkm s hs hv
 refine ⟨by show (newAts (L s) 1 1 0).length ≤ 4000; omega, Tfh _ _ _ _, fun a ha => ?_, by simp [nE], by simp [nE], by simp [nE]; omega, fun x hx => ?_⟩
 · rw [(Tbo ha).1]; simp [nE]; omega
 · have : x = [] := List.eq_of_mem_replicate hx
   rw [this]; simp [nE]; omega
theorem first (s : ByteArray) (hs : s.size ≤ 60) (hv : valid (L s) = true) : Eng.new.edit 0 1 0 [⟨0, 0, s⟩] = (1, 0, nE s 0) := by
 obtain ⟨c0, c1⟩ := Tja s 1 1 0 hv (by omega)
 have hl := Tkm s hs hv
 exact Eng.edit_good Eng.new 0 1 0 _ (newAts (L s) 1 1 0) (by simp [Eng.new]) c0 (by simp [Eng.new]) (by simp [Eng.new]) (by omega) c1 (by omega) (by
  show (headT (newAts (L s) 1 1 0) (List.replicate 2 []) 0).size ≤ 20000
  rw [Tbw, Tlx s hv _ (by omega) [] rfl]; omega)
theorem again (s : ByteArray) (hs : s.size ≤ 60) (hv : valid (L s) = true) (i : Nat) (hi : i < 20) : (nE s i).edit (i + 1) 2 i [] = ((i : Int) + 2, 0, nE s (i + 1)) := by
 have hl := Tkm s hs hv
 have h := Eng.edit_good (nE s i) (i + 1) 2 i [] (newAts (L s) 1 1 0) (by simp [nE]; omega) (Tzn _ (Ttd (Tfh _ _ _ _) _ _) (by
  show (txtS _ (undU (List.replicate (i + 2) []) 0 _) (newAts (L s) 1 1 0)).size ≤ 20000
  rw [Tfi, Tlx s hv _ (by omega) [] rfl]; omega)) (by simp [nE]) (by simp [nE]; omega) (by omega) (Tv9 _ _ _ _ _ _) (by omega) (by
  show (headT (newAts (L s) 1 1 0) (List.replicate (i + 2) [] ++ [lastS (List.replicate (i + 2) [])]) 0).size ≤ 20000
  rw [Tb5, Tc0, Tbw, Tlx s hv _ (by omega) [] rfl]; omega)
 rw [h]
 have e1 : insS 2 (nE s i).G = [1, 2] := by
  unfold nE
  by_cases c : i = 0
  · simp only [c, if_true]; decide
  · simp only [c, if_false]; decide
 have e2 : (nE s i).U ++ [lastS (nE s i).U] = List.replicate (i + 1 + 2) [] := by
  show List.replicate (i + 2) [] ++ [lastS (List.replicate (i + 2) [])] = _
  rw [Tb5, Tc0]
 rw [e1, e2]
 have e3 : (nE s i).fl + ((nE s i).U.length : Int) = i + 2 := by simp [nE]
 rw [e3]
 rfl
theorem head_txt (s : ByteArray) (hv : valid (L s) = true) (i : Nat) : headT (nE s i).l (nE s i).U (nE s i).fl = s := by
 show headT (newAts (L s) 1 1 0) (List.replicate (i + 2) []) 0 = s
 rw [Tbw, Tlx s hv _ (by omega) [] rfl]
theorem back (s : ByteArray) (hs : s.size ≤ 60) (hv : valid (L s) = true) (i : Nat) (hi : i < 20) : ∃ U, (nE s (i + 1)).toggle 2 = ((i : Int) + 3, (0 : Int), (⟨newAts (L s) 1 1 0, U, 0, [1, 2], []⟩ : Eng)) ∧ 1 ≤ U.length ∧ (undU U 0 (0 + U.length - 1)).length ≤ 9223372036854775807 ∧ headT (newAts (L s) 1 1 0) U 0 = s := by
 have e : togU (nE s (i + 1)).U 2 = List.replicate (i + 3) [] ++ [[2]] := by
  show List.replicate (i + 3) [] ++ [if 2 ∈ lastS (List.replicate (i + 3) []) then _ else insS 2 (lastS (List.replicate (i + 3) []))] = _
  rw [Tb5]; rfl
 have hu : undU (List.replicate (i + 3) [] ++ [[2]]) 0 (0 + (List.replicate (i + 3) ([] : List Int) ++ [[2]]).length - 1) = [2] := Td7 _ _ _ (Int.le_refl _)
 have ht : headT (newAts (L s) 1 1 0) (List.replicate (i + 3) [] ++ [[2]]) 0 = s := by
  unfold headT
  rw [hu, Tlx s hv _ (by simp; omega) [2] (by decide)]
 refine ⟨List.replicate (i + 3) [] ++ [[2]], ?_, by simp, by rw [hu]; simp, ht⟩
 rw [Eng.toggle_good _ _ (by simp [nE]) (by simp [nE]; omega) (by rw [e]; show (headT (newAts (L s) 1 1 0) _ 0).size ≤ 20000; rw [ht]; omega), e]
 simp [nE]; omega
def nS (s : ByteArray) (k i : Nat) : St := ⟨[(0, .p (.sc (.string s))), (5, .mp 1000 0 0), (6, .p (pi k)), (7, .p (pi i))], [(1000, .gr 100 2 [[.p (.sl 5 (ats (nE s i).l)), .mo 1001]]), (1001, .mpo (nE s i).U (nE s i).fl (nE s i).G (nE s i).F)]⟩
def nT (s : ByteArray) (k : Nat) : St := ⟨[(0, .p (.sc (.string s))), (5, .mp 5 0 0), (6, .p (pi k)), (7, .p (pi k)), (33, .p (pb false))], [(5, .gr 100 2 [[.p (.sl 5 (ats (nE s k).l)), .mo 1001]]), (1001, .mpo (nE s k).U (nE s k).fl (nE s k).G (nE s k).F)]⟩
set_option maxHeartbeats 4000000 in
theorem loop (s : ByteArray) (hs : s.size ≤ 60) (hv : valid (L s) = true) (k : Nat) (hk : k < 20) : ∀ (m i : Nat), m + i = k → LC (EX fun _ => none) L_top_WholeNothing_0 (nS s k i) = some (.ex 0, nT s k)
 | 0, i, hm => by
  obtain rfl : i = k := by omega
  rw [Tbd _ L_top_WholeNothing_0 _ _ rfl]
  simp (disch := omega) [nS, nT, Tac]
 | m + 1, i, hm => by
  have ih := loop s hs hv k hk m (i + 1) (by omega)
  have ok := nE_ok s hs hv i (by omega)
  have ok' := nE_ok s hs hv (i + 1) (by omega)
  have h1 := engHead (cp := fun _ => none) (ats (nE s i).l) (nE s i).U (nE s i).fl (nE s i).G (nE s i).F
  have h2 := Tv7 (cp := fun _ => none) (nE s i) ok (i + 1) 2 i ⟨by omega, by omega⟩ (by rw [again s hs hv i (by omega)])
  rw [again s hs hv i (by omega)] at h2
  have h3 := runNow (cp := fun _ => none) (nE s (i + 1)).l (nE s (i + 1)).U (nE s (i + 1)).fl (nE s (i + 1)).G (nE s (i + 1)).F ok'.fit2.fit ok'.u1 (ok'.ul _)
  rw [head_txt s hv (i + 1)] at h3
  have e1 : (nE s i).fl + ((nE s i).U.length : Int) - 1 = (i : Int) + 1 := by simp [nE]; omega
  rw [e1] at h1
  rw [Tbd _ L_top_WholeNothing_0 _ _ rfl]
  simp only [cEdit, cEditR, cToggle, if_true, Eng.hp, Eng.hp2, engH, engH2, Tsw] at h1 h2 h3
  unfold nS at ih ⊢
  rw [show ((i + 1 : Nat) : Int) = (i : Int) + 1 from by omega] at ih
  generalize hE0 : nE s i = E0 at *
  generalize hE1 : nE s (i + 1) = E1 at *
  simp (disch := omega) [h1, h2, h3, Taa, Tac, Tad]
  exact ih
set_option maxHeartbeats 8000000 in
theorem law (xs : List PV) (h : WTAs shapes xs) : Run EV 7 xs = some (.val (.sc (.bool true))) := by
 cases h with
 | cons h1 h => cases h with
 | cons h2 h =>
 cases h
 obtain ⟨s, rfl, hs⟩ := T0l h1
 obtain ⟨w, rfl⟩ := Tse h2
 clear h1 h2
 have hk : Run EV 12 [] = some (.val (pb true)) := knownTop0
 rw [show EV = EX fun _ => none from rfl] at *
 rw [Taj _ A_top_WholeNothing _ rfl rfl rfl]
 by_cases c0 : s.size ≤ 60
 case neg => simp (disch := omega) [A_top_WholeNothing, hk, c0, Taa, Tac]
 have d1 : Run (EX fun _ => none) 13 _ = _ := refValid s (by omega)
 by_cases c1 : valid (L s) = true
 case neg =>
  rw [Bool.not_eq_true] at c1
  rw [c1] at d1
  simp (disch := omega) [A_top_WholeNothing, hk, c0, d1, Taa, Tac]
 rw [c1] at d1
 have d2 := engNew (cp := fun _ => none)
 have d3 := Th5 (cp := fun _ => none) Eng.new EOk.new false 0 1 0 [⟨0, 0, s⟩] ⟨by simp, fun x hx => by rw [List.mem_singleton] at hx; subst hx; show s.size < 1000000; omega⟩ ⟨by omega, by omega⟩
 rw [first s c0 c1] at d3
 obtain ⟨k, hkd⟩ : ∃ k, k = w.toNat % 20 := ⟨_, rfl⟩
 have hk20 : k < 20 := by rw [hkd]; exact Nat.mod_lt _ (by omega)
 have htm : (w.toNat : Int).tmod 20 = (k : Int) := by
  have := Tj8 w.toNat 20
  rw [← hkd] at this; exact this
 have hw : IntKind.wrap .i64 (k : Int) = (k : Int) := Tad _ (by omega) (by omega)
 have lp := loop s c0 c1 k hk20 k 0 (by omega)
 have kL := fun st => LC_of (EX fun _ => none) L_top_WholeNothing_0 st _ rfl
 have hz : chs [⟨0, 0, s⟩] = [[pi 0, pi 0, .sc (.string s)]] := rfl
 simp only [cEdit, cEditR, cToggle, if_true, Eng.hp, Eng.hp2, Eng.hpR, Eng.hp2R, engHR, engH2R, engH, engH2, hz, List.length_singleton, show ats Eng.new.l = [] from rfl, show Eng.new.U = [[]] from rfl, show Eng.new.fl = 0 from rfl, show Eng.new.G = [] from rfl, show Eng.new.F = [] from rfl] at d2 d3
 unfold nS nT at lp
 rw [show ((0 : Nat) : Int) = 0 from rfl] at lp
 by_cases ck : k = 0
 · subst ck
   generalize nE s 0 = E0 at *
   try rw [show ((0 : Nat) : Int) = 0 from rfl] at *
   simp (disch := omega) [A_top_WholeNothing, hk, c0, d1, d2, d3, htm, hw, kL, lp, Taa, Tac]
 · obtain ⟨j, rfl⟩ : ∃ j, k = j + 1 := ⟨k - 1, by omega⟩
   obtain ⟨U, t1, t2, t3, t4⟩ := back s c0 c1 j (by omega)
   have ok := nE_ok s c0 c1 (j + 1) (by omega)
   have d4 := Tqg (cp := fun _ => none) (nE s (j + 1)) ok 2 ⟨by omega, by omega⟩
   rw [t1] at d4
   have hl := Tkm s c0 c1
   have d5 := runNow (cp := fun _ => none) (newAts (L s) 1 1 0) U 0 [1, 2] [] ok.fit2.fit t2 t3
   rw [t4] at d5
   have d6 := engAtoms (cp := fun _ => none) (newAts (L s) 1 1 0) U 0 [1, 2] [] (by omega) (fun a ha => by rw [(Tbo ha).1]; simp)
   have d7 := refPoints (cp := fun _ => none) s (by omega)
   have e7 : (newAts (L s) 1 1 0).length = (strs (ptsS (clean (L s)))).length := by rw [Tdg, Toc, Ta5 _ c1]; simp [ptsS]
   simp only [cEdit, cEditR, cToggle, if_true, Eng.hp, Eng.hp2, engH, engH2] at d4 d5 d6
   rw [e7] at d6
   generalize strs (ptsS (clean (L s))) = P at *
   have hats : ats (nE s (j + 1)).l = ats (newAts (L s) 1 1 0) := rfl
   rw [hats] at *
   generalize newAts (L s) 1 1 0 = A at *
   generalize hE0 : nE s 0 = E0 at *
   generalize hE1 : nE s (j + 1) = E1 at *
   have ck' : ¬ ((j + 1 : Nat) : Int) = 0 := by omega
   generalize ((j + 1 : Nat) : Int) = K at *
   simp (disch := omega) [A_top_WholeNothing, hk, c0, d1, d2, d3, d4, d5, d6, d7, htm, hw, kL, lp, ck', Taa, Tac]
end Go.Proofs.YtjpibniecllafaaGreat.wholeNothing
end
