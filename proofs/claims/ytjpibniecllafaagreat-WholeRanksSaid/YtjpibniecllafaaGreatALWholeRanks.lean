/- Made by pack.py: ALWholeRanks. No condition but what it says. -/
import Derived.Test.YtjpibniecllafaaGreatRK1
set_option linter.unusedSimpArgs false
set_option linter.unusedVariables false
section
namespace Go.Proofs.YtjpibniecllafaaGreat.wholeRanks
open Go Go.Proofs.YtjpibniecllafaaGreat.U Go.Proofs.YtjpibniecllafaaGreat.AM Go.Proofs.YtjpibniecllafaaGreat.AM.Rk
attribute [local simp] cellR thereV RV.sv innE inlE reach pos subH SV.mapr RV.mapr Ob.mapr SV.refs RV.id? RV.ref Ob.refs noRow shnE shrE okK closeB freshs at0 newS leftS finishS oneS manyS allP sameFz Ob.noPin startS entryS List.range_succ List.filterMap_cons List.filterMap_nil SV.rv fzvs fzv liveV liveR rcellss rcells fillQ fixN RV.isNil revO canon pinsOf pinOb canF canP
theorem outer (rs : List UInt8) (hn : rs.length ≤ 9) : ∀ (m i : Nat), m + i = rs.length → LC (EX fun _ => none) L_top_WholeRanks_1 (oS rs (rowOf rs i) i (rE rs i)) = some (.ex 0, oT rs (rowOf rs rs.length) rs.length (rE rs rs.length))
 | 0, i, hm => by
  obtain rfl : i = rs.length := by omega
  have hbl := Tdc rs
  rw [Tbd _ L_top_WholeRanks_1 _ _ rfl]
  unfold oS oT eH mH
  generalize bRows rs = B at *
  generalize rE rs rs.length = E at *
  generalize rowOf rs rs.length = row at *
  generalize rs.length = n at *
  simp (disch := omega) [hbl, Tac, -getElem?_pos]
 | m + 1, i, hm => round rs hn i (by omega) (rowOf rs i) rfl _ (outer rs hn m (i + 1) (by omega))
def tx (row : List Nat) : ByteArray := ⟨(91 :: row.map fun j => UInt8.ofNat (48 + j)).toArray⟩
theorem Tw2 (row : List Nat) : (tx row).size = row.length + 1 := by unfold tx; rw [Tca]; simp
theorem Tzp (row : List Nat) (j : Nat) : tx row ++ chr j = tx (row ++ [j]) := by
 apply L_inj
 have e := L_chr j
 rw [Tec, e]
 unfold tx
 rw [L_mk, L_mk]
 simp
def fS (row : List Nat) (k : Nat) (E : Eng) : St := ⟨[(3, .mp 1000 0 0), (4, .ms 1001 0 row.length), (11, .p (.sc (.string (tx (row.take k))))), (12, .p (pi k))], [eH 1000 1002 E, (1001, .row 3 1 false (nats row)), mH 1002 E]⟩
def fT (row : List Nat) (E : Eng) : St := ⟨[(3, .mp 3 0 0), (4, .ms 4 0 row.length), (11, .p (.sc (.string (tx row)))), (12, .p (pi row.length)), (86, .p (pb false))], [(3, (eH 1000 1002 E).2), (4, .row 3 1 false (nats row)), mH 1002 E]⟩
set_option maxHeartbeats 4000000 in
theorem lastStep (R : List (List PV)) (n k j : Nat) (E : Eng) (T C : ByteArray) (res : Option (Out × St)) (hbl : R.length = n) (hk : k < n) (hn : n ≤ 9) (h1 : R[k]? = some [pi (j : Int)]) (hb : eff.bytesOf [[.sc (.int .u8 (48 + (j : Int)))]] = some C)
 (w1 : IntKind.wrap .u8 (j : Int) = (j : Int)) (w2 : IntKind.wrap .u8 (48 + (j : Int)) = 48 + (j : Int)) (hcat : ((T.size + C.size : Nat) : Int) ≤ 9223372036854775807)
 (ih : LC (EX fun _ => none) L_top_WholeRanks_2 ⟨[(3, .mp 1000 0 0), (4, .ms 1001 0 n), (11, .p (.sc (.string (T ++ C)))), (12, .p (pi ((k : Int) + 1)))], [eH 1000 1002 E, (1001, .row 3 1 false R), mH 1002 E]⟩ = res) :
 LC (EX fun _ => none) L_top_WholeRanks_2 ⟨[(3, .mp 1000 0 0), (4, .ms 1001 0 n), (11, .p (.sc (.string T))), (12, .p (pi k))], [eH 1000 1002 E, (1001, .row 3 1 false R), mH 1002 E]⟩ = res := by
 rw [Tbd _ L_top_WholeRanks_2 _ _ rfl]
 unfold eH mH at ih ⊢
 simp (disch := omega) [h1, hb, hbl, hk, w1, w2, hcat, Taa, Tac, Tad, Ta8, -getElem?_pos] at ih ⊢
 exact ih
set_option maxHeartbeats 4000000 in
theorem last (row : List Nat) (hl : row.length ≤ 9) (hr : ∀ j ∈ row, j < 9) (E : Eng) : ∀ (m k : Nat), m + k = row.length → LC (EX fun _ => none) L_top_WholeRanks_2 (fS row k E) = some (.ex 4, fT row E)
 | 0, k, hm => by
  obtain rfl : k = row.length := by omega
  have hbl := Tc1 row
  rw [Tbd _ L_top_WholeRanks_2 _ _ rfl]
  unfold fS fT eH mH
  rw [List.take_of_length_le (Nat.le_refl _)]
  generalize nats row = R at *
  generalize tx row = T at *
  generalize row.length = n at *
  simp (disch := omega) [hbl, Tac, -getElem?_pos]
 | m + 1, k, hm => by
  have ih := last row hl hr E m (k + 1) (by omega)
  have hk : k < row.length := by omega
  have h1 := Ttg row k hk
  have hj := hr _ (List.getElem_mem hk)
  have hb := Tly row[k]
  have ht := Tzp (row.take k) row[k]
  have etk : row.take (k + 1) = row.take k ++ [row[k]] := by rw [List.take_add_one, List.getElem?_eq_getElem hk]; rfl
  have hsz := Tw2 (row.take k)
  have hsz2 : (chr row[k]).size = 1 := rfl
  rw [List.length_take] at hsz
  have w1 : IntKind.wrap .u8 (row[k] : Int) = (row[k] : Int) := Tgk _ (by omega) (by omega)
  have w2 : IntKind.wrap .u8 (48 + (row[k] : Int)) = 48 + (row[k] : Int) := Tgk _ (by omega) (by omega)
  have hbl := Tc1 row
  unfold fS at ih ⊢
  rw [show ((k + 1 : Nat) : Int) = (k : Int) + 1 by omega, etk, ← ht] at ih
  exact lastStep (nats row) row.length k row[k] E (tx (row.take k)) (chr row[k]) _ hbl hk hl h1 hb w1 w2 (by omega) ih
def Tail (C : ByteArray) : ACode := .seq (.reg [Mv 99 3, On 100 (.inn 22 [t 99]), Mv 101 11, On 102 (.s2 (.bin .add) (t 101) (X.c (.p (.sc (.string C))))), Bt 103 .eql 100 102, Mv 2 103] [2]) .ret
theorem Tzq : tailN 9 A_top_WholeRanks.body = Tail ⟨#[93]⟩ := rfl
theorem tail (C T : ByteArray) (E : Eng) (n : Nat) (R : List (List PV)) (k : Int)
 (d6 : Run (EX fun _ => none) 2000022 [.hp [.mp 0 0 0] [(0, .gr 100 2 [[.p (.sl 5 (ats E.l)), .mo 1]]), (1, .mpo E.U E.fl E.G E.F)]] = some (.shn (.p (.sc (.string (T ++ C)))) []))
 (hcat : ((T.size + C.size : Nat) : Int) ≤ 9223372036854775807) :
 runC A_top_WholeRanks (AM.Code (EX fun _ => none) (Tail C) ⟨[(3, .mp 3 0 0), (4, .ms 4 0 n), (11, .p (.sc (.string T))), (12, .p (pi k)), (86, .p (pb false))], [(3, .gr 100 2 [[.p (.sl 5 (ats E.l)), .mo 1002]]), (4, .row 3 1 false R), (1002, .mpo E.U E.fl E.G E.F)]⟩) = some (.val (pb true)) := by
 have hrun : ∀ q, runC A_top_WholeRanks q = runC ⟨1, 104, [.t 2], .skip⟩ q := fun q => by
  cases q with
  | none => rfl
  | some q => obtain ⟨a, b⟩ := q; cases a <;> rfl
 rw [hrun]
 simp (disch := omega) [Tail, d6, hcat, Taa, Tac, Ta8]
set_option maxHeartbeats 8000000 in
theorem law (xs : List PV) (h : WTAs shapes xs) : Run EV 5 xs = some (.val (.sc (.bool true))) := by
 cases h with
 | cons h1 h =>
 cases h
 obtain ⟨rs, rfl, hs⟩ := Twt h1
 clear h1
 have hk : Run EV 12 [] = some (.val (pb true)) := knownTop0
 rw [show EV = EX fun _ => none from rfl] at *
 rw [Taj _ A_top_WholeRanks _ rfl rfl rfl]
 have hbl := Tdc rs
 by_cases c0 : rs.length ≤ 9
 case neg => simp (disch := omega) [A_top_WholeRanks, hk, hbl, Taa, Tac]
 have d2 := engNew (cp := fun _ => none)
 have d3 := Th5 (cp := fun _ => none) Eng.new EOk.new false 0 1 0 [⟨0, 0, B0⟩] ⟨by simp, fun x hx => by rw [List.mem_singleton] at hx; subst hx; show 2 < 1000000; omega⟩ ⟨by omega, by omega⟩
 rw [Rk.first rs] at d3
 have hz : chs [⟨0, 0, B0⟩] = [[pi 0, pi 0, .sc (.string ⟨#[91, 93]⟩)]] := rfl
 simp only [cEditR, if_true, Eng.hp, Eng.hp2, Eng.hpR, Eng.hp2R, engHR, engH2R, engH, engH2, hz, List.length_singleton, show ats Eng.new.l = [] from rfl, show Eng.new.U = [[]] from rfl, show Eng.new.fl = 0 from rfl, show Eng.new.G = [] from rfl, show Eng.new.F = [] from rfl] at d2 d3
 have d4 := outer rs c0 rs.length 0 (by omega)
 have kL := fun st => LC_of (EX fun _ => none) L_top_WholeRanks_1 st _ rfl
 have kM := fun st => LC_of (EX fun _ => none) L_top_WholeRanks_2 st _ rfl
 have hrl := Td8 rs rs.length
 have d5 := last (rowOf rs rs.length) (by omega) (fun j hj => by have := Tfj rs rs.length j hj; omega) (rE rs rs.length) (rowOf rs rs.length).length 0 (by omega)
 have ok := Rk.ok rs rs.length (by omega)
 have d6 := runNow (cp := fun _ => none) (rE rs rs.length).l (rE rs rs.length).U (rE rs rs.length).fl (rE rs rs.length).G (rE rs rs.length).F ok.fit2.fit ok.u1 (ok.ul _)
 have ht : headT (rE rs rs.length).l (rE rs rs.length).U (rE rs rs.length).fl = tx (rowOf rs rs.length) ++ ⟨#[93]⟩ := by
  show headT (rl rs (rowOf rs rs.length)) (List.replicate (rs.length + 2) []) 0 = _
  rw [Tbw, show ((rs.length + 2 : Nat) : Int) - 1 = (rs.length : Int) + 1 by omega, head_txt]
  apply L_inj
  have e : L (⟨#[93]⟩ : ByteArray) = [93] := rfl
  rw [Tec, e]
  unfold tx
  rw [L_mk, L_mk]
  simp
 rw [ht] at d6
 have hsz := Tw2 (rowOf rs rs.length)
 have hcat : (((tx (rowOf rs rs.length)).size + (⟨#[93]⟩ : ByteArray).size : Nat) : Int) ≤ 9223372036854775807 := by
  rw [show (⟨#[93]⟩ : ByteArray).size = 1 from rfl]; omega
 have e0 : tx ((rowOf rs rs.length).take 0) = ⟨#[91]⟩ := rfl
 have er0 : rowOf rs 0 = [] := rfl
 unfold oS oT eH mH at d4
 unfold fS fT eH mH at d5
 rw [e0, show ((0 : Nat) : Int) = 0 from rfl] at d5
 rw [er0, show ((0 : Nat) : Int) = 0 from rfl, show nats [] = [] from rfl, List.length_nil] at d4
 simp only [engH] at d6
 clear ht
 have dt := tail ⟨#[93]⟩ (tx (rowOf rs rs.length)) (rE rs rs.length) (rowOf rs rs.length).length (nats (rowOf rs rs.length)) (rowOf rs rs.length).length d6 hcat
 rw [← Tzq] at dt
 clear d6 hcat
 rw [← dt]
 congr 1
 refine Tiy _ 9 _ _ _ ?_
 clear dt
 generalize hE0 : rE rs 0 = E0 at *
 generalize hE1 : rE rs rs.length = E1 at *
 generalize hT : tx (rowOf rs rs.length) = T at *
 generalize nats (rowOf rs rs.length) = R at *
 generalize rowOf rs rs.length = row at *
 generalize bRows rs = B at *
 simp (disch := omega) [A_top_WholeRanks, headN, hk, hbl, d2, d3, d4, d5, kL, kM, Taa, Tac, Ta8, -getElem?_pos]
end Go.Proofs.YtjpibniecllafaaGreat.wholeRanks
end
