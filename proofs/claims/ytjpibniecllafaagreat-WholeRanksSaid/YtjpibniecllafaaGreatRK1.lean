/- Made by pack.py: RK1. No condition but what it says. -/
import Derived.Test.YtjpibniecllafaaGreatRER
import Derived.Test.YtjpibniecllafaaGreatP15
import Derived.Test.YtjpibniecllafaaGreatRF2
import Derived.Test.YtjpibniecllafaaGreatP14
set_option linter.unusedSimpArgs false
set_option linter.unusedVariables false
section
namespace Go.Proofs.YtjpibniecllafaaGreat.wholeRanks
open Go Go.Proofs.YtjpibniecllafaaGreat.U Go.Proofs.YtjpibniecllafaaGreat.AM Go.Proofs.YtjpibniecllafaaGreat.AM.Rk
attribute [local simp] cellR thereV RV.sv innE inlE reach pos subH SV.mapr RV.mapr Ob.mapr SV.refs RV.id? RV.ref Ob.refs noRow shnE shrE okK closeB freshs at0 newS leftS finishS oneS manyS allP sameFz Ob.noPin startS entryS List.range_succ List.filterMap_cons List.filterMap_nil SV.rv fzvs fzv liveV liveR rcellss rcells fillQ fixN RV.isNil revO canon pinsOf pinOb canF canP
def shapes : List PSh := [.one (.sl [.i .u8])]
def nats (l : List Nat) : List (List PV) := l.map fun (n : Nat) => [pi (n : Int)]
theorem Tc1 (l : List Nat) : (nats l).length = l.length := by simp [nats]
theorem Ttg (l : List Nat) (n : Nat) (h : n < l.length) : (nats l)[n]? = some [pi (l[n] : Int)] := by simp [nats, List.getElem?_eq_getElem h]
theorem Tth (l : List Nat) (k : Nat) : (nats l).take k = nats (l.take k) := by simp [nats, List.map_take]
theorem Tti (l : List Nat) (k : Nat) : (nats l).drop k = nats (l.drop k) := by simp [nats, List.map_drop]
def eH (d m : Nat) (E : Eng) : Nat × Ob := (d, .gr 100 2 [[.p (.sl 5 (ats E.l)), .mo m]])
def mH (m : Nat) (E : Eng) : Nat × Ob := (m, .mpo E.U E.fl E.G E.F)
def iS (rs : List UInt8) (row : List Nat) (i r k : Nat) (E : Eng) : St := ⟨[(0, .p (.sl 1 (bRows rs))), (3, .mp 1000 0 0), (4, .ms 1001 0 row.length), (5, .p (pi i)), (6, .p (pi r)), (9, .p (pi k))], [eH 1000 1002 E, (1001, .row 3 1 false (nats row)), mH 1002 E]⟩
def iT (rs : List UInt8) (row : List Nat) (i r k : Nat) (E : Eng) : St := ⟨[(0, .p (.sl 1 (bRows rs))), (3, .mp 3 0 0), (4, .ms 4 0 row.length), (5, .p (pi i)), (6, .p (pi r)), (9, .p (pi k)), (68, .p (pb false))], [(3, (eH 1000 1002 E).2), (4, .row 3 1 false (nats row)), mH 1002 E]⟩
theorem mod4 (q : UInt8) : (q.toNat : Int).tmod 4 = ((q.toNat % 4 : Nat) : Int) ∧ IntKind.wrap .i64 ((q.toNat % 4 : Nat) : Int) = ((q.toNat % 4 : Nat) : Int) := by
 refine ⟨Tj8 _ 4, ?_⟩
 have := Nat.mod_lt q.toNat (show 0 < 4 by omega)
 exact Tad _ (by omega) (by omega)
set_option maxHeartbeats 4000000 in
theorem inner (rs : List UInt8) (row : List Nat) (hr : ∀ j ∈ row, j < rs.length) (hl : row.length ≤ 100) (i r : Nat) (E : Eng) : ∀ (m k : Nat), m + k = row.length → LC (EX fun _ => none) L_top_WholeRanks_0 (iS rs row i r k E) = some (.ex 2, iT rs row i r (k + kOf rs r (row.drop k)) E)
 | 0, k, hm => by
  obtain rfl : k = row.length := by omega
  have e : row.drop row.length = [] := by simp
  rw [e, Tbd _ L_top_WholeRanks_0 _ _ rfl]
  have hl2 := Tc1 row
  unfold iS iT eH mH
  generalize nats row = R at *
  generalize row.length = n at *
  simp (disch := omega) [kOf, hl2, Tac, -getElem?_pos]
 | m + 1, k, hm => by
  have ih := inner rs row hr hl i r E m (k + 1) (by omega)
  have hk : k < row.length := by omega
  have h3 : row[k] < rs.length := hr _ (List.getElem_mem hk)
  have h1 := Ttg row k hk
  have h2 := Tgq rs row[k] h3
  obtain ⟨q1, q2⟩ := mod4 rs[row[k]]
  have hl2 := Tc1 row
  have e : row.drop k = row[k] :: row.drop (k + 1) := List.drop_eq_getElem_cons hk
  have e2 : rkOf rs row[k] = rs[row[k]].toNat % 4 := by
   unfold rkOf
   rw [List.getD_eq_getElem?_getD, List.getElem?_eq_getElem (hr _ (List.getElem_mem hk))]; rfl
  rw [e, Tbd _ L_top_WholeRanks_0 _ _ rfl, kOf, e2]
  generalize hq : rs[row[k]].toNat % 4 = q at *
  generalize row[k] = j at *
  generalize rs[j] = b at *
  unfold iS iT at ih ⊢
  rw [show ((k + 1 : Nat) : Int) = (k : Int) + 1 by omega] at ih
  have hrl : (row.length : Int) ≤ 100 := by omega
  generalize nats row = R at *
  generalize kOf rs r (row.drop (k + 1)) = z at *
  generalize row.length = n at *
  by_cases c : q ≤ r
  · rw [if_pos c]
    simp (disch := omega) [eH, mH, h1, h2, h3, hl2, q1, q2, hk, c, Taa, Tac, Tad, -getElem?_pos] at ih ⊢
    rw [ih]
    simp; omega
  · rw [if_neg c]
    simp (disch := omega) [eH, mH, h1, h2, h3, hl2, q1, q2, hk, c, Taa, Tac, Tad, -getElem?_pos]
theorem Tly (i : Nat) : eff.bytesOf [[.sc (.int .u8 (48 + (i : Int)))]] = some (chr i) := by
 show some (⟨[UInt8.ofNat (48 + (i : Int)).toNat].toArray⟩ : ByteArray) = some (chr i)
 rw [show (48 + (i : Int)).toNat = 48 + i by omega]
 rfl
def oS (rs : List UInt8) (row : List Nat) (i : Nat) (E : Eng) : St := ⟨[(0, .p (.sl 1 (bRows rs))), (3, .mp 1000 0 0), (4, .ms 1001 0 row.length), (5, .p (pi i))], [eH 1000 1002 E, (1001, .row 3 1 false (nats row)), mH 1002 E]⟩
def oT (rs : List UInt8) (row : List Nat) (i : Nat) (E : Eng) : St := ⟨[(0, .p (.sl 1 (bRows rs))), (3, .mp 3 0 0), (4, .ms 4 0 row.length), (5, .p (pi i)), (26, .p (pb false))], [(3, (eH 1000 1002 E).2), (4, .row 3 1 false (nats row)), mH 1002 E]⟩
set_option maxHeartbeats 8000000 in
theorem round (rs : List UInt8) (hn : rs.length ≤ 9) (i : Nat) (hi : i < rs.length) (row : List Nat) (hrow : rowOf rs i = row) (res : Option (Out × St))
 (ih : LC (EX fun _ => none) L_top_WholeRanks_1 (oS rs (rowOf rs (i + 1)) (i + 1) (rE rs (i + 1))) = res) : LC (EX fun _ => none) L_top_WholeRanks_1 (oS rs row i (rE rs i)) = res := by
 have ok := Rk.ok rs i (by omega)
 have hr4 : rkOf rs i < 4 := Nat.mod_lt _ (by omega)
 have h1 := Tgq rs i hi
 obtain ⟨q1, q2⟩ := mod4 rs[i]
 have e2 : rkOf rs i = rs[i].toNat % 4 := by
  unfold rkOf
  rw [List.getD_eq_getElem?_getD, List.getElem?_eq_getElem hi]; rfl
 rw [← e2] at q1 q2
 have hcw : ChW [(⟨1, 1, chr i⟩ : Ch)] := ⟨by simp, fun x hx => by rw [List.mem_singleton] at hx; subst hx; show 1 < 1000000; omega⟩
 have h2 := Th5 (cp := fun _ => none) (rE rs i) ok false 1 (2 + i) (rkOf rs i) [⟨1, 1, chr i⟩] hcw ⟨by omega, by omega⟩
 rw [Rk.step rs i (by omega)] at h2
 have hz : chs [⟨1, 1, chr i⟩] = [[pi 1, pi 1, .sc (.string (chr i))]] := rfl
 simp only [cEditR, if_true, Eng.hp, Eng.hp2, Eng.hpR, Eng.hp2R, engHR, engH2R, engH, engH2, hz, List.length_singleton] at h2
 have hrl : row.length = i := by rw [← hrow]; exact Td8 rs i
 have hlt : ∀ j ∈ row, j < rs.length := fun j hj => by rw [← hrow] at hj; have := Tfj rs i j hj; omega
 have h3 := inner rs row hlt (by omega) i (rkOf rs i) (rE rs (i + 1)) row.length 0 (by omega)
 have kL := fun st => LC_of (EX fun _ => none) L_top_WholeRanks_0 st _ rfl
 have hb := Tly i
 have hk := To4 rs (rkOf rs i) row
 rw [List.drop_zero, Nat.zero_add] at h3
 rw [rowOf, hrow] at ih
 have hl2 := Tc1 row
 have w1 : IntKind.wrap .u8 (i : Int) = i := Tgk _ (by omega) (by omega)
 have w2 : IntKind.wrap .u8 (48 + (i : Int)) = 48 + i := Tgk _ (by omega) (by omega)
 have hil : (i : Int) < (bRows rs).length := by rw [Tdc]; omega
 have hbl := Tdc rs
 have nt := Tth row
 have nd := Tti row
 have na : ∀ a b : List Nat, nats a ++ nats b = nats (a ++ b) := fun a b => by simp [nats]
 have n1 : [[pi (i : Int)]] = nats [i] := rfl
 rw [Tbd _ L_top_WholeRanks_1 _ _ rfl]
 unfold oS at ih ⊢
 unfold iS iT at h3
 rw [show ((i + 1 : Nat) : Int) = (i : Int) + 1 by omega] at ih
 rw [show ((0 : Nat) : Int) = 0 from rfl] at h3
 generalize rE rs i = E0 at *
 generalize rE rs (i + 1) = E1 at *
 generalize rkOf rs i = r at *
 generalize hk' : kOf rs r row = k at *
 unfold eH mH at *
 have hd : ((nats row).drop k).take (row.length - k) = nats (row.drop k) := by rw [nd, List.take_of_length_le (by rw [Tc1, List.length_drop]; omega)]
 have lk : (nats (row.take k)).length = k := by rw [Tc1, List.length_take]; omega
 have ld : (nats (row.drop k)).length = row.length - k := by rw [Tc1, List.length_drop]
 have ll : (List.take k row ++ [i] ++ List.drop k row).length = row.length + 1 := by simp; omega
 have hkr : k ≤ row.length := hk
 have e9 : nats (List.take k row ++ [i] ++ List.drop k row) = nats (row.take k) ++ [[pi (i : Int)]] ++ nats (row.drop k) := by rw [n1, na, na]
 rw [ll, e9] at ih
 have nt := nt k
 clear hk' nd na n1 e9 ll hrow hlt h1
 have h1 := Tgq rs i hi
 generalize rs[i] = b at *
 generalize bRows rs = B at *
 generalize hT : nats (row.take k) = Tk at *
 generalize hD : nats (row.drop k) = Dk at *
 generalize nats row = R at *
 subst hrl
 generalize hln : row.length = n at *
 by_cases c : k = 0
 · subst c
   obtain rfl : Tk = [] := List.length_eq_zero_iff.1 lk
   obtain rfl : R = Dk := by
    rw [List.drop_zero, List.take_of_length_le (by omega)] at hd; simpa using hd
   simp (disch := omega) [h1, h2, h3, hb, kL, hl2, hbl, hil, q1, q2, w1, w2, maxBytes, Taa, Tac, Tad, Ta8, -getElem?_pos] at ih ⊢
   rw [List.take_of_length_le (Nat.le_of_eq hl2), show 1 + n = n + 1 by omega]
   exact ih
 · have c' : ¬ Tk.length = 0 := by omega
   simp (disch := omega) [h1, h2, h3, hb, kL, hl2, hbl, hil, q1, q2, w1, w2, c, c', lk, ld, nt, hd, maxBytes, Taa, Tac, Tad, Ta8, -getElem?_pos] at ih ⊢
   rw [show k + 1 + (n - k) = n + 1 by omega]
   exact ih
end Go.Proofs.YtjpibniecllafaaGreat.wholeRanks
end
