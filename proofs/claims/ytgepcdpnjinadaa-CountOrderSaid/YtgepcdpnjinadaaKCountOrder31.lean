-- several texts in one (wip/merge.py)
import Derived.Test.YtgepcdpnjinadaaKCountOrder30
import Derived.OpenShut
import Derived.Test.YtgepcdpnjinadaaKCountOrder28
section
/- The plain statement of CountOrder: further on there are never fewer ahead. No conditions. -/
namespace Go.Proofs.Ytgepcdpnjinadaa.Pure
open Go.RowKit Go.Proofs.Ytgepcdpnjinadaa.PX Go.Proofs.YtgepcdpnjinadaaW.PrintWords Go.Proofs.YtgepcdpnjinadaaW.PrintLast Go.Proofs.Ytgepcdpnjinadaa.U Go.Proofs.Ytgepcdpnjinadaa.V Go.Lib
set_option linter.unusedVariables false
theorem order_step (k : Nat) (s : ByteArray) (hs : s.size ≤ 150) (hv : valid (L s) = true) (x y : Nat) (h : x ≤ y) (hy : y ≤ s.size) (ex : edge s x = true) (ey : edge s y = true) (hk : 400 ≤ k) (q : Int) (h0 : 0 ≤ q) (h3 : q ≤ 3) :
    palinodelaw2_CountOrder.l0 (k + 1) s x y q = palinodelaw2_CountOrder.l0 k s x y (q + 1) := by
  have c := cut_counts hv h ex q
  have b1 := get4_ahead s x q (by omega)
  have b2 := get4_ahead s y q (by omega)
  have hz : (s.extract x y).size ≤ s.size := by rw [L_size, L_extract, List.length_take, List.length_drop, L_len]; omega
  have hg : ∀ z : C4, count_Get.f z.1 z.2.1 z.2.2.1 z.2.2.2 q = some (get4 z q) := fun z => rfl
  conv => lhs; simp only [palinodelaw2_CountOrder.l0]
  rw [if_pos h3, From_eq k s (by omega) (by omega), Option.bind_some, From_eq k s (by omega) (by omega), Option.bind_some, from_at hv (by omega) ex q h0 h3, from_at hv hy ey q h0 h3]
  dsimp only
  rw [if_pos rfl, if_pos rfl, if_neg (by omega), if_pos (by omega), if_pos (by omega), if_pos (by omega), Int.toNat_natCast, Int.toNat_natCast, Of_eq _ (by omega), Option.bind_some, hg, Option.bind_some, w64 (by omega) (by omega), if_pos c.1, w64 (by omega) (by omega)]
theorem order_all (k : Nat) (s : ByteArray) (hs : s.size ≤ 150) (hv : valid (L s) = true) (x y : Nat) (h : x ≤ y) (hy : y ≤ s.size) (ex : edge s x = true) (ey : edge s y = true) (hk : 400 ≤ k) :
    palinodelaw2_CountOrder.l0 (k + 1 + 1 + 1 + 1 + 1) s x y 0 = some true := by
  rw [order_step _ s hs hv x y h hy ex ey (by omega) 0 (by omega) (by omega), order_step _ s hs hv x y h hy ex ey (by omega) _ (by omega) (by omega), order_step _ s hs hv x y h hy ex ey (by omega) _ (by omega) (by omega), order_step _ s hs hv x y h hy ex ey (by omega) _ (by omega) (by omega)]
  simp only [palinodelaw2_CountOrder.l0]
  rw [if_neg (by omega)]
theorem CountOrder : palinodelaw2_CountOrder.Pure := by
  intro s a b _ wa wb
  obtain ⟨ha0, ha1⟩ := bounds_u8 wa
  obtain ⟨hb0, hb1⟩ := bounds_u8 wb
  obtain ⟨k, hk⟩ : ∃ k : Nat, 400 ≤ k := ⟨400, Nat.le_refl _⟩
  refine ⟨k + 1 + 1 + 1 + 1 + 1 + 1 + 1, ?_⟩
  have early : ∀ k, palinodelaw2_CountOrder.j0 (k + 1) s a b true = some true := fun k => by simp only [palinodelaw2_CountOrder.j0, if_true]
  have early1 : ∀ k x y, palinodelaw2_CountOrder.j1 (k + 1) s x y true = some true := fun k x y => by simp only [palinodelaw2_CountOrder.j1, if_true]
  unfold palinodelaw2_CountOrder.f
  rw [known2 _ (by omega), Option.bind_some, if_pos rfl]
  by_cases c1 : (s.size : Int) > 150
  · rw [if_pos c1, early]
  rw [if_neg c1, rValid_eq _ s (by omega) (by omega), Option.bind_some]
  by_cases v : valid (L s) = true
  · rw [v]
    have hx0 := Int.tmod_nonneg ((s.size : Int) + 1) ha0
    have hy0 := Int.tmod_nonneg ((s.size : Int) + 1) hb0
    have hx1 := Int.tmod_lt_of_pos a (b := (s.size : Int) + 1) (by omega)
    have hy1 := Int.tmod_lt_of_pos b (b := (s.size : Int) + 1) (by omega)
    obtain ⟨x, hx⟩ : ∃ x : Nat, a.tmod ((s.size : Int) + 1) = x := ⟨(a.tmod ((s.size : Int) + 1)).toNat, by omega⟩
    obtain ⟨y, hy⟩ : ∃ y : Nat, b.tmod ((s.size : Int) + 1) = y := ⟨(b.tmod ((s.size : Int) + 1)).toNat, by omega⟩
    rw [hx] at hx1
    rw [hy] at hy1
    simp only [palinodelaw2_CountOrder.j0, Bool.not_true, Bool.false_eq_true, if_false]
    rw [w64 (x := a) (by omega) (by omega), w64 (x := b) (by omega) (by omega), w64 (x := (s.size : Int) + 1) (by omega) (by omega), if_neg (by omega), hx, hy]
    by_cases c2 : (x : Int) > y
    · rw [if_pos c2, early1]
    rw [if_neg c2, rIsEdge_eq _ s (by omega) (by omega), Option.bind_some]
    by_cases ex : edge s x = true
    · rw [if_pos ex, rIsEdge_eq _ s (by omega) (by omega), Option.bind_some]
      by_cases ey : edge s y = true
      · rw [ey]
        simp only [palinodelaw2_CountOrder.j1, Bool.not_true, Bool.false_eq_true, if_false]
        exact order_all k s (by omega) v x y (by omega) (by omega) ex ey hk
      · rw [Bool.not_eq_true] at ey
        rw [ey, Bool.not_false, early1]
    · rw [if_neg ex, early1]
  · rw [Bool.not_eq_true] at v
    rw [v, Bool.not_false, early]
end Go.Proofs.Ytgepcdpnjinadaa.Pure
end
