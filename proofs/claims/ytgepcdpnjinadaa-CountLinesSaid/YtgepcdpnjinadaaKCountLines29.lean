-- several texts in one (wip/merge.py)
import Derived.Test.YtgepcdpnjinadaaKCountLines22
import Derived.Lib.Strings
section
-- MACHINE SIDE, written by wip/drive.py (this session's driver over the kit's print) for this claim. Lean checks it.
namespace Go.Proofs.Ytgepcdpnjinadaa.PX
open Go.RowKit Go.Proofs.YtgepcdpnjinadaaW.PrintWords Go.Proofs.YtgepcdpnjinadaaW.PrintLast Go.Proofs.YtgepcdpnjinadaaW.PrintMore
attribute [local go_sem] max2_int min2_int max_two min_two max_three min_three max_four min_four   -- for this text's walks alone
set_option linter.unusedVariables false
set_option linter.unusedSimpArgs false

-- HAND
-- FUNCTION palinode/palinoderef2.one
-- KINDS (str) (st) norounds making
-- NEEDS Derived.Lib.Strings
def palinoderef2_one.f (a0 : ByteArray) : Option (Int × Int × Int × Int) := some ((a0.size : Int), 1, if (a0.size : Int) = 4 then 2 else 1, if a0.toList = ([10] : List UInt8) then 1 else 0)
set_option maxHeartbeats 8000000 in
set_option maxRecDepth 100000 in
theorem palinoderef2_one.calls (a0 : ByteArray) (r1 : Int) (r2 : Int) (r3 : Int) (r4 : Int) (w : World) (h : palinoderef2_one.f a0 = some (r1, r2, r3, r4)) :
  Calls Try.prog 50 #[.string a0] w fun e w' => e = .returned (.agg #[.int .i64 r1, .int .i64 r2, .int .i64 r3, .int .i64 r4]) ∧ Below w.heap.size w w' := by
 unfold palinoderef2_one.f at h
 simp only [Option.some.injEq, Prod.mk.injEq] at h
 obtain ⟨rfl, rfl, rfl, rfl⟩ := h
 by_cases c2 : (a0.size : Int) = 4
 ·have c3 : ¬ a0.toList = ([10] : List UInt8) := by
   intro h
   have h2 := congrArg List.length h
   rw [Lib.toList_data, data_length] at h2
   simp at h2; omega
  rw [if_pos c2, if_neg c3]
  have c2b0 : ((a0.size : Int) == 4) = true := beq_iff_eq.mpr c2
  have c3b0 : (a0.toList == ([10] : List UInt8)) = false := beq_eq_false_iff_ne.mpr c3
  clear c2 c3
  go_enter Try.func50, Try.ntmps50
  go_wp2
  exact bodyPost_ret (v := .agg #[.int .i64 (a0.size : Int), .int .i64 1, .int .i64 2, .int .i64 0]) (by simp [results, Try.results50, go_sem]) rfl ⟨rfl, ((Below.refl _ _).alloc (Nat.le_refl _) _).alloc (by simp) _⟩
 ·rw [if_neg c2]
  have c2b0 : ((a0.size : Int) == 4) = false := beq_eq_false_iff_ne.mpr c2
  clear c2
  by_cases c3 : a0.toList = ([10] : List UInt8)
  ·rw [if_pos c3]
   have c3b0 : (a0.toList == ([10] : List UInt8)) = true := beq_iff_eq.mpr c3
   clear c3
   go_enter Try.func50, Try.ntmps50
   go_wp2
   exact bodyPost_ret (v := .agg #[.int .i64 (a0.size : Int), .int .i64 1, .int .i64 1, .int .i64 1]) (by simp [results, Try.results50, go_sem]) rfl ⟨rfl, ((Below.refl _ _).alloc (Nat.le_refl _) _).alloc (by simp) _⟩
  ·rw [if_neg c3]
   have c3b0 : (a0.toList == ([10] : List UInt8)) = false := beq_eq_false_iff_ne.mpr c3
   clear c3
   go_enter Try.func50, Try.ntmps50
   go_wp2
   exact bodyPost_ret (v := .agg #[.int .i64 (a0.size : Int), .int .i64 1, .int .i64 1, .int .i64 0]) (by simp [results, Try.results50, go_sem]) rfl ⟨rfl, ((Below.refl _ _).alloc (Nat.le_refl _) _).alloc (by simp) _⟩

end Go.Proofs.Ytgepcdpnjinadaa.PX
end
