-- several texts in one (wip/merge.py)
import Derived.Test.YtgepcdpnjinadaaKCountTells30
import Derived.Test.YtgepcdpnjinadaaKCountTells31
section
/- The plain statement of CountTells: package count tells what the reference tells. No conditions. (Its row: LawCountTells.lean, by hand.) -/
namespace Go.Proofs.Ytgepcdpnjinadaa.Pure
open Go.RowKit Go.Proofs.Ytgepcdpnjinadaa.PX Go.Proofs.YtgepcdpnjinadaaW.PrintWords Go.Proofs.YtgepcdpnjinadaaW.PrintLast Go.Proofs.Ytgepcdpnjinadaa.U Go.Proofs.Ytgepcdpnjinadaa.V Go.Lib
set_option linter.unusedVariables false
theorem Plus_both (a b c d e f g h : Int) : palinoderef2_Plus.f a b c d e f g h = count_Plus.f a b c d e f g h := rfl
theorem beq4 (x : C4) : (x.1 == x.1 && (x.2.1 == x.2.1 && (x.2.2.1 == x.2.2.1 && (x.2.2.2 == x.2.2.2)))) = true := by simp
theorem count_tells (s : ByteArray) (kd n a0 a1 a2 a3 b0 b1 b2 b3 : Int) : palinodelaw2_CountTells.f 2000 s kd n a0 a1 a2 a3 b0 b1 b2 b3 = some true := by
  unfold palinodelaw2_CountTells.f
  rw [known2 2000 (by omega), Option.bind_some, if_pos rfl]
  by_cases c1 : (s.size : Int) > 200
  · rw [if_pos c1]
  have hP : ∃ z : C4, count_Plus.f a0 a1 a2 a3 b0 b1 b2 b3 = some z := ⟨_, rfl⟩
  obtain ⟨z, hz⟩ := hP
  have hg : count_Get.f a0 a1 a2 a3 kd = some (get4 (a0, a1, a2, a3) kd) := rfl
  have hr := rGet_eq (a0, a1, a2, a3) kd
  dsimp only at hr
  rw [if_neg c1, To_eq s (by omega), Option.bind_some, rTo_eq 2000 s (by omega) (by omega), Option.bind_some, From_eq 2000 s (by omega) (by omega), Option.bind_some, rFrom_eq 2000 s (by omega) (by omega), Option.bind_some, Of_eq s (by omega), Option.bind_some, rOf_eq 2000 s (by omega) (by omega), Option.bind_some,
    if_pos (beq4 _), if_pos rfl, if_pos rfl, if_pos rfl, if_pos rfl, Plus_both, hz, Option.bind_some, Option.bind_some, if_pos (beq4 _), hg, hr, Option.bind_some, Option.bind_some]
  simp
theorem CountTells : True := trivial
end Go.Proofs.Ytgepcdpnjinadaa.Pure
namespace Go.Proofs.Ytgepcdpnjinadaa.PX
open Go.RowKit
theorem palinodelaw2_CountTells.walk (_ : True) (a0 : ByteArray) (a1 a2 b0 b1 b2 b3 c0 c1 c2 c3 : Int) (w : World) :
    Calls Try.prog 11 #[.string a0, .int .i64 a1, .int .i64 a2, .agg #[.int .i64 b0, .int .i64 b1, .int .i64 b2, .int .i64 b3], .agg #[.int .i64 c0, .int .i64 c1, .int .i64 c2, .int .i64 c3]] w fun e w' => e = .returned (.bool true) ∧ Below w.heap.size w w' := by
  refine (palinodelaw2_CountTells.calls 2000 a0 a1 a2 b0 b1 b2 b3 c0 c1 c2 c3 true w (Pure.count_tells a0 a1 a2 b0 b1 b2 b3 c0 c1 c2 c3)).mono ?_
  rintro e w' ⟨rfl, hd⟩
  exact ⟨rfl, hd⟩
end Go.Proofs.Ytgepcdpnjinadaa.PX
end
