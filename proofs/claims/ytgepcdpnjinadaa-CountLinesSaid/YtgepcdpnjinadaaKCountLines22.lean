-- several texts in one (wip/merge.py)
import Derived.Test.YtgepcdpnjinadaaProg
import Derived.Below
import Derived.Deep.Draws
import Derived.Deep.AppendLies
import Derived.Maps.AppendAt
import Derived.OwnWalk
import Derived.Laws.BytesArg
import Derived.Laws.MakeOwn
import Derived.Laws.OwnMore
import Derived.Deep.OwnRows
import Derived.Tactics
import Derived.Lib.ConvBytes
import Derived.Laws.Slices
import Derived.WalkKit
import Derived.KernelRfl
import Derived.RowKit3
import Derived.Deep.LoopGhost
import Derived.Deep.QuietTactic
import Derived.BigQuiet
import Derived.WideLaws
import Derived.Deep.DeepCutAuto
import Derived.Deep.CutBlock
import Derived.Deep.RegionHeld3
import Derived.Laws.Rows
import Derived.Lib.AppendStr
import Derived.ArgAppend
import Derived.Laws.IdiomCopy
import Derived.OrdersHeld
import Derived.Laws.BitsLemmas
import Derived.RowKit
import Derived.Test.YtgepcdpnjinadaaKCountLines1
import Derived.Test.YtgepcdpnjinadaaKCountLines2
import Derived.Test.YtgepcdpnjinadaaKCountLines3
import Derived.Test.YtgepcdpnjinadaaKCountLines4
import Derived.Test.YtgepcdpnjinadaaKCountLines5
import Derived.Test.YtgepcdpnjinadaaKCountLines6
import Derived.Test.YtgepcdpnjinadaaKCountLines7
import Derived.Test.YtgepcdpnjinadaaKCountLines8
import Derived.Test.YtgepcdpnjinadaaKCountLines9
import Derived.Test.YtgepcdpnjinadaaKCountLines10
import Derived.Test.YtgepcdpnjinadaaKCountLines11
import Derived.Test.YtgepcdpnjinadaaKCountLines12
import Derived.Test.YtgepcdpnjinadaaKCountLines13
import Derived.Test.YtgepcdpnjinadaaKCountLines14
import Derived.Test.YtgepcdpnjinadaaKCountLines15
import Derived.Test.YtgepcdpnjinadaaKCountLines16
import Derived.Test.YtgepcdpnjinadaaKCountLines17
import Derived.Test.YtgepcdpnjinadaaKCountLines18
import Derived.Test.YtgepcdpnjinadaaKCountLines19
import Derived.Test.YtgepcdpnjinadaaKCountLines20
import Derived.Test.YtgepcdpnjinadaaKCountLines21
section
-- MACHINE SIDE, written by wip/drive.py (this session's driver over the kit's print) for this claim. Lean checks it.
namespace Go.Proofs.Ytgepcdpnjinadaa.PX
open Go.RowKit Go.Proofs.YtgepcdpnjinadaaW.PrintWords Go.Proofs.YtgepcdpnjinadaaW.PrintLast Go.Proofs.YtgepcdpnjinadaaW.PrintMore
attribute [local go_sem] max2_int min2_int max_two min_two max_three min_three max_four min_four   -- for this text's walks alone
set_option linter.unusedVariables false
set_option linter.unusedSimpArgs false



def errW : Option Int → Value
  | none => .nilIface
  | some c => .iface 0 (.int .i64 c)
theorem errW_none : errW none = .nilIface := rfl
theorem errW_some (c : Int) : errW (some c) = .iface 0 (.int .i64 c) := rfl

theorem info3 : (Try.prog.info? 3).map (fun i => (i.zero, i.size, i.bytes)) = some (some (.int .i64 0), 1, 8) := by kernel_rfl
theorem info5 : (Try.prog.info? 5).map (fun i => (i.zero, i.size, i.bytes)) = some (some (.int .u8 0), 1, 1) := by kernel_rfl
theorem info9 : (Try.prog.info? 9).map (fun i => (i.zero, i.size, i.bytes)) = some (some (.string ⟨#[]⟩), 1, 16) := by kernel_rfl
-- the values' own types

end Go.Proofs.Ytgepcdpnjinadaa.PX
end

section
-- MACHINE SIDE, written by wip/drive.py (this session's driver over the kit's print) for this claim. Lean checks it.
namespace Go.Proofs.Ytgepcdpnjinadaa.PX
open Go.RowKit Go.Proofs.YtgepcdpnjinadaaW.PrintWords Go.Proofs.YtgepcdpnjinadaaW.PrintLast Go.Proofs.YtgepcdpnjinadaaW.PrintMore
attribute [local go_sem] max2_int min2_int max_two min_two max_three min_three max_four min_four   -- for this text's walks alone
set_option linter.unusedVariables false
set_option linter.unusedSimpArgs false

/-! ### palinoderef1_Size: function 23 -/
mutual
def palinoderef1_Size.j0 : Nat → ByteArray → Int → Bool → Option (Int)
  | 0, _, _, _ => none
  | k + 1, x0, x1, x18 => if x18 = true then (some 0) else (if 0 ≤ x1 then (if x1 < (x0.size : Int) then (if (wrap64 (bt x0 x1)) < 128 then (some 1) else (if (wrap64 (bt x0 x1)) ≥ 192 then (palinoderef1_Size.j1 k x0 x1 (wrap64 (bt x0 x1)) (decide ((wrap64 (bt x0 x1)) < 224))) else (palinoderef1_Size.j1 k x0 x1 (wrap64 (bt x0 x1)) false))) else (none)) else (none))
def palinoderef1_Size.j3 : Nat → ByteArray → Int → Int → Int → Int → Option (Int)
  | 0, _, _, _, _, _ => none
  | k + 1, x0, x1, x6, x7, x8 => if (wrap64 ((x0.size : Int) - x1)) < x6 then (some 0) else (palinoderef1_Size.l0 k x0 x1 x6 x7 x8 1)
def palinoderef1_Size.l0 : Nat → ByteArray → Int → Int → Int → Int → Int → Option (Int)
  | 0, _, _, _, _, _, _ => none
  | k + 1, x0, x1, x6, x7, x8, x9 => if x9 < x6 then (if 0 ≤ (wrap64 (x1 + x9)) then (if (wrap64 (x1 + x9)) < (x0.size : Int) then (if ((wrap64 (bt x0 (wrap64 (x1 + x9)))) / 64) = 2 then (palinoderef1_Size.l0 k x0 x1 x6 (Go.bits .or .i64 (wrap64 (x7 * 64)) (Go.bits .and .i64 (wrap64 (bt x0 (wrap64 (x1 + x9)))) 63)) x8 (wrap64 (x9 + 1))) else (some 0)) else (none)) else (none)) else (if x7 < x8 then (some 0) else (if x7 > 1114111 then (some 0) else (if x7 ≥ 55296 then (if x7 < 57344 then (some 0) else (some x6)) else (some x6))))
def palinoderef1_Size.j1 : Nat → ByteArray → Int → Int → Bool → Option (Int)
  | 0, _, _, _, _ => none
  | k + 1, x0, x1, x5, x26 => if x26 = true then (palinoderef1_Size.j3 k x0 x1 2 (Go.bits .and .i64 x5 31) 128) else (if x5 ≥ 224 then (palinoderef1_Size.j2 k x0 x1 x5 (decide (x5 < 240))) else (palinoderef1_Size.j2 k x0 x1 x5 false))
def palinoderef1_Size.j2 : Nat → ByteArray → Int → Int → Bool → Option (Int)
  | 0, _, _, _, _ => none
  | k + 1, x0, x1, x5, x35 => if x35 = true then (palinoderef1_Size.j3 k x0 x1 3 (Go.bits .and .i64 x5 15) 2048) else (if x5 ≥ 240 then (if x5 < 248 then (palinoderef1_Size.j3 k x0 x1 4 (Go.bits .and .i64 x5 7) 65536) else (some 0)) else (some 0))
end
def palinoderef1_Size.f (k : Nat) (a0 : ByteArray) (a1 : Int) : Option (Int) := if a1 < 0 then (palinoderef1_Size.j0 k a0 a1 true) else (palinoderef1_Size.j0 k a0 a1 (decide (a1 ≥ (a0.size : Int))))
theorem palinoderef1_Size.mono_l : ∀ k, (∀ y0 y1 y2, LeO (palinoderef1_Size.j0 k y0 y1 y2) (palinoderef1_Size.j0 (k + 1) y0 y1 y2)) ∧ (∀ y0 y1 y2 y3 y4, LeO (palinoderef1_Size.j3 k y0 y1 y2 y3 y4) (palinoderef1_Size.j3 (k + 1) y0 y1 y2 y3 y4)) ∧ (∀ y0 y1 y2 y3 y4 y5, LeO (palinoderef1_Size.l0 k y0 y1 y2 y3 y4 y5) (palinoderef1_Size.l0 (k + 1) y0 y1 y2 y3 y4 y5)) ∧ (∀ y0 y1 y2 y3, LeO (palinoderef1_Size.j1 k y0 y1 y2 y3) (palinoderef1_Size.j1 (k + 1) y0 y1 y2 y3)) ∧ (∀ y0 y1 y2 y3, LeO (palinoderef1_Size.j2 k y0 y1 y2 y3) (palinoderef1_Size.j2 (k + 1) y0 y1 y2 y3))
  | 0 => ⟨fun _ _ _ r h => by simp [palinoderef1_Size.j0] at h, fun _ _ _ _ _ r h => by simp [palinoderef1_Size.j3] at h, fun _ _ _ _ _ _ r h => by simp [palinoderef1_Size.l0] at h, fun _ _ _ _ r h => by simp [palinoderef1_Size.j1] at h, fun _ _ _ _ r h => by simp [palinoderef1_Size.j2] at h⟩
  | k + 1 => by
    obtain ⟨ih0, ih1, ih2, ih3, ih4⟩ := palinoderef1_Size.mono_l k
    refine ⟨?_, ?_, ?_, ?_, ?_⟩
    · intro y0 y1 y2
      unfold palinoderef1_Size.j0
      repeat' first
      | (with_reducible exact ih0 _ _ _)
      | (with_reducible exact ih1 _ _ _ _ _)
      | (with_reducible exact ih2 _ _ _ _ _ _)
      | (with_reducible exact ih3 _ _ _ _)
      | (with_reducible exact ih4 _ _ _ _)
      | (with_reducible exact LeO.refl _)
      | (with_reducible exact LeO.none _)
      | (with_reducible refine LeO.ite ?_ ?_)
      | (with_reducible refine LeO.bind ?_ (fun _ => ?_))
      | exact ih0 _ _ _
      | exact ih1 _ _ _ _ _
      | exact ih2 _ _ _ _ _ _
      | exact ih3 _ _ _ _
      | exact ih4 _ _ _ _
      | exact LeO.none _
      | refine LeO.ite ?_ ?_
      | refine LeO.bind ?_ (fun _ => ?_)
    · intro y0 y1 y2 y3 y4
      unfold palinoderef1_Size.j3
      repeat' first
      | (with_reducible exact ih0 _ _ _)
      | (with_reducible exact ih1 _ _ _ _ _)
      | (with_reducible exact ih2 _ _ _ _ _ _)
      | (with_reducible exact ih3 _ _ _ _)
      | (with_reducible exact ih4 _ _ _ _)
      | (with_reducible exact LeO.refl _)
      | (with_reducible exact LeO.none _)
      | (with_reducible refine LeO.ite ?_ ?_)
      | (with_reducible refine LeO.bind ?_ (fun _ => ?_))
      | exact ih0 _ _ _
      | exact ih1 _ _ _ _ _
      | exact ih2 _ _ _ _ _ _
      | exact ih3 _ _ _ _
      | exact ih4 _ _ _ _
      | exact LeO.none _
      | refine LeO.ite ?_ ?_
      | refine LeO.bind ?_ (fun _ => ?_)
    · intro y0 y1 y2 y3 y4 y5
      unfold palinoderef1_Size.l0
      repeat' first
      | (with_reducible exact ih0 _ _ _)
      | (with_reducible exact ih1 _ _ _ _ _)
      | (with_reducible exact ih2 _ _ _ _ _ _)
      | (with_reducible exact ih3 _ _ _ _)
      | (with_reducible exact ih4 _ _ _ _)
      | (with_reducible exact LeO.refl _)
      | (with_reducible exact LeO.none _)
      | (with_reducible refine LeO.ite ?_ ?_)
      | (with_reducible refine LeO.bind ?_ (fun _ => ?_))
      | exact ih0 _ _ _
      | exact ih1 _ _ _ _ _
      | exact ih2 _ _ _ _ _ _
      | exact ih3 _ _ _ _
      | exact ih4 _ _ _ _
      | exact LeO.none _
      | refine LeO.ite ?_ ?_
      | refine LeO.bind ?_ (fun _ => ?_)
    · intro y0 y1 y2 y3
      unfold palinoderef1_Size.j1
      repeat' first
      | (with_reducible exact ih0 _ _ _)
      | (with_reducible exact ih1 _ _ _ _ _)
      | (with_reducible exact ih2 _ _ _ _ _ _)
      | (with_reducible exact ih3 _ _ _ _)
      | (with_reducible exact ih4 _ _ _ _)
      | (with_reducible exact LeO.refl _)
      | (with_reducible exact LeO.none _)
      | (with_reducible refine LeO.ite ?_ ?_)
      | (with_reducible refine LeO.bind ?_ (fun _ => ?_))
      | exact ih0 _ _ _
      | exact ih1 _ _ _ _ _
      | exact ih2 _ _ _ _ _ _
      | exact ih3 _ _ _ _
      | exact ih4 _ _ _ _
      | exact LeO.none _
      | refine LeO.ite ?_ ?_
      | refine LeO.bind ?_ (fun _ => ?_)
    · intro y0 y1 y2 y3
      unfold palinoderef1_Size.j2
      repeat' first
      | (with_reducible exact ih0 _ _ _)
      | (with_reducible exact ih1 _ _ _ _ _)
      | (with_reducible exact ih2 _ _ _ _ _ _)
      | (with_reducible exact ih3 _ _ _ _)
      | (with_reducible exact ih4 _ _ _ _)
      | (with_reducible exact LeO.refl _)
      | (with_reducible exact LeO.none _)
      | (with_reducible refine LeO.ite ?_ ?_)
      | (with_reducible refine LeO.bind ?_ (fun _ => ?_))
      | exact ih0 _ _ _
      | exact ih1 _ _ _ _ _
      | exact ih2 _ _ _ _ _ _
      | exact ih3 _ _ _ _
      | exact ih4 _ _ _ _
      | exact LeO.none _
      | refine LeO.ite ?_ ?_
      | refine LeO.bind ?_ (fun _ => ?_)
theorem palinoderef1_Size.mono : ∀ a0 a1 k, LeO (palinoderef1_Size.f k a0 a1) (palinoderef1_Size.f (k + 1) a0 a1) := by
  intro a0 a1 k
  obtain ⟨ih0, ih1, ih2, ih3, ih4⟩ := palinoderef1_Size.mono_l k
  unfold palinoderef1_Size.f
  repeat' first
      | (with_reducible exact ih0 _ _ _)
      | (with_reducible exact ih1 _ _ _ _ _)
      | (with_reducible exact ih2 _ _ _ _ _ _)
      | (with_reducible exact ih3 _ _ _ _)
      | (with_reducible exact ih4 _ _ _ _)
      | (with_reducible exact LeO.refl _)
      | (with_reducible exact LeO.none _)
      | (with_reducible refine LeO.ite ?_ ?_)
      | (with_reducible refine LeO.bind ?_ (fun _ => ?_))
      | exact ih0 _ _ _
      | exact ih1 _ _ _ _ _
      | exact ih2 _ _ _ _ _ _
      | exact ih3 _ _ _ _
      | exact ih4 _ _ _ _
      | exact LeO.none _
      | refine LeO.ite ?_ ?_
      | refine LeO.bind ?_ (fun _ => ?_)
set_option maxHeartbeats 8000000 in
set_option maxRecDepth 100000 in
theorem palinoderef1_Size.calls (k : Nat) (a0 : ByteArray) (a1 : Int) (r : Int) (w : World) (h : palinoderef1_Size.f k a0 a1 = some r) :
  Calls Try.prog 23 #[.string a0, .int .i64 a1] w fun e w' => e = .returned (.int .i64 r) ∧ Drawn0 w w' := by
 have H : (if a1 < 0 then (palinoderef1_Size.j0 k a0 a1 true) else (palinoderef1_Size.j0 k a0 a1 (decide (a1 ≥ (a0.size : Int))))) = some r := h
 clear h
 have HC3 := Aside0.mk H
 clear H
 go_enter Try.func23, Try.ntmps23
 go_upto_region 1 with (fail)
 go_cut [18] (fun v18 wc => ∃ (kq : Nat) (x18_2 : Bool), v18 = .bool x18_2 ∧ Aside0 (palinoderef1_Size.j0 kq a0 a1 x18_2 = some r) ∧ Aside0 (kq ≤ k) ∧ Drawn0 w wc)
 case first =>
  have H := HC3.out
  clear HC3
  by_cases c4 : a1 < 0
  ·rw [if_pos c4] at H
   have c4b0 : decide (a1 < 0) = true := decide_eq_true c4
   clear c4
   (first | rw [c4b0] | (simp only [i64_w, i32_w]; rw [c4b0]) | skip)
   have H' := Aside0.mk H
   clear H
   go_wp2
   go_meet
   case rel => exact ⟨_, (true), (by first | rfl | (simp; done) | (simp [*]; done)), H', ⟨by first | omega | exact Nat.le_refl _⟩, by repeat (first | exact Drawn0.refl _ | apply Drawn0.step)⟩
  ·rw [if_neg c4] at H
   have c4b0 : decide (a1 < 0) = false := decide_eq_false c4
   clear c4
   (first | rw [c4b0] | (simp only [i64_w, i32_w]; rw [c4b0]) | skip)
   have H' := Aside0.mk H
   clear H
   go_wp2
   go_meet
   case rel => exact ⟨_, (decide (a1 ≥ (a0.size : Int))), (by first | rfl | (simp; done) | (simp [*]; done)), H', ⟨by first | omega | exact Nat.le_refl _⟩, by repeat (first | exact Drawn0.refl _ | apply Drawn0.step)⟩
 case rest =>
  clear HC3
  try clear c2
  try clear p2
  try clear c4
  try clear c4b0
  obtain ⟨kq, x18_2, rfl, HA, HJ2, ⟨mc2, rfl⟩⟩ := hcut
  cases kq with
  | zero => exact absurd HA.out (by simp [palinoderef1_Size.j0])
  | succ kj2 =>
   have H := HA.out
   clear HA
   simp only [palinoderef1_Size.j0] at H
   by_cases c5 : x18_2 = true
   ·subst c5
    have H1 : (some 0) = some r := by rw [if_pos rfl] at H; exact H
    clear H
    have H := H1
    clear H1
    obtain rfl := Option.some.inj H
    go_wp2
    go_ret
    exact ⟨by first | rfl | (simp; done) | (simp [*]; done), by repeat (first | exact Drawn0.refl _ | apply Drawn0.step)⟩
   ·replace c5 := Bool.eq_false_iff.mpr c5
    subst c5
    have H1 : (if 0 ≤ a1 then (if a1 < (a0.size : Int) then (if (wrap64 (bt a0 a1)) < 128 then (some 1) else (if (wrap64 (bt a0 a1)) ≥ 192 then (palinoderef1_Size.j1 kj2 a0 a1 (wrap64 (bt a0 a1)) (decide ((wrap64 (bt a0 a1)) < 224))) else (palinoderef1_Size.j1 kj2 a0 a1 (wrap64 (bt a0 a1)) false))) else (none)) else (none)) = some r := by rw [if_neg (show ¬ (false = true) by decide)] at H; exact H
    clear H
    have H := H1
    clear H1
    by_cases c6 : 0 ≤ a1
    ·rw [if_pos c6] at H
     have c6b0 : decide (0 ≤ a1) = true := decide_eq_true c6
     clear c6
     by_cases c7 : a1 < (a0.size : Int)
     ·rw [if_pos c7] at H
      have c7b0 : decide (a1 < (a0.size : Int)) = true := decide_eq_true c7
      clear c7
      have HC9 := Aside0.mk H
      clear H
      have p8 : 0 ≤ (a1 : Int) := of_decide_eq_true (by first | (with_reducible assumption) | assumption)
      have q8 : a1 < (a0.size : Int) := of_decide_eq_true (by first | (with_reducible assumption) | assumption)
      have hx8 := bt_at a0 a1
      replace p8 := eq_true p8
      replace q8 := eq_true q8
      go_upto_block 0 with (fail)
      go_cut [6, 7, 8] (fun v6 v7 v8 wc => ∃ (kq : Nat) (x6_8 : Int) (x7_8 : Int) (x8_8 : Int), v6 = .int .i64 x6_8 ∧ v7 = .int .i64 x7_8 ∧ v8 = .int .i64 x8_8 ∧ Aside0 (palinoderef1_Size.j3 kq a0 a1 x6_8 x7_8 x8_8 = some r) ∧ Aside0 (kq ≤ kj2) ∧ Drawn0 w wc)
      case first =>
       have H := HC9.out
       clear HC9
       by_cases c10 : (wrap64 (bt a0 a1)) < 128
       ·rw [if_pos c10] at H
        have c10b0 : decide ((wrap64 (bt a0 a1)) < 128) = true := decide_eq_true c10
        clear c10
        (first | rw [c10b0] | (simp only [i64_w, i32_w]; rw [c10b0]) | skip)
        obtain rfl := Option.some.inj H
        go_wp2
        go_ret
        exact ⟨by first | rfl | (simp; done) | (simp [*]; done), by repeat (first | exact Drawn0.refl _ | apply Drawn0.step)⟩
       ·rw [if_neg c10] at H
        have c10b0 : decide ((wrap64 (bt a0 a1)) < 128) = false := decide_eq_false c10
        clear c10
        (first | rw [c10b0] | (simp only [i64_w, i32_w]; rw [c10b0]) | skip)
        have HC11 := Aside0.mk H
        clear H
        go_upto_region 8 with (fail)
        go_cut [26] (fun v26 wc => ∃ (kq : Nat) (x26_10 : Bool), v26 = .bool x26_10 ∧ Aside0 (palinoderef1_Size.j1 kq a0 a1 (wrap64 (bt a0 a1)) x26_10 = some r) ∧ Aside0 (kq ≤ kj2) ∧ Drawn0 w wc)
        case first =>
         have H := HC11.out
         clear HC11
         by_cases c12 : (wrap64 (bt a0 a1)) ≥ 192
         ·rw [if_pos c12] at H
          have c12b0 : decide (192 ≤ (wrap64 (bt a0 a1))) = true := decide_eq_true c12
          clear c12
          (first | rw [c12b0] | (simp only [i64_w, i32_w]; rw [c12b0]) | skip)
          have H' := Aside0.mk H
          clear H
          go_wp2
          go_meet
          case rel => exact ⟨_, (decide ((wrap64 (bt a0 a1)) < 224)), (by first | rfl | (simp; done) | (simp [*]; done)), H', ⟨by have := HJ2.out; first | omega | exact Nat.le_refl _⟩, by repeat (first | exact Drawn0.refl _ | apply Drawn0.step)⟩
         ·rw [if_neg c12] at H
          have c12b0 : decide (192 ≤ (wrap64 (bt a0 a1))) = false := decide_eq_false c12
          clear c12
          (first | rw [c12b0] | (simp only [i64_w, i32_w]; rw [c12b0]) | skip)
          have H' := Aside0.mk H
          clear H
          go_wp2
          go_meet
          case rel => exact ⟨_, (false), (by first | rfl | (simp; done) | (simp [*]; done)), H', ⟨by have := HJ2.out; first | omega | exact Nat.le_refl _⟩, by repeat (first | exact Drawn0.refl _ | apply Drawn0.step)⟩
        case rest =>
         clear HC11
         try clear c1
         try clear c2
         try clear p2
         try clear c4
         try clear c4b0
         try clear c5
         try clear c6
         try clear c6b0
         try clear p6
         try clear c7
         try clear c7b0
         try clear p8
         try clear q8
         try clear hx8
         try clear c10
         try clear c10b0
         try clear c12
         try clear c12b0
         try clear p2
         try clear p8
         try clear q8
         obtain ⟨kq, x26_10, rfl, HA, HJ10, ⟨mc10, rfl⟩⟩ := hcut
         cases kq with
         | zero => exact absurd HA.out (by simp [palinoderef1_Size.j1])
         | succ kj10 =>
          have H := HA.out
          clear HA
          simp only [palinoderef1_Size.j1] at H
          by_cases c13 : x26_10 = true
          ·subst c13
           have H1 : (palinoderef1_Size.j3 kj10 a0 a1 2 (Go.bits .and .i64 (wrap64 (bt a0 a1)) 31) 128) = some r := by rw [if_pos rfl] at H; exact H
           clear H
           have H := H1
           clear H1
           have H' := Aside0.mk H
           clear H
           go_wp2
           go_meet
           case rel => exact ⟨_, (2), (Go.bits .and .i64 (wrap64 (bt a0 a1)) 31), (128), (by first | rfl | (simp; done) | (simp [*]; done)), (by first | rfl | (simp; done) | (simp [*]; done)), (by first | rfl | (simp; done) | (simp [*]; done)), H', ⟨by have := HJ2.out; have := HJ10.out; first | omega | exact Nat.le_refl _⟩, by repeat (first | exact Drawn0.refl _ | apply Drawn0.step)⟩
          ·replace c13 := Bool.eq_false_iff.mpr c13
           subst c13
           have H1 : (if (wrap64 (bt a0 a1)) ≥ 224 then (palinoderef1_Size.j2 kj10 a0 a1 (wrap64 (bt a0 a1)) (decide ((wrap64 (bt a0 a1)) < 240))) else (palinoderef1_Size.j2 kj10 a0 a1 (wrap64 (bt a0 a1)) false)) = some r := by rw [if_neg (show ¬ (false = true) by decide)] at H; exact H
           clear H
           have H := H1
           clear H1
           have HC14 := Aside0.mk H
           clear H
           go_upto_region 10 with (fail)
           go_cut [35] (fun v35 wc => ∃ (kq : Nat) (x35_13 : Bool), v35 = .bool x35_13 ∧ Aside0 (palinoderef1_Size.j2 kq a0 a1 (wrap64 (bt a0 a1)) x35_13 = some r) ∧ Aside0 (kq ≤ kj10) ∧ Drawn0 w wc)
           case first =>
            have H := HC14.out
            clear HC14
            by_cases c15 : (wrap64 (bt a0 a1)) ≥ 224
            ·rw [if_pos c15] at H
             have c15b0 : decide (224 ≤ (wrap64 (bt a0 a1))) = true := decide_eq_true c15
             clear c15
             (first | rw [c15b0] | (simp only [i64_w, i32_w]; rw [c15b0]) | skip)
             have H' := Aside0.mk H
             clear H
             go_wp2
             go_meet
             case rel => exact ⟨_, (decide ((wrap64 (bt a0 a1)) < 240)), (by first | rfl | (simp; done) | (simp [*]; done)), H', ⟨by have := HJ2.out; have := HJ10.out; first | omega | exact Nat.le_refl _⟩, by repeat (first | exact Drawn0.refl _ | apply Drawn0.step)⟩
            ·rw [if_neg c15] at H
             have c15b0 : decide (224 ≤ (wrap64 (bt a0 a1))) = false := decide_eq_false c15
             clear c15
             (first | rw [c15b0] | (simp only [i64_w, i32_w]; rw [c15b0]) | skip)
             have H' := Aside0.mk H
             clear H
             go_wp2
             go_meet
             case rel => exact ⟨_, (false), (by first | rfl | (simp; done) | (simp [*]; done)), H', ⟨by have := HJ2.out; have := HJ10.out; first | omega | exact Nat.le_refl _⟩, by repeat (first | exact Drawn0.refl _ | apply Drawn0.step)⟩
           case rest =>
            clear HC14
            try clear c1
            try clear c2
            try clear p2
            try clear c4
            try clear c4b0
            try clear c5
            try clear c6
            try clear c6b0
            try clear p6
            try clear c7
            try clear c7b0
            try clear p8
            try clear q8
            try clear hx8
            try clear c10
            try clear c10b0
            try clear c12
            try clear c12b0
            try clear c13
            try clear c15
            try clear c15b0
            try clear p2
            try clear p6
            try clear p8
            try clear q8
            obtain ⟨kq, x35_13, rfl, HA, HJ13, ⟨mc13, rfl⟩⟩ := hcut
            cases kq with
            | zero => exact absurd HA.out (by simp [palinoderef1_Size.j2])
            | succ kj13 =>
             have H := HA.out
             clear HA
             simp only [palinoderef1_Size.j2] at H
             by_cases c16 : x35_13 = true
             ·subst c16
              have H1 : (palinoderef1_Size.j3 kj13 a0 a1 3 (Go.bits .and .i64 (wrap64 (bt a0 a1)) 15) 2048) = some r := by rw [if_pos rfl] at H; exact H
              clear H
              have H := H1
              clear H1
              have H' := Aside0.mk H
              clear H
              go_wp2
              go_meet
              case rel => exact ⟨_, (3), (Go.bits .and .i64 (wrap64 (bt a0 a1)) 15), (2048), (by first | rfl | (simp; done) | (simp [*]; done)), (by first | rfl | (simp; done) | (simp [*]; done)), (by first | rfl | (simp; done) | (simp [*]; done)), H', ⟨by have := HJ2.out; have := HJ10.out; have := HJ13.out; first | omega | exact Nat.le_refl _⟩, by repeat (first | exact Drawn0.refl _ | apply Drawn0.step)⟩
             ·replace c16 := Bool.eq_false_iff.mpr c16
              subst c16
              have H1 : (if (wrap64 (bt a0 a1)) ≥ 240 then (if (wrap64 (bt a0 a1)) < 248 then (palinoderef1_Size.j3 kj13 a0 a1 4 (Go.bits .and .i64 (wrap64 (bt a0 a1)) 7) 65536) else (some 0)) else (some 0)) = some r := by rw [if_neg (show ¬ (false = true) by decide)] at H; exact H
              clear H
              have H := H1
              clear H1
              by_cases c17 : (wrap64 (bt a0 a1)) ≥ 240
              ·rw [if_pos c17] at H
               have c17b0 : decide (240 ≤ (wrap64 (bt a0 a1))) = true := decide_eq_true c17
               clear c17
               by_cases c18 : (wrap64 (bt a0 a1)) < 248
               ·rw [if_pos c18] at H
                have c18b0 : decide ((wrap64 (bt a0 a1)) < 248) = true := decide_eq_true c18
                clear c18
                have H' := Aside0.mk H
                clear H
                go_wp2
                go_meet
                case rel => exact ⟨_, (4), (Go.bits .and .i64 (wrap64 (bt a0 a1)) 7), (65536), (by first | rfl | (simp; done) | (simp [*]; done)), (by first | rfl | (simp; done) | (simp [*]; done)), (by first | rfl | (simp; done) | (simp [*]; done)), H', ⟨by have := HJ2.out; have := HJ10.out; have := HJ13.out; first | omega | exact Nat.le_refl _⟩, by repeat (first | exact Drawn0.refl _ | apply Drawn0.step)⟩
               ·rw [if_neg c18] at H
                have c18b0 : decide ((wrap64 (bt a0 a1)) < 248) = false := decide_eq_false c18
                clear c18
                obtain rfl := Option.some.inj H
                go_wp2
                go_ret
                exact ⟨by first | rfl | (simp; done) | (simp [*]; done), by repeat (first | exact Drawn0.refl _ | apply Drawn0.step)⟩
              ·rw [if_neg c17] at H
               have c17b0 : decide (240 ≤ (wrap64 (bt a0 a1))) = false := decide_eq_false c17
               clear c17
               obtain rfl := Option.some.inj H
               go_wp2
               go_ret
               exact ⟨by first | rfl | (simp; done) | (simp [*]; done), by repeat (first | exact Drawn0.refl _ | apply Drawn0.step)⟩
      case rest =>
       clear HC9
       try clear c1
       try clear c2
       try clear p2
       try clear c4
       try clear c4b0
       try clear c5
       try clear c6
       try clear c6b0
       try clear p6
       try clear c7
       try clear c7b0
       try clear p8
       try clear q8
       try clear hx8
       try clear c10
       try clear c10b0
       try clear c12
       try clear c12b0
       try clear c13
       try clear c15
       try clear c15b0
       try clear c16
       try clear c17
       try clear c17b0
       try clear c18
       try clear c18b0
       try clear p2
       try clear p6
       try clear p8
       try clear q8
       obtain ⟨kq, x6_8, x7_8, x8_8, rfl, rfl, rfl, HA, HJ8, ⟨mc8, rfl⟩⟩ := hcut
       cases kq with
       | zero => exact absurd HA.out (by simp [palinoderef1_Size.j3])
       | succ kj8 =>
        have H := HA.out
        clear HA
        simp only [palinoderef1_Size.j3] at H
        by_cases c19 : (wrap64 ((a0.size : Int) - a1)) < x6_8
        ·rw [if_pos c19] at H
         have c19b0 : decide ((wrap64 ((a0.size : Int) - a1)) < x6_8) = true := decide_eq_true c19
         clear c19
         obtain rfl := Option.some.inj H
         go_wp2
         go_ret
         exact ⟨by first | rfl | (simp; done) | (simp [*]; done), by repeat (first | exact Drawn0.refl _ | apply Drawn0.step)⟩
        ·rw [if_neg c19] at H
         have c19b0 : decide ((wrap64 ((a0.size : Int) - a1)) < x6_8) = false := decide_eq_false c19
         clear c19
         have H' := Aside0.mk H
         clear H
         go_wp2
         go_loopg [7, 9] kj8 (fun kq v7 v9 w' => ∃ (x7_3 : Int) (x9_3 : Int), v7 = .int .i64 x7_3 ∧ v9 = .int .i64 x9_3 ∧ Aside0 (palinoderef1_Size.l0 kq a0 a1 x6_8 x7_3 x8_8 x9_3 = some r) ∧ Aside0 (kq ≤ kj8) ∧ Drawn0 w w')
         case atStart => exact ⟨(x7_8), (1), (by first | rfl | (simp; done) | (simp [*]; done)), (by first | rfl | (simp; done) | (simp [*]; done)), H', ⟨Nat.le_refl _⟩, by repeat (first | exact Drawn0.refl _ | apply Drawn0.step)⟩
         case round =>
          clear H'
          try clear c1
          try clear c2
          try clear p2
          try clear c4
          try clear c4b0
          try clear c5
          try clear c6
          try clear c6b0
          try clear p6
          try clear c7
          try clear c7b0
          try clear c8
          try clear p8
          try clear q8
          try clear hx8
          try clear c10
          try clear c10b0
          try clear c12
          try clear c12b0
          try clear c13
          try clear c15
          try clear c15b0
          try clear c16
          try clear c17
          try clear c17b0
          try clear c18
          try clear c18b0
          try clear c19
          try clear c19b0
          try clear p2
          try clear p6
          try clear p8
          try clear q8
          obtain ⟨x7_3, x9_3, rfl, rfl, HA, HK3, ⟨m3, rfl⟩⟩ := hrel
          cases gk with
          | zero => exact absurd HA.out (by simp [palinoderef1_Size.l0])
          | succ k3 =>
           have H := HA.out
           clear HA
           simp only [palinoderef1_Size.l0] at H
           by_cases c20 : x9_3 < x6_8
           ·rw [if_pos c20] at H
            have c20b0 : decide (x9_3 < x6_8) = true := decide_eq_true c20
            clear c20
            obtain ⟨ji21, hji21⟩ : ∃ j_ : Int, (wrap64 (a1 + x9_3)) = j_ := ⟨_, rfl⟩
            replace H : (if 0 ≤ (ji21) then (if (ji21) < (a0.size : Int) then (if ((wrap64 (bt a0 (ji21))) / 64) = 2 then (palinoderef1_Size.l0 k3 a0 a1 x6_8 (Go.bits .or .i64 (wrap64 (x7_3 * 64)) (Go.bits .and .i64 (wrap64 (bt a0 (ji21))) 63)) x8_8 (wrap64 (x9_3 + 1))) else (some 0)) else (none)) else (none)) = some r := by first | (rw [hji21] at H; exact H) | (simp only [hji21] at H ⊢; exact H)
            have hji21w : (IntKind.i64.wrap (a1 + x9_3)) = ji21 := (i64_w _).trans hji21
            by_cases c22 : 0 ≤ (ji21)
            ·rw [if_pos c22] at H
             have c22b0 : decide (0 ≤ (ji21)) = true := decide_eq_true c22
             clear c22
             by_cases c23 : (ji21) < (a0.size : Int)
             ·rw [if_pos c23] at H
              have c23b0 : decide ((ji21) < (a0.size : Int)) = true := decide_eq_true c23
              clear c23
              by_cases c25 : ((wrap64 (bt a0 (ji21))) / 64) = 2
              ·rw [if_pos c25] at H
               have c25b0 : (((wrap64 (bt a0 (ji21))) / 64) == 2) = true := beq_iff_eq.mpr c25
               have c25b1 : (((wrap64 (bt a0 (ji21))) / 64) != 2) = false := bne_eq_false_iff_eq.mpr c25
               clear c25
               have H' := Aside0.mk H
               clear H
               have p24 : 0 ≤ ((ji21) : Int) := of_decide_eq_true (by first | (with_reducible assumption) | assumption)
               have q24 : (ji21) < (a0.size : Int) := of_decide_eq_true (by first | (with_reducible assumption) | assumption)
               have hx24 := bt_at a0 (ji21)
               replace p24 := eq_true p24
               replace q24 := eq_true q24
               go_wp2
               go_roundg k3
               case measure => have := HJ2.out; have := HJ8.out; have := HK3.out; omega
               case rel => exact ⟨(Go.bits .or .i64 (wrap64 (x7_3 * 64)) (Go.bits .and .i64 (wrap64 (bt a0 (ji21))) 63)), (wrap64 (x9_3 + 1)), (by first | rfl | (simp; done) | (simp only [← hji21] <;> (first | rfl | simp)) | (simp [*]; done)), (by first | rfl | (simp; done) | (simp [*]; done)), H', ⟨by have := HJ2.out; have := HJ8.out; have := HK3.out; omega⟩, by repeat (first | exact Drawn0.refl _ | apply Drawn0.step)⟩
              ·rw [if_neg c25] at H
               have c25b0 : (((wrap64 (bt a0 (ji21))) / 64) == 2) = false := beq_eq_false_iff_ne.mpr c25
               have c25b1 : (((wrap64 (bt a0 (ji21))) / 64) != 2) = true := bne_iff_ne.mpr c25
               obtain rfl := Option.some.inj H
               have p24 : 0 ≤ ((ji21) : Int) := of_decide_eq_true (by first | (with_reducible assumption) | assumption)
               have q24 : (ji21) < (a0.size : Int) := of_decide_eq_true (by first | (with_reducible assumption) | assumption)
               have hx24 := bt_at a0 (ji21)
               replace p24 := eq_true p24
               replace q24 := eq_true q24
               go_wp2
               go_ret
               exact ⟨by first | rfl | (simp; done) | (simp only [← hji21] <;> (first | rfl | simp)) | (simp [*]; done), by repeat (first | exact Drawn0.refl _ | apply Drawn0.step)⟩
             ·rw [if_neg c23] at H
              exact absurd H (by simp)
            ·rw [if_neg c22] at H
             exact absurd H (by simp)
           ·rw [if_neg c20] at H
            have c20b0 : decide (x9_3 < x6_8) = false := decide_eq_false c20
            clear c20
            by_cases c26 : x7_3 < x8_8
            ·rw [if_pos c26] at H
             have c26b0 : decide (x7_3 < x8_8) = true := decide_eq_true c26
             clear c26
             obtain rfl := Option.some.inj H
             go_wp2
             go_ret
             exact ⟨by first | rfl | (simp; done) | (simp [*]; done), by repeat (first | exact Drawn0.refl _ | apply Drawn0.step)⟩
            ·rw [if_neg c26] at H
             have c26b0 : decide (x7_3 < x8_8) = false := decide_eq_false c26
             clear c26
             by_cases c27 : x7_3 > 1114111
             ·rw [if_pos c27] at H
              have c27b0 : decide (1114111 < x7_3) = true := decide_eq_true c27
              clear c27
              obtain rfl := Option.some.inj H
              go_wp2
              go_ret
              exact ⟨by first | rfl | (simp; done) | (simp [*]; done), by repeat (first | exact Drawn0.refl _ | apply Drawn0.step)⟩
             ·rw [if_neg c27] at H
              have c27b0 : decide (1114111 < x7_3) = false := decide_eq_false c27
              clear c27
              by_cases c28 : x7_3 ≥ 55296
              ·rw [if_pos c28] at H
               have c28b0 : decide (55296 ≤ x7_3) = true := decide_eq_true c28
               clear c28
               by_cases c29 : x7_3 < 57344
               ·rw [if_pos c29] at H
                have c29b0 : decide (x7_3 < 57344) = true := decide_eq_true c29
                clear c29
                obtain rfl := Option.some.inj H
                go_wp2
                go_ret
                exact ⟨by first | rfl | (simp; done) | (simp [*]; done), by repeat (first | exact Drawn0.refl _ | apply Drawn0.step)⟩
               ·rw [if_neg c29] at H
                have c29b0 : decide (x7_3 < 57344) = false := decide_eq_false c29
                clear c29
                obtain rfl := Option.some.inj H
                go_wp2
                go_ret
                exact ⟨by first | rfl | (simp; done) | (simp [*]; done), by repeat (first | exact Drawn0.refl _ | apply Drawn0.step)⟩
              ·rw [if_neg c28] at H
               have c28b0 : decide (55296 ≤ x7_3) = false := decide_eq_false c28
               clear c28
               obtain rfl := Option.some.inj H
               go_wp2
               go_ret
               exact ⟨by first | rfl | (simp; done) | (simp [*]; done), by repeat (first | exact Drawn0.refl _ | apply Drawn0.step)⟩
     ·rw [if_neg c7] at H
      exact absurd H (by simp)
    ·rw [if_neg c6] at H
     exact absurd H (by simp)

end Go.Proofs.Ytgepcdpnjinadaa.PX
end

section
-- MACHINE SIDE, written by wip/drive.py (this session's driver over the kit's print) for this claim. Lean checks it.
namespace Go.Proofs.Ytgepcdpnjinadaa.PX
open Go.RowKit Go.Proofs.YtgepcdpnjinadaaW.PrintWords Go.Proofs.YtgepcdpnjinadaaW.PrintLast Go.Proofs.YtgepcdpnjinadaaW.PrintMore
attribute [local go_sem] max2_int min2_int max_two min_two max_three min_three max_four min_four   -- for this text's walks alone
set_option linter.unusedVariables false
set_option linter.unusedSimpArgs false

-- NOT PRINTED: function 51 (utf_forms)

/-! ### utf_isPoint: function 45 -/
def utf_isPoint.f (a0 : Int) : Option (Bool) := if a0 ≥ 0 then (if a0 ≤ 1114111 then (if a0 < 55296 then (some true) else (some (decide (a0 > 57343)))) else (some false)) else (some false)
set_option maxHeartbeats 8000000 in
set_option maxRecDepth 100000 in
theorem utf_isPoint.calls (a0 : Int) (r : Bool) (w : World) (h : utf_isPoint.f a0 = some r) :
  Calls Try.prog 45 #[.int .i32 a0] w fun e w' => e = .returned (.bool r) ∧ Drawn0 w w' := by
 have H : (if a0 ≥ 0 then (if a0 ≤ 1114111 then (if a0 < 55296 then (some true) else (some (decide (a0 > 57343)))) else (some false)) else (some false)) = some r := h
 clear h
 by_cases c2 : a0 ≥ 0
 ·rw [if_pos c2] at H
  have c2b0 : decide (0 ≤ a0) = true := decide_eq_true c2
  clear c2
  by_cases c3 : a0 ≤ 1114111
  ·rw [if_pos c3] at H
   have c3b0 : decide (a0 ≤ 1114111) = true := decide_eq_true c3
   clear c3
   by_cases c4 : a0 < 55296
   ·rw [if_pos c4] at H
    have c4b0 : decide (a0 < 55296) = true := decide_eq_true c4
    clear c4
    obtain rfl := Option.some.inj H
    go_enter Try.func45, Try.ntmps45
    go_wp2
    go_ret
    exact ⟨by first | rfl | (simp; done) | (simp [*]; done), by repeat (first | exact Drawn0.refl _ | apply Drawn0.step)⟩
   ·rw [if_neg c4] at H
    have c4b0 : decide (a0 < 55296) = false := decide_eq_false c4
    clear c4
    obtain rfl := Option.some.inj H
    go_enter Try.func45, Try.ntmps45
    go_wp2
    go_ret
    exact ⟨by first | rfl | (simp; done) | (simp [*]; done), by repeat (first | exact Drawn0.refl _ | apply Drawn0.step)⟩
  ·rw [if_neg c3] at H
   have c3b0 : decide (a0 ≤ 1114111) = false := decide_eq_false c3
   clear c3
   obtain rfl := Option.some.inj H
   go_enter Try.func45, Try.ntmps45
   go_wp2
   go_ret
   exact ⟨by first | rfl | (simp; done) | (simp [*]; done), by repeat (first | exact Drawn0.refl _ | apply Drawn0.step)⟩
 ·rw [if_neg c2] at H
  have c2b0 : decide (0 ≤ a0) = false := decide_eq_false c2
  clear c2
  obtain rfl := Option.some.inj H
  go_enter Try.func45, Try.ntmps45
  go_wp2
  go_ret
  exact ⟨by first | rfl | (simp; done) | (simp [*]; done), by repeat (first | exact Drawn0.refl _ | apply Drawn0.step)⟩

/-! ### utf_long: function 52 -/
def utf_long.l0 : Nat → ByteArray → Int → Int → Int → Int → Int → Int → Int → Option (Int × Int)
  | 0, _, _, _, _, _, _, _, _ => none
  | k + 1, x0, x1, x2, x10, x11, x102000, x102001, x102002 => if x11 < x2 then (if 0 ≤ (wrap64 (x1 + x11)) then (if (wrap64 (x1 + x11)) < (x0.size : Int) then (if (Go.bits .and .u8 (bt x0 (wrap64 (x1 + x11))) 192) = 128 then (utf_long.l0 k x0 x1 x2 (Go.bits .or .i32 (wrap32 (x10 * 64)) (wrap32 (Go.bits .andNot .u8 (bt x0 (wrap64 (x1 + x11))) 192))) (wrap64 (x11 + 1)) x102000 x102001 x102002) else (some (0, 0))) else (none)) else (none)) else (if x10 < x102002 then (some (0, 0)) else ((utf_isPoint.f x10).bind fun t102 => (if t102 = true then (some (x10, x2)) else (some (0, 0)))))
def utf_long.f (k : Nat) (a0 : ByteArray) (a1 : Int) (a2 : Int) (a3_0 : Int) (a3_1 : Int) (a3_2 : Int) : Option (Int × Int) := if (wrap64 ((a0.size : Int) - a1)) < a2 then (some (0, 0)) else (if 0 ≤ a1 then (if a1 < (a0.size : Int) then (utf_long.l0 k a0 a1 a2 (wrap32 (Go.bits .andNot .u8 (bt a0 a1) a3_0)) 1 a3_0 a3_1 a3_2) else (none)) else (none))
theorem utf_long.mono_l : ∀ k, (∀ y0 y1 y2 y3 y4 y5 y6 y7, LeO (utf_long.l0 k y0 y1 y2 y3 y4 y5 y6 y7) (utf_long.l0 (k + 1) y0 y1 y2 y3 y4 y5 y6 y7))
  | 0 => fun _ _ _ _ _ _ _ _ r h => by simp [utf_long.l0] at h
  | k + 1 => by
    have ih0 := utf_long.mono_l k
    · intro y0 y1 y2 y3 y4 y5 y6 y7
      unfold utf_long.l0
      repeat' first
      | (with_reducible exact ih0 _ _ _ _ _ _ _ _)
      | (with_reducible exact LeO.refl _)
      | (with_reducible exact LeO.none _)
      | (with_reducible refine LeO.ite ?_ ?_)
      | (with_reducible refine LeO.bind ?_ (fun _ => ?_))
      | exact ih0 _ _ _ _ _ _ _ _
      | exact LeO.none _
      | refine LeO.ite ?_ ?_
      | refine LeO.bind ?_ (fun _ => ?_)
theorem utf_long.mono : ∀ a0 a1 a2 a3 a4 a5 k, LeO (utf_long.f k a0 a1 a2 a3 a4 a5) (utf_long.f (k + 1) a0 a1 a2 a3 a4 a5) := by
  intro a0 a1 a2 a3 a4 a5 k
  have ih0 := utf_long.mono_l k
  unfold utf_long.f
  repeat' first
      | (with_reducible exact ih0 _ _ _ _ _ _ _ _)
      | (with_reducible exact LeO.refl _)
      | (with_reducible exact LeO.none _)
      | (with_reducible refine LeO.ite ?_ ?_)
      | (with_reducible refine LeO.bind ?_ (fun _ => ?_))
      | exact ih0 _ _ _ _ _ _ _ _
      | exact LeO.none _
      | refine LeO.ite ?_ ?_
      | refine LeO.bind ?_ (fun _ => ?_)
set_option maxHeartbeats 8000000 in
set_option maxRecDepth 100000 in
theorem utf_long.calls (k : Nat) (a0 : ByteArray) (a1 : Int) (a2 : Int) (a3_0 : Int) (a3_1 : Int) (a3_2 : Int) (r1 : Int) (r2 : Int) (w : World) (h : utf_long.f k a0 a1 a2 a3_0 a3_1 a3_2 = some (r1, r2)) :
  Calls Try.prog 52 #[.string a0, .int .i64 a1, .int .i64 a2, .agg #[.int .u8 a3_0, .int .u8 a3_1, .int .i32 a3_2]] w fun e w' => e = .returned (.tuple #[.int .i32 r1, .int .i64 r2]) ∧ Below w.heap.size w w' := by
 have hu75 := Try.underlying75
 have HB := Aside0.mk (Below.refl w.heap.size w)
 have H : (if (wrap64 ((a0.size : Int) - a1)) < a2 then (some (0, 0)) else (if 0 ≤ a1 then (if a1 < (a0.size : Int) then (utf_long.l0 k a0 a1 a2 (wrap32 (Go.bits .andNot .u8 (bt a0 a1) a3_0)) 1 a3_0 a3_1 a3_2) else (none)) else (none))) = some (r1, r2) := h
 clear h
 by_cases c5 : (wrap64 ((a0.size : Int) - a1)) < a2
 ·rw [if_pos c5] at H
  have c5b0 : decide ((wrap64 ((a0.size : Int) - a1)) < a2) = true := decide_eq_true c5
  clear c5
  simp only [Option.some.injEq, Prod.mk.injEq] at H
  obtain ⟨rfl, rfl⟩ := H
  go_enter Try.func52, Try.ntmps52
  go_wp2_with (first | ((with_reducible refine gate_dst (N := 7) rfl ?_); refine box_event ?hg (N := 7) ?hd (cs := #[.int .u8 a3_0, .int .u8 a3_1, .int .i32 a3_2]) (t := 75) ?hr ?_; (case hd => rfl); (case hg => rfl); (case hr => first | (go_simp; done) | (go_simp; rfl)); intro gb101 hg w6 hbox hb; have n0_ := Aside0.mk (below_step (by repeat (first | (with_reducible first | exact HB.out | apply below_alloc | apply pw_below_drewN | apply below_drew1) | exact HB.out)) hb); have n1_ := Aside0.mk (hbox); have n2_ := Aside0.mk ((by rw [hg]; exact (below_size (by repeat (first | (with_reducible first | exact HB.out | apply below_alloc | apply pw_below_drewN | apply below_drew1) | exact HB.out))) : w.heap.size ≤ gb101)); have n3_ := Aside0.mk ((by rw [hg]; exact (below_size (by repeat (first | (with_reducible first | exact HB.out | apply below_alloc | apply pw_below_drewN | apply below_drew1) | exact HB.out))) : w.heap.size ≤ gb101)); clear HB; have HB := n0_; have BK101 := n1_; have GW101 := n2_; have GE101 := n3_; clear n0_ n1_ n2_ n3_; clear hb hbox hg))
  repeat (go_quiet (first | ((with_reducible refine gate_dst (N := 7) rfl ?_); refine box_event ?hg (N := 7) ?hd (cs := #[.int .u8 a3_0, .int .u8 a3_1, .int .i32 a3_2]) (t := 75) ?hr ?_; (case hd => rfl); (case hg => rfl); (case hr => first | (go_simp; done) | (go_simp; rfl)); intro gb101 hg w6 hbox hb; have n0_ := Aside0.mk (below_step (by repeat (first | (with_reducible first | exact HB.out | apply below_alloc | apply pw_below_drewN | apply below_drew1) | exact HB.out)) hb); have n1_ := Aside0.mk (hbox); have n2_ := Aside0.mk ((by rw [hg]; exact (below_size (by repeat (first | (with_reducible first | exact HB.out | apply below_alloc | apply pw_below_drewN | apply below_drew1) | exact HB.out))) : w.heap.size ≤ gb101)); have n3_ := Aside0.mk ((by rw [hg]; exact (below_size (by repeat (first | (with_reducible first | exact HB.out | apply below_alloc | apply pw_below_drewN | apply below_drew1) | exact HB.out))) : w.heap.size ≤ gb101)); clear HB; have HB := n0_; have BK101 := n1_; have GW101 := n2_; have GE101 := n3_; clear n0_ n1_ n2_ n3_; clear hb hbox hg)); try go_wp2_with (first | ((with_reducible refine gate_dst (N := 7) rfl ?_); refine box_event ?hg (N := 7) ?hd (cs := #[.int .u8 a3_0, .int .u8 a3_1, .int .i32 a3_2]) (t := 75) ?hr ?_; (case hd => rfl); (case hg => rfl); (case hr => first | (go_simp; done) | (go_simp; rfl)); intro gb101 hg w6 hbox hb; have n0_ := Aside0.mk (below_step (by repeat (first | (with_reducible first | exact HB.out | apply below_alloc | apply pw_below_drewN | apply below_drew1) | exact HB.out)) hb); have n1_ := Aside0.mk (hbox); have n2_ := Aside0.mk ((by rw [hg]; exact (below_size (by repeat (first | (with_reducible first | exact HB.out | apply below_alloc | apply pw_below_drewN | apply below_drew1) | exact HB.out))) : w.heap.size ≤ gb101)); have n3_ := Aside0.mk ((by rw [hg]; exact (below_size (by repeat (first | (with_reducible first | exact HB.out | apply below_alloc | apply pw_below_drewN | apply below_drew1) | exact HB.out))) : w.heap.size ≤ gb101)); clear HB; have HB := n0_; have BK101 := n1_; have GW101 := n2_; have GE101 := n3_; clear n0_ n1_ n2_ n3_; clear hb hbox hg)))
  go_ret2
  exact ⟨by first | rfl | (simp [errW_none, errW_some] <;> rfl) | (simp [*, errW_none, errW_some] <;> rfl), by repeat (first | (with_reducible first | exact HB.out | apply below_alloc | apply pw_below_drewN | apply below_drew1 | refine below_set ?_ GE101.out) | exact HB.out)⟩
 ·rw [if_neg c5] at H
  have c5b0 : decide ((wrap64 ((a0.size : Int) - a1)) < a2) = false := decide_eq_false c5
  clear c5
  by_cases c7 : 0 ≤ a1
  ·rw [if_pos c7] at H
   have c7b0 : decide (0 ≤ a1) = true := decide_eq_true c7
   clear c7
   by_cases c8 : a1 < (a0.size : Int)
   ·rw [if_pos c8] at H
    have c8b0 : decide (a1 < (a0.size : Int)) = true := decide_eq_true c8
    clear c8
    have H' := Aside0.mk H
    clear H
    go_enter Try.func52, Try.ntmps52
    go_wp2_with (first | ((with_reducible refine gate_dst (N := 7) rfl ?_); refine box_event ?hg (N := 7) ?hd (cs := #[.int .u8 a3_0, .int .u8 a3_1, .int .i32 a3_2]) (t := 75) ?hr ?_; (case hd => rfl); (case hg => rfl); (case hr => first | (go_simp; done) | (go_simp; rfl)); intro gb101 hg w10 hbox hb; have n0_ := Aside0.mk (below_step (by repeat (first | (with_reducible first | exact HB.out | apply below_alloc | apply pw_below_drewN | apply below_drew1) | exact HB.out)) hb); have n1_ := Aside0.mk (hbox); have n2_ := Aside0.mk ((by rw [hg]; exact (below_size (by repeat (first | (with_reducible first | exact HB.out | apply below_alloc | apply pw_below_drewN | apply below_drew1) | exact HB.out))) : w.heap.size ≤ gb101)); have n3_ := Aside0.mk ((by rw [hg]; exact (below_size (by repeat (first | (with_reducible first | exact HB.out | apply below_alloc | apply pw_below_drewN | apply below_drew1) | exact HB.out))) : w.heap.size ≤ gb101)); clear HB; have HB := n0_; have BK101 := n1_; have GW101 := n2_; have GE101 := n3_; clear n0_ n1_ n2_ n3_; clear hb hbox hg; have p9 : 0 ≤ (a1 : Int) := of_decide_eq_true (by first | (with_reducible assumption) | assumption); have q9 : a1 < (a0.size : Int) := of_decide_eq_true (by first | (with_reducible assumption) | assumption); have hx9 := bt_at a0 a1; replace p9 := eq_true p9; replace q9 := eq_true q9; have hcz11_0 : w10.cell? ⟨gb101, 0, none⟩ = some (.int .u8 a3_0) := (blk_cell BK101.out 0).trans rfl; have hcz11_1 : w10.cell? ⟨gb101, 1, none⟩ = some (.int .u8 a3_1) := (blk_cell BK101.out 1).trans rfl; have hcz11_2 : w10.cell? ⟨gb101, 2, none⟩ = some (.int .i32 a3_2) := (blk_cell BK101.out 2).trans rfl; have hfz11_0 := blk_frozen BK101.out 0; have hfz11_1 := blk_frozen BK101.out 1; have hfz11_2 := blk_frozen BK101.out 2))
    repeat (go_quiet (first | ((with_reducible refine gate_dst (N := 7) rfl ?_); refine box_event ?hg (N := 7) ?hd (cs := #[.int .u8 a3_0, .int .u8 a3_1, .int .i32 a3_2]) (t := 75) ?hr ?_; (case hd => rfl); (case hg => rfl); (case hr => first | (go_simp; done) | (go_simp; rfl)); intro gb101 hg w10 hbox hb; have n0_ := Aside0.mk (below_step (by repeat (first | (with_reducible first | exact HB.out | apply below_alloc | apply pw_below_drewN | apply below_drew1) | exact HB.out)) hb); have n1_ := Aside0.mk (hbox); have n2_ := Aside0.mk ((by rw [hg]; exact (below_size (by repeat (first | (with_reducible first | exact HB.out | apply below_alloc | apply pw_below_drewN | apply below_drew1) | exact HB.out))) : w.heap.size ≤ gb101)); have n3_ := Aside0.mk ((by rw [hg]; exact (below_size (by repeat (first | (with_reducible first | exact HB.out | apply below_alloc | apply pw_below_drewN | apply below_drew1) | exact HB.out))) : w.heap.size ≤ gb101)); clear HB; have HB := n0_; have BK101 := n1_; have GW101 := n2_; have GE101 := n3_; clear n0_ n1_ n2_ n3_; clear hb hbox hg; have p9 : 0 ≤ (a1 : Int) := of_decide_eq_true (by first | (with_reducible assumption) | assumption); have q9 : a1 < (a0.size : Int) := of_decide_eq_true (by first | (with_reducible assumption) | assumption); have hx9 := bt_at a0 a1; replace p9 := eq_true p9; replace q9 := eq_true q9; have hcz11_0 : w10.cell? ⟨gb101, 0, none⟩ = some (.int .u8 a3_0) := (blk_cell BK101.out 0).trans rfl; have hcz11_1 : w10.cell? ⟨gb101, 1, none⟩ = some (.int .u8 a3_1) := (blk_cell BK101.out 1).trans rfl; have hcz11_2 : w10.cell? ⟨gb101, 2, none⟩ = some (.int .i32 a3_2) := (blk_cell BK101.out 2).trans rfl; have hfz11_0 := blk_frozen BK101.out 0; have hfz11_1 := blk_frozen BK101.out 1; have hfz11_2 := blk_frozen BK101.out 2)); try go_wp2_with (first | ((with_reducible refine gate_dst (N := 7) rfl ?_); refine box_event ?hg (N := 7) ?hd (cs := #[.int .u8 a3_0, .int .u8 a3_1, .int .i32 a3_2]) (t := 75) ?hr ?_; (case hd => rfl); (case hg => rfl); (case hr => first | (go_simp; done) | (go_simp; rfl)); intro gb101 hg w10 hbox hb; have n0_ := Aside0.mk (below_step (by repeat (first | (with_reducible first | exact HB.out | apply below_alloc | apply pw_below_drewN | apply below_drew1) | exact HB.out)) hb); have n1_ := Aside0.mk (hbox); have n2_ := Aside0.mk ((by rw [hg]; exact (below_size (by repeat (first | (with_reducible first | exact HB.out | apply below_alloc | apply pw_below_drewN | apply below_drew1) | exact HB.out))) : w.heap.size ≤ gb101)); have n3_ := Aside0.mk ((by rw [hg]; exact (below_size (by repeat (first | (with_reducible first | exact HB.out | apply below_alloc | apply pw_below_drewN | apply below_drew1) | exact HB.out))) : w.heap.size ≤ gb101)); clear HB; have HB := n0_; have BK101 := n1_; have GW101 := n2_; have GE101 := n3_; clear n0_ n1_ n2_ n3_; clear hb hbox hg; have p9 : 0 ≤ (a1 : Int) := of_decide_eq_true (by first | (with_reducible assumption) | assumption); have q9 : a1 < (a0.size : Int) := of_decide_eq_true (by first | (with_reducible assumption) | assumption); have hx9 := bt_at a0 a1; replace p9 := eq_true p9; replace q9 := eq_true q9; have hcz11_0 : w10.cell? ⟨gb101, 0, none⟩ = some (.int .u8 a3_0) := (blk_cell BK101.out 0).trans rfl; have hcz11_1 : w10.cell? ⟨gb101, 1, none⟩ = some (.int .u8 a3_1) := (blk_cell BK101.out 1).trans rfl; have hcz11_2 : w10.cell? ⟨gb101, 2, none⟩ = some (.int .i32 a3_2) := (blk_cell BK101.out 2).trans rfl; have hfz11_0 := blk_frozen BK101.out 0; have hfz11_1 := blk_frozen BK101.out 1; have hfz11_2 := blk_frozen BK101.out 2)))
    go_loopg [10, 11] k (fun kq v10 v11 w' => ∃ (x10_1 : Int) (x11_1 : Int), v10 = .int .i32 x10_1 ∧ v11 = .int .i64 x11_1 ∧ Aside0 (utf_long.l0 kq a0 a1 a2 x10_1 x11_1 a3_0 a3_1 a3_2 = some (r1, r2)) ∧ Aside0 (kq ≤ k) ∧ Aside0 (w'.heap[gb101]? = some (.cells #[.int .u8 a3_0, .int .u8 a3_1, .int .i32 a3_2] 75 (0, 0))) ∧ Aside0 (Below w.heap.size w w'))
    case atStart => exact ⟨(wrap32 (Go.bits .andNot .u8 (bt a0 a1) a3_0)), (1), (by first | rfl | (simp; done) | (simp [*]; done)), (by first | rfl | (simp; done) | (simp [*]; done)), H', ⟨Nat.le_refl _⟩, ⟨by (with_reducible repeat (first | refine blk_drewN ?_ _ | refine blk_drew ?_ | refine blk_alloc ?_ _)); exact BK101.out⟩, ⟨by repeat (first | (with_reducible first | exact HB.out | apply below_alloc | apply pw_below_drewN | apply below_drew1 | refine below_set ?_ GE101.out) | exact HB.out)⟩⟩
    case round =>
     clear H'
     try clear p2
     try clear p3
     try clear c5
     try clear c5b0
     try clear p6
     try clear c7
     try clear c7b0
     try clear c8
     try clear c8b0
     try clear p9
     try clear q9
     try clear hx9
     try clear hcz11_0
     try clear hcz11_1
     try clear hcz11_2
     try clear hfz11_0
     try clear hfz11_1
     try clear hfz11_2
     try clear p9
     try clear q9
     obtain ⟨x10_1, x11_1, rfl, rfl, HA, HK1, BK101, HB⟩ := hrel
     cases gk with
     | zero => exact absurd HA.out (by simp [utf_long.l0])
     | succ k1 =>
      have H := HA.out
      clear HA
      simp only [utf_long.l0] at H
      by_cases c12 : x11_1 < a2
      ·rw [if_pos c12] at H
       have c12b0 : decide (x11_1 < a2) = true := decide_eq_true c12
       clear c12
       obtain ⟨ji13, hji13⟩ : ∃ j_ : Int, (wrap64 (a1 + x11_1)) = j_ := ⟨_, rfl⟩
       replace H : (if 0 ≤ (ji13) then (if (ji13) < (a0.size : Int) then (if (Go.bits .and .u8 (bt a0 (ji13)) 192) = 128 then (utf_long.l0 k1 a0 a1 a2 (Go.bits .or .i32 (wrap32 (x10_1 * 64)) (wrap32 (Go.bits .andNot .u8 (bt a0 (ji13)) 192))) (wrap64 (x11_1 + 1)) a3_0 a3_1 a3_2) else (some (0, 0))) else (none)) else (none)) = some (r1, r2) := by first | (rw [hji13] at H; exact H) | (simp only [hji13] at H ⊢; exact H)
       have hji13w : (IntKind.i64.wrap (a1 + x11_1)) = ji13 := (i64_w _).trans hji13
       by_cases c14 : 0 ≤ (ji13)
       ·rw [if_pos c14] at H
        have c14b0 : decide (0 ≤ (ji13)) = true := decide_eq_true c14
        clear c14
        by_cases c15 : (ji13) < (a0.size : Int)
        ·rw [if_pos c15] at H
         have c15b0 : decide ((ji13) < (a0.size : Int)) = true := decide_eq_true c15
         clear c15
         by_cases c17 : (Go.bits .and .u8 (bt a0 (ji13)) 192) = 128
         ·rw [if_pos c17] at H
          have c17b0 : ((Go.bits .and .u8 (bt a0 (ji13)) 192) == 128) = true := beq_iff_eq.mpr c17
          have c17b1 : ((Go.bits .and .u8 (bt a0 (ji13)) 192) != 128) = false := bne_eq_false_iff_eq.mpr c17
          clear c17
          have H' := Aside0.mk H
          clear H
          have p16 : 0 ≤ ((ji13) : Int) := of_decide_eq_true (by first | (with_reducible assumption) | assumption)
          have q16 : (ji13) < (a0.size : Int) := of_decide_eq_true (by first | (with_reducible assumption) | assumption)
          have hx16 := bt_at a0 (ji13)
          replace p16 := eq_true p16
          replace q16 := eq_true q16
          go_wp2
          repeat (go_quiet (fail); try go_wp2)
          go_roundg k1
          case measure => have := HK1.out; omega
          case rel => exact ⟨(Go.bits .or .i32 (wrap32 (x10_1 * 64)) (wrap32 (Go.bits .andNot .u8 (bt a0 (ji13)) 192))), (wrap64 (x11_1 + 1)), (by first | rfl | (simp; done) | (simp only [← hji13] <;> (first | rfl | simp)) | (simp [*]; done)), (by first | rfl | (simp; done) | (simp [*]; done)), H', ⟨by have := HK1.out; omega⟩, ⟨by (with_reducible repeat (first | refine blk_drewN ?_ _ | refine blk_drew ?_ | refine blk_alloc ?_ _)); exact BK101.out⟩, ⟨by repeat (first | (with_reducible first | exact HB.out | apply below_alloc | apply pw_below_drewN | apply below_drew1 | refine below_set ?_ GE101.out) | exact HB.out)⟩⟩
         ·rw [if_neg c17] at H
          have c17b0 : ((Go.bits .and .u8 (bt a0 (ji13)) 192) == 128) = false := beq_eq_false_iff_ne.mpr c17
          have c17b1 : ((Go.bits .and .u8 (bt a0 (ji13)) 192) != 128) = true := bne_iff_ne.mpr c17
          simp only [Option.some.injEq, Prod.mk.injEq] at H
          obtain ⟨rfl, rfl⟩ := H
          have p16 : 0 ≤ ((ji13) : Int) := of_decide_eq_true (by first | (with_reducible assumption) | assumption)
          have q16 : (ji13) < (a0.size : Int) := of_decide_eq_true (by first | (with_reducible assumption) | assumption)
          have hx16 := bt_at a0 (ji13)
          replace p16 := eq_true p16
          replace q16 := eq_true q16
          go_wp2
          repeat (go_quiet (fail); try go_wp2)
          go_ret2
          exact ⟨by first | rfl | (simp [errW_none, errW_some] <;> rfl) | (simp only [← hji13]; first | rfl | (simp [errW_none, errW_some] <;> rfl)) | (simp [*, errW_none, errW_some] <;> rfl), by repeat (first | (with_reducible first | exact HB.out | apply below_alloc | apply pw_below_drewN | apply below_drew1 | refine below_set ?_ GE101.out) | exact HB.out)⟩
        ·rw [if_neg c15] at H
         exact absurd H (by simp)
       ·rw [if_neg c14] at H
        exact absurd H (by simp)
      ·rw [if_neg c12] at H
       have c12b0 : decide (x11_1 < a2) = false := decide_eq_false c12
       clear c12
       by_cases c18 : x10_1 < a3_2
       ·rw [if_pos c18] at H
        have c18b0 : decide (x10_1 < a3_2) = true := decide_eq_true c18
        clear c18
        simp only [Option.some.injEq, Prod.mk.injEq] at H
        obtain ⟨rfl, rfl⟩ := H
        have hcz19_0 : wr.cell? ⟨gb101, 0, none⟩ = some (.int .u8 a3_0) := (blk_cell BK101.out 0).trans rfl
        have hcz19_1 : wr.cell? ⟨gb101, 1, none⟩ = some (.int .u8 a3_1) := (blk_cell BK101.out 1).trans rfl
        have hcz19_2 : wr.cell? ⟨gb101, 2, none⟩ = some (.int .i32 a3_2) := (blk_cell BK101.out 2).trans rfl
        have hfz19_0 := blk_frozen BK101.out 0
        have hfz19_1 := blk_frozen BK101.out 1
        have hfz19_2 := blk_frozen BK101.out 2
        go_wp2
        repeat (go_quiet (fail); try go_wp2)
        go_ret2
        exact ⟨by first | rfl | (simp [errW_none, errW_some] <;> rfl) | (simp [*, errW_none, errW_some] <;> rfl), by repeat (first | (with_reducible first | exact HB.out | apply below_alloc | apply pw_below_drewN | apply below_drew1 | refine below_set ?_ GE101.out) | exact HB.out)⟩
       ·rw [if_neg c18] at H
        have c18b0 : decide (x10_1 < a3_2) = false := decide_eq_false c18
        clear c18
        replace H := Option.bind_eq_some_iff.mp H
        obtain ⟨t102, A200, H⟩ := H
        replace H : (if t102 = true then (some (x10_1, a2)) else (some (0, 0))) = some (r1, r2) := H
        have A20 := Aside0.mk A200
        clear A200
        by_cases c21 : t102 = true
        ·subst c21
         have H1 : (some (x10_1, a2)) = some (r1, r2) := by rw [if_pos rfl] at H; exact H
         clear H
         have H := H1
         clear H1
         simp only [Option.some.injEq, Prod.mk.injEq] at H
         obtain ⟨rfl, rfl⟩ := H
         have hcz22_0 : wr.cell? ⟨gb101, 0, none⟩ = some (.int .u8 a3_0) := (blk_cell BK101.out 0).trans rfl
         have hcz22_1 : wr.cell? ⟨gb101, 1, none⟩ = some (.int .u8 a3_1) := (blk_cell BK101.out 1).trans rfl
         have hcz22_2 : wr.cell? ⟨gb101, 2, none⟩ = some (.int .i32 a3_2) := (blk_cell BK101.out 2).trans rfl
         have hfz22_0 := blk_frozen BK101.out 0
         have hfz22_1 := blk_frozen BK101.out 1
         have hfz22_2 := blk_frozen BK101.out 2
         go_wp2_with (first | (go_at_call 45; (with_reducible refine (utf_isPoint.calls x10_1 true _ A20.out).mono ?_); rintro e w' ⟨rfl, ⟨nd, rfl⟩⟩; (try first | exact ⟨rfl, _, World.drewN_drewN _ _ _⟩ | exact ⟨rfl, _, Eq.trans (World.drewN_drewN _ _ _) (congrArg (World.drewN _) (Nat.add_assoc _ _ _))⟩)))
         repeat (go_quiet (first | (go_at_call 45; (with_reducible refine (utf_isPoint.calls x10_1 true _ A20.out).mono ?_); rintro e w' ⟨rfl, ⟨nd, rfl⟩⟩; (try first | exact ⟨rfl, _, World.drewN_drewN _ _ _⟩ | exact ⟨rfl, _, Eq.trans (World.drewN_drewN _ _ _) (congrArg (World.drewN _) (Nat.add_assoc _ _ _))⟩))); try go_wp2_with (first | (go_at_call 45; (with_reducible refine (utf_isPoint.calls x10_1 true _ A20.out).mono ?_); rintro e w' ⟨rfl, ⟨nd, rfl⟩⟩; (try first | exact ⟨rfl, _, World.drewN_drewN _ _ _⟩ | exact ⟨rfl, _, Eq.trans (World.drewN_drewN _ _ _) (congrArg (World.drewN _) (Nat.add_assoc _ _ _))⟩))))
         go_ret2
         exact ⟨by first | rfl | (simp [errW_none, errW_some] <;> rfl) | (simp [*, errW_none, errW_some] <;> rfl), by repeat (first | (with_reducible first | exact HB.out | apply below_alloc | apply pw_below_drewN | apply below_drew1 | refine below_set ?_ GE101.out) | exact HB.out)⟩
        ·replace c21 := Bool.eq_false_iff.mpr c21
         subst c21
         have H1 : (some (0, 0)) = some (r1, r2) := by rw [if_neg (show ¬ (false = true) by decide)] at H; exact H
         clear H
         have H := H1
         clear H1
         simp only [Option.some.injEq, Prod.mk.injEq] at H
         obtain ⟨rfl, rfl⟩ := H
         have hcz23_0 : wr.cell? ⟨gb101, 0, none⟩ = some (.int .u8 a3_0) := (blk_cell BK101.out 0).trans rfl
         have hcz23_1 : wr.cell? ⟨gb101, 1, none⟩ = some (.int .u8 a3_1) := (blk_cell BK101.out 1).trans rfl
         have hcz23_2 : wr.cell? ⟨gb101, 2, none⟩ = some (.int .i32 a3_2) := (blk_cell BK101.out 2).trans rfl
         have hfz23_0 := blk_frozen BK101.out 0
         have hfz23_1 := blk_frozen BK101.out 1
         have hfz23_2 := blk_frozen BK101.out 2
         go_wp2_with (first | (go_at_call 45; (with_reducible refine (utf_isPoint.calls x10_1 false _ A20.out).mono ?_); rintro e w' ⟨rfl, ⟨nd, rfl⟩⟩; (try first | exact ⟨rfl, _, World.drewN_drewN _ _ _⟩ | exact ⟨rfl, _, Eq.trans (World.drewN_drewN _ _ _) (congrArg (World.drewN _) (Nat.add_assoc _ _ _))⟩)))
         repeat (go_quiet (first | (go_at_call 45; (with_reducible refine (utf_isPoint.calls x10_1 false _ A20.out).mono ?_); rintro e w' ⟨rfl, ⟨nd, rfl⟩⟩; (try first | exact ⟨rfl, _, World.drewN_drewN _ _ _⟩ | exact ⟨rfl, _, Eq.trans (World.drewN_drewN _ _ _) (congrArg (World.drewN _) (Nat.add_assoc _ _ _))⟩))); try go_wp2_with (first | (go_at_call 45; (with_reducible refine (utf_isPoint.calls x10_1 false _ A20.out).mono ?_); rintro e w' ⟨rfl, ⟨nd, rfl⟩⟩; (try first | exact ⟨rfl, _, World.drewN_drewN _ _ _⟩ | exact ⟨rfl, _, Eq.trans (World.drewN_drewN _ _ _) (congrArg (World.drewN _) (Nat.add_assoc _ _ _))⟩))))
         go_ret2
         exact ⟨by first | rfl | (simp [errW_none, errW_some] <;> rfl) | (simp [*, errW_none, errW_some] <;> rfl), by repeat (first | (with_reducible first | exact HB.out | apply below_alloc | apply pw_below_drewN | apply below_drew1 | refine below_set ?_ GE101.out) | exact HB.out)⟩
   ·rw [if_neg c8] at H
    exact absurd H (by simp)
  ·rw [if_neg c7] at H
   exact absurd H (by simp)

end Go.Proofs.Ytgepcdpnjinadaa.PX
end

section
-- MACHINE SIDE, written by wip/drive.py (this session's driver over the kit's print) for this claim. Lean checks it.
namespace Go.Proofs.Ytgepcdpnjinadaa.PX
open Go.RowKit Go.Proofs.YtgepcdpnjinadaaW.PrintWords Go.Proofs.YtgepcdpnjinadaaW.PrintLast Go.Proofs.YtgepcdpnjinadaaW.PrintMore
attribute [local go_sem] max2_int min2_int max_two min_two max_three min_three max_four min_four   -- for this text's walks alone
set_option linter.unusedVariables false
set_option linter.unusedSimpArgs false

-- HAND
-- FUNCTION palinode/utf.point
-- KINDS (str i64) (i32 i64) rounds making
theorem utf_forms.calls (w : World) : Calls Try.prog 51 #[] w fun e w' => e = .returned (.agg #[.int .u8 128, .int .u8 0, .int .i32 0, .int .u8 224, .int .u8 192, .int .i32 128, .int .u8 240, .int .u8 224, .int .i32 2048, .int .u8 248, .int .u8 240, .int .i32 65536]) ∧ Below w.heap.size w w' := by
 go_enter Try.func51, Try.ntmps51
 go_wp2
 exact bodyPost_ret (v := .agg #[.int .u8 128, .int .u8 0, .int .i32 0, .int .u8 224, .int .u8 192, .int .i32 128, .int .u8 240, .int .u8 224, .int .i32 2048, .int .u8 248, .int .u8 240, .int .i32 65536]) (by simp [results, Try.results51, go_sem]) rfl ⟨rfl, (Below.refl _ _).alloc (Nat.le_refl _) _⟩
def utf_point.t (k : Nat) (a0 : ByteArray) (a1 : Int) : Nat → Option (Int × Int)
  | 0 => if Go.bits .and .u8 (bt a0 a1) 128 = 0 then utf_long.f k a0 a1 1 128 0 0 else utf_point.t k a0 a1 1
  | 1 => if Go.bits .and .u8 (bt a0 a1) 224 = 192 then utf_long.f k a0 a1 2 224 192 128 else utf_point.t k a0 a1 2
  | 2 => if Go.bits .and .u8 (bt a0 a1) 240 = 224 then utf_long.f k a0 a1 3 240 224 2048 else utf_point.t k a0 a1 3
  | 3 => if Go.bits .and .u8 (bt a0 a1) 248 = 240 then utf_long.f k a0 a1 4 248 240 65536 else utf_point.t k a0 a1 4
  | _ + 4 => some (0, 0)
  termination_by i => 4 - i
def utf_point.f (k : Nat) (a0 : ByteArray) (a1 : Int) : Option (Int × Int) :=
  if a1 < 0 then some (0, 0) else if (a0.size : Int) ≤ a1 then some (0, 0)
  else utf_point.t k a0 a1 0
theorem utf_point.mono_t (a0 : ByteArray) (a1 : Int) (k : Nat) : ∀ i, LeO (utf_point.t k a0 a1 i) (utf_point.t (k + 1) a0 a1 i)
  | 0 => by rw [utf_point.t, utf_point.t]; exact LeO.ite (utf_long.mono _ _ _ _ _ _ _) (utf_point.mono_t a0 a1 k 1)
  | 1 => by rw [utf_point.t, utf_point.t]; exact LeO.ite (utf_long.mono _ _ _ _ _ _ _) (utf_point.mono_t a0 a1 k 2)
  | 2 => by rw [utf_point.t, utf_point.t]; exact LeO.ite (utf_long.mono _ _ _ _ _ _ _) (utf_point.mono_t a0 a1 k 3)
  | 3 => by rw [utf_point.t, utf_point.t]; exact LeO.ite (utf_long.mono _ _ _ _ _ _ _) (utf_point.mono_t a0 a1 k 4)
  | _ + 4 => by rw [utf_point.t, utf_point.t]; exact LeO.refl _
  termination_by i => 4 - i
theorem utf_point.mono (a0 : ByteArray) (a1 : Int) (k : Nat) : LeO (utf_point.f k a0 a1) (utf_point.f (k + 1) a0 a1) := by
  unfold utf_point.f
  exact LeO.ite (LeO.refl _) (LeO.ite (LeO.refl _) (utf_point.mono_t a0 a1 k 0))
set_option maxHeartbeats 4000000 in
set_option maxRecDepth 100000 in
theorem utf_point.calls (k : Nat) (a0 : ByteArray) (a1 : Int) (r1 r2 : Int) (w : World) (h : utf_point.f k a0 a1 = some (r1, r2)) : Calls Try.prog 44 #[.string a0, .int .i64 a1] w fun e w' => e = .returned (.tuple #[.int .i32 r1, .int .i64 r2]) ∧ Below w.heap.size w w' := by
 unfold utf_point.f at h
 by_cases c1 : a1 < 0
 ·rw [if_pos c1] at h
  simp only [Option.some.injEq, Prod.mk.injEq] at h
  obtain ⟨rfl, rfl⟩ := h
  go_enter Try.func44, Try.ntmps44
  go_wp2
  go_ret2
  exact ⟨rfl, Below.refl _ _⟩
 rw [if_neg c1] at h
 by_cases c2 : (a0.size : Int) ≤ a1
 ·rw [if_pos c2] at h
  simp only [Option.some.injEq, Prod.mk.injEq] at h
  obtain ⟨rfl, rfl⟩ := h
  go_enter Try.func44, Try.ntmps44
  go_wp2
  go_ret2
  exact ⟨rfl, Below.refl _ _⟩
 rw [if_neg c2] at h
 have H := Aside0.mk h
 clear h
 have c1b : decide (a1 < 0) = false := decide_eq_false c1
 have c2b : decide ((a0.size : Int) ≤ a1) = false := decide_eq_false c2
 have p16 : 0 ≤ a1 := by omega
 have q16 : a1 < (a0.size : Int) := by omega
 have hx16 := bt_at a0 a1
 clear c1 c2
 replace p16 := eq_true p16
 replace q16 := eq_true q16
 go_enter Try.func44, Try.ntmps44
 go_wp2_with (go_at_call 51; refine (utf_forms.calls _).mono ?_; rintro e w1 ⟨rfl, hb1⟩)
 go_loopw [17] (fun v wr => ∃ i : Nat, v = .int .i64 i ∧ Aside0 (i ≤ 4) ∧ Aside0 (utf_point.t k a0 a1 i = some (r1, r2)) ∧ Aside0 (Below w.heap.size w wr)) (fun v _ => 4 - (intOf v).toNat)
 case atStart => exact ⟨0, rfl, ⟨by omega⟩, H, ⟨hb1⟩⟩
 case round =>
  clear H
  clear hb1
  obtain ⟨i, rfl, hi, H, HB⟩ := hrel
  rcases (by have := hi.out; omega : i = 0 ∨ 0 < i) with rfl | hi0
  ·clear hi
   replace H := H.out
   rw [utf_point.t] at H
   have ix : ∀ w, (Instr.index 76 (.agg #[.int .u8 128, .int .u8 0, .int .i32 0, .int .u8 224, .int .u8 192, .int .i32 128, .int .u8 240, .int .u8 224, .int .i32 2048, .int .u8 248, .int .u8 240, .int .i32 65536]) (.int .i64 0)).run Try.prog w = .ok (.agg #[.int .u8 128, .int .u8 0, .int .i32 0]) w := fun _ => by kernel_rfl
   by_cases c : Go.bits .and .u8 (bt a0 a1) 128 = 0
   ·rw [if_pos c] at H
    have cb : (Go.bits .and .u8 (bt a0 a1) 128 == 0) = true := beq_iff_eq.mpr c
    clear c
    replace H := Aside0.mk H
    go_wp2
    go_quiet (fail)
    go_wp2_with (go_at_call 52; refine (utf_long.calls _ _ _ _ _ _ _ _ _ _ H.out).mono ?_; rintro e w2 ⟨rfl, hb2⟩)
    go_ret2
    exact ⟨rfl, below_step (by repeat (first | exact HB.out | apply below_alloc | apply pw_below_drewN)) hb2⟩
   ·rw [if_neg c] at H
    have cb : (Go.bits .and .u8 (bt a0 a1) 128 == 0) = false := beq_eq_false_iff_ne.mpr c
    clear c
    replace H := Aside0.mk H
    go_wp2
    go_quiet (fail)
    go_wp2
    go_roundw
    case rel => exact ⟨1, rfl, ⟨by omega⟩, H, ⟨by repeat (first | exact HB.out | apply below_alloc | apply pw_below_drewN)⟩⟩
    case measure => simp [intOf]
  rcases (by have := hi.out; omega : i = 1 ∨ 1 < i) with rfl | hi1
  ·clear hi
   replace H := H.out
   rw [utf_point.t] at H
   have ix : ∀ w, (Instr.index 76 (.agg #[.int .u8 128, .int .u8 0, .int .i32 0, .int .u8 224, .int .u8 192, .int .i32 128, .int .u8 240, .int .u8 224, .int .i32 2048, .int .u8 248, .int .u8 240, .int .i32 65536]) (.int .i64 1)).run Try.prog w = .ok (.agg #[.int .u8 224, .int .u8 192, .int .i32 128]) w := fun _ => by kernel_rfl
   by_cases c : Go.bits .and .u8 (bt a0 a1) 224 = 192
   ·rw [if_pos c] at H
    have cb : (Go.bits .and .u8 (bt a0 a1) 224 == 192) = true := beq_iff_eq.mpr c
    clear c
    replace H := Aside0.mk H
    go_wp2
    go_quiet (fail)
    go_wp2_with (go_at_call 52; refine (utf_long.calls _ _ _ _ _ _ _ _ _ _ H.out).mono ?_; rintro e w2 ⟨rfl, hb2⟩)
    go_ret2
    exact ⟨rfl, below_step (by repeat (first | exact HB.out | apply below_alloc | apply pw_below_drewN)) hb2⟩
   ·rw [if_neg c] at H
    have cb : (Go.bits .and .u8 (bt a0 a1) 224 == 192) = false := beq_eq_false_iff_ne.mpr c
    clear c
    replace H := Aside0.mk H
    go_wp2
    go_quiet (fail)
    go_wp2
    go_roundw
    case rel => exact ⟨2, rfl, ⟨by omega⟩, H, ⟨by repeat (first | exact HB.out | apply below_alloc | apply pw_below_drewN)⟩⟩
    case measure => simp [intOf]
  rcases (by have := hi.out; omega : i = 2 ∨ 2 < i) with rfl | hi2
  ·clear hi
   replace H := H.out
   rw [utf_point.t] at H
   have ix : ∀ w, (Instr.index 76 (.agg #[.int .u8 128, .int .u8 0, .int .i32 0, .int .u8 224, .int .u8 192, .int .i32 128, .int .u8 240, .int .u8 224, .int .i32 2048, .int .u8 248, .int .u8 240, .int .i32 65536]) (.int .i64 2)).run Try.prog w = .ok (.agg #[.int .u8 240, .int .u8 224, .int .i32 2048]) w := fun _ => by kernel_rfl
   by_cases c : Go.bits .and .u8 (bt a0 a1) 240 = 224
   ·rw [if_pos c] at H
    have cb : (Go.bits .and .u8 (bt a0 a1) 240 == 224) = true := beq_iff_eq.mpr c
    clear c
    replace H := Aside0.mk H
    go_wp2
    go_quiet (fail)
    go_wp2_with (go_at_call 52; refine (utf_long.calls _ _ _ _ _ _ _ _ _ _ H.out).mono ?_; rintro e w2 ⟨rfl, hb2⟩)
    go_ret2
    exact ⟨rfl, below_step (by repeat (first | exact HB.out | apply below_alloc | apply pw_below_drewN)) hb2⟩
   ·rw [if_neg c] at H
    have cb : (Go.bits .and .u8 (bt a0 a1) 240 == 224) = false := beq_eq_false_iff_ne.mpr c
    clear c
    replace H := Aside0.mk H
    go_wp2
    go_quiet (fail)
    go_wp2
    go_roundw
    case rel => exact ⟨3, rfl, ⟨by omega⟩, H, ⟨by repeat (first | exact HB.out | apply below_alloc | apply pw_below_drewN)⟩⟩
    case measure => simp [intOf]
  rcases (by have := hi.out; omega : i = 3 ∨ 3 < i) with rfl | hi3
  ·clear hi
   replace H := H.out
   rw [utf_point.t] at H
   have ix : ∀ w, (Instr.index 76 (.agg #[.int .u8 128, .int .u8 0, .int .i32 0, .int .u8 224, .int .u8 192, .int .i32 128, .int .u8 240, .int .u8 224, .int .i32 2048, .int .u8 248, .int .u8 240, .int .i32 65536]) (.int .i64 3)).run Try.prog w = .ok (.agg #[.int .u8 248, .int .u8 240, .int .i32 65536]) w := fun _ => by kernel_rfl
   by_cases c : Go.bits .and .u8 (bt a0 a1) 248 = 240
   ·rw [if_pos c] at H
    have cb : (Go.bits .and .u8 (bt a0 a1) 248 == 240) = true := beq_iff_eq.mpr c
    clear c
    replace H := Aside0.mk H
    go_wp2
    go_quiet (fail)
    go_wp2_with (go_at_call 52; refine (utf_long.calls _ _ _ _ _ _ _ _ _ _ H.out).mono ?_; rintro e w2 ⟨rfl, hb2⟩)
    go_ret2
    exact ⟨rfl, below_step (by repeat (first | exact HB.out | apply below_alloc | apply pw_below_drewN)) hb2⟩
   ·rw [if_neg c] at H
    have cb : (Go.bits .and .u8 (bt a0 a1) 248 == 240) = false := beq_eq_false_iff_ne.mpr c
    clear c
    replace H := Aside0.mk H
    go_wp2
    go_quiet (fail)
    go_wp2
    go_roundw
    case rel => exact ⟨4, rfl, ⟨by omega⟩, H, ⟨by repeat (first | exact HB.out | apply below_alloc | apply pw_below_drewN)⟩⟩
    case measure => simp [intOf]
  have hi4 : i = 4 := by have := hi.out; omega
  subst hi4
  clear hi
  replace H := H.out
  rw [utf_point.t] at H
  simp only [Option.some.injEq, Prod.mk.injEq] at H
  obtain ⟨rfl, rfl⟩ := H
  go_wp2
  go_ret2
  exact ⟨rfl, HB.out⟩

end Go.Proofs.Ytgepcdpnjinadaa.PX
end

section
-- MACHINE SIDE, written by wip/drive.py (this session's driver over the kit's print) for this claim. Lean checks it.
namespace Go.Proofs.Ytgepcdpnjinadaa.PX
open Go.RowKit Go.Proofs.YtgepcdpnjinadaaW.PrintWords Go.Proofs.YtgepcdpnjinadaaW.PrintLast Go.Proofs.YtgepcdpnjinadaaW.PrintMore
attribute [local go_sem] max2_int min2_int max_two min_two max_three min_three max_four min_four   -- for this text's walks alone
set_option linter.unusedVariables false
set_option linter.unusedSimpArgs false

/-! ### utf_Size: function 22 -/
def utf_Size.f (k : Nat) (a0 : ByteArray) (a1 : Int) : Option (Int) := (utf_point.f k a0 a1).bind fun bt103 => (some bt103.2)
theorem utf_Size.mono : ∀ a0 a1 k, LeO (utf_Size.f k a0 a1) (utf_Size.f (k + 1) a0 a1) := by
  intro a0 a1 k
  unfold utf_Size.f
  repeat' first
      | (with_reducible exact utf_point.mono _ _ _)
      | (with_reducible exact LeO.refl _)
      | (with_reducible exact LeO.none _)
      | (with_reducible refine LeO.ite ?_ ?_)
      | (with_reducible refine LeO.bind ?_ (fun _ => ?_))
      | exact utf_point.mono _ _ _
      | exact LeO.none _
      | refine LeO.ite ?_ ?_
      | refine LeO.bind ?_ (fun _ => ?_)
set_option maxHeartbeats 8000000 in
set_option maxRecDepth 100000 in
theorem utf_Size.calls (k : Nat) (a0 : ByteArray) (a1 : Int) (r : Int) (w : World) (h : utf_Size.f k a0 a1 = some r) :
  Calls Try.prog 22 #[.string a0, .int .i64 a1] w fun e w' => e = .returned (.int .i64 r) ∧ Below w.heap.size w w' := by
 have HB := Aside0.mk (Below.refl w.heap.size w)
 have H : ((utf_point.f k a0 a1).bind fun bt103 => (some bt103.2)) = some r := h
 clear h
 replace H := Option.bind_eq_some_iff.mp H
 obtain ⟨⟨t103, t104⟩, A30, H⟩ := H
 replace H : (some t104) = some r := H
 have A3 := Aside0.mk A30
 clear A30
 obtain rfl := Option.some.inj H
 go_enter Try.func22, Try.ntmps22
 go_wp2_with (first | ((with_reducible refine gate_callee (f := 44) rfl ?_); refine goesL_ (some 10) rfl rfl Try.func44 (by kernel_rfl) rfl #[.string a0, .int .i64 a1] rfl (by (try simp only [List.map_toArray, List.map_cons, List.map_nil]); first | done | rfl | (simp only [List.length_drop, List.length_take]; rfl)) ?_; (with_reducible refine (utf_point.calls k a0 a1 t103 t104 _ A3.out).mono ?_); rintro e w4 ⟨rfl, hb⟩; refine ⟨_, rfl, ?_⟩; have n0_ := Aside0.mk (below_step (by repeat (first | (with_reducible first | exact HB.out | apply below_alloc | apply pw_below_drewN | apply below_drew1) | exact HB.out)) hb); clear HB; have HB := n0_; clear n0_; (try clear hb); (try clear hb2); (try clear hk); (try clear hi)))
 go_ret
 exact ⟨by first | rfl | (simp [errW_none, errW_some] <;> rfl) | (simp [*, errW_none, errW_some] <;> rfl), by repeat (first | (with_reducible first | exact HB.out | apply below_alloc | apply pw_below_drewN | apply below_drew1) | exact HB.out)⟩

/-! ### utf_Valid: function 24 -/
def utf_Valid.l0 : Nat → ByteArray → Int → Option (Bool)
  | 0, _, _ => none
  | k + 1, x0, x3 => if x3 < (x0.size : Int) then ((utf_Size.f k x0 x3).bind fun t105 => (if t105 = 0 then (some false) else (utf_Valid.l0 k x0 (wrap64 (x3 + t105))))) else (some true)
def utf_Valid.f (k : Nat) (a0 : ByteArray) : Option (Bool) := utf_Valid.l0 k a0 0
theorem utf_Valid.mono_l : ∀ k, (∀ y0 y1, LeO (utf_Valid.l0 k y0 y1) (utf_Valid.l0 (k + 1) y0 y1))
  | 0 => fun _ _ r h => by simp [utf_Valid.l0] at h
  | k + 1 => by
    have ih0 := utf_Valid.mono_l k
    · intro y0 y1
      unfold utf_Valid.l0
      repeat' first
      | (with_reducible exact ih0 _ _)
      | (with_reducible exact utf_Size.mono _ _ _)
      | (with_reducible exact LeO.refl _)
      | (with_reducible exact LeO.none _)
      | (with_reducible refine LeO.ite ?_ ?_)
      | (with_reducible refine LeO.bind ?_ (fun _ => ?_))
      | exact ih0 _ _
      | exact utf_Size.mono _ _ _
      | exact LeO.none _
      | refine LeO.ite ?_ ?_
      | refine LeO.bind ?_ (fun _ => ?_)
theorem utf_Valid.mono : ∀ a0 k, LeO (utf_Valid.f k a0) (utf_Valid.f (k + 1) a0) := by
  intro a0 k
  have ih0 := utf_Valid.mono_l k
  unfold utf_Valid.f
  repeat' first
      | (with_reducible exact ih0 _ _)
      | (with_reducible exact utf_Size.mono _ _ _)
      | (with_reducible exact LeO.refl _)
      | (with_reducible exact LeO.none _)
      | (with_reducible refine LeO.ite ?_ ?_)
      | (with_reducible refine LeO.bind ?_ (fun _ => ?_))
      | exact ih0 _ _
      | exact utf_Size.mono _ _ _
      | exact LeO.none _
      | refine LeO.ite ?_ ?_
      | refine LeO.bind ?_ (fun _ => ?_)
set_option maxHeartbeats 8000000 in
set_option maxRecDepth 100000 in
theorem utf_Valid.calls (k : Nat) (a0 : ByteArray) (r : Bool) (w : World) (h : utf_Valid.f k a0 = some r) :
  Calls Try.prog 24 #[.string a0] w fun e w' => e = .returned (.bool r) ∧ Below w.heap.size w w' := by
 have HB := Aside0.mk (Below.refl w.heap.size w)
 have H : (utf_Valid.l0 k a0 0) = some r := h
 clear h
 have H' := Aside0.mk H
 clear H
 go_enter Try.func24, Try.ntmps24
 go_wp2
 go_loopg [3] k (fun kq v3 w' => ∃ (x3_1 : Int), v3 = .int .i64 x3_1 ∧ Aside0 (utf_Valid.l0 kq a0 x3_1 = some r) ∧ Aside0 (kq ≤ k) ∧ Aside0 (Below w.heap.size w w'))
 case atStart => exact ⟨(0), (by first | rfl | (simp; done) | (simp [*]; done)), H', ⟨Nat.le_refl _⟩, ⟨by repeat (first | (with_reducible first | exact HB.out | apply below_alloc | apply pw_below_drewN | apply below_drew1) | exact HB.out)⟩⟩
 case round =>
  clear H'
  obtain ⟨x3_1, rfl, HA, HK1, HB⟩ := hrel
  cases gk with
  | zero => exact absurd HA.out (by simp [utf_Valid.l0])
  | succ k1 =>
   have H := HA.out
   clear HA
   simp only [utf_Valid.l0] at H
   by_cases c2 : x3_1 < (a0.size : Int)
   ·rw [if_pos c2] at H
    have c2b0 : decide (x3_1 < (a0.size : Int)) = true := decide_eq_true c2
    clear c2
    replace H := Option.bind_eq_some_iff.mp H
    obtain ⟨t105, A30, H⟩ := H
    replace H : (if t105 = 0 then (some false) else (utf_Valid.l0 k1 a0 (wrap64 (x3_1 + t105)))) = some r := H
    have A3 := Aside0.mk A30
    clear A30
    by_cases c4 : t105 = 0
    ·rw [if_pos c4] at H
     have c4b0 : (t105 == 0) = true := beq_iff_eq.mpr c4
     have c4b1 : (t105 != 0) = false := bne_eq_false_iff_eq.mpr c4
     clear c4
     obtain rfl := Option.some.inj H
     go_wp2_with (first | ((with_reducible refine gate_callee (f := 22) rfl ?_); refine goesL_ (some 11) rfl rfl Try.func22 (by kernel_rfl) rfl #[.string a0, .int .i64 x3_1] rfl (by (try simp only [List.map_toArray, List.map_cons, List.map_nil]); first | done | rfl | (simp only [List.length_drop, List.length_take]; rfl)) ?_; (with_reducible refine (utf_Size.calls k1 a0 x3_1 t105 _ A3.out).mono ?_); rintro e w5 ⟨rfl, hb⟩; refine ⟨_, rfl, ?_⟩; have n0_ := Aside0.mk (below_step (by repeat (first | (with_reducible first | exact HB.out | apply below_alloc | apply pw_below_drewN | apply below_drew1) | exact HB.out)) hb); clear HB; have HB := n0_; clear n0_; (try clear hb); (try clear hb2); (try clear hk); (try clear hi)))
     go_ret
     exact ⟨by first | rfl | (simp [errW_none, errW_some] <;> rfl) | (simp [*, errW_none, errW_some] <;> rfl), by repeat (first | (with_reducible first | exact HB.out | apply below_alloc | apply pw_below_drewN | apply below_drew1) | exact HB.out)⟩
    ·rw [if_neg c4] at H
     have c4b0 : (t105 == 0) = false := beq_eq_false_iff_ne.mpr c4
     have c4b1 : (t105 != 0) = true := bne_iff_ne.mpr c4
     have H' := Aside0.mk H
     clear H
     go_wp2_with (first | ((with_reducible refine gate_callee (f := 22) rfl ?_); refine goesL_ (some 11) rfl rfl Try.func22 (by kernel_rfl) rfl #[.string a0, .int .i64 x3_1] rfl (by (try simp only [List.map_toArray, List.map_cons, List.map_nil]); first | done | rfl | (simp only [List.length_drop, List.length_take]; rfl)) ?_; (with_reducible refine (utf_Size.calls k1 a0 x3_1 t105 _ A3.out).mono ?_); rintro e w6 ⟨rfl, hb⟩; refine ⟨_, rfl, ?_⟩; have n0_ := Aside0.mk (below_step (by repeat (first | (with_reducible first | exact HB.out | apply below_alloc | apply pw_below_drewN | apply below_drew1) | exact HB.out)) hb); clear HB; have HB := n0_; clear n0_; (try clear hb); (try clear hb2); (try clear hk); (try clear hi)))
     go_roundg k1
     case measure => have := HK1.out; omega
     case rel => exact ⟨(wrap64 (x3_1 + t105)), (by first | rfl | (simp; done) | (simp [*]; done)), H', ⟨by have := HK1.out; omega⟩, ⟨by repeat (first | (with_reducible first | exact HB.out | apply below_alloc | apply pw_below_drewN | apply below_drew1) | exact HB.out)⟩⟩
   ·rw [if_neg c2] at H
    have c2b0 : decide (x3_1 < (a0.size : Int)) = false := decide_eq_false c2
    clear c2
    obtain rfl := Option.some.inj H
    go_wp2
    go_ret
    exact ⟨by first | rfl | (simp [errW_none, errW_some] <;> rfl) | (simp [*, errW_none, errW_some] <;> rfl), by repeat (first | (with_reducible first | exact HB.out | apply below_alloc | apply pw_below_drewN | apply below_drew1) | exact HB.out)⟩

/-! ### utf_IsEdge: function 28 -/
def utf_IsEdge.f (k : Nat) (a0 : ByteArray) (a1 : Int) : Option (Bool) := if a1 ≥ 0 then (if a1 ≤ (a0.size : Int) then (if a1 = (a0.size : Int) then ((utf_Valid.f k a0).bind fun t106 => (some t106)) else (if 0 ≤ a1 then (if a1 < (a0.size : Int) then (if (Go.bits .and .u8 (bt a0 a1) 192) = 128 then (some false) else ((utf_Valid.f k a0).bind fun t107 => (some t107))) else (none)) else (none))) else (some false)) else (some false)
theorem utf_IsEdge.mono : ∀ a0 a1 k, LeO (utf_IsEdge.f k a0 a1) (utf_IsEdge.f (k + 1) a0 a1) := by
  intro a0 a1 k
  unfold utf_IsEdge.f
  repeat' first
      | (with_reducible exact utf_Valid.mono _ _)
      | (with_reducible exact LeO.refl _)
      | (with_reducible exact LeO.none _)
      | (with_reducible refine LeO.ite ?_ ?_)
      | (with_reducible refine LeO.bind ?_ (fun _ => ?_))
      | exact utf_Valid.mono _ _
      | exact LeO.none _
      | refine LeO.ite ?_ ?_
      | refine LeO.bind ?_ (fun _ => ?_)
set_option maxHeartbeats 8000000 in
set_option maxRecDepth 100000 in
theorem utf_IsEdge.calls (k : Nat) (a0 : ByteArray) (a1 : Int) (r : Bool) (w : World) (h : utf_IsEdge.f k a0 a1 = some r) :
  Calls Try.prog 28 #[.string a0, .int .i64 a1] w fun e w' => e = .returned (.bool r) ∧ Below w.heap.size w w' := by
 have HB := Aside0.mk (Below.refl w.heap.size w)
 have H : (if a1 ≥ 0 then (if a1 ≤ (a0.size : Int) then (if a1 = (a0.size : Int) then ((utf_Valid.f k a0).bind fun t106 => (some t106)) else (if 0 ≤ a1 then (if a1 < (a0.size : Int) then (if (Go.bits .and .u8 (bt a0 a1) 192) = 128 then (some false) else ((utf_Valid.f k a0).bind fun t107 => (some t107))) else (none)) else (none))) else (some false)) else (some false)) = some r := h
 clear h
 by_cases c3 : a1 ≥ 0
 ·rw [if_pos c3] at H
  have c3b0 : decide (0 ≤ a1) = true := decide_eq_true c3
  clear c3
  by_cases c4 : a1 ≤ (a0.size : Int)
  ·rw [if_pos c4] at H
   have c4b0 : decide (a1 ≤ (a0.size : Int)) = true := decide_eq_true c4
   clear c4
   by_cases c5 : a1 = (a0.size : Int)
   ·rw [if_pos c5] at H
    have c5b0 : (a1 == (a0.size : Int)) = true := beq_iff_eq.mpr c5
    have c5b1 : (a1 != (a0.size : Int)) = false := bne_eq_false_iff_eq.mpr c5
    clear c5
    replace H := Option.bind_eq_some_iff.mp H
    obtain ⟨t106, A60, H⟩ := H
    replace H : (some t106) = some r := H
    have A6 := Aside0.mk A60
    clear A60
    obtain rfl := Option.some.inj H
    go_enter Try.func28, Try.ntmps28
    go_wp2_with (first | (go_at_call 24; (with_reducible refine (utf_Valid.calls k a0 t106 _ A6.out).mono ?_); rintro e w7 ⟨rfl, hb⟩; have n0_ := Aside0.mk (below_step (by repeat (first | (with_reducible first | exact HB.out | apply below_alloc | apply pw_below_drewN | apply below_drew1) | exact HB.out)) hb); clear HB; have HB := n0_; clear n0_; (try clear hb); (try clear hb2); (try clear hk); (try clear hi)))
    go_ret
    exact ⟨by first | rfl | (simp [errW_none, errW_some] <;> rfl) | (simp [*, errW_none, errW_some] <;> rfl), by repeat (first | (with_reducible first | exact HB.out | apply below_alloc | apply pw_below_drewN | apply below_drew1) | exact HB.out)⟩
   ·rw [if_neg c5] at H
    have c5b0 : (a1 == (a0.size : Int)) = false := beq_eq_false_iff_ne.mpr c5
    have c5b1 : (a1 != (a0.size : Int)) = true := bne_iff_ne.mpr c5
    by_cases c8 : 0 ≤ a1
    ·rw [if_pos c8] at H
     have c8b0 : decide (0 ≤ a1) = true := decide_eq_true c8
     clear c8
     by_cases c9 : a1 < (a0.size : Int)
     ·rw [if_pos c9] at H
      have c9b0 : decide (a1 < (a0.size : Int)) = true := decide_eq_true c9
      clear c9
      by_cases c11 : (Go.bits .and .u8 (bt a0 a1) 192) = 128
      ·rw [if_pos c11] at H
       have c11b0 : ((Go.bits .and .u8 (bt a0 a1) 192) == 128) = true := beq_iff_eq.mpr c11
       have c11b1 : ((Go.bits .and .u8 (bt a0 a1) 192) != 128) = false := bne_eq_false_iff_eq.mpr c11
       clear c11
       obtain rfl := Option.some.inj H
       have p10 : 0 ≤ (a1 : Int) := of_decide_eq_true (by first | (with_reducible assumption) | assumption)
       have q10 : a1 < (a0.size : Int) := of_decide_eq_true (by first | (with_reducible assumption) | assumption)
       have hx10 := bt_at a0 a1
       replace p10 := eq_true p10
       replace q10 := eq_true q10
       go_enter Try.func28, Try.ntmps28
       go_wp2
       go_ret
       exact ⟨by first | rfl | (simp [errW_none, errW_some] <;> rfl) | (simp [*, errW_none, errW_some] <;> rfl), by repeat (first | (with_reducible first | exact HB.out | apply below_alloc | apply pw_below_drewN | apply below_drew1) | exact HB.out)⟩
      ·rw [if_neg c11] at H
       have c11b0 : ((Go.bits .and .u8 (bt a0 a1) 192) == 128) = false := beq_eq_false_iff_ne.mpr c11
       have c11b1 : ((Go.bits .and .u8 (bt a0 a1) 192) != 128) = true := bne_iff_ne.mpr c11
       replace H := Option.bind_eq_some_iff.mp H
       obtain ⟨t107, A120, H⟩ := H
       replace H : (some t107) = some r := H
       have A12 := Aside0.mk A120
       clear A120
       obtain rfl := Option.some.inj H
       have p10 : 0 ≤ (a1 : Int) := of_decide_eq_true (by first | (with_reducible assumption) | assumption)
       have q10 : a1 < (a0.size : Int) := of_decide_eq_true (by first | (with_reducible assumption) | assumption)
       have hx10 := bt_at a0 a1
       replace p10 := eq_true p10
       replace q10 := eq_true q10
       go_enter Try.func28, Try.ntmps28
       go_wp2_with (first | (go_at_call 24; (with_reducible refine (utf_Valid.calls k a0 t107 _ A12.out).mono ?_); rintro e w13 ⟨rfl, hb⟩; have n0_ := Aside0.mk (below_step (by repeat (first | (with_reducible first | exact HB.out | apply below_alloc | apply pw_below_drewN | apply below_drew1) | exact HB.out)) hb); clear HB; have HB := n0_; clear n0_; (try clear hb); (try clear hb2); (try clear hk); (try clear hi)))
       go_ret
       exact ⟨by first | rfl | (simp [errW_none, errW_some] <;> rfl) | (simp [*, errW_none, errW_some] <;> rfl), by repeat (first | (with_reducible first | exact HB.out | apply below_alloc | apply pw_below_drewN | apply below_drew1) | exact HB.out)⟩
     ·rw [if_neg c9] at H
      exact absurd H (by simp)
    ·rw [if_neg c8] at H
     exact absurd H (by simp)
  ·rw [if_neg c4] at H
   have c4b0 : decide (a1 ≤ (a0.size : Int)) = false := decide_eq_false c4
   clear c4
   obtain rfl := Option.some.inj H
   go_enter Try.func28, Try.ntmps28
   go_wp2
   go_ret
   exact ⟨by first | rfl | (simp [errW_none, errW_some] <;> rfl) | (simp [*, errW_none, errW_some] <;> rfl), by repeat (first | (with_reducible first | exact HB.out | apply below_alloc | apply pw_below_drewN | apply below_drew1) | exact HB.out)⟩
 ·rw [if_neg c3] at H
  have c3b0 : decide (0 ≤ a1) = false := decide_eq_false c3
  clear c3
  obtain rfl := Option.some.inj H
  go_enter Try.func28, Try.ntmps28
  go_wp2
  go_ret
  exact ⟨by first | rfl | (simp [errW_none, errW_some] <;> rfl) | (simp [*, errW_none, errW_some] <;> rfl), by repeat (first | (with_reducible first | exact HB.out | apply below_alloc | apply pw_below_drewN | apply below_drew1) | exact HB.out)⟩

end Go.Proofs.Ytgepcdpnjinadaa.PX
end

section
-- MACHINE SIDE, written by wip/drive.py (this session's driver over the kit's print) for this claim. Lean checks it.
namespace Go.Proofs.Ytgepcdpnjinadaa.PX
open Go.RowKit Go.Proofs.YtgepcdpnjinadaaW.PrintWords Go.Proofs.YtgepcdpnjinadaaW.PrintLast Go.Proofs.YtgepcdpnjinadaaW.PrintMore
attribute [local go_sem] max2_int min2_int max_two min_two max_three min_three max_four min_four   -- for this text's walks alone
set_option linter.unusedVariables false
set_option linter.unusedSimpArgs false

/-! ### utf_Back: function 18 -/
mutual
def utf_Back.j0 : Nat → ByteArray → Int → Bool → Option (Int)
  | 0, _, _, _ => none
  | k + 1, x0, x1, x12 => if x12 = true then (some x1) else (utf_Back.l0 k x0 (wrap64 (x1 - 1)))
def utf_Back.l0 : Nat → ByteArray → Int → Option (Int)
  | 0, _, _ => none
  | k + 1, x0, x1 => if 0 ≤ x1 then (if x1 < (x0.size : Int) then (if (Go.bits .and .u8 (bt x0 x1) 192) = 128 then (utf_Back.l0 k x0 (wrap64 (x1 - 1))) else (some x1)) else (none)) else (none)
end
def utf_Back.f (k : Nat) (a0 : ByteArray) (a1 : Int) : Option (Int) := if a1 < 1 then (utf_Back.j0 k a0 a1 true) else ((utf_IsEdge.f k a0 a1).bind fun t108 => (utf_Back.j0 k a0 a1 (!t108)))
theorem utf_Back.mono_l : ∀ k, (∀ y0 y1 y2, LeO (utf_Back.j0 k y0 y1 y2) (utf_Back.j0 (k + 1) y0 y1 y2)) ∧ (∀ y0 y1, LeO (utf_Back.l0 k y0 y1) (utf_Back.l0 (k + 1) y0 y1))
  | 0 => ⟨fun _ _ _ r h => by simp [utf_Back.j0] at h, fun _ _ r h => by simp [utf_Back.l0] at h⟩
  | k + 1 => by
    obtain ⟨ih0, ih1⟩ := utf_Back.mono_l k
    refine ⟨?_, ?_⟩
    · intro y0 y1 y2
      unfold utf_Back.j0
      repeat' first
      | (with_reducible exact ih0 _ _ _)
      | (with_reducible exact ih1 _ _)
      | (with_reducible exact utf_IsEdge.mono _ _ _)
      | (with_reducible exact LeO.refl _)
      | (with_reducible exact LeO.none _)
      | (with_reducible refine LeO.ite ?_ ?_)
      | (with_reducible refine LeO.bind ?_ (fun _ => ?_))
      | exact ih0 _ _ _
      | exact ih1 _ _
      | exact utf_IsEdge.mono _ _ _
      | exact LeO.none _
      | refine LeO.ite ?_ ?_
      | refine LeO.bind ?_ (fun _ => ?_)
    · intro y0 y1
      unfold utf_Back.l0
      repeat' first
      | (with_reducible exact ih0 _ _ _)
      | (with_reducible exact ih1 _ _)
      | (with_reducible exact utf_IsEdge.mono _ _ _)
      | (with_reducible exact LeO.refl _)
      | (with_reducible exact LeO.none _)
      | (with_reducible refine LeO.ite ?_ ?_)
      | (with_reducible refine LeO.bind ?_ (fun _ => ?_))
      | exact ih0 _ _ _
      | exact ih1 _ _
      | exact utf_IsEdge.mono _ _ _
      | exact LeO.none _
      | refine LeO.ite ?_ ?_
      | refine LeO.bind ?_ (fun _ => ?_)
theorem utf_Back.mono : ∀ a0 a1 k, LeO (utf_Back.f k a0 a1) (utf_Back.f (k + 1) a0 a1) := by
  intro a0 a1 k
  obtain ⟨ih0, ih1⟩ := utf_Back.mono_l k
  unfold utf_Back.f
  repeat' first
      | (with_reducible exact ih0 _ _ _)
      | (with_reducible exact ih1 _ _)
      | (with_reducible exact utf_IsEdge.mono _ _ _)
      | (with_reducible exact LeO.refl _)
      | (with_reducible exact LeO.none _)
      | (with_reducible refine LeO.ite ?_ ?_)
      | (with_reducible refine LeO.bind ?_ (fun _ => ?_))
      | exact ih0 _ _ _
      | exact ih1 _ _
      | exact utf_IsEdge.mono _ _ _
      | exact LeO.none _
      | refine LeO.ite ?_ ?_
      | refine LeO.bind ?_ (fun _ => ?_)
set_option maxHeartbeats 8000000 in
set_option maxRecDepth 100000 in
theorem utf_Back.calls (k : Nat) (a0 : ByteArray) (a1 : Int) (r : Int) (w : World) (h : utf_Back.f k a0 a1 = some r) :
  Calls Try.prog 18 #[.string a0, .int .i64 a1] w fun e w' => e = .returned (.int .i64 r) ∧ Below w.heap.size w w' := by
 have HB := Aside0.mk (Below.refl w.heap.size w)
 have H : (if a1 < 1 then (utf_Back.j0 k a0 a1 true) else ((utf_IsEdge.f k a0 a1).bind fun t108 => (utf_Back.j0 k a0 a1 (!t108)))) = some r := h
 clear h
 have HC3 := Aside0.mk H
 clear H
 go_enter Try.func18, Try.ntmps18
 go_upto_region 1 with (fail)
 go_cut [12] (fun v12 wc => ∃ (kq : Nat) (x12_2 : Bool), v12 = .bool x12_2 ∧ Aside0 (utf_Back.j0 kq a0 a1 x12_2 = some r) ∧ Aside0 (kq ≤ k) ∧ Aside0 (Below w.heap.size w wc))
 case first =>
  have H := HC3.out
  clear HC3
  by_cases c4 : a1 < 1
  ·rw [if_pos c4] at H
   have c4b0 : decide (a1 < 1) = true := decide_eq_true c4
   clear c4
   (first | rw [c4b0] | (simp only [i64_w, i32_w]; rw [c4b0]) | skip)
   have H' := Aside0.mk H
   clear H
   go_wp2
   go_meet
   case rel => exact ⟨_, (true), (by first | rfl | (simp; done) | (simp [*]; done)), H', ⟨by first | omega | exact Nat.le_refl _⟩, ⟨by repeat (first | (with_reducible first | exact HB.out | apply below_alloc | apply pw_below_drewN | apply below_drew1) | exact HB.out)⟩⟩
  ·rw [if_neg c4] at H
   have c4b0 : decide (a1 < 1) = false := decide_eq_false c4
   clear c4
   (first | rw [c4b0] | (simp only [i64_w, i32_w]; rw [c4b0]) | skip)
   replace H := Option.bind_eq_some_iff.mp H
   obtain ⟨t108, A50, H⟩ := H
   replace H : (utf_Back.j0 k a0 a1 (!t108)) = some r := H
   have A5 := Aside0.mk A50
   clear A50
   have H' := Aside0.mk H
   clear H
   go_wp2_with (first | (go_at_call 28; (with_reducible refine (utf_IsEdge.calls k a0 a1 t108 _ A5.out).mono ?_); rintro e w6 ⟨rfl, hb⟩; have n0_ := Aside0.mk (below_step (by repeat (first | (with_reducible first | exact HB.out | apply below_alloc | apply pw_below_drewN | apply below_drew1) | exact HB.out)) hb); clear HB; have HB := n0_; clear n0_; (try clear hb); (try clear hb2); (try clear hk); (try clear hi)))
   go_meet
   case rel => exact ⟨_, (!t108), (by first | rfl | (simp; done) | (simp [*]; done)), H', ⟨by first | omega | exact Nat.le_refl _⟩, ⟨by repeat (first | (with_reducible first | exact HB.out | apply below_alloc | apply pw_below_drewN | apply below_drew1) | exact HB.out)⟩⟩
 case rest =>
  clear HC3
  try clear c1
  try clear p2
  try clear c4
  try clear c4b0
  obtain ⟨kq, x12_2, rfl, HA, HJ2, HB⟩ := hcut
  cases kq with
  | zero => exact absurd HA.out (by simp [utf_Back.j0])
  | succ kj2 =>
   have H := HA.out
   clear HA
   simp only [utf_Back.j0] at H
   by_cases c7 : x12_2 = true
   ·subst c7
    have H1 : (some a1) = some r := by rw [if_pos rfl] at H; exact H
    clear H
    have H := H1
    clear H1
    obtain rfl := Option.some.inj H
    go_wp2
    go_ret
    exact ⟨by first | rfl | (simp [errW_none, errW_some] <;> rfl) | (simp [*, errW_none, errW_some] <;> rfl), by repeat (first | (with_reducible first | exact HB.out | apply below_alloc | apply pw_below_drewN | apply below_drew1) | exact HB.out)⟩
   ·replace c7 := Bool.eq_false_iff.mpr c7
    subst c7
    have H1 : (utf_Back.l0 kj2 a0 (wrap64 (a1 - 1))) = some r := by rw [if_neg (show ¬ (false = true) by decide)] at H; exact H
    clear H
    have H := H1
    clear H1
    have H' := Aside0.mk H
    clear H
    go_wp2
    go_loopg [1] kj2 (fun kq v1 w' => ∃ (x1_2 : Int), v1 = .int .i64 x1_2 ∧ Aside0 (utf_Back.l0 kq a0 x1_2 = some r) ∧ Aside0 (kq ≤ kj2) ∧ Aside0 (Below w.heap.size w w'))
    case atStart => exact ⟨(wrap64 (a1 - 1)), (by first | rfl | (simp; done) | (simp [*]; done)), H', ⟨Nat.le_refl _⟩, ⟨by repeat (first | (with_reducible first | exact HB.out | apply below_alloc | apply pw_below_drewN | apply below_drew1) | exact HB.out)⟩⟩
    case round =>
     clear H'
     try clear c1
     try clear p2
     try clear c4
     try clear c4b0
     try clear p6
     try clear c7
     try clear p2
     obtain ⟨x1_2, rfl, HA, HK2, HB⟩ := hrel
     cases gk with
     | zero => exact absurd HA.out (by simp [utf_Back.l0])
     | succ k2 =>
      have H := HA.out
      clear HA
      simp only [utf_Back.l0] at H
      by_cases c8 : 0 ≤ x1_2
      ·rw [if_pos c8] at H
       have c8b0 : decide (0 ≤ x1_2) = true := decide_eq_true c8
       clear c8
       by_cases c9 : x1_2 < (a0.size : Int)
       ·rw [if_pos c9] at H
        have c9b0 : decide (x1_2 < (a0.size : Int)) = true := decide_eq_true c9
        clear c9
        by_cases c11 : (Go.bits .and .u8 (bt a0 x1_2) 192) = 128
        ·rw [if_pos c11] at H
         have c11b0 : ((Go.bits .and .u8 (bt a0 x1_2) 192) == 128) = true := beq_iff_eq.mpr c11
         have c11b1 : ((Go.bits .and .u8 (bt a0 x1_2) 192) != 128) = false := bne_eq_false_iff_eq.mpr c11
         clear c11
         have H' := Aside0.mk H
         clear H
         have p10 : 0 ≤ (x1_2 : Int) := of_decide_eq_true (by first | (with_reducible assumption) | assumption)
         have q10 : x1_2 < (a0.size : Int) := of_decide_eq_true (by first | (with_reducible assumption) | assumption)
         have hx10 := bt_at a0 x1_2
         replace p10 := eq_true p10
         replace q10 := eq_true q10
         go_wp2
         go_roundg k2
         case measure => have := HJ2.out; have := HK2.out; omega
         case rel => exact ⟨(wrap64 (x1_2 - 1)), (by first | rfl | (simp; done) | (simp [*]; done)), H', ⟨by have := HJ2.out; have := HK2.out; omega⟩, ⟨by repeat (first | (with_reducible first | exact HB.out | apply below_alloc | apply pw_below_drewN | apply below_drew1) | exact HB.out)⟩⟩
        ·rw [if_neg c11] at H
         have c11b0 : ((Go.bits .and .u8 (bt a0 x1_2) 192) == 128) = false := beq_eq_false_iff_ne.mpr c11
         have c11b1 : ((Go.bits .and .u8 (bt a0 x1_2) 192) != 128) = true := bne_iff_ne.mpr c11
         obtain rfl := Option.some.inj H
         have p10 : 0 ≤ (x1_2 : Int) := of_decide_eq_true (by first | (with_reducible assumption) | assumption)
         have q10 : x1_2 < (a0.size : Int) := of_decide_eq_true (by first | (with_reducible assumption) | assumption)
         have hx10 := bt_at a0 x1_2
         replace p10 := eq_true p10
         replace q10 := eq_true q10
         go_wp2
         go_ret
         exact ⟨by first | rfl | (simp [errW_none, errW_some] <;> rfl) | (simp [*, errW_none, errW_some] <;> rfl), by repeat (first | (with_reducible first | exact HB.out | apply below_alloc | apply pw_below_drewN | apply below_drew1) | exact HB.out)⟩
       ·rw [if_neg c9] at H
        exact absurd H (by simp)
      ·rw [if_neg c8] at H
       exact absurd H (by simp)

/-! ### utf_Points: function 19 -/
def utf_Points.l0 : Nat → ByteArray → List Int → Int → Option (List Int)
  | 0, _, _, _ => none
  | k + 1, x0, x3, x4 => if x4 < (x0.size : Int) then ((utf_point.f k x0 x4).bind fun bt109 => (if bt109.2 = 0 then (if x3.length < 17592186044416 then (utf_Points.l0 k x0 (x3 ++ [65533]) (wrap64 (x4 + 1))) else (none)) else (if x3.length < 17592186044416 then (utf_Points.l0 k x0 (x3 ++ [wrap64 (bt109.1)]) (wrap64 (x4 + bt109.2))) else (none)))) else (some x3)
def utf_Points.f (k : Nat) (a0 : ByteArray) : Option (List Int) := utf_Points.l0 k a0 ([] : List Int) 0
theorem utf_Points.mono_l : ∀ k, (∀ y0 y1 y2, LeO (utf_Points.l0 k y0 y1 y2) (utf_Points.l0 (k + 1) y0 y1 y2))
  | 0 => fun _ _ _ r h => by simp [utf_Points.l0] at h
  | k + 1 => by
    have ih0 := utf_Points.mono_l k
    · intro y0 y1 y2
      unfold utf_Points.l0
      repeat' first
      | (with_reducible exact ih0 _ _ _)
      | (with_reducible exact utf_point.mono _ _ _)
      | (with_reducible exact LeO.refl _)
      | (with_reducible exact LeO.none _)
      | (with_reducible refine LeO.ite ?_ ?_)
      | (with_reducible refine LeO.bind ?_ (fun _ => ?_))
      | exact ih0 _ _ _
      | exact utf_point.mono _ _ _
      | exact LeO.none _
      | refine LeO.ite ?_ ?_
      | refine LeO.bind ?_ (fun _ => ?_)
theorem utf_Points.mono : ∀ a0 k, LeO (utf_Points.f k a0) (utf_Points.f (k + 1) a0) := by
  intro a0 k
  have ih0 := utf_Points.mono_l k
  unfold utf_Points.f
  repeat' first
      | (with_reducible exact ih0 _ _ _)
      | (with_reducible exact utf_point.mono _ _ _)
      | (with_reducible exact LeO.refl _)
      | (with_reducible exact LeO.none _)
      | (with_reducible refine LeO.ite ?_ ?_)
      | (with_reducible refine LeO.bind ?_ (fun _ => ?_))
      | exact ih0 _ _ _
      | exact utf_point.mono _ _ _
      | exact LeO.none _
      | refine LeO.ite ?_ ?_
      | refine LeO.bind ?_ (fun _ => ?_)
set_option maxHeartbeats 8000000 in
set_option maxRecDepth 100000 in
theorem utf_Points.calls (k : Nat) (a0 : ByteArray) (r : List Int) (w : World) (h : utf_Points.f k a0 = some r) :
  Calls Try.prog 19 #[.string a0] w fun e w' => ∃ v0_ : Value, e = .returned (v0_) ∧ Kd.R (Kd.int .i64) 3 w' w.heap.size (fun _ => True) v0_ r ∧ Below w.heap.size w w' := by
 have HB := Aside0.mk (Below.refl w.heap.size w)
 have H : (utf_Points.l0 k a0 ([] : List Int) 0) = some r := h
 clear h
 have H' := Aside0.mk H
 clear H
 go_enter Try.func19, Try.ntmps19
 go_wp2
 go_loopg [3, 4] k (fun kq v3 v4 w' => ∃ (x3_1 : List Int) (x4_1 : Int), v4 = .int .i64 x4_1 ∧ Aside0 (utf_Points.l0 kq a0 x3_1 x4_1 = some r) ∧ Aside0 (kq ≤ k) ∧ Aside0 (Kd.R (Kd.int .i64) 3 w' w.heap.size (fun _ => True) v3 x3_1) ∧ Aside0 (Below w.heap.size w w'))
 case atStart => exact ⟨(([] : List Int)), (0), (by first | rfl | (simp; done) | (simp [*]; done)), H', ⟨Nat.le_refl _⟩, ⟨by first | exact Kd.R_nil _ _ _ _ _ | exact Kd.N_nil _ _ _ _ _ | exact Kd.V_nil _ _ _ _ _ | exact Kd.Q_nil _ _ _ _ _ | exact Kd.S_nil _ _ _ _ _⟩, ⟨by repeat (first | (with_reducible first | exact HB.out | apply below_alloc | apply pw_below_drewN | apply below_drew1) | exact HB.out)⟩⟩
 case round =>
  clear H'
  try clear c1
  obtain ⟨x3_1, x4_1, rfl, HA, HK1, HO_3, HB⟩ := hrel
  cases gk with
  | zero => exact absurd HA.out (by simp [utf_Points.l0])
  | succ k1 =>
   have H := HA.out
   clear HA
   simp only [utf_Points.l0] at H
   by_cases c2 : x4_1 < (a0.size : Int)
   ·rw [if_pos c2] at H
    have c2b0 : decide (x4_1 < (a0.size : Int)) = true := decide_eq_true c2
    clear c2
    replace H := Option.bind_eq_some_iff.mp H
    obtain ⟨⟨t109, t110⟩, A30, H⟩ := H
    replace H : (if t110 = 0 then (if x3_1.length < 17592186044416 then (utf_Points.l0 k1 a0 (x3_1 ++ [65533]) (wrap64 (x4_1 + 1))) else (none)) else (if x3_1.length < 17592186044416 then (utf_Points.l0 k1 a0 (x3_1 ++ [wrap64 (t109)]) (wrap64 (x4_1 + t110))) else (none))) = some r := H
    have A3 := Aside0.mk A30
    clear A30
    by_cases c4 : t110 = 0
    ·rw [if_pos c4] at H
     have c4b0 : (t110 == 0) = true := beq_iff_eq.mpr c4
     have c4b1 : (t110 != 0) = false := bne_eq_false_iff_eq.mpr c4
     clear c4
     by_cases c5 : x3_1.length < 17592186044416
     ·rw [if_pos c5] at H
      have LMc5 := Aside0.mk c5
      clear c5
      obtain ⟨y111, hy111⟩ : ∃ y_ : List Int, y_ = (x3_1 ++ [65533]) := ⟨_, rfl⟩
      replace H : (utf_Points.l0 k1 a0 y111 (wrap64 (x4_1 + 1))) = some r := by first | (rw [hy111]; with_reducible exact H) | (have H2_ := (Option.bind_some _ _).symm.trans H; rw [hy111]; with_reducible exact H2_) | (have H2_ := (Option.bind_some _ _).symm.trans H; with_reducible exact H2_) | with_reducible exact H | (rw [hy111]; exact H) | exact H
      have Ny111 := Aside0.mk hy111
      clear hy111
      have H' := Aside0.mk H
      clear H
      go_wp2_with (first | ((with_reducible refine gate_callee (f := 44) rfl ?_); refine goesL_ (some 14) rfl rfl Try.func44 (by kernel_rfl) rfl #[.string a0, .int .i64 x4_1] rfl (by (try simp only [List.map_toArray, List.map_cons, List.map_nil]); first | done | rfl | (simp only [List.length_drop, List.length_take]; rfl)) ?_; (with_reducible refine (utf_point.calls k1 a0 x4_1 t109 t110 _ A3.out).mono ?_); rintro e w6 ⟨rfl, hb⟩; refine ⟨_, rfl, ?_⟩; have n0_ := Aside0.mk (Kd.R_below (by (with_reducible repeat (first | apply Kd.R_alloc | apply Kd.R_drewN | apply Kd.R_drew)); exact HO_3.out) hb); have n1_ := Aside0.mk (below_step (by repeat (first | (with_reducible first | exact HB.out | apply below_alloc | apply pw_below_drewN | apply below_drew1) | exact HB.out)) hb); clear HO_3; clear HB; have HO_3 := n0_; have HB := n1_; clear n0_ n1_; (try clear hb); (try clear hb2); (try clear hk); (try clear hi)) | ((with_reducible refine gate_builtin (b := .append) (xs := #[.tmp 19, .tmp 22]) rfl ?_); at_builtin; refine Kd.R_append (Kd.int .i64) (w0 := w) w.heap.size rfl (.tmp 19) (.tmp 22) 24 3 (.int .i64 0) 8 rfl Try.underlying24 info3 rfl (by decide) (by omega) u3 x3_1 65533 [.int .i64 65533] (fun _ => True) (fun _ => False) rfl rfl ?aP (fun _ hk => hk.elim) ?aF ?aO ?aB ?aS ?aL ?_; (case aP => exact rfl); (case aB => exact (by repeat (first | (with_reducible first | exact HB.out | apply below_alloc | apply pw_below_drewN | apply below_drew1) | exact HB.out))); (case aF => exact (fun _ _ => trivial)); (case aO => exact (by (with_reducible repeat (first | apply Kd.R_alloc | apply Kd.R_drewN | apply Kd.R_drew)); exact HO_3.out)); (case aS => exact (below_size (by repeat (first | (with_reducible first | exact HB.out | apply below_alloc | apply pw_below_drewN | apply below_drew1) | exact HB.out)))); (case aL => have := LMc5.out; omega); intro v112 w7 ho hb hg hat; rw [← Ny111.out] at ho; have n0_ := Aside0.mk (hb); have n1_ := Aside0.mk (ho); clear HB; clear HO_3; have HB := n0_; have HO113 := n1_; clear n0_ n1_; clear ho hb hg hat))
      go_roundg k1
      case measure => have := HK1.out; omega
      case rel => exact ⟨(y111), (wrap64 (x4_1 + 1)), (by first | rfl | (simp; done) | (simp [*]; done)), H', ⟨by have := HK1.out; omega⟩, ⟨by (with_reducible repeat (first | apply Kd.R_alloc | apply Kd.R_drewN | apply Kd.R_drew)); exact HO113.out⟩, ⟨by repeat (first | (with_reducible first | exact HB.out | apply below_alloc | apply pw_below_drewN | apply below_drew1) | exact HB.out)⟩⟩
     ·rw [if_neg c5] at H
      exact absurd H (by simp)
    ·rw [if_neg c4] at H
     have c4b0 : (t110 == 0) = false := beq_eq_false_iff_ne.mpr c4
     have c4b1 : (t110 != 0) = true := bne_iff_ne.mpr c4
     by_cases c8 : x3_1.length < 17592186044416
     ·rw [if_pos c8] at H
      have LMc8 := Aside0.mk c8
      clear c8
      obtain ⟨y114, hy114⟩ : ∃ y_ : List Int, y_ = (x3_1 ++ [wrap64 (t109)]) := ⟨_, rfl⟩
      replace H : (utf_Points.l0 k1 a0 y114 (wrap64 (x4_1 + t110))) = some r := by first | (rw [hy114]; with_reducible exact H) | (have H2_ := (Option.bind_some _ _).symm.trans H; rw [hy114]; with_reducible exact H2_) | (have H2_ := (Option.bind_some _ _).symm.trans H; with_reducible exact H2_) | with_reducible exact H | (rw [hy114]; exact H) | exact H
      have Ny114 := Aside0.mk hy114
      clear hy114
      have H' := Aside0.mk H
      clear H
      go_wp2_with (first | ((with_reducible refine gate_callee (f := 44) rfl ?_); refine goesL_ (some 14) rfl rfl Try.func44 (by kernel_rfl) rfl #[.string a0, .int .i64 x4_1] rfl (by (try simp only [List.map_toArray, List.map_cons, List.map_nil]); first | done | rfl | (simp only [List.length_drop, List.length_take]; rfl)) ?_; (with_reducible refine (utf_point.calls k1 a0 x4_1 t109 t110 _ A3.out).mono ?_); rintro e w9 ⟨rfl, hb⟩; refine ⟨_, rfl, ?_⟩; have n0_ := Aside0.mk (Kd.R_below (by (with_reducible repeat (first | apply Kd.R_alloc | apply Kd.R_drewN | apply Kd.R_drew)); exact HO_3.out) hb); have n1_ := Aside0.mk (below_step (by repeat (first | (with_reducible first | exact HB.out | apply below_alloc | apply pw_below_drewN | apply below_drew1) | exact HB.out)) hb); clear HO_3; clear HB; have HO_3 := n0_; have HB := n1_; clear n0_ n1_; (try clear hb); (try clear hb2); (try clear hk); (try clear hi)) | ((with_reducible refine gate_builtin (b := .append) (xs := #[.tmp 19, .tmp 22]) rfl ?_); at_builtin; refine Kd.R_append (Kd.int .i64) (w0 := w) w.heap.size rfl (.tmp 19) (.tmp 22) 24 3 (.int .i64 0) 8 rfl Try.underlying24 info3 rfl (by decide) (by omega) u3 x3_1 (wrap64 (t109)) [.int .i64 (wrap64 (t109))] (fun _ => True) (fun _ => False) rfl rfl ?aP (fun _ hk => hk.elim) ?aF ?aO ?aB ?aS ?aL ?_; (case aP => exact rfl); (case aB => exact (by repeat (first | (with_reducible first | exact HB.out | apply below_alloc | apply pw_below_drewN | apply below_drew1) | exact HB.out))); (case aF => exact (fun _ _ => trivial)); (case aO => exact (by (with_reducible repeat (first | apply Kd.R_alloc | apply Kd.R_drewN | apply Kd.R_drew)); exact HO_3.out)); (case aS => exact (below_size (by repeat (first | (with_reducible first | exact HB.out | apply below_alloc | apply pw_below_drewN | apply below_drew1) | exact HB.out)))); (case aL => have := LMc8.out; omega); intro v115 w10 ho hb hg hat; rw [← Ny114.out] at ho; have n0_ := Aside0.mk (hb); have n1_ := Aside0.mk (ho); clear HB; clear HO_3; have HB := n0_; have HO116 := n1_; clear n0_ n1_; clear ho hb hg hat))
      go_roundg k1
      case measure => have := HK1.out; omega
      case rel => exact ⟨(y114), (wrap64 (x4_1 + t110)), (by first | rfl | (simp; done) | (simp [*]; done)), H', ⟨by have := HK1.out; omega⟩, ⟨by (with_reducible repeat (first | apply Kd.R_alloc | apply Kd.R_drewN | apply Kd.R_drew)); exact HO116.out⟩, ⟨by repeat (first | (with_reducible first | exact HB.out | apply below_alloc | apply pw_below_drewN | apply below_drew1) | exact HB.out)⟩⟩
     ·rw [if_neg c8] at H
      exact absurd H (by simp)
   ·rw [if_neg c2] at H
    have c2b0 : decide (x4_1 < (a0.size : Int)) = false := decide_eq_false c2
    clear c2
    obtain rfl := Option.some.inj H
    go_wp2
    go_ret
    exact ⟨_, by first | rfl | (simp [errW_none, errW_some] <;> rfl) | (simp [*, errW_none, errW_some] <;> rfl), by (with_reducible repeat (first | apply Kd.R_alloc | apply Kd.R_drewN | apply Kd.R_drew)); exact HO_3.out, by repeat (first | (with_reducible first | exact HB.out | apply below_alloc | apply pw_below_drewN | apply below_drew1) | exact HB.out)⟩

-- NOT PRINTED: function 56 (abi_NoEscape)

-- NOT PRINTED: function 53 (strings_Builder_copyCheck)

-- NOT PRINTED: function 57 (utf8_appendRuneNonASCII)

-- NOT PRINTED: function 54 (utf8_AppendRune)

end Go.Proofs.Ytgepcdpnjinadaa.PX
end

section
-- MACHINE SIDE, written by wip/drive.py (this session's driver over the kit's print) for this claim. Lean checks it.
namespace Go.Proofs.Ytgepcdpnjinadaa.PX
open Go.RowKit Go.Proofs.YtgepcdpnjinadaaW.PrintWords Go.Proofs.YtgepcdpnjinadaaW.PrintLast Go.Proofs.YtgepcdpnjinadaaW.PrintMore
attribute [local go_sem] max2_int min2_int max_two min_two max_three min_three max_four min_four   -- for this text's walks alone
set_option linter.unusedVariables false
set_option linter.unusedSimpArgs false

/-! ### palinoderef1_Valid: function 25 -/
def palinoderef1_Valid.l0 : Nat → ByteArray → Int → Option (Bool)
  | 0, _, _ => none
  | k + 1, x0, x3 => if x3 < (x0.size : Int) then ((palinoderef1_Size.f k x0 x3).bind fun t138 => (if t138 = 0 then (some false) else (palinoderef1_Valid.l0 k x0 (wrap64 (x3 + t138))))) else (some true)
def palinoderef1_Valid.f (k : Nat) (a0 : ByteArray) : Option (Bool) := palinoderef1_Valid.l0 k a0 0
theorem palinoderef1_Valid.mono_l : ∀ k, (∀ y0 y1, LeO (palinoderef1_Valid.l0 k y0 y1) (palinoderef1_Valid.l0 (k + 1) y0 y1))
  | 0 => fun _ _ r h => by simp [palinoderef1_Valid.l0] at h
  | k + 1 => by
    have ih0 := palinoderef1_Valid.mono_l k
    · intro y0 y1
      unfold palinoderef1_Valid.l0
      repeat' first
      | (with_reducible exact ih0 _ _)
      | (with_reducible exact palinoderef1_Size.mono _ _ _)
      | (with_reducible exact LeO.refl _)
      | (with_reducible exact LeO.none _)
      | (with_reducible refine LeO.ite ?_ ?_)
      | (with_reducible refine LeO.bind ?_ (fun _ => ?_))
      | exact ih0 _ _
      | exact palinoderef1_Size.mono _ _ _
      | exact LeO.none _
      | refine LeO.ite ?_ ?_
      | refine LeO.bind ?_ (fun _ => ?_)
theorem palinoderef1_Valid.mono : ∀ a0 k, LeO (palinoderef1_Valid.f k a0) (palinoderef1_Valid.f (k + 1) a0) := by
  intro a0 k
  have ih0 := palinoderef1_Valid.mono_l k
  unfold palinoderef1_Valid.f
  repeat' first
      | (with_reducible exact ih0 _ _)
      | (with_reducible exact palinoderef1_Size.mono _ _ _)
      | (with_reducible exact LeO.refl _)
      | (with_reducible exact LeO.none _)
      | (with_reducible refine LeO.ite ?_ ?_)
      | (with_reducible refine LeO.bind ?_ (fun _ => ?_))
      | exact ih0 _ _
      | exact palinoderef1_Size.mono _ _ _
      | exact LeO.none _
      | refine LeO.ite ?_ ?_
      | refine LeO.bind ?_ (fun _ => ?_)
set_option maxHeartbeats 8000000 in
set_option maxRecDepth 100000 in
theorem palinoderef1_Valid.calls (k : Nat) (a0 : ByteArray) (r : Bool) (w : World) (h : palinoderef1_Valid.f k a0 = some r) :
  Calls Try.prog 25 #[.string a0] w fun e w' => e = .returned (.bool r) ∧ Drawn0 w w' := by
 have H : (palinoderef1_Valid.l0 k a0 0) = some r := h
 clear h
 have H' := Aside0.mk H
 clear H
 go_enter Try.func25, Try.ntmps25
 go_wp2
 go_loopg [3] k (fun kq v3 w' => ∃ (x3_1 : Int), v3 = .int .i64 x3_1 ∧ Aside0 (palinoderef1_Valid.l0 kq a0 x3_1 = some r) ∧ Aside0 (kq ≤ k) ∧ Drawn0 w w')
 case atStart => exact ⟨(0), (by first | rfl | (simp; done) | (simp [*]; done)), H', ⟨Nat.le_refl _⟩, by repeat (first | exact Drawn0.refl _ | apply Drawn0.step)⟩
 case round =>
  clear H'
  obtain ⟨x3_1, rfl, HA, HK1, ⟨m1, rfl⟩⟩ := hrel
  cases gk with
  | zero => exact absurd HA.out (by simp [palinoderef1_Valid.l0])
  | succ k1 =>
   have H := HA.out
   clear HA
   simp only [palinoderef1_Valid.l0] at H
   by_cases c2 : x3_1 < (a0.size : Int)
   ·rw [if_pos c2] at H
    have c2b0 : decide (x3_1 < (a0.size : Int)) = true := decide_eq_true c2
    clear c2
    replace H := Option.bind_eq_some_iff.mp H
    obtain ⟨t138, A30, H⟩ := H
    replace H : (if t138 = 0 then (some false) else (palinoderef1_Valid.l0 k1 a0 (wrap64 (x3_1 + t138)))) = some r := H
    have A3 := Aside0.mk A30
    clear A30
    by_cases c4 : t138 = 0
    ·rw [if_pos c4] at H
     have c4b0 : (t138 == 0) = true := beq_iff_eq.mpr c4
     have c4b1 : (t138 != 0) = false := bne_eq_false_iff_eq.mpr c4
     clear c4
     obtain rfl := Option.some.inj H
     go_wp2_with (first | ((with_reducible refine gate_callee (f := 23) rfl ?_); refine goesL_ (some 11) rfl rfl Try.func23 (by kernel_rfl) rfl #[.string a0, .int .i64 x3_1] rfl (by (try simp only [List.map_toArray, List.map_cons, List.map_nil]); first | done | rfl | (simp only [List.length_drop, List.length_take]; rfl)) ?_; (with_reducible refine (palinoderef1_Size.calls k1 a0 x3_1 t138 _ A3.out).mono ?_); rintro e w' ⟨rfl, ⟨nd, rfl⟩⟩; refine ⟨_, rfl, ?_⟩))
     go_ret
     exact ⟨by first | rfl | (simp; done) | (simp [*]; done), by repeat (first | exact Drawn0.refl _ | apply Drawn0.step)⟩
    ·rw [if_neg c4] at H
     have c4b0 : (t138 == 0) = false := beq_eq_false_iff_ne.mpr c4
     have c4b1 : (t138 != 0) = true := bne_iff_ne.mpr c4
     have H' := Aside0.mk H
     clear H
     go_wp2_with (first | ((with_reducible refine gate_callee (f := 23) rfl ?_); refine goesL_ (some 11) rfl rfl Try.func23 (by kernel_rfl) rfl #[.string a0, .int .i64 x3_1] rfl (by (try simp only [List.map_toArray, List.map_cons, List.map_nil]); first | done | rfl | (simp only [List.length_drop, List.length_take]; rfl)) ?_; (with_reducible refine (palinoderef1_Size.calls k1 a0 x3_1 t138 _ A3.out).mono ?_); rintro e w' ⟨rfl, ⟨nd, rfl⟩⟩; refine ⟨_, rfl, ?_⟩))
     go_roundg k1
     case measure => have := HK1.out; omega
     case rel => exact ⟨(wrap64 (x3_1 + t138)), (by first | rfl | (simp; done) | (simp [*]; done)), H', ⟨by have := HK1.out; omega⟩, by repeat (first | exact Drawn0.refl _ | apply Drawn0.step)⟩
   ·rw [if_neg c2] at H
    have c2b0 : decide (x3_1 < (a0.size : Int)) = false := decide_eq_false c2
    clear c2
    obtain rfl := Option.some.inj H
    go_wp2
    go_ret
    exact ⟨by first | rfl | (simp; done) | (simp [*]; done), by repeat (first | exact Drawn0.refl _ | apply Drawn0.step)⟩

/-! ### palinoderef1_Clean: function 27 -/
def palinoderef1_Clean.l0 : Nat → ByteArray → ByteArray → Int → Option (ByteArray)
  | 0, _, _, _ => none
  | k + 1, x0, x3, x4 => if x4 < (x0.size : Int) then ((palinoderef1_Size.f k x0 x4).bind fun t140 => (if t140 = 0 then (if x3.size + 3 ≤ 9223372036854775807 then (palinoderef1_Clean.l0 k x0 (x3 ++ (⟨#[239, 191, 189]⟩ : ByteArray)) (wrap64 (x4 + 1))) else (none)) else (if 0 ≤ x4 then (if x4 ≤ (wrap64 (x4 + t140)) then (if (wrap64 (x4 + t140)) ≤ (x0.size : Int) then (if x3.size + (x0.extract (x4 : Int).toNat ((wrap64 (x4 + t140)) : Int).toNat).size ≤ 9223372036854775807 then (palinoderef1_Clean.l0 k x0 (x3 ++ (x0.extract (x4 : Int).toNat ((wrap64 (x4 + t140)) : Int).toNat)) (wrap64 (x4 + t140))) else (none)) else (none)) else (none)) else (none)))) else (some x3)
def palinoderef1_Clean.f (k : Nat) (a0 : ByteArray) : Option (ByteArray) := (palinoderef1_Valid.f k a0).bind fun t139 => (if t139 = true then (some a0) else (palinoderef1_Clean.l0 k a0 (⟨#[]⟩ : ByteArray) 0))
theorem palinoderef1_Clean.mono_l : ∀ k, (∀ y0 y1 y2, LeO (palinoderef1_Clean.l0 k y0 y1 y2) (palinoderef1_Clean.l0 (k + 1) y0 y1 y2))
  | 0 => fun _ _ _ r h => by simp [palinoderef1_Clean.l0] at h
  | k + 1 => by
    have ih0 := palinoderef1_Clean.mono_l k
    · intro y0 y1 y2
      unfold palinoderef1_Clean.l0
      repeat' first
      | (with_reducible exact ih0 _ _ _)
      | (with_reducible exact palinoderef1_Size.mono _ _ _)
      | (with_reducible exact palinoderef1_Valid.mono _ _)
      | (with_reducible exact LeO.refl _)
      | (with_reducible exact LeO.none _)
      | (with_reducible refine LeO.ite ?_ ?_)
      | (with_reducible refine LeO.bind ?_ (fun _ => ?_))
      | exact ih0 _ _ _
      | exact palinoderef1_Size.mono _ _ _
      | exact palinoderef1_Valid.mono _ _
      | exact LeO.none _
      | refine LeO.ite ?_ ?_
      | refine LeO.bind ?_ (fun _ => ?_)
theorem palinoderef1_Clean.mono : ∀ a0 k, LeO (palinoderef1_Clean.f k a0) (palinoderef1_Clean.f (k + 1) a0) := by
  intro a0 k
  have ih0 := palinoderef1_Clean.mono_l k
  unfold palinoderef1_Clean.f
  repeat' first
      | (with_reducible exact ih0 _ _ _)
      | (with_reducible exact palinoderef1_Size.mono _ _ _)
      | (with_reducible exact palinoderef1_Valid.mono _ _)
      | (with_reducible exact LeO.refl _)
      | (with_reducible exact LeO.none _)
      | (with_reducible refine LeO.ite ?_ ?_)
      | (with_reducible refine LeO.bind ?_ (fun _ => ?_))
      | exact ih0 _ _ _
      | exact palinoderef1_Size.mono _ _ _
      | exact palinoderef1_Valid.mono _ _
      | exact LeO.none _
      | refine LeO.ite ?_ ?_
      | refine LeO.bind ?_ (fun _ => ?_)
set_option maxHeartbeats 8000000 in
set_option maxRecDepth 100000 in
theorem palinoderef1_Clean.calls (k : Nat) (a0 : ByteArray) (r : ByteArray) (w : World) (h : palinoderef1_Clean.f k a0 = some r) :
  Calls Try.prog 27 #[.string a0] w fun e w' => e = .returned (.string r) ∧ Drawn0 w w' := by
 have H : ((palinoderef1_Valid.f k a0).bind fun t139 => (if t139 = true then (some a0) else (palinoderef1_Clean.l0 k a0 (⟨#[]⟩ : ByteArray) 0))) = some r := h
 clear h
 replace H := Option.bind_eq_some_iff.mp H
 obtain ⟨t139, A20, H⟩ := H
 replace H : (if t139 = true then (some a0) else (palinoderef1_Clean.l0 k a0 (⟨#[]⟩ : ByteArray) 0)) = some r := H
 have A2 := Aside0.mk A20
 clear A20
 by_cases c3 : t139 = true
 ·subst c3
  have H1 : (some a0) = some r := by rw [if_pos rfl] at H; exact H
  clear H
  have H := H1
  clear H1
  obtain rfl := Option.some.inj H
  go_enter Try.func27, Try.ntmps27
  go_wp2_with (first | ((with_reducible refine gate_callee (f := 25) rfl ?_); refine goesL_ (some 7) rfl rfl Try.func25 (by kernel_rfl) rfl #[.string a0] rfl (by (try simp only [List.map_toArray, List.map_cons, List.map_nil]); first | done | rfl | (simp only [List.length_drop, List.length_take]; rfl)) ?_; (with_reducible refine (palinoderef1_Valid.calls k a0 true _ A2.out).mono ?_); rintro e w' ⟨rfl, ⟨nd, rfl⟩⟩; refine ⟨_, rfl, ?_⟩))
  go_ret
  exact ⟨by first | rfl | (simp; done) | (simp [*]; done), by repeat (first | exact Drawn0.refl _ | apply Drawn0.step)⟩
 ·replace c3 := Bool.eq_false_iff.mpr c3
  subst c3
  have H1 : (palinoderef1_Clean.l0 k a0 (⟨#[]⟩ : ByteArray) 0) = some r := by rw [if_neg (show ¬ (false = true) by decide)] at H; exact H
  clear H
  have H := H1
  clear H1
  have H' := Aside0.mk H
  clear H
  go_enter Try.func27, Try.ntmps27
  go_wp2_with (first | ((with_reducible refine gate_callee (f := 25) rfl ?_); refine goesL_ (some 7) rfl rfl Try.func25 (by kernel_rfl) rfl #[.string a0] rfl (by (try simp only [List.map_toArray, List.map_cons, List.map_nil]); first | done | rfl | (simp only [List.length_drop, List.length_take]; rfl)) ?_; (with_reducible refine (palinoderef1_Valid.calls k a0 false _ A2.out).mono ?_); rintro e w' ⟨rfl, ⟨nd, rfl⟩⟩; refine ⟨_, rfl, ?_⟩))
  go_loopg [3, 4] k (fun kq v3 v4 w' => ∃ (x3_1 : ByteArray) (x4_1 : Int), v3 = .string x3_1 ∧ v4 = .int .i64 x4_1 ∧ Aside0 (palinoderef1_Clean.l0 kq a0 x3_1 x4_1 = some r) ∧ Aside0 (kq ≤ k) ∧ Drawn0 w w')
  case atStart => exact ⟨((⟨#[]⟩ : ByteArray)), (0), (by first | rfl | (simp; done) | (simp [*]; done)), (by first | rfl | (simp; done) | (simp [*]; done)), H', ⟨Nat.le_refl _⟩, by repeat (first | exact Drawn0.refl _ | apply Drawn0.step)⟩
  case round =>
   clear H'
   try clear c2
   try clear p2
   try clear c3
   obtain ⟨x3_1, x4_1, rfl, rfl, HA, HK1, ⟨m1, rfl⟩⟩ := hrel
   cases gk with
   | zero => exact absurd HA.out (by simp [palinoderef1_Clean.l0])
   | succ k1 =>
    have H := HA.out
    clear HA
    simp only [palinoderef1_Clean.l0] at H
    by_cases c4 : x4_1 < (a0.size : Int)
    ·rw [if_pos c4] at H
     have c4b0 : decide (x4_1 < (a0.size : Int)) = true := decide_eq_true c4
     clear c4
     replace H := Option.bind_eq_some_iff.mp H
     obtain ⟨t140, A50, H⟩ := H
     replace H : (if t140 = 0 then (if x3_1.size + 3 ≤ 9223372036854775807 then (palinoderef1_Clean.l0 k1 a0 (x3_1 ++ (⟨#[239, 191, 189]⟩ : ByteArray)) (wrap64 (x4_1 + 1))) else (none)) else (if 0 ≤ x4_1 then (if x4_1 ≤ (wrap64 (x4_1 + t140)) then (if (wrap64 (x4_1 + t140)) ≤ (a0.size : Int) then (if x3_1.size + (a0.extract (x4_1 : Int).toNat ((wrap64 (x4_1 + t140)) : Int).toNat).size ≤ 9223372036854775807 then (palinoderef1_Clean.l0 k1 a0 (x3_1 ++ (a0.extract (x4_1 : Int).toNat ((wrap64 (x4_1 + t140)) : Int).toNat)) (wrap64 (x4_1 + t140))) else (none)) else (none)) else (none)) else (none))) = some r := H
     have A5 := Aside0.mk A50
     clear A50
     by_cases c6 : t140 = 0
     ·rw [if_pos c6] at H
      have c6b0 : (t140 == 0) = true := beq_iff_eq.mpr c6
      have c6b1 : (t140 != 0) = false := bne_eq_false_iff_eq.mpr c6
      clear c6
      by_cases c7 : x3_1.size + 3 ≤ 9223372036854775807
      ·rw [if_pos c7] at H
       have c7b0 := eq_true c7
       have c7b1 : decide (x3_1.size + 3 ≤ 9223372036854775807) = true := decide_eq_true c7
       try have c7b2 : (9223372036854775807 < x3_1.size + 3) = False := eq_false (Nat.not_lt.2 c7)
       have H' := Aside0.mk H
       clear H
       go_wp2_with (first | ((with_reducible refine gate_callee (f := 23) rfl ?_); refine goesL_ (some 15) rfl rfl Try.func23 (by kernel_rfl) rfl #[.string a0, .int .i64 x4_1] rfl (by (try simp only [List.map_toArray, List.map_cons, List.map_nil]); first | done | rfl | (simp only [List.length_drop, List.length_take]; rfl)) ?_; (with_reducible refine (palinoderef1_Size.calls k1 a0 x4_1 t140 _ A5.out).mono ?_); rintro e w' ⟨rfl, ⟨nd, rfl⟩⟩; refine ⟨_, rfl, ?_⟩))
       go_roundg k1
       case measure => have := HK1.out; omega
       case rel => exact ⟨(x3_1 ++ (⟨#[239, 191, 189]⟩ : ByteArray)), (wrap64 (x4_1 + 1)), (by first | rfl | (simp; done) | (simp [*]; done)), (by first | rfl | (simp; done) | (simp [*]; done)), H', ⟨by have := HK1.out; omega⟩, by repeat (first | exact Drawn0.refl _ | apply Drawn0.step)⟩
      ·rw [if_neg c7] at H
       exact absurd H (by simp)
     ·rw [if_neg c6] at H
      have c6b0 : (t140 == 0) = false := beq_eq_false_iff_ne.mpr c6
      have c6b1 : (t140 != 0) = true := bne_iff_ne.mpr c6
      by_cases c8 : 0 ≤ x4_1
      ·rw [if_pos c8] at H
       have c8b0 := eq_true c8
       have c8b1 : decide (0 ≤ x4_1) = true := decide_eq_true c8
       clear c8
       by_cases c9 : x4_1 ≤ (wrap64 (x4_1 + t140))
       ·rw [if_pos c9] at H
        have c9b0 := eq_true c9
        have c9b1 : decide (x4_1 ≤ (wrap64 (x4_1 + t140))) = true := decide_eq_true c9
        by_cases c10 : (wrap64 (x4_1 + t140)) ≤ (a0.size : Int)
        ·rw [if_pos c10] at H
         have c10b0 := eq_true c10
         have c10b1 : decide ((wrap64 (x4_1 + t140)) ≤ (a0.size : Int)) = true := decide_eq_true c10
         by_cases c11 : x3_1.size + (a0.extract (x4_1 : Int).toNat ((wrap64 (x4_1 + t140)) : Int).toNat).size ≤ 9223372036854775807
         ·rw [if_pos c11] at H
          have c11b0 := eq_true c11
          have c11b1 : decide (x3_1.size + (a0.extract (x4_1 : Int).toNat ((wrap64 (x4_1 + t140)) : Int).toNat).size ≤ 9223372036854775807) = true := decide_eq_true c11
          try have c11b2 : (9223372036854775807 < x3_1.size + (a0.extract (x4_1 : Int).toNat ((wrap64 (x4_1 + t140)) : Int).toNat).size) = False := eq_false (Nat.not_lt.2 c11)
          have H' := Aside0.mk H
          clear H
          go_wp2_with (first | ((with_reducible refine gate_callee (f := 23) rfl ?_); refine goesL_ (some 15) rfl rfl Try.func23 (by kernel_rfl) rfl #[.string a0, .int .i64 x4_1] rfl (by (try simp only [List.map_toArray, List.map_cons, List.map_nil]); first | done | rfl | (simp only [List.length_drop, List.length_take]; rfl)) ?_; (with_reducible refine (palinoderef1_Size.calls k1 a0 x4_1 t140 _ A5.out).mono ?_); rintro e w' ⟨rfl, ⟨nd, rfl⟩⟩; refine ⟨_, rfl, ?_⟩))
          go_roundg k1
          case measure => have := HK1.out; omega
          case rel => exact ⟨(x3_1 ++ (a0.extract (x4_1 : Int).toNat ((wrap64 (x4_1 + t140)) : Int).toNat)), (wrap64 (x4_1 + t140)), (by first | rfl | (simp; done) | (simp [*]; done)), (by first | rfl | (simp; done) | (simp [*]; done)), H', ⟨by have := HK1.out; omega⟩, by repeat (first | exact Drawn0.refl _ | apply Drawn0.step)⟩
         ·rw [if_neg c11] at H
          exact absurd H (by simp)
        ·rw [if_neg c10] at H
         exact absurd H (by simp)
       ·rw [if_neg c9] at H
        exact absurd H (by simp)
      ·rw [if_neg c8] at H
       exact absurd H (by simp)
    ·rw [if_neg c4] at H
     have c4b0 : decide (x4_1 < (a0.size : Int)) = false := decide_eq_false c4
     clear c4
     obtain rfl := Option.some.inj H
     go_wp2
     go_ret
     exact ⟨by first | rfl | (simp; done) | (simp [*]; done), by repeat (first | exact Drawn0.refl _ | apply Drawn0.step)⟩

end Go.Proofs.Ytgepcdpnjinadaa.PX
end

section
-- MACHINE SIDE, written by wip/drive.py (this session's driver over the kit's print) for this claim. Lean checks it.
namespace Go.Proofs.Ytgepcdpnjinadaa.PX
open Go.RowKit Go.Proofs.YtgepcdpnjinadaaW.PrintWords Go.Proofs.YtgepcdpnjinadaaW.PrintLast Go.Proofs.YtgepcdpnjinadaaW.PrintMore
attribute [local go_sem] max2_int min2_int max_two min_two max_three min_three max_four min_four   -- for this text's walks alone
set_option linter.unusedVariables false
set_option linter.unusedSimpArgs false

/-! ### palinoderef1_Points: function 20 -/
def palinoderef1_Points.l0 : Nat → ByteArray → List ByteArray → Int → Option (List ByteArray)
  | 0, _, _, _ => none
  | k + 1, x3, x4, x5 => if x5 < (x3.size : Int) then ((palinoderef1_Size.f k x3 x5).bind fun t142 => (if 0 ≤ x5 then (if x5 ≤ (wrap64 (x5 + t142)) then (if (wrap64 (x5 + t142)) ≤ (x3.size : Int) then (if x4.length < 8796093022208 then (palinoderef1_Points.l0 k x3 (x4 ++ [x3.extract (x5 : Int).toNat ((wrap64 (x5 + t142)) : Int).toNat]) (wrap64 (x5 + t142))) else (none)) else (none)) else (none)) else (none))) else (some x4)
def palinoderef1_Points.f (k : Nat) (a0 : ByteArray) : Option (List ByteArray) := (palinoderef1_Clean.f k a0).bind fun t141 => (palinoderef1_Points.l0 k t141 ([] : List ByteArray) 0)
theorem palinoderef1_Points.mono_l : ∀ k, (∀ y0 y1 y2, LeO (palinoderef1_Points.l0 k y0 y1 y2) (palinoderef1_Points.l0 (k + 1) y0 y1 y2))
  | 0 => fun _ _ _ r h => by simp [palinoderef1_Points.l0] at h
  | k + 1 => by
    have ih0 := palinoderef1_Points.mono_l k
    · intro y0 y1 y2
      unfold palinoderef1_Points.l0
      repeat' first
      | (with_reducible exact ih0 _ _ _)
      | (with_reducible exact palinoderef1_Clean.mono _ _)
      | (with_reducible exact palinoderef1_Size.mono _ _ _)
      | (with_reducible exact LeO.refl _)
      | (with_reducible exact LeO.none _)
      | (with_reducible refine LeO.ite ?_ ?_)
      | (with_reducible refine LeO.bind ?_ (fun _ => ?_))
      | exact ih0 _ _ _
      | exact palinoderef1_Clean.mono _ _
      | exact palinoderef1_Size.mono _ _ _
      | exact LeO.none _
      | refine LeO.ite ?_ ?_
      | refine LeO.bind ?_ (fun _ => ?_)
theorem palinoderef1_Points.mono : ∀ a0 k, LeO (palinoderef1_Points.f k a0) (palinoderef1_Points.f (k + 1) a0) := by
  intro a0 k
  have ih0 := palinoderef1_Points.mono_l k
  unfold palinoderef1_Points.f
  repeat' first
      | (with_reducible exact ih0 _ _ _)
      | (with_reducible exact palinoderef1_Clean.mono _ _)
      | (with_reducible exact palinoderef1_Size.mono _ _ _)
      | (with_reducible exact LeO.refl _)
      | (with_reducible exact LeO.none _)
      | (with_reducible refine LeO.ite ?_ ?_)
      | (with_reducible refine LeO.bind ?_ (fun _ => ?_))
      | exact ih0 _ _ _
      | exact palinoderef1_Clean.mono _ _
      | exact palinoderef1_Size.mono _ _ _
      | exact LeO.none _
      | refine LeO.ite ?_ ?_
      | refine LeO.bind ?_ (fun _ => ?_)
set_option maxHeartbeats 8000000 in
set_option maxRecDepth 100000 in
theorem palinoderef1_Points.calls (k : Nat) (a0 : ByteArray) (r : List ByteArray) (w : World) (h : palinoderef1_Points.f k a0 = some r) :
  Calls Try.prog 20 #[.string a0] w fun e w' => ∃ v0_ : Value, e = .returned (v0_) ∧ Kd.R Kd.string 9 w' w.heap.size (fun _ => True) v0_ r ∧ Below w.heap.size w w' := by
 have HB := Aside0.mk (Below.refl w.heap.size w)
 have H : ((palinoderef1_Clean.f k a0).bind fun t141 => (palinoderef1_Points.l0 k t141 ([] : List ByteArray) 0)) = some r := h
 clear h
 replace H := Option.bind_eq_some_iff.mp H
 obtain ⟨t141, A20, H⟩ := H
 replace H : (palinoderef1_Points.l0 k t141 ([] : List ByteArray) 0) = some r := H
 have A2 := Aside0.mk A20
 clear A20
 have H' := Aside0.mk H
 clear H
 go_enter Try.func20, Try.ntmps20
 go_wp2_with (first | ((with_reducible refine gate_callee (f := 27) rfl ?_); refine goesL_ (some 8) rfl rfl Try.func27 (by kernel_rfl) rfl #[.string a0] rfl (by (try simp only [List.map_toArray, List.map_cons, List.map_nil]); first | done | rfl | (simp only [List.length_drop, List.length_take]; rfl)) ?_; (with_reducible refine (palinoderef1_Clean.calls k a0 t141 _ A2.out).mono ?_); rintro e w' ⟨rfl, ⟨nd, rfl⟩⟩; refine ⟨_, rfl, ?_⟩))
 go_loopg [4, 5] k (fun kq v4 v5 w' => ∃ (x4_1 : List ByteArray) (x5_1 : Int), v5 = .int .i64 x5_1 ∧ Aside0 (palinoderef1_Points.l0 kq t141 x4_1 x5_1 = some r) ∧ Aside0 (kq ≤ k) ∧ Aside0 (Kd.R Kd.string 9 w' w.heap.size (fun _ => True) v4 x4_1) ∧ Aside0 (Below w.heap.size w w'))
 case atStart => exact ⟨(([] : List ByteArray)), (0), (by first | rfl | (simp; done) | (simp [*]; done)), H', ⟨Nat.le_refl _⟩, ⟨by first | exact Kd.R_nil _ _ _ _ _ | exact Kd.N_nil _ _ _ _ _ | exact Kd.V_nil _ _ _ _ _ | exact Kd.Q_nil _ _ _ _ _ | exact Kd.S_nil _ _ _ _ _⟩, ⟨by repeat (first | (with_reducible first | exact HB.out | apply below_alloc | apply pw_below_drewN | apply below_drew1) | exact HB.out)⟩⟩
 case round =>
  clear H'
  try clear c2
  try clear p2
  obtain ⟨x4_1, x5_1, rfl, HA, HK1, HO_4, HB⟩ := hrel
  cases gk with
  | zero => exact absurd HA.out (by simp [palinoderef1_Points.l0])
  | succ k1 =>
   have H := HA.out
   clear HA
   simp only [palinoderef1_Points.l0] at H
   by_cases c3 : x5_1 < (t141.size : Int)
   ·rw [if_pos c3] at H
    have c3b0 : decide (x5_1 < (t141.size : Int)) = true := decide_eq_true c3
    clear c3
    replace H := Option.bind_eq_some_iff.mp H
    obtain ⟨t142, A40, H⟩ := H
    replace H : (if 0 ≤ x5_1 then (if x5_1 ≤ (wrap64 (x5_1 + t142)) then (if (wrap64 (x5_1 + t142)) ≤ (t141.size : Int) then (if x4_1.length < 8796093022208 then (palinoderef1_Points.l0 k1 t141 (x4_1 ++ [t141.extract (x5_1 : Int).toNat ((wrap64 (x5_1 + t142)) : Int).toNat]) (wrap64 (x5_1 + t142))) else (none)) else (none)) else (none)) else (none)) = some r := H
    have A4 := Aside0.mk A40
    clear A40
    by_cases c5 : 0 ≤ x5_1
    ·rw [if_pos c5] at H
     have c5b0 := eq_true c5
     have c5b1 : decide (0 ≤ x5_1) = true := decide_eq_true c5
     clear c5
     by_cases c6 : x5_1 ≤ (wrap64 (x5_1 + t142))
     ·rw [if_pos c6] at H
      have c6b0 := eq_true c6
      have c6b1 : decide (x5_1 ≤ (wrap64 (x5_1 + t142))) = true := decide_eq_true c6
      by_cases c7 : (wrap64 (x5_1 + t142)) ≤ (t141.size : Int)
      ·rw [if_pos c7] at H
       have c7b0 := eq_true c7
       have c7b1 : decide ((wrap64 (x5_1 + t142)) ≤ (t141.size : Int)) = true := decide_eq_true c7
       by_cases c8 : x4_1.length < 8796093022208
       ·rw [if_pos c8] at H
        have LMc8 := Aside0.mk c8
        clear c8
        obtain ⟨y143, hy143⟩ : ∃ y_ : List ByteArray, y_ = (x4_1 ++ [t141.extract (x5_1 : Int).toNat ((wrap64 (x5_1 + t142)) : Int).toNat]) := ⟨_, rfl⟩
        replace H : (palinoderef1_Points.l0 k1 t141 y143 (wrap64 (x5_1 + t142))) = some r := by first | (rw [hy143]; with_reducible exact H) | (have H2_ := (Option.bind_some _ _).symm.trans H; rw [hy143]; with_reducible exact H2_) | (have H2_ := (Option.bind_some _ _).symm.trans H; with_reducible exact H2_) | with_reducible exact H | (rw [hy143]; exact H) | exact H
        have Ny143 := Aside0.mk hy143
        clear hy143
        have H' := Aside0.mk H
        clear H
        go_wp2_with (first | ((with_reducible refine gate_callee (f := 23) rfl ?_); refine goesL_ (some 15) rfl rfl Try.func23 (by kernel_rfl) rfl #[.string t141, .int .i64 x5_1] rfl (by (try simp only [List.map_toArray, List.map_cons, List.map_nil]); first | done | rfl | (simp only [List.length_drop, List.length_take]; rfl)) ?_; (with_reducible refine (palinoderef1_Size.calls k1 t141 x5_1 t142 _ A4.out).mono ?_); rintro e w' ⟨rfl, ⟨nd, rfl⟩⟩; refine ⟨_, rfl, ?_⟩) | ((with_reducible refine gate_builtin (b := .append) (xs := #[.tmp 16, .tmp 23]) rfl ?_); at_builtin; refine Kd.R_append Kd.string (w0 := w) w.heap.size rfl (.tmp 16) (.tmp 23) 26 9 (.string ⟨#[]⟩) 16 rfl Try.underlying26 info9 rfl (by decide) (by omega) u4 x4_1 (t141.extract (x5_1 : Int).toNat ((wrap64 (x5_1 + t142)) : Int).toNat) [.string (t141.extract (x5_1 : Int).toNat ((wrap64 (x5_1 + t142)) : Int).toNat)] (fun _ => True) (fun _ => False) rfl rfl ?aP (fun _ hk => hk.elim) ?aF ?aO ?aB ?aS ?aL ?_; (case aP => exact rfl); (case aB => exact (by repeat (first | (with_reducible first | exact HB.out | apply below_alloc | apply pw_below_drewN | apply below_drew1) | exact HB.out))); (case aF => exact (fun _ _ => trivial)); (case aO => exact (by (with_reducible repeat (first | apply Kd.R_alloc | apply Kd.R_drewN | apply Kd.R_drew)); exact HO_4.out)); (case aS => exact (below_size (by repeat (first | (with_reducible first | exact HB.out | apply below_alloc | apply pw_below_drewN | apply below_drew1) | exact HB.out)))); (case aL => have := LMc8.out; omega); intro v144 w9 ho hb hg hat; rw [← Ny143.out] at ho; have n0_ := Aside0.mk (hb); have n1_ := Aside0.mk (ho); clear HB; clear HO_4; have HB := n0_; have HO145 := n1_; clear n0_ n1_; clear ho hb hg hat))
        go_roundg k1
        case measure => have := HK1.out; omega
        case rel => exact ⟨(y143), (wrap64 (x5_1 + t142)), (by first | rfl | (simp; done) | (simp [*]; done)), H', ⟨by have := HK1.out; omega⟩, ⟨by (with_reducible repeat (first | apply Kd.R_alloc | apply Kd.R_drewN | apply Kd.R_drew)); exact HO145.out⟩, ⟨by repeat (first | (with_reducible first | exact HB.out | apply below_alloc | apply pw_below_drewN | apply below_drew1) | exact HB.out)⟩⟩
       ·rw [if_neg c8] at H
        exact absurd H (by simp)
      ·rw [if_neg c7] at H
       exact absurd H (by simp)
     ·rw [if_neg c6] at H
      exact absurd H (by simp)
    ·rw [if_neg c5] at H
     exact absurd H (by simp)
   ·rw [if_neg c3] at H
    have c3b0 : decide (x5_1 < (t141.size : Int)) = false := decide_eq_false c3
    clear c3
    obtain rfl := Option.some.inj H
    go_wp2
    go_ret
    exact ⟨_, by first | rfl | (simp [errW_none, errW_some] <;> rfl) | (simp [*, errW_none, errW_some] <;> rfl), by (with_reducible repeat (first | apply Kd.R_alloc | apply Kd.R_drewN | apply Kd.R_drew)); exact HO_4.out, by repeat (first | (with_reducible first | exact HB.out | apply below_alloc | apply pw_below_drewN | apply below_drew1) | exact HB.out)⟩

/-! ### palinoderef1_Number: function 21 -/
mutual
def palinoderef1_Number.j0 : Nat → ByteArray → Int → Option (Int)
  | 0, _, _ => none
  | k + 1, x0, x4 => palinoderef1_Number.l0 k x0 x4 1
def palinoderef1_Number.l0 : Nat → ByteArray → Int → Int → Option (Int)
  | 0, _, _, _ => none
  | k + 1, x0, x4, x5 => if x5 < (x0.size : Int) then (if 0 ≤ x5 then (palinoderef1_Number.l0 k x0 (Go.bits .or .i64 (wrap64 (x4 * 64)) (Go.bits .and .i64 (wrap64 (bt x0 x5)) 63)) (wrap64 (x5 + 1))) else (none)) else (some x4)
end
def palinoderef1_Number.f (k : Nat) (a0 : ByteArray) : Option (Int) := if 0 < (a0.size : Int) then (if (a0.size : Int) = 2 then (palinoderef1_Number.j0 k a0 (Go.bits .and .i64 (wrap64 (bt a0 0)) 31)) else (if (a0.size : Int) = 3 then (palinoderef1_Number.j0 k a0 (Go.bits .and .i64 (wrap64 (bt a0 0)) 15)) else (if (a0.size : Int) = 4 then (palinoderef1_Number.j0 k a0 (Go.bits .and .i64 (wrap64 (bt a0 0)) 7)) else (palinoderef1_Number.j0 k a0 (wrap64 (bt a0 0)))))) else (none)
theorem palinoderef1_Number.mono_l : ∀ k, (∀ y0 y1, LeO (palinoderef1_Number.j0 k y0 y1) (palinoderef1_Number.j0 (k + 1) y0 y1)) ∧ (∀ y0 y1 y2, LeO (palinoderef1_Number.l0 k y0 y1 y2) (palinoderef1_Number.l0 (k + 1) y0 y1 y2))
  | 0 => ⟨fun _ _ r h => by simp [palinoderef1_Number.j0] at h, fun _ _ _ r h => by simp [palinoderef1_Number.l0] at h⟩
  | k + 1 => by
    obtain ⟨ih0, ih1⟩ := palinoderef1_Number.mono_l k
    refine ⟨?_, ?_⟩
    · intro y0 y1
      unfold palinoderef1_Number.j0
      repeat' first
      | (with_reducible exact ih0 _ _)
      | (with_reducible exact ih1 _ _ _)
      | (with_reducible exact LeO.refl _)
      | (with_reducible exact LeO.none _)
      | (with_reducible refine LeO.ite ?_ ?_)
      | (with_reducible refine LeO.bind ?_ (fun _ => ?_))
      | exact ih0 _ _
      | exact ih1 _ _ _
      | exact LeO.none _
      | refine LeO.ite ?_ ?_
      | refine LeO.bind ?_ (fun _ => ?_)
    · intro y0 y1 y2
      unfold palinoderef1_Number.l0
      repeat' first
      | (with_reducible exact ih0 _ _)
      | (with_reducible exact ih1 _ _ _)
      | (with_reducible exact LeO.refl _)
      | (with_reducible exact LeO.none _)
      | (with_reducible refine LeO.ite ?_ ?_)
      | (with_reducible refine LeO.bind ?_ (fun _ => ?_))
      | exact ih0 _ _
      | exact ih1 _ _ _
      | exact LeO.none _
      | refine LeO.ite ?_ ?_
      | refine LeO.bind ?_ (fun _ => ?_)
theorem palinoderef1_Number.mono : ∀ a0 k, LeO (palinoderef1_Number.f k a0) (palinoderef1_Number.f (k + 1) a0) := by
  intro a0 k
  obtain ⟨ih0, ih1⟩ := palinoderef1_Number.mono_l k
  unfold palinoderef1_Number.f
  repeat' first
      | (with_reducible exact ih0 _ _)
      | (with_reducible exact ih1 _ _ _)
      | (with_reducible exact LeO.refl _)
      | (with_reducible exact LeO.none _)
      | (with_reducible refine LeO.ite ?_ ?_)
      | (with_reducible refine LeO.bind ?_ (fun _ => ?_))
      | exact ih0 _ _
      | exact ih1 _ _ _
      | exact LeO.none _
      | refine LeO.ite ?_ ?_
      | refine LeO.bind ?_ (fun _ => ?_)
set_option maxHeartbeats 8000000 in
set_option maxRecDepth 100000 in
theorem palinoderef1_Number.calls (k : Nat) (a0 : ByteArray) (r : Int) (w : World) (h : palinoderef1_Number.f k a0 = some r) :
  Calls Try.prog 21 #[.string a0] w fun e w' => e = .returned (.int .i64 r) ∧ Drawn0 w w' := by
 have H : (if 0 < (a0.size : Int) then (if (a0.size : Int) = 2 then (palinoderef1_Number.j0 k a0 (Go.bits .and .i64 (wrap64 (bt a0 0)) 31)) else (if (a0.size : Int) = 3 then (palinoderef1_Number.j0 k a0 (Go.bits .and .i64 (wrap64 (bt a0 0)) 15)) else (if (a0.size : Int) = 4 then (palinoderef1_Number.j0 k a0 (Go.bits .and .i64 (wrap64 (bt a0 0)) 7)) else (palinoderef1_Number.j0 k a0 (wrap64 (bt a0 0)))))) else (none)) = some r := h
 clear h
 by_cases c2 : 0 < (a0.size : Int)
 ·rw [if_pos c2] at H
  have c2b0 : decide (0 < (a0.size : Int)) = true := decide_eq_true c2
  have c2b1 : decide (0 < a0.size) = true := decide_eq_true (by omega)
  clear c2
  have HC4 := Aside0.mk H
  clear H
  have p3 : 0 ≤ (0 : Int) := (by omega)
  have q3 : 0 < a0.size := (by have : (0 : Int) < (a0.size : Int) := of_decide_eq_true (by first | (with_reducible assumption) | assumption); omega)
  have hx3 : ∀ h : 0 < a0.size, ((a0[0]'h).toNat : Int) = bt a0 0 := bt_at a0 0
  clear p3
  have qi3 : (0 < (a0.size : Int)) = True := eq_true (of_decide_eq_true (by first | (with_reducible assumption) | assumption))
  replace q3 := eq_true q3
  go_enter Try.func21, Try.ntmps21
  go_upto_block 0 with (fail)
  go_cut [4] (fun v4 wc => ∃ (kq : Nat) (x4_3 : Int), v4 = .int .i64 x4_3 ∧ Aside0 (palinoderef1_Number.j0 kq a0 x4_3 = some r) ∧ Aside0 (kq ≤ k) ∧ Drawn0 w wc)
  case first =>
   have H := HC4.out
   clear HC4
   by_cases c5 : (a0.size : Int) = 2
   ·rw [if_pos c5] at H
    have c5b0 : ((a0.size : Int) == 2) = true := beq_iff_eq.mpr c5
    have c5b1 : ((a0.size : Int) != 2) = false := bne_eq_false_iff_eq.mpr c5
    clear c5
    (first | rw [c5b0] | (simp only [i64_w, i32_w]; rw [c5b0]) | skip)
    have H' := Aside0.mk H
    clear H
    go_wp2
    go_meet
    case rel => exact ⟨_, (Go.bits .and .i64 (wrap64 (bt a0 0)) 31), (by first | rfl | (simp; done) | (simp [*]; done)), H', ⟨by first | omega | exact Nat.le_refl _⟩, by repeat (first | exact Drawn0.refl _ | apply Drawn0.step)⟩
   ·rw [if_neg c5] at H
    have c5b0 : ((a0.size : Int) == 2) = false := beq_eq_false_iff_ne.mpr c5
    have c5b1 : ((a0.size : Int) != 2) = true := bne_iff_ne.mpr c5
    (first | rw [c5b0] | (simp only [i64_w, i32_w]; rw [c5b0]) | skip)
    by_cases c6 : (a0.size : Int) = 3
    ·rw [if_pos c6] at H
     have c6b0 : ((a0.size : Int) == 3) = true := beq_iff_eq.mpr c6
     have c6b1 : ((a0.size : Int) != 3) = false := bne_eq_false_iff_eq.mpr c6
     clear c6
     have H' := Aside0.mk H
     clear H
     go_wp2
     go_meet
     case rel => exact ⟨_, (Go.bits .and .i64 (wrap64 (bt a0 0)) 15), (by first | rfl | (simp; done) | (simp [*]; done)), H', ⟨by first | omega | exact Nat.le_refl _⟩, by repeat (first | exact Drawn0.refl _ | apply Drawn0.step)⟩
    ·rw [if_neg c6] at H
     have c6b0 : ((a0.size : Int) == 3) = false := beq_eq_false_iff_ne.mpr c6
     have c6b1 : ((a0.size : Int) != 3) = true := bne_iff_ne.mpr c6
     by_cases c7 : (a0.size : Int) = 4
     ·rw [if_pos c7] at H
      have c7b0 : ((a0.size : Int) == 4) = true := beq_iff_eq.mpr c7
      have c7b1 : ((a0.size : Int) != 4) = false := bne_eq_false_iff_eq.mpr c7
      clear c7
      have H' := Aside0.mk H
      clear H
      go_wp2
      go_meet
      case rel => exact ⟨_, (Go.bits .and .i64 (wrap64 (bt a0 0)) 7), (by first | rfl | (simp; done) | (simp [*]; done)), H', ⟨by first | omega | exact Nat.le_refl _⟩, by repeat (first | exact Drawn0.refl _ | apply Drawn0.step)⟩
     ·rw [if_neg c7] at H
      have c7b0 : ((a0.size : Int) == 4) = false := beq_eq_false_iff_ne.mpr c7
      have c7b1 : ((a0.size : Int) != 4) = true := bne_iff_ne.mpr c7
      have H' := Aside0.mk H
      clear H
      go_wp2
      go_meet
      case rel => exact ⟨_, (wrap64 (bt a0 0)), (by first | rfl | (simp; done) | (simp [*]; done)), H', ⟨by first | omega | exact Nat.le_refl _⟩, by repeat (first | exact Drawn0.refl _ | apply Drawn0.step)⟩
  case rest =>
   clear HC4
   try clear c2
   try clear c2b0
   try clear c2b1
   try clear p2
   try clear p3
   try clear q3
   try clear hx3
   try clear qi3
   try clear c5
   try clear c5b0
   try clear c5b1
   try clear c6
   try clear c6b0
   try clear c6b1
   try clear p6
   try clear c7
   try clear c7b0
   try clear c7b1
   try clear p3
   try clear q3
   obtain ⟨kq, x4_3, rfl, HA, HJ3, ⟨mc3, rfl⟩⟩ := hcut
   cases kq with
   | zero => exact absurd HA.out (by simp [palinoderef1_Number.j0])
   | succ kj3 =>
    have H := HA.out
    clear HA
    simp only [palinoderef1_Number.j0] at H
    have H' := Aside0.mk H
    clear H
    go_wp2
    go_loopg [4, 5] kj3 (fun kq v4 v5 w' => ∃ (x4_2 : Int) (x5_2 : Int), v4 = .int .i64 x4_2 ∧ v5 = .int .i64 x5_2 ∧ Aside0 (palinoderef1_Number.l0 kq a0 x4_2 x5_2 = some r) ∧ Aside0 (kq ≤ kj3) ∧ Drawn0 w w')
    case atStart => exact ⟨(x4_3), (1), (by first | rfl | (simp; done) | (simp [*]; done)), (by first | rfl | (simp; done) | (simp [*]; done)), H', ⟨Nat.le_refl _⟩, by repeat (first | exact Drawn0.refl _ | apply Drawn0.step)⟩
    case round =>
     clear H'
     try clear c2
     try clear c2b0
     try clear c2b1
     try clear p2
     try clear c3
     try clear p3
     try clear q3
     try clear hx3
     try clear qi3
     try clear c5
     try clear c5b0
     try clear c5b1
     try clear c6
     try clear c6b0
     try clear c6b1
     try clear p6
     try clear c7
     try clear c7b0
     try clear c7b1
     try clear p2
     try clear p3
     try clear p6
     try clear q3
     obtain ⟨x4_2, x5_2, rfl, rfl, HA, HK2, ⟨m2, rfl⟩⟩ := hrel
     cases gk with
     | zero => exact absurd HA.out (by simp [palinoderef1_Number.l0])
     | succ k2 =>
      have H := HA.out
      clear HA
      simp only [palinoderef1_Number.l0] at H
      by_cases c8 : x5_2 < (a0.size : Int)
      ·rw [if_pos c8] at H
       have c8b0 : decide (x5_2 < (a0.size : Int)) = true := decide_eq_true c8
       clear c8
       by_cases c9 : 0 ≤ x5_2
       ·rw [if_pos c9] at H
        have c9b0 : decide (0 ≤ x5_2) = true := decide_eq_true c9
        clear c9
        have H' := Aside0.mk H
        clear H
        have p10 : 0 ≤ (x5_2 : Int) := of_decide_eq_true (by first | (with_reducible assumption) | assumption)
        have q10 : x5_2 < (a0.size : Int) := of_decide_eq_true (by first | (with_reducible assumption) | assumption)
        have hx10 := bt_at a0 x5_2
        replace p10 := eq_true p10
        replace q10 := eq_true q10
        go_wp2
        go_roundg k2
        case measure => have := HJ3.out; have := HK2.out; omega
        case rel => exact ⟨(Go.bits .or .i64 (wrap64 (x4_2 * 64)) (Go.bits .and .i64 (wrap64 (bt a0 x5_2)) 63)), (wrap64 (x5_2 + 1)), (by first | rfl | (simp; done) | (simp [*]; done)), (by first | rfl | (simp; done) | (simp [*]; done)), H', ⟨by have := HJ3.out; have := HK2.out; omega⟩, by repeat (first | exact Drawn0.refl _ | apply Drawn0.step)⟩
       ·rw [if_neg c9] at H
        exact absurd H (by simp)
      ·rw [if_neg c8] at H
       have c8b0 : decide (x5_2 < (a0.size : Int)) = false := decide_eq_false c8
       clear c8
       obtain rfl := Option.some.inj H
       go_wp2
       go_ret
       exact ⟨by first | rfl | (simp; done) | (simp [*]; done), by repeat (first | exact Drawn0.refl _ | apply Drawn0.step)⟩
 ·rw [if_neg c2] at H
  exact absurd H (by simp)

end Go.Proofs.Ytgepcdpnjinadaa.PX
end

section
-- MACHINE SIDE, written by wip/drive.py (this session's driver over the kit's print) for this claim. Lean checks it.
namespace Go.Proofs.Ytgepcdpnjinadaa.PX
open Go.RowKit Go.Proofs.YtgepcdpnjinadaaW.PrintWords Go.Proofs.YtgepcdpnjinadaaW.PrintLast Go.Proofs.YtgepcdpnjinadaaW.PrintMore
attribute [local go_sem] max2_int min2_int max_two min_two max_three min_three max_four min_four   -- for this text's walks alone
set_option linter.unusedVariables false
set_option linter.unusedSimpArgs false

/-! ### palinoderef1_IsEdge: function 29 -/
def palinoderef1_IsEdge.f (k : Nat) (a0 : ByteArray) (a1 : Int) : Option (Bool) := if a1 < 0 then (some false) else (if a1 > (a0.size : Int) then (some false) else ((palinoderef1_Valid.f k a0).bind fun t146 => (if t146 = true then (if a1 = (a0.size : Int) then (some true) else (if 0 ≤ a1 then (if a1 < (a0.size : Int) then (some (((wrap64 (bt a0 a1)) / 64) != 2)) else (none)) else (none))) else (some false))))
theorem palinoderef1_IsEdge.mono : ∀ a0 a1 k, LeO (palinoderef1_IsEdge.f k a0 a1) (palinoderef1_IsEdge.f (k + 1) a0 a1) := by
  intro a0 a1 k
  unfold palinoderef1_IsEdge.f
  repeat' first
      | (with_reducible exact palinoderef1_Valid.mono _ _)
      | (with_reducible exact LeO.refl _)
      | (with_reducible exact LeO.none _)
      | (with_reducible refine LeO.ite ?_ ?_)
      | (with_reducible refine LeO.bind ?_ (fun _ => ?_))
      | exact palinoderef1_Valid.mono _ _
      | exact LeO.none _
      | refine LeO.ite ?_ ?_
      | refine LeO.bind ?_ (fun _ => ?_)
set_option maxHeartbeats 8000000 in
set_option maxRecDepth 100000 in
theorem palinoderef1_IsEdge.calls (k : Nat) (a0 : ByteArray) (a1 : Int) (r : Bool) (w : World) (h : palinoderef1_IsEdge.f k a0 a1 = some r) :
  Calls Try.prog 29 #[.string a0, .int .i64 a1] w fun e w' => e = .returned (.bool r) ∧ Drawn0 w w' := by
 have H : (if a1 < 0 then (some false) else (if a1 > (a0.size : Int) then (some false) else ((palinoderef1_Valid.f k a0).bind fun t146 => (if t146 = true then (if a1 = (a0.size : Int) then (some true) else (if 0 ≤ a1 then (if a1 < (a0.size : Int) then (some (((wrap64 (bt a0 a1)) / 64) != 2)) else (none)) else (none))) else (some false))))) = some r := h
 clear h
 by_cases c3 : a1 < 0
 ·rw [if_pos c3] at H
  have c3b0 : decide (a1 < 0) = true := decide_eq_true c3
  clear c3
  obtain rfl := Option.some.inj H
  go_enter Try.func29, Try.ntmps29
  go_wp2
  go_ret
  exact ⟨by first | rfl | (simp; done) | (simp [*]; done), by repeat (first | exact Drawn0.refl _ | apply Drawn0.step)⟩
 ·rw [if_neg c3] at H
  have c3b0 : decide (a1 < 0) = false := decide_eq_false c3
  clear c3
  by_cases c4 : a1 > (a0.size : Int)
  ·rw [if_pos c4] at H
   have c4b0 : decide ((a0.size : Int) < a1) = true := decide_eq_true c4
   clear c4
   obtain rfl := Option.some.inj H
   go_enter Try.func29, Try.ntmps29
   go_wp2
   go_ret
   exact ⟨by first | rfl | (simp; done) | (simp [*]; done), by repeat (first | exact Drawn0.refl _ | apply Drawn0.step)⟩
  ·rw [if_neg c4] at H
   have c4b0 : decide ((a0.size : Int) < a1) = false := decide_eq_false c4
   clear c4
   replace H := Option.bind_eq_some_iff.mp H
   obtain ⟨t146, A50, H⟩ := H
   replace H : (if t146 = true then (if a1 = (a0.size : Int) then (some true) else (if 0 ≤ a1 then (if a1 < (a0.size : Int) then (some (((wrap64 (bt a0 a1)) / 64) != 2)) else (none)) else (none))) else (some false)) = some r := H
   have A5 := Aside0.mk A50
   clear A50
   by_cases c6 : t146 = true
   ·subst c6
    have H1 : (if a1 = (a0.size : Int) then (some true) else (if 0 ≤ a1 then (if a1 < (a0.size : Int) then (some (((wrap64 (bt a0 a1)) / 64) != 2)) else (none)) else (none))) = some r := by rw [if_pos rfl] at H; exact H
    clear H
    have H := H1
    clear H1
    by_cases c7 : a1 = (a0.size : Int)
    ·rw [if_pos c7] at H
     have c7b0 : (a1 == (a0.size : Int)) = true := beq_iff_eq.mpr c7
     have c7b1 : (a1 != (a0.size : Int)) = false := bne_eq_false_iff_eq.mpr c7
     clear c7
     obtain rfl := Option.some.inj H
     go_enter Try.func29, Try.ntmps29
     go_wp2_with (first | (go_at_call 25; (with_reducible refine (palinoderef1_Valid.calls k a0 true _ A5.out).mono ?_); rintro e w' ⟨rfl, ⟨nd, rfl⟩⟩))
     go_ret
     exact ⟨by first | rfl | (simp; done) | (simp [*]; done), by repeat (first | exact Drawn0.refl _ | apply Drawn0.step)⟩
    ·rw [if_neg c7] at H
     have c7b0 : (a1 == (a0.size : Int)) = false := beq_eq_false_iff_ne.mpr c7
     have c7b1 : (a1 != (a0.size : Int)) = true := bne_iff_ne.mpr c7
     by_cases c8 : 0 ≤ a1
     ·rw [if_pos c8] at H
      have c8b0 : decide (0 ≤ a1) = true := decide_eq_true c8
      clear c8
      by_cases c9 : a1 < (a0.size : Int)
      ·rw [if_pos c9] at H
       have c9b0 : decide (a1 < (a0.size : Int)) = true := decide_eq_true c9
       clear c9
       obtain rfl := Option.some.inj H
       go_enter Try.func29, Try.ntmps29
       go_wp2_with (first | (go_at_call 25; (with_reducible refine (palinoderef1_Valid.calls k a0 true _ A5.out).mono ?_); rintro e w' ⟨rfl, ⟨nd, rfl⟩⟩; have p10 : 0 ≤ (a1 : Int) := of_decide_eq_true (by first | (with_reducible assumption) | assumption); have q10 : a1 < (a0.size : Int) := of_decide_eq_true (by first | (with_reducible assumption) | assumption); have hx10 := bt_at a0 a1; replace p10 := eq_true p10; replace q10 := eq_true q10))
       go_ret
       exact ⟨by first | rfl | (simp; done) | (simp [*]; done), by repeat (first | exact Drawn0.refl _ | apply Drawn0.step)⟩
      ·rw [if_neg c9] at H
       exact absurd H (by simp)
     ·rw [if_neg c8] at H
      exact absurd H (by simp)
   ·replace c6 := Bool.eq_false_iff.mpr c6
    subst c6
    have H1 : (some false) = some r := by rw [if_neg (show ¬ (false = true) by decide)] at H; exact H
    clear H
    have H := H1
    clear H1
    obtain rfl := Option.some.inj H
    go_enter Try.func29, Try.ntmps29
    go_wp2_with (first | (go_at_call 25; (with_reducible refine (palinoderef1_Valid.calls k a0 false _ A5.out).mono ?_); rintro e w' ⟨rfl, ⟨nd, rfl⟩⟩))
    go_ret
    exact ⟨by first | rfl | (simp; done) | (simp [*]; done), by repeat (first | exact Drawn0.refl _ | apply Drawn0.step)⟩

/-! ### palinoderef1_Back: function 30 -/
mutual
def palinoderef1_Back.j0 : Nat → ByteArray → Int → Bool → Option (Int)
  | 0, _, _, _ => none
  | k + 1, x0, x1, x19 => if x19 = true then (some x1) else (palinoderef1_Back.l0 k x0 (wrap64 (x1 - 1)))
def palinoderef1_Back.l0 : Nat → ByteArray → Int → Option (Int)
  | 0, _, _ => none
  | k + 1, x0, x5 => if x5 > 0 then (if 0 ≤ x5 then (if x5 < (x0.size : Int) then (if ((wrap64 (bt x0 x5)) / 64) = 2 then (palinoderef1_Back.l0 k x0 (wrap64 (x5 - 1))) else (some x5)) else (none)) else (none)) else (some x5)
end
def palinoderef1_Back.f (k : Nat) (a0 : ByteArray) (a1 : Int) : Option (Int) := if a1 < 1 then (palinoderef1_Back.j0 k a0 a1 true) else (if a1 > (a0.size : Int) then (palinoderef1_Back.j0 k a0 a1 true) else ((palinoderef1_IsEdge.f k a0 a1).bind fun t147 => (palinoderef1_Back.j0 k a0 a1 (!t147))))
theorem palinoderef1_Back.mono_l : ∀ k, (∀ y0 y1 y2, LeO (palinoderef1_Back.j0 k y0 y1 y2) (palinoderef1_Back.j0 (k + 1) y0 y1 y2)) ∧ (∀ y0 y1, LeO (palinoderef1_Back.l0 k y0 y1) (palinoderef1_Back.l0 (k + 1) y0 y1))
  | 0 => ⟨fun _ _ _ r h => by simp [palinoderef1_Back.j0] at h, fun _ _ r h => by simp [palinoderef1_Back.l0] at h⟩
  | k + 1 => by
    obtain ⟨ih0, ih1⟩ := palinoderef1_Back.mono_l k
    refine ⟨?_, ?_⟩
    · intro y0 y1 y2
      unfold palinoderef1_Back.j0
      repeat' first
      | (with_reducible exact ih0 _ _ _)
      | (with_reducible exact ih1 _ _)
      | (with_reducible exact palinoderef1_IsEdge.mono _ _ _)
      | (with_reducible exact LeO.refl _)
      | (with_reducible exact LeO.none _)
      | (with_reducible refine LeO.ite ?_ ?_)
      | (with_reducible refine LeO.bind ?_ (fun _ => ?_))
      | exact ih0 _ _ _
      | exact ih1 _ _
      | exact palinoderef1_IsEdge.mono _ _ _
      | exact LeO.none _
      | refine LeO.ite ?_ ?_
      | refine LeO.bind ?_ (fun _ => ?_)
    · intro y0 y1
      unfold palinoderef1_Back.l0
      repeat' first
      | (with_reducible exact ih0 _ _ _)
      | (with_reducible exact ih1 _ _)
      | (with_reducible exact palinoderef1_IsEdge.mono _ _ _)
      | (with_reducible exact LeO.refl _)
      | (with_reducible exact LeO.none _)
      | (with_reducible refine LeO.ite ?_ ?_)
      | (with_reducible refine LeO.bind ?_ (fun _ => ?_))
      | exact ih0 _ _ _
      | exact ih1 _ _
      | exact palinoderef1_IsEdge.mono _ _ _
      | exact LeO.none _
      | refine LeO.ite ?_ ?_
      | refine LeO.bind ?_ (fun _ => ?_)
theorem palinoderef1_Back.mono : ∀ a0 a1 k, LeO (palinoderef1_Back.f k a0 a1) (palinoderef1_Back.f (k + 1) a0 a1) := by
  intro a0 a1 k
  obtain ⟨ih0, ih1⟩ := palinoderef1_Back.mono_l k
  unfold palinoderef1_Back.f
  repeat' first
      | (with_reducible exact ih0 _ _ _)
      | (with_reducible exact ih1 _ _)
      | (with_reducible exact palinoderef1_IsEdge.mono _ _ _)
      | (with_reducible exact LeO.refl _)
      | (with_reducible exact LeO.none _)
      | (with_reducible refine LeO.ite ?_ ?_)
      | (with_reducible refine LeO.bind ?_ (fun _ => ?_))
      | exact ih0 _ _ _
      | exact ih1 _ _
      | exact palinoderef1_IsEdge.mono _ _ _
      | exact LeO.none _
      | refine LeO.ite ?_ ?_
      | refine LeO.bind ?_ (fun _ => ?_)
set_option maxHeartbeats 8000000 in
set_option maxRecDepth 100000 in
theorem palinoderef1_Back.calls (k : Nat) (a0 : ByteArray) (a1 : Int) (r : Int) (w : World) (h : palinoderef1_Back.f k a0 a1 = some r) :
  Calls Try.prog 30 #[.string a0, .int .i64 a1] w fun e w' => e = .returned (.int .i64 r) ∧ Drawn0 w w' := by
 have H : (if a1 < 1 then (palinoderef1_Back.j0 k a0 a1 true) else (if a1 > (a0.size : Int) then (palinoderef1_Back.j0 k a0 a1 true) else ((palinoderef1_IsEdge.f k a0 a1).bind fun t147 => (palinoderef1_Back.j0 k a0 a1 (!t147))))) = some r := h
 clear h
 have HC3 := Aside0.mk H
 clear H
 go_enter Try.func30, Try.ntmps30
 go_upto_region 1 with (fail)
 go_cut [19] (fun v19 wc => ∃ (kq : Nat) (x19_2 : Bool), v19 = .bool x19_2 ∧ Aside0 (palinoderef1_Back.j0 kq a0 a1 x19_2 = some r) ∧ Aside0 (kq ≤ k) ∧ Drawn0 w wc)
 case first =>
  have H := HC3.out
  clear HC3
  by_cases c4 : a1 < 1
  ·rw [if_pos c4] at H
   have c4b0 : decide (a1 < 1) = true := decide_eq_true c4
   clear c4
   (first | rw [c4b0] | (simp only [i64_w, i32_w]; rw [c4b0]) | skip)
   have H' := Aside0.mk H
   clear H
   go_wp2
   go_meet
   case rel => exact ⟨_, (true), (by first | rfl | (simp; done) | (simp [*]; done)), H', ⟨by first | omega | exact Nat.le_refl _⟩, by repeat (first | exact Drawn0.refl _ | apply Drawn0.step)⟩
  ·rw [if_neg c4] at H
   have c4b0 : decide (a1 < 1) = false := decide_eq_false c4
   clear c4
   (first | rw [c4b0] | (simp only [i64_w, i32_w]; rw [c4b0]) | skip)
   by_cases c5 : a1 > (a0.size : Int)
   ·rw [if_pos c5] at H
    have c5b0 : decide ((a0.size : Int) < a1) = true := decide_eq_true c5
    clear c5
    have H' := Aside0.mk H
    clear H
    go_wp2
    go_meet
    case rel => exact ⟨_, (true), (by first | rfl | (simp; done) | (simp [*]; done)), H', ⟨by first | omega | exact Nat.le_refl _⟩, by repeat (first | exact Drawn0.refl _ | apply Drawn0.step)⟩
   ·rw [if_neg c5] at H
    have c5b0 : decide ((a0.size : Int) < a1) = false := decide_eq_false c5
    clear c5
    replace H := Option.bind_eq_some_iff.mp H
    obtain ⟨t147, A60, H⟩ := H
    replace H : (palinoderef1_Back.j0 k a0 a1 (!t147)) = some r := H
    have A6 := Aside0.mk A60
    clear A60
    have H' := Aside0.mk H
    clear H
    go_wp2_with (first | (go_at_call 29; (with_reducible refine (palinoderef1_IsEdge.calls k a0 a1 t147 _ A6.out).mono ?_); rintro e w' ⟨rfl, ⟨nd, rfl⟩⟩))
    go_meet
    case rel => exact ⟨_, (!t147), (by first | rfl | (simp; done) | (simp [*]; done)), H', ⟨by first | omega | exact Nat.le_refl _⟩, by repeat (first | exact Drawn0.refl _ | apply Drawn0.step)⟩
 case rest =>
  clear HC3
  try clear p2
  try clear c3
  try clear c4
  try clear c4b0
  try clear c5
  try clear c5b0
  obtain ⟨kq, x19_2, rfl, HA, HJ2, ⟨mc2, rfl⟩⟩ := hcut
  cases kq with
  | zero => exact absurd HA.out (by simp [palinoderef1_Back.j0])
  | succ kj2 =>
   have H := HA.out
   clear HA
   simp only [palinoderef1_Back.j0] at H
   by_cases c7 : x19_2 = true
   ·subst c7
    have H1 : (some a1) = some r := by rw [if_pos rfl] at H; exact H
    clear H
    have H := H1
    clear H1
    obtain rfl := Option.some.inj H
    go_wp2
    go_ret
    exact ⟨by first | rfl | (simp; done) | (simp [*]; done), by repeat (first | exact Drawn0.refl _ | apply Drawn0.step)⟩
   ·replace c7 := Bool.eq_false_iff.mpr c7
    subst c7
    have H1 : (palinoderef1_Back.l0 kj2 a0 (wrap64 (a1 - 1))) = some r := by rw [if_neg (show ¬ (false = true) by decide)] at H; exact H
    clear H
    have H := H1
    clear H1
    have H' := Aside0.mk H
    clear H
    go_wp2
    go_loopg [5] kj2 (fun kq v5 w' => ∃ (x5_2 : Int), v5 = .int .i64 x5_2 ∧ Aside0 (palinoderef1_Back.l0 kq a0 x5_2 = some r) ∧ Aside0 (kq ≤ kj2) ∧ Drawn0 w w')
    case atStart => exact ⟨(wrap64 (a1 - 1)), (by first | rfl | (simp; done) | (simp [*]; done)), H', ⟨Nat.le_refl _⟩, by repeat (first | exact Drawn0.refl _ | apply Drawn0.step)⟩
    case round =>
     clear H'
     try clear c2
     try clear p2
     try clear c3
     try clear c4
     try clear c4b0
     try clear c5
     try clear c5b0
     try clear p6
     try clear c7
     try clear p2
     obtain ⟨x5_2, rfl, HA, HK2, ⟨m2, rfl⟩⟩ := hrel
     cases gk with
     | zero => exact absurd HA.out (by simp [palinoderef1_Back.l0])
     | succ k2 =>
      have H := HA.out
      clear HA
      simp only [palinoderef1_Back.l0] at H
      by_cases c8 : x5_2 > 0
      ·rw [if_pos c8] at H
       have c8b0 : decide (0 < x5_2) = true := decide_eq_true c8
       clear c8
       by_cases c9 : 0 ≤ x5_2
       ·rw [if_pos c9] at H
        have c9b0 : decide (0 ≤ x5_2) = true := decide_eq_true c9
        clear c9
        by_cases c10 : x5_2 < (a0.size : Int)
        ·rw [if_pos c10] at H
         have c10b0 : decide (x5_2 < (a0.size : Int)) = true := decide_eq_true c10
         clear c10
         by_cases c12 : ((wrap64 (bt a0 x5_2)) / 64) = 2
         ·rw [if_pos c12] at H
          have c12b0 : (((wrap64 (bt a0 x5_2)) / 64) == 2) = true := beq_iff_eq.mpr c12
          have c12b1 : (((wrap64 (bt a0 x5_2)) / 64) != 2) = false := bne_eq_false_iff_eq.mpr c12
          clear c12
          have H' := Aside0.mk H
          clear H
          have p11 : 0 ≤ (x5_2 : Int) := of_decide_eq_true (by first | (with_reducible assumption) | assumption)
          have q11 : x5_2 < (a0.size : Int) := of_decide_eq_true (by first | (with_reducible assumption) | assumption)
          have hx11 := bt_at a0 x5_2
          replace p11 := eq_true p11
          replace q11 := eq_true q11
          go_wp2
          go_roundg k2
          case measure => have := HJ2.out; have := HK2.out; omega
          case rel => exact ⟨(wrap64 (x5_2 - 1)), (by first | rfl | (simp; done) | (simp [*]; done)), H', ⟨by have := HJ2.out; have := HK2.out; omega⟩, by repeat (first | exact Drawn0.refl _ | apply Drawn0.step)⟩
         ·rw [if_neg c12] at H
          have c12b0 : (((wrap64 (bt a0 x5_2)) / 64) == 2) = false := beq_eq_false_iff_ne.mpr c12
          have c12b1 : (((wrap64 (bt a0 x5_2)) / 64) != 2) = true := bne_iff_ne.mpr c12
          obtain rfl := Option.some.inj H
          have p11 : 0 ≤ (x5_2 : Int) := of_decide_eq_true (by first | (with_reducible assumption) | assumption)
          have q11 : x5_2 < (a0.size : Int) := of_decide_eq_true (by first | (with_reducible assumption) | assumption)
          have hx11 := bt_at a0 x5_2
          replace p11 := eq_true p11
          replace q11 := eq_true q11
          go_wp2
          go_ret
          exact ⟨by first | rfl | (simp; done) | (simp [*]; done), by repeat (first | exact Drawn0.refl _ | apply Drawn0.step)⟩
        ·rw [if_neg c10] at H
         exact absurd H (by simp)
       ·rw [if_neg c9] at H
        exact absurd H (by simp)
      ·rw [if_neg c8] at H
       have c8b0 : decide (0 < x5_2) = false := decide_eq_false c8
       clear c8
       obtain rfl := Option.some.inj H
       go_wp2
       go_ret
       exact ⟨by first | rfl | (simp; done) | (simp [*]; done), by repeat (first | exact Drawn0.refl _ | apply Drawn0.step)⟩

end Go.Proofs.Ytgepcdpnjinadaa.PX
end

section
-- MACHINE SIDE, written by wip/drive.py (this session's driver over the kit's print) for this claim. Lean checks it.
namespace Go.Proofs.Ytgepcdpnjinadaa.PX
open Go.RowKit Go.Proofs.YtgepcdpnjinadaaW.PrintWords Go.Proofs.YtgepcdpnjinadaaW.PrintLast Go.Proofs.YtgepcdpnjinadaaW.PrintMore
attribute [local go_sem] max2_int min2_int max_two min_two max_three min_three max_four min_four   -- for this text's walks alone
set_option linter.unusedVariables false
set_option linter.unusedSimpArgs false

/-! ### palinoderef1_Make: function 31 -/
mutual
def palinoderef1_Make.j0 : Nat → Int → Bool → Option (ByteArray)
  | 0, _, _ => none
  | k + 1, x0, x3 => if x3 = true then (some (strOfNums (([(x0) % 256] : List Int)))) else (if x0 ≥ 128 then (palinoderef1_Make.j1 k x0 (decide (x0 < 2048))) else (palinoderef1_Make.j1 k x0 false))
def palinoderef1_Make.j1 : Nat → Int → Bool → Option (ByteArray)
  | 0, _, _ => none
  | k + 1, x0, x14 => if x14 = true then (some (strOfNums (([(Go.bits .or .i64 192 (x0 / 64)) % 256, (Go.bits .or .i64 128 (Go.bits .and .i64 x0 63)) % 256] : List Int)))) else (if x0 ≥ 2048 then (if x0 < 65536 then (if x0 < 55296 then (palinoderef1_Make.j2 k x0 true) else (palinoderef1_Make.j2 k x0 (decide (x0 ≥ 57344)))) else (palinoderef1_Make.j2 k x0 false)) else (palinoderef1_Make.j2 k x0 false))
def palinoderef1_Make.j2 : Nat → Int → Bool → Option (ByteArray)
  | 0, _, _ => none
  | k + 1, x0, x31 => if x31 = true then (some (strOfNums (([(Go.bits .or .i64 224 (x0 / 4096)) % 256, (Go.bits .or .i64 128 (Go.bits .and .i64 (x0 / 64) 63)) % 256, (Go.bits .or .i64 128 (Go.bits .and .i64 x0 63)) % 256] : List Int)))) else (if x0 ≥ 65536 then (if x0 ≤ 1114111 then (some (strOfNums (([(Go.bits .or .i64 240 (x0 / 262144)) % 256, (Go.bits .or .i64 128 (Go.bits .and .i64 (x0 / 4096) 63)) % 256, (Go.bits .or .i64 128 (Go.bits .and .i64 (x0 / 64) 63)) % 256, (Go.bits .or .i64 128 (Go.bits .and .i64 x0 63)) % 256] : List Int)))) else (some (⟨#[239, 191, 189]⟩ : ByteArray))) else (some (⟨#[239, 191, 189]⟩ : ByteArray)))
end
def palinoderef1_Make.f (k : Nat) (a0 : Int) : Option (ByteArray) := if a0 ≥ 0 then (palinoderef1_Make.j0 k a0 (decide (a0 < 128))) else (palinoderef1_Make.j0 k a0 false)
theorem palinoderef1_Make.mono_l : ∀ k, (∀ y0 y1, LeO (palinoderef1_Make.j0 k y0 y1) (palinoderef1_Make.j0 (k + 1) y0 y1)) ∧ (∀ y0 y1, LeO (palinoderef1_Make.j1 k y0 y1) (palinoderef1_Make.j1 (k + 1) y0 y1)) ∧ (∀ y0 y1, LeO (palinoderef1_Make.j2 k y0 y1) (palinoderef1_Make.j2 (k + 1) y0 y1))
  | 0 => ⟨fun _ _ r h => by simp [palinoderef1_Make.j0] at h, fun _ _ r h => by simp [palinoderef1_Make.j1] at h, fun _ _ r h => by simp [palinoderef1_Make.j2] at h⟩
  | k + 1 => by
    obtain ⟨ih0, ih1, ih2⟩ := palinoderef1_Make.mono_l k
    refine ⟨?_, ?_, ?_⟩
    · intro y0 y1
      unfold palinoderef1_Make.j0
      repeat' first
      | (with_reducible exact ih0 _ _)
      | (with_reducible exact ih1 _ _)
      | (with_reducible exact ih2 _ _)
      | (with_reducible exact LeO.refl _)
      | (with_reducible exact LeO.none _)
      | (with_reducible refine LeO.ite ?_ ?_)
      | (with_reducible refine LeO.bind ?_ (fun _ => ?_))
      | exact ih0 _ _
      | exact ih1 _ _
      | exact ih2 _ _
      | exact LeO.none _
      | refine LeO.ite ?_ ?_
      | refine LeO.bind ?_ (fun _ => ?_)
    · intro y0 y1
      unfold palinoderef1_Make.j1
      repeat' first
      | (with_reducible exact ih0 _ _)
      | (with_reducible exact ih1 _ _)
      | (with_reducible exact ih2 _ _)
      | (with_reducible exact LeO.refl _)
      | (with_reducible exact LeO.none _)
      | (with_reducible refine LeO.ite ?_ ?_)
      | (with_reducible refine LeO.bind ?_ (fun _ => ?_))
      | exact ih0 _ _
      | exact ih1 _ _
      | exact ih2 _ _
      | exact LeO.none _
      | refine LeO.ite ?_ ?_
      | refine LeO.bind ?_ (fun _ => ?_)
    · intro y0 y1
      unfold palinoderef1_Make.j2
      repeat' first
      | (with_reducible exact ih0 _ _)
      | (with_reducible exact ih1 _ _)
      | (with_reducible exact ih2 _ _)
      | (with_reducible exact LeO.refl _)
      | (with_reducible exact LeO.none _)
      | (with_reducible refine LeO.ite ?_ ?_)
      | (with_reducible refine LeO.bind ?_ (fun _ => ?_))
      | exact ih0 _ _
      | exact ih1 _ _
      | exact ih2 _ _
      | exact LeO.none _
      | refine LeO.ite ?_ ?_
      | refine LeO.bind ?_ (fun _ => ?_)
theorem palinoderef1_Make.mono : ∀ a0 k, LeO (palinoderef1_Make.f k a0) (palinoderef1_Make.f (k + 1) a0) := by
  intro a0 k
  obtain ⟨ih0, ih1, ih2⟩ := palinoderef1_Make.mono_l k
  unfold palinoderef1_Make.f
  repeat' first
      | (with_reducible exact ih0 _ _)
      | (with_reducible exact ih1 _ _)
      | (with_reducible exact ih2 _ _)
      | (with_reducible exact LeO.refl _)
      | (with_reducible exact LeO.none _)
      | (with_reducible refine LeO.ite ?_ ?_)
      | (with_reducible refine LeO.bind ?_ (fun _ => ?_))
      | exact ih0 _ _
      | exact ih1 _ _
      | exact ih2 _ _
      | exact LeO.none _
      | refine LeO.ite ?_ ?_
      | refine LeO.bind ?_ (fun _ => ?_)
set_option maxHeartbeats 8000000 in
set_option maxRecDepth 100000 in
theorem palinoderef1_Make.calls (k : Nat) (a0 : Int) (r : ByteArray) (w : World) (h : palinoderef1_Make.f k a0 = some r) :
  Calls Try.prog 31 #[.int .i64 a0] w fun e w' => e = .returned (.string r) ∧ Below w.heap.size w w' := by
 have HB := Aside0.mk (Below.refl w.heap.size w)
 have H : (if a0 ≥ 0 then (palinoderef1_Make.j0 k a0 (decide (a0 < 128))) else (palinoderef1_Make.j0 k a0 false)) = some r := h
 clear h
 have HC2 := Aside0.mk H
 clear H
 go_enter Try.func31, Try.ntmps31
 go_upto_region 1 with (fail)
 go_cut [3] (fun v3 wc => ∃ (kq : Nat) (x3_1 : Bool), v3 = .bool x3_1 ∧ Aside0 (palinoderef1_Make.j0 kq a0 x3_1 = some r) ∧ Aside0 (kq ≤ k) ∧ Aside0 (Below w.heap.size w wc))
 case first =>
  have H := HC2.out
  clear HC2
  by_cases c3 : a0 ≥ 0
  ·rw [if_pos c3] at H
   have c3b0 : decide (0 ≤ a0) = true := decide_eq_true c3
   clear c3
   (first | rw [c3b0] | (simp only [i64_w, i32_w]; rw [c3b0]) | skip)
   have H' := Aside0.mk H
   clear H
   go_wp2
   go_meet
   case rel => exact ⟨_, (decide (a0 < 128)), (by first | rfl | (simp; done) | (simp [*]; done)), H', ⟨by first | omega | exact Nat.le_refl _⟩, ⟨by repeat (first | (with_reducible first | exact HB.out | apply below_alloc | apply pw_below_drewN | apply below_drew1) | exact HB.out)⟩⟩
  ·rw [if_neg c3] at H
   have c3b0 : decide (0 ≤ a0) = false := decide_eq_false c3
   clear c3
   (first | rw [c3b0] | (simp only [i64_w, i32_w]; rw [c3b0]) | skip)
   have H' := Aside0.mk H
   clear H
   go_wp2
   go_meet
   case rel => exact ⟨_, (false), (by first | rfl | (simp; done) | (simp [*]; done)), H', ⟨by first | omega | exact Nat.le_refl _⟩, ⟨by repeat (first | (with_reducible first | exact HB.out | apply below_alloc | apply pw_below_drewN | apply below_drew1) | exact HB.out)⟩⟩
 case rest =>
  clear HC2
  try clear p2
  try clear c3
  try clear c3b0
  obtain ⟨kq, x3_1, rfl, HA, HJ1, HB⟩ := hcut
  cases kq with
  | zero => exact absurd HA.out (by simp [palinoderef1_Make.j0])
  | succ kj1 =>
   have H := HA.out
   clear HA
   simp only [palinoderef1_Make.j0] at H
   by_cases c4 : x3_1 = true
   ·subst c4
    have H1 : (some (strOfNums (([(a0) % 256] : List Int)))) = some r := by rw [if_pos rfl] at H; exact H
    clear H
    have H := H1
    clear H1
    obtain ⟨y168, hy168⟩ : ∃ y_ : List Int, y_ = (([(a0) % 256] : List Int)) := ⟨_, rfl⟩
    replace H : (some (strOfNums y168)) = some r := by first | (rw [hy168]; with_reducible exact H) | (have H2_ := (Option.bind_some _ _).symm.trans H; rw [hy168]; with_reducible exact H2_) | (have H2_ := (Option.bind_some _ _).symm.trans H; with_reducible exact H2_) | with_reducible exact H | (rw [hy168]; exact H) | exact H
    have Ny168 := Aside0.mk hy168
    clear hy168
    obtain rfl := Option.some.inj H
    go_wp2_with (first | ((with_reducible refine gate_dst (N := 12) rfl ?_); refine Kd.R_lit (Kd.int .u8) _ 5 ?hg (N := 12) ?hd (xs := ([(a0) % 256] : List Int)) (inner := [.int .u8 ((a0) % 256)]) (ok := fun _ => True) (okp := fun _ => True) ?hr ?hp (fun _ hk => hk) trivial (Below.refl _ _) (Nat.le_refl _) (by simp) ?_; (case hd => rfl); (case hg => rfl); (case hr => first | (go_simp; done) | (go_simp; rfl)); (case hp => exact (Reps.one (show Kd.M (Kd.int .u8) _ _ _ ((a0) % 256) [.int .u8 ((a0) % 256)] from rfl) (Reps.none _ _))); intro v169 w5 ho6 hb hg_ hnew_; clear hg_ hnew_; (first | rw [← Ny168.out] at ho6 | (simp only [Int.reduceToNat] at ho6; rw [← Ny168.out] at ho6)); have n0_ := Aside0.mk (Kd.R_lower ho6 (below_size (by repeat (first | (with_reducible first | exact HB.out | apply below_alloc | apply pw_below_drewN | apply below_drew1) | exact HB.out)))); have n1_ := Aside0.mk (below_step (by repeat (first | (with_reducible first | exact HB.out | apply below_alloc | apply pw_below_drewN | apply below_drew1) | exact HB.out)) hb); clear HB; have HO170 := n0_; have HB := n1_; clear n0_ n1_; clear hb ho6; have hcv7 := own_string (P := Try.prog) Try.underlying39 Try.underlying5 Try.underlying9 (Kd.own_of_R HO170.out)))
    go_ret
    exact ⟨by first | rfl | (simp [errW_none, errW_some] <;> rfl) | (simp [*, errW_none, errW_some] <;> rfl), by repeat (first | (with_reducible first | exact HB.out | apply below_alloc | apply pw_below_drewN | apply below_drew1) | exact HB.out)⟩
   ·replace c4 := Bool.eq_false_iff.mpr c4
    subst c4
    have H1 : (if a0 ≥ 128 then (palinoderef1_Make.j1 kj1 a0 (decide (a0 < 2048))) else (palinoderef1_Make.j1 kj1 a0 false)) = some r := by rw [if_neg (show ¬ (false = true) by decide)] at H; exact H
    clear H
    have H := H1
    clear H1
    have HC8 := Aside0.mk H
    clear H
    go_upto_region 3 with (fail)
    go_cut [14] (fun v14 wc => ∃ (kq : Nat) (x14_7 : Bool), v14 = .bool x14_7 ∧ Aside0 (palinoderef1_Make.j1 kq a0 x14_7 = some r) ∧ Aside0 (kq ≤ kj1) ∧ Aside0 (Below w.heap.size w wc))
    case first =>
     have H := HC8.out
     clear HC8
     by_cases c9 : a0 ≥ 128
     ·rw [if_pos c9] at H
      have c9b0 : decide (128 ≤ a0) = true := decide_eq_true c9
      clear c9
      (first | rw [c9b0] | (simp only [i64_w, i32_w]; rw [c9b0]) | skip)
      have H' := Aside0.mk H
      clear H
      go_wp2
      go_meet
      case rel => exact ⟨_, (decide (a0 < 2048)), (by first | rfl | (simp; done) | (simp [*]; done)), H', ⟨by have := HJ1.out; first | omega | exact Nat.le_refl _⟩, ⟨by repeat (first | (with_reducible first | exact HB.out | apply below_alloc | apply pw_below_drewN | apply below_drew1) | exact HB.out)⟩⟩
     ·rw [if_neg c9] at H
      have c9b0 : decide (128 ≤ a0) = false := decide_eq_false c9
      clear c9
      (first | rw [c9b0] | (simp only [i64_w, i32_w]; rw [c9b0]) | skip)
      have H' := Aside0.mk H
      clear H
      go_wp2
      go_meet
      case rel => exact ⟨_, (false), (by first | rfl | (simp; done) | (simp [*]; done)), H', ⟨by have := HJ1.out; first | omega | exact Nat.le_refl _⟩, ⟨by repeat (first | (with_reducible first | exact HB.out | apply below_alloc | apply pw_below_drewN | apply below_drew1) | exact HB.out)⟩⟩
    case rest =>
     clear HC8
     try clear p2
     try clear c3
     try clear c3b0
     try clear c4
     try clear hcv7
     try clear c9
     try clear c9b0
     try clear p2
     obtain ⟨kq, x14_7, rfl, HA, HJ7, HB⟩ := hcut
     cases kq with
     | zero => exact absurd HA.out (by simp [palinoderef1_Make.j1])
     | succ kj7 =>
      have H := HA.out
      clear HA
      simp only [palinoderef1_Make.j1] at H
      by_cases c10 : x14_7 = true
      ·subst c10
       have H1 : (some (strOfNums (([(Go.bits .or .i64 192 (a0 / 64)) % 256, (Go.bits .or .i64 128 (Go.bits .and .i64 a0 63)) % 256] : List Int)))) = some r := by rw [if_pos rfl] at H; exact H
       clear H
       have H := H1
       clear H1
       obtain ⟨y171, hy171⟩ : ∃ y_ : List Int, y_ = (([(Go.bits .or .i64 192 (a0 / 64)) % 256, (Go.bits .or .i64 128 (Go.bits .and .i64 a0 63)) % 256] : List Int)) := ⟨_, rfl⟩
       replace H : (some (strOfNums y171)) = some r := by first | (rw [hy171]; with_reducible exact H) | (have H2_ := (Option.bind_some _ _).symm.trans H; rw [hy171]; with_reducible exact H2_) | (have H2_ := (Option.bind_some _ _).symm.trans H; with_reducible exact H2_) | with_reducible exact H | (rw [hy171]; exact H) | exact H
       have Ny171 := Aside0.mk hy171
       clear hy171
       obtain rfl := Option.some.inj H
       go_wp2_with (first | ((with_reducible refine gate_dst (N := 29) rfl ?_); refine Kd.R_lit (Kd.int .u8) _ 5 ?hg (N := 29) ?hd (xs := ([(Go.bits .or .i64 192 (a0 / 64)) % 256, (Go.bits .or .i64 128 (Go.bits .and .i64 a0 63)) % 256] : List Int)) (inner := [.int .u8 ((Go.bits .or .i64 192 (a0 / 64)) % 256), .int .u8 ((Go.bits .or .i64 128 (Go.bits .and .i64 a0 63)) % 256)]) (ok := fun _ => True) (okp := fun _ => True) ?hr ?hp (fun _ hk => hk) trivial (Below.refl _ _) (Nat.le_refl _) (by simp) ?_; (case hd => rfl); (case hg => rfl); (case hr => first | (go_simp; done) | (go_simp; rfl)); (case hp => exact (Reps.one (show Kd.M (Kd.int .u8) _ _ _ ((Go.bits .or .i64 192 (a0 / 64)) % 256) [.int .u8 ((Go.bits .or .i64 192 (a0 / 64)) % 256)] from rfl) (Reps.one (show Kd.M (Kd.int .u8) _ _ _ ((Go.bits .or .i64 128 (Go.bits .and .i64 a0 63)) % 256) [.int .u8 ((Go.bits .or .i64 128 (Go.bits .and .i64 a0 63)) % 256)] from rfl) (Reps.none _ _)))); intro v172 w11 ho12 hb hg_ hnew_; clear hg_ hnew_; (first | rw [← Ny171.out] at ho12 | (simp only [Int.reduceToNat] at ho12; rw [← Ny171.out] at ho12)); have n0_ := Aside0.mk (Kd.R_lower ho12 (below_size (by repeat (first | (with_reducible first | exact HB.out | apply below_alloc | apply pw_below_drewN | apply below_drew1) | exact HB.out)))); have n1_ := Aside0.mk (below_step (by repeat (first | (with_reducible first | exact HB.out | apply below_alloc | apply pw_below_drewN | apply below_drew1) | exact HB.out)) hb); clear HB; have HO173 := n0_; have HB := n1_; clear n0_ n1_; clear hb ho12; have hcv13 := own_string (P := Try.prog) Try.underlying39 Try.underlying5 Try.underlying9 (Kd.own_of_R HO173.out)))
       go_ret
       exact ⟨by first | rfl | (simp [errW_none, errW_some] <;> rfl) | (simp [*, errW_none, errW_some] <;> rfl), by repeat (first | (with_reducible first | exact HB.out | apply below_alloc | apply pw_below_drewN | apply below_drew1) | exact HB.out)⟩
      ·replace c10 := Bool.eq_false_iff.mpr c10
       subst c10
       have H1 : (if a0 ≥ 2048 then (if a0 < 65536 then (if a0 < 55296 then (palinoderef1_Make.j2 kj7 a0 true) else (palinoderef1_Make.j2 kj7 a0 (decide (a0 ≥ 57344)))) else (palinoderef1_Make.j2 kj7 a0 false)) else (palinoderef1_Make.j2 kj7 a0 false)) = some r := by rw [if_neg (show ¬ (false = true) by decide)] at H; exact H
       clear H
       have H := H1
       clear H1
       have HC14 := Aside0.mk H
       clear H
       go_upto_region 5 with (fail)
       go_cut [31] (fun v31 wc => ∃ (kq : Nat) (x31_13 : Bool), v31 = .bool x31_13 ∧ Aside0 (palinoderef1_Make.j2 kq a0 x31_13 = some r) ∧ Aside0 (kq ≤ kj7) ∧ Aside0 (Below w.heap.size w wc))
       case first =>
        have H := HC14.out
        clear HC14
        by_cases c15 : a0 ≥ 2048
        ·rw [if_pos c15] at H
         have c15b0 : decide (2048 ≤ a0) = true := decide_eq_true c15
         clear c15
         (first | rw [c15b0] | (simp only [i64_w, i32_w]; rw [c15b0]) | skip)
         by_cases c16 : a0 < 65536
         ·rw [if_pos c16] at H
          have c16b0 : decide (a0 < 65536) = true := decide_eq_true c16
          clear c16
          by_cases c17 : a0 < 55296
          ·rw [if_pos c17] at H
           have c17b0 : decide (a0 < 55296) = true := decide_eq_true c17
           clear c17
           have H' := Aside0.mk H
           clear H
           go_wp2
           go_meet
           case rel => exact ⟨_, (true), (by first | rfl | (simp; done) | (simp [*]; done)), H', ⟨by have := HJ1.out; have := HJ7.out; first | omega | exact Nat.le_refl _⟩, ⟨by repeat (first | (with_reducible first | exact HB.out | apply below_alloc | apply pw_below_drewN | apply below_drew1) | exact HB.out)⟩⟩
          ·rw [if_neg c17] at H
           have c17b0 : decide (a0 < 55296) = false := decide_eq_false c17
           clear c17
           have H' := Aside0.mk H
           clear H
           go_wp2
           go_meet
           case rel => exact ⟨_, (decide (a0 ≥ 57344)), (by first | rfl | (simp; done) | (simp [*]; done)), H', ⟨by have := HJ1.out; have := HJ7.out; first | omega | exact Nat.le_refl _⟩, ⟨by repeat (first | (with_reducible first | exact HB.out | apply below_alloc | apply pw_below_drewN | apply below_drew1) | exact HB.out)⟩⟩
         ·rw [if_neg c16] at H
          have c16b0 : decide (a0 < 65536) = false := decide_eq_false c16
          clear c16
          have H' := Aside0.mk H
          clear H
          go_wp2
          go_meet
          case rel => exact ⟨_, (false), (by first | rfl | (simp; done) | (simp [*]; done)), H', ⟨by have := HJ1.out; have := HJ7.out; first | omega | exact Nat.le_refl _⟩, ⟨by repeat (first | (with_reducible first | exact HB.out | apply below_alloc | apply pw_below_drewN | apply below_drew1) | exact HB.out)⟩⟩
        ·rw [if_neg c15] at H
         have c15b0 : decide (2048 ≤ a0) = false := decide_eq_false c15
         clear c15
         (first | rw [c15b0] | (simp only [i64_w, i32_w]; rw [c15b0]) | skip)
         have H' := Aside0.mk H
         clear H
         go_wp2
         go_meet
         case rel => exact ⟨_, (false), (by first | rfl | (simp; done) | (simp [*]; done)), H', ⟨by have := HJ1.out; have := HJ7.out; first | omega | exact Nat.le_refl _⟩, ⟨by repeat (first | (with_reducible first | exact HB.out | apply below_alloc | apply pw_below_drewN | apply below_drew1) | exact HB.out)⟩⟩
       case rest =>
        clear HC14
        try clear c1
        try clear hcv1
        try clear p2
        try clear c3
        try clear c3b0
        try clear c4
        try clear hcv7
        try clear c9
        try clear c9b0
        try clear c10
        try clear hcv13
        try clear c15
        try clear c15b0
        try clear c16
        try clear c16b0
        try clear c17
        try clear c17b0
        try clear p2
        obtain ⟨kq, x31_13, rfl, HA, HJ13, HB⟩ := hcut
        cases kq with
        | zero => exact absurd HA.out (by simp [palinoderef1_Make.j2])
        | succ kj13 =>
         have H := HA.out
         clear HA
         simp only [palinoderef1_Make.j2] at H
         by_cases c18 : x31_13 = true
         ·subst c18
          have H1 : (some (strOfNums (([(Go.bits .or .i64 224 (a0 / 4096)) % 256, (Go.bits .or .i64 128 (Go.bits .and .i64 (a0 / 64) 63)) % 256, (Go.bits .or .i64 128 (Go.bits .and .i64 a0 63)) % 256] : List Int)))) = some r := by rw [if_pos rfl] at H; exact H
          clear H
          have H := H1
          clear H1
          obtain ⟨y174, hy174⟩ : ∃ y_ : List Int, y_ = (([(Go.bits .or .i64 224 (a0 / 4096)) % 256, (Go.bits .or .i64 128 (Go.bits .and .i64 (a0 / 64) 63)) % 256, (Go.bits .or .i64 128 (Go.bits .and .i64 a0 63)) % 256] : List Int)) := ⟨_, rfl⟩
          replace H : (some (strOfNums y174)) = some r := by first | (rw [hy174]; with_reducible exact H) | (have H2_ := (Option.bind_some _ _).symm.trans H; rw [hy174]; with_reducible exact H2_) | (have H2_ := (Option.bind_some _ _).symm.trans H; with_reducible exact H2_) | with_reducible exact H | (rw [hy174]; exact H) | exact H
          have Ny174 := Aside0.mk hy174
          clear hy174
          obtain rfl := Option.some.inj H
          go_wp2_with (first | ((with_reducible refine gate_dst (N := 59) rfl ?_); refine Kd.R_lit (Kd.int .u8) _ 5 ?hg (N := 59) ?hd (xs := ([(Go.bits .or .i64 224 (a0 / 4096)) % 256, (Go.bits .or .i64 128 (Go.bits .and .i64 (a0 / 64) 63)) % 256, (Go.bits .or .i64 128 (Go.bits .and .i64 a0 63)) % 256] : List Int)) (inner := [.int .u8 ((Go.bits .or .i64 224 (a0 / 4096)) % 256), .int .u8 ((Go.bits .or .i64 128 (Go.bits .and .i64 (a0 / 64) 63)) % 256), .int .u8 ((Go.bits .or .i64 128 (Go.bits .and .i64 a0 63)) % 256)]) (ok := fun _ => True) (okp := fun _ => True) ?hr ?hp (fun _ hk => hk) trivial (Below.refl _ _) (Nat.le_refl _) (by simp) ?_; (case hd => rfl); (case hg => rfl); (case hr => first | (go_simp; done) | (go_simp; rfl)); (case hp => exact (Reps.one (show Kd.M (Kd.int .u8) _ _ _ ((Go.bits .or .i64 224 (a0 / 4096)) % 256) [.int .u8 ((Go.bits .or .i64 224 (a0 / 4096)) % 256)] from rfl) (Reps.one (show Kd.M (Kd.int .u8) _ _ _ ((Go.bits .or .i64 128 (Go.bits .and .i64 (a0 / 64) 63)) % 256) [.int .u8 ((Go.bits .or .i64 128 (Go.bits .and .i64 (a0 / 64) 63)) % 256)] from rfl) (Reps.one (show Kd.M (Kd.int .u8) _ _ _ ((Go.bits .or .i64 128 (Go.bits .and .i64 a0 63)) % 256) [.int .u8 ((Go.bits .or .i64 128 (Go.bits .and .i64 a0 63)) % 256)] from rfl) (Reps.none _ _))))); intro v175 w19 ho20 hb hg_ hnew_; clear hg_ hnew_; (first | rw [← Ny174.out] at ho20 | (simp only [Int.reduceToNat] at ho20; rw [← Ny174.out] at ho20)); have n0_ := Aside0.mk (Kd.R_lower ho20 (below_size (by repeat (first | (with_reducible first | exact HB.out | apply below_alloc | apply pw_below_drewN | apply below_drew1) | exact HB.out)))); have n1_ := Aside0.mk (below_step (by repeat (first | (with_reducible first | exact HB.out | apply below_alloc | apply pw_below_drewN | apply below_drew1) | exact HB.out)) hb); clear HB; have HO176 := n0_; have HB := n1_; clear n0_ n1_; clear hb ho20; have hcv21 := own_string (P := Try.prog) Try.underlying39 Try.underlying5 Try.underlying9 (Kd.own_of_R HO176.out)))
          go_ret
          exact ⟨by first | rfl | (simp [errW_none, errW_some] <;> rfl) | (simp [*, errW_none, errW_some] <;> rfl), by repeat (first | (with_reducible first | exact HB.out | apply below_alloc | apply pw_below_drewN | apply below_drew1) | exact HB.out)⟩
         ·replace c18 := Bool.eq_false_iff.mpr c18
          subst c18
          have H1 : (if a0 ≥ 65536 then (if a0 ≤ 1114111 then (some (strOfNums (([(Go.bits .or .i64 240 (a0 / 262144)) % 256, (Go.bits .or .i64 128 (Go.bits .and .i64 (a0 / 4096) 63)) % 256, (Go.bits .or .i64 128 (Go.bits .and .i64 (a0 / 64) 63)) % 256, (Go.bits .or .i64 128 (Go.bits .and .i64 a0 63)) % 256] : List Int)))) else (some (⟨#[239, 191, 189]⟩ : ByteArray))) else (some (⟨#[239, 191, 189]⟩ : ByteArray))) = some r := by rw [if_neg (show ¬ (false = true) by decide)] at H; exact H
          clear H
          have H := H1
          clear H1
          by_cases c22 : a0 ≥ 65536
          ·rw [if_pos c22] at H
           have c22b0 : decide (65536 ≤ a0) = true := decide_eq_true c22
           clear c22
           by_cases c23 : a0 ≤ 1114111
           ·rw [if_pos c23] at H
            have c23b0 : decide (a0 ≤ 1114111) = true := decide_eq_true c23
            clear c23
            obtain ⟨y177, hy177⟩ : ∃ y_ : List Int, y_ = (([(Go.bits .or .i64 240 (a0 / 262144)) % 256, (Go.bits .or .i64 128 (Go.bits .and .i64 (a0 / 4096) 63)) % 256, (Go.bits .or .i64 128 (Go.bits .and .i64 (a0 / 64) 63)) % 256, (Go.bits .or .i64 128 (Go.bits .and .i64 a0 63)) % 256] : List Int)) := ⟨_, rfl⟩
            replace H : (some (strOfNums y177)) = some r := by first | (rw [hy177]; with_reducible exact H) | (have H2_ := (Option.bind_some _ _).symm.trans H; rw [hy177]; with_reducible exact H2_) | (have H2_ := (Option.bind_some _ _).symm.trans H; with_reducible exact H2_) | with_reducible exact H | (rw [hy177]; exact H) | exact H
            have Ny177 := Aside0.mk hy177
            clear hy177
            obtain rfl := Option.some.inj H
            go_wp2_with (first | ((with_reducible refine gate_dst (N := 86) rfl ?_); refine Kd.R_lit (Kd.int .u8) _ 5 ?hg (N := 86) ?hd (xs := ([(Go.bits .or .i64 240 (a0 / 262144)) % 256, (Go.bits .or .i64 128 (Go.bits .and .i64 (a0 / 4096) 63)) % 256, (Go.bits .or .i64 128 (Go.bits .and .i64 (a0 / 64) 63)) % 256, (Go.bits .or .i64 128 (Go.bits .and .i64 a0 63)) % 256] : List Int)) (inner := [.int .u8 ((Go.bits .or .i64 240 (a0 / 262144)) % 256), .int .u8 ((Go.bits .or .i64 128 (Go.bits .and .i64 (a0 / 4096) 63)) % 256), .int .u8 ((Go.bits .or .i64 128 (Go.bits .and .i64 (a0 / 64) 63)) % 256), .int .u8 ((Go.bits .or .i64 128 (Go.bits .and .i64 a0 63)) % 256)]) (ok := fun _ => True) (okp := fun _ => True) ?hr ?hp (fun _ hk => hk) trivial (Below.refl _ _) (Nat.le_refl _) (by simp) ?_; (case hd => rfl); (case hg => rfl); (case hr => first | (go_simp; done) | (go_simp; rfl)); (case hp => exact (Reps.one (show Kd.M (Kd.int .u8) _ _ _ ((Go.bits .or .i64 240 (a0 / 262144)) % 256) [.int .u8 ((Go.bits .or .i64 240 (a0 / 262144)) % 256)] from rfl) (Reps.one (show Kd.M (Kd.int .u8) _ _ _ ((Go.bits .or .i64 128 (Go.bits .and .i64 (a0 / 4096) 63)) % 256) [.int .u8 ((Go.bits .or .i64 128 (Go.bits .and .i64 (a0 / 4096) 63)) % 256)] from rfl) (Reps.one (show Kd.M (Kd.int .u8) _ _ _ ((Go.bits .or .i64 128 (Go.bits .and .i64 (a0 / 64) 63)) % 256) [.int .u8 ((Go.bits .or .i64 128 (Go.bits .and .i64 (a0 / 64) 63)) % 256)] from rfl) (Reps.one (show Kd.M (Kd.int .u8) _ _ _ ((Go.bits .or .i64 128 (Go.bits .and .i64 a0 63)) % 256) [.int .u8 ((Go.bits .or .i64 128 (Go.bits .and .i64 a0 63)) % 256)] from rfl) (Reps.none _ _)))))); intro v178 w24 ho25 hb hg_ hnew_; clear hg_ hnew_; (first | rw [← Ny177.out] at ho25 | (simp only [Int.reduceToNat] at ho25; rw [← Ny177.out] at ho25)); have n0_ := Aside0.mk (Kd.R_lower ho25 (below_size (by repeat (first | (with_reducible first | exact HB.out | apply below_alloc | apply pw_below_drewN | apply below_drew1) | exact HB.out)))); have n1_ := Aside0.mk (below_step (by repeat (first | (with_reducible first | exact HB.out | apply below_alloc | apply pw_below_drewN | apply below_drew1) | exact HB.out)) hb); clear HB; have HO179 := n0_; have HB := n1_; clear n0_ n1_; clear hb ho25; have hcv26 := own_string (P := Try.prog) Try.underlying39 Try.underlying5 Try.underlying9 (Kd.own_of_R HO179.out)))
            go_ret
            exact ⟨by first | rfl | (simp [errW_none, errW_some] <;> rfl) | (simp [*, errW_none, errW_some] <;> rfl), by repeat (first | (with_reducible first | exact HB.out | apply below_alloc | apply pw_below_drewN | apply below_drew1) | exact HB.out)⟩
           ·rw [if_neg c23] at H
            have c23b0 : decide (a0 ≤ 1114111) = false := decide_eq_false c23
            clear c23
            obtain rfl := Option.some.inj H
            go_wp2
            go_ret
            exact ⟨by first | rfl | (simp [errW_none, errW_some] <;> rfl) | (simp [*, errW_none, errW_some] <;> rfl), by repeat (first | (with_reducible first | exact HB.out | apply below_alloc | apply pw_below_drewN | apply below_drew1) | exact HB.out)⟩
          ·rw [if_neg c22] at H
           have c22b0 : decide (65536 ≤ a0) = false := decide_eq_false c22
           clear c22
           obtain rfl := Option.some.inj H
           go_wp2
           go_ret
           exact ⟨by first | rfl | (simp [errW_none, errW_some] <;> rfl) | (simp [*, errW_none, errW_some] <;> rfl), by repeat (first | (with_reducible first | exact HB.out | apply below_alloc | apply pw_below_drewN | apply below_drew1) | exact HB.out)⟩

end Go.Proofs.Ytgepcdpnjinadaa.PX
end

section
-- MACHINE SIDE, written by wip/drive.py (this session's driver over the kit's print) for this claim. Lean checks it.
namespace Go.Proofs.Ytgepcdpnjinadaa.PX
open Go.RowKit Go.Proofs.YtgepcdpnjinadaaW.PrintWords Go.Proofs.YtgepcdpnjinadaaW.PrintLast Go.Proofs.YtgepcdpnjinadaaW.PrintMore
attribute [local go_sem] max2_int min2_int max_two min_two max_three min_three max_four min_four   -- for this text's walks alone
set_option linter.unusedVariables false
set_option linter.unusedSimpArgs false

theorem eqA44 (d : Nat) (w : World) (x0 y0 : Int) (x1 y1 : Int) (x2 y2 : Int) (x3 y3 : Int) :
    (Op.equalIn (d + 2) 44 (.agg #[.int .i64 x0, .int .i64 x1, .int .i64 x2, .int .i64 x3]) (.agg #[.int .i64 y0, .int .i64 y1, .int .i64 y2, .int .i64 y3])).run Try.prog w = .ok (x0 == y0 && (x1 == y1 && (x2 == y2 && (x3 == y3)))) w := by
  refine eqA_of Try.underlying44 (by kernel_rfl) ?_
  refine eqf_cons (by rfl) (by go_simp; rfl) (by go_simp; rfl) (by go_simp) ?_
  refine eqf_cons (by rfl) (by go_simp; rfl) (by go_simp; rfl) (by go_simp) ?_
  refine eqf_cons (by rfl) (by go_simp; rfl) (by go_simp; rfl) (by go_simp) ?_
  exact eqf_last (by rfl) (by go_simp; rfl) (by go_simp; rfl) (by go_simp)
end Go.Proofs.Ytgepcdpnjinadaa.PX
end

section
-- MACHINE SIDE, written by wip/drive.py (this session's driver over the kit's print) for this claim. Lean checks it.
namespace Go.Proofs.Ytgepcdpnjinadaa.PX
open Go.RowKit Go.Proofs.YtgepcdpnjinadaaW.PrintWords Go.Proofs.YtgepcdpnjinadaaW.PrintLast Go.Proofs.YtgepcdpnjinadaaW.PrintMore
attribute [local go_sem] max2_int min2_int max_two min_two max_three min_three max_four min_four   -- for this text's walks alone
set_option linter.unusedVariables false
set_option linter.unusedSimpArgs false

/-! ### count_Plus: function 40 -/
def count_Plus.f (a0_0 : Int) (a0_1 : Int) (a0_2 : Int) (a0_3 : Int) (a1_0 : Int) (a1_1 : Int) (a1_2 : Int) (a1_3 : Int) : Option (Int × Int × Int × Int) := some (wrap64 (a0_0 + a1_0), wrap64 (a0_1 + a1_1), wrap64 (a0_2 + a1_2), wrap64 (a0_3 + a1_3))
set_option maxHeartbeats 8000000 in
set_option maxRecDepth 100000 in
theorem count_Plus.calls (a0_0 : Int) (a0_1 : Int) (a0_2 : Int) (a0_3 : Int) (a1_0 : Int) (a1_1 : Int) (a1_2 : Int) (a1_3 : Int) (r1 : Int) (r2 : Int) (r3 : Int) (r4 : Int) (w : World) (h : count_Plus.f a0_0 a0_1 a0_2 a0_3 a1_0 a1_1 a1_2 a1_3 = some (r1, r2, r3, r4)) :
  Calls Try.prog 40 #[.agg #[.int .i64 a0_0, .int .i64 a0_1, .int .i64 a0_2, .int .i64 a0_3], .agg #[.int .i64 a1_0, .int .i64 a1_1, .int .i64 a1_2, .int .i64 a1_3]] w fun e w' => e = .returned (.agg #[.int .i64 r1, .int .i64 r2, .int .i64 r3, .int .i64 r4]) ∧ Below w.heap.size w w' := by
 have hu44 := Try.underlying44
 have HB := Aside0.mk (Below.refl w.heap.size w)
 have H : (some (wrap64 (a0_0 + a1_0), wrap64 (a0_1 + a1_1), wrap64 (a0_2 + a1_2), wrap64 (a0_3 + a1_3))) = some (r1, r2, r3, r4) := h
 clear h
 simp only [Option.some.injEq, Prod.mk.injEq] at H
 obtain ⟨rfl, rfl, rfl, rfl⟩ := H
 go_enter Try.func40, Try.ntmps40
 go_wp2_with (first | ((with_reducible refine gate_dst (N := 2) rfl ?_); refine box_event ?hg (N := 2) ?hd (cs := #[.int .i64 a0_0, .int .i64 a0_1, .int .i64 a0_2, .int .i64 a0_3]) (t := 44) ?hr ?_; (case hd => rfl); (case hg => rfl); (case hr => first | (go_simp; done) | (go_simp; rfl)); intro gb221 hg w3 hbox hb; have n0_ := Aside0.mk (below_step (by repeat (first | (with_reducible first | exact HB.out | apply below_alloc | apply pw_below_drewN | apply below_drew1) | exact HB.out)) hb); have n1_ := Aside0.mk (hbox); have n2_ := Aside0.mk ((by rw [hg]; exact (below_size (by repeat (first | (with_reducible first | exact HB.out | apply below_alloc | apply pw_below_drewN | apply below_drew1) | exact HB.out))) : w.heap.size ≤ gb221)); have n3_ := Aside0.mk ((by rw [hg]; exact (below_size (by repeat (first | (with_reducible first | exact HB.out | apply below_alloc | apply pw_below_drewN | apply below_drew1) | exact HB.out))) : w.heap.size ≤ gb221)); clear HB; have HB := n0_; have BK221 := n1_; have GW221 := n2_; have GE221 := n3_; clear n0_ n1_ n2_ n3_; clear hb hbox hg) | ((with_reducible refine gate_dst (N := 3) rfl ?_); refine box_event ?hg (N := 3) ?hd (cs := #[.int .i64 a1_0, .int .i64 a1_1, .int .i64 a1_2, .int .i64 a1_3]) (t := 44) ?hr ?_; (case hd => rfl); (case hg => rfl); (case hr => first | (go_simp; done) | (go_simp; rfl)); intro gb222 hg w4 hbox hb; have n0_ := Aside0.mk (blk_below (g := gb221) (o := .cells #[.int .i64 a0_0, .int .i64 a0_1, .int .i64 a0_2, .int .i64 a0_3] 44 (0, 0)) (by (with_reducible repeat (first | refine blk_drewN ?_ _ | refine blk_drew ?_ | refine blk_alloc ?_ _)); exact BK221.out) hb); have n1_ := Aside0.mk (below_step (by repeat (first | (with_reducible first | exact HB.out | apply below_alloc | apply pw_below_drewN | apply below_drew1 | refine below_set ?_ GE221.out) | exact HB.out)) hb); have n2_ := Aside0.mk (hbox); have n3_ := Aside0.mk ((by rw [hg]; exact (below_size (by repeat (first | (with_reducible first | exact HB.out | apply below_alloc | apply pw_below_drewN | apply below_drew1 | refine below_set ?_ GE221.out) | exact HB.out))) : w.heap.size ≤ gb222)); have n4_ := Aside0.mk ((by rw [hg]; exact (below_size (by repeat (first | (with_reducible first | exact HB.out | apply below_alloc | apply pw_below_drewN | apply below_drew1 | refine below_set ?_ GE221.out) | exact HB.out))) : w.heap.size ≤ gb222)); have n5_ := Aside0.mk ((by rw [hg]; exact Nat.ne_of_lt (blk_lt (g := gb221) (o := .cells #[.int .i64 a0_0, .int .i64 a0_1, .int .i64 a0_2, .int .i64 a0_3] 44 (0, 0)) (by (with_reducible repeat (first | refine blk_drewN ?_ _ | refine blk_drew ?_ | refine blk_alloc ?_ _)); exact BK221.out)) : gb221 ≠ gb222)); have n6_ := Aside0.mk ((by rw [hg]; exact Nat.ne_of_gt (blk_lt (g := gb221) (o := .cells #[.int .i64 a0_0, .int .i64 a0_1, .int .i64 a0_2, .int .i64 a0_3] 44 (0, 0)) (by (with_reducible repeat (first | refine blk_drewN ?_ _ | refine blk_drew ?_ | refine blk_alloc ?_ _)); exact BK221.out)) : gb222 ≠ gb221)); clear BK221; clear HB; have BK221 := n0_; have HB := n1_; have BK222 := n2_; have GW222 := n3_; have GE222 := n4_; have NB221_222 := n5_; have NB222_221 := n6_; clear n0_ n1_ n2_ n3_ n4_ n5_ n6_; clear hb hbox hg) | ((with_reducible refine gate_dst (N := 4) rfl ?_); refine box_event ?hg (N := 4) ?hd (cs := #[.int .i64 0, .int .i64 0, .int .i64 0, .int .i64 0]) (t := 44) ?hr ?_; (case hd => rfl); (case hg => rfl); (case hr => first | (go_simp; done) | (go_simp; rfl)); intro gb223 hg w5 hbox hb; have n0_ := Aside0.mk (blk_below (g := gb221) (o := .cells #[.int .i64 a0_0, .int .i64 a0_1, .int .i64 a0_2, .int .i64 a0_3] 44 (0, 0)) (by (with_reducible repeat (first | refine blk_drewN ?_ _ | refine blk_drew ?_ | refine blk_alloc ?_ _)); exact BK221.out) hb); have n1_ := Aside0.mk (blk_below (g := gb222) (o := .cells #[.int .i64 a1_0, .int .i64 a1_1, .int .i64 a1_2, .int .i64 a1_3] 44 (0, 0)) (by (with_reducible repeat (first | refine blk_drewN ?_ _ | refine blk_drew ?_ | refine blk_alloc ?_ _)); exact BK222.out) hb); have n2_ := Aside0.mk (below_step (by repeat (first | (with_reducible first | exact HB.out | apply below_alloc | apply pw_below_drewN | apply below_drew1 | refine below_set ?_ GE221.out | refine below_set ?_ GE222.out) | exact HB.out)) hb); have n3_ := Aside0.mk (hbox); have n4_ := Aside0.mk ((by rw [hg]; exact (below_size (by repeat (first | (with_reducible first | exact HB.out | apply below_alloc | apply pw_below_drewN | apply below_drew1 | refine below_set ?_ GE221.out | refine below_set ?_ GE222.out) | exact HB.out))) : w.heap.size ≤ gb223)); have n5_ := Aside0.mk ((by rw [hg]; exact (below_size (by repeat (first | (with_reducible first | exact HB.out | apply below_alloc | apply pw_below_drewN | apply below_drew1 | refine below_set ?_ GE221.out | refine below_set ?_ GE222.out) | exact HB.out))) : w.heap.size ≤ gb223)); have n6_ := Aside0.mk ((by rw [hg]; exact Nat.ne_of_lt (blk_lt (g := gb221) (o := .cells #[.int .i64 a0_0, .int .i64 a0_1, .int .i64 a0_2, .int .i64 a0_3] 44 (0, 0)) (by (with_reducible repeat (first | refine blk_drewN ?_ _ | refine blk_drew ?_ | refine blk_alloc ?_ _)); exact BK221.out)) : gb221 ≠ gb223)); have n7_ := Aside0.mk ((by rw [hg]; exact Nat.ne_of_gt (blk_lt (g := gb221) (o := .cells #[.int .i64 a0_0, .int .i64 a0_1, .int .i64 a0_2, .int .i64 a0_3] 44 (0, 0)) (by (with_reducible repeat (first | refine blk_drewN ?_ _ | refine blk_drew ?_ | refine blk_alloc ?_ _)); exact BK221.out)) : gb223 ≠ gb221)); have n8_ := Aside0.mk ((by rw [hg]; exact Nat.ne_of_lt (blk_lt (g := gb222) (o := .cells #[.int .i64 a1_0, .int .i64 a1_1, .int .i64 a1_2, .int .i64 a1_3] 44 (0, 0)) (by (with_reducible repeat (first | refine blk_drewN ?_ _ | refine blk_drew ?_ | refine blk_alloc ?_ _)); exact BK222.out)) : gb222 ≠ gb223)); have n9_ := Aside0.mk ((by rw [hg]; exact Nat.ne_of_gt (blk_lt (g := gb222) (o := .cells #[.int .i64 a1_0, .int .i64 a1_1, .int .i64 a1_2, .int .i64 a1_3] 44 (0, 0)) (by (with_reducible repeat (first | refine blk_drewN ?_ _ | refine blk_drew ?_ | refine blk_alloc ?_ _)); exact BK222.out)) : gb223 ≠ gb222)); clear BK221; clear BK222; clear HB; have BK221 := n0_; have BK222 := n1_; have HB := n2_; have BK223 := n3_; have GW223 := n4_; have GE223 := n5_; have NB221_223 := n6_; have NB223_221 := n7_; have NB222_223 := n8_; have NB223_222 := n9_; clear n0_ n1_ n2_ n3_ n4_ n5_ n6_ n7_ n8_ n9_; clear hb hbox hg; have hnb6 := NB221_222.out; have hnc6 := NB222_221.out; have hnb7 := NB221_223.out; have hnc7 := NB223_221.out; have hcz8_0 : w5.cell? ⟨gb221, 0, none⟩ = some (.int .i64 a0_0) := (blk_cell BK221.out 0).trans rfl; have hcz8_1 : w5.cell? ⟨gb221, 1, none⟩ = some (.int .i64 a0_1) := (blk_cell BK221.out 1).trans rfl; have hcz8_2 : w5.cell? ⟨gb221, 2, none⟩ = some (.int .i64 a0_2) := (blk_cell BK221.out 2).trans rfl; have hcz8_3 : w5.cell? ⟨gb221, 3, none⟩ = some (.int .i64 a0_3) := (blk_cell BK221.out 3).trans rfl; have hfz8_0 := blk_frozen BK221.out 0; have hfz8_1 := blk_frozen BK221.out 1; have hfz8_2 := blk_frozen BK221.out 2; have hfz8_3 := blk_frozen BK221.out 3; have hnb9 := NB222_223.out; have hnc9 := NB223_222.out; have hcz10_0 : w5.cell? ⟨gb222, 0, none⟩ = some (.int .i64 a1_0) := (blk_cell BK222.out 0).trans rfl; have hcz10_1 : w5.cell? ⟨gb222, 1, none⟩ = some (.int .i64 a1_1) := (blk_cell BK222.out 1).trans rfl; have hcz10_2 : w5.cell? ⟨gb222, 2, none⟩ = some (.int .i64 a1_2) := (blk_cell BK222.out 2).trans rfl; have hcz10_3 : w5.cell? ⟨gb222, 3, none⟩ = some (.int .i64 a1_3) := (blk_cell BK222.out 3).trans rfl; have hfz10_0 := blk_frozen BK222.out 0; have hfz10_1 := blk_frozen BK222.out 1; have hfz10_2 := blk_frozen BK222.out 2; have hfz10_3 := blk_frozen BK222.out 3; have hcz11_0 : w5.cell? ⟨gb223, 0, none⟩ = some (.int .i64 0) := (blk_cell BK223.out 0).trans rfl; have hcz11_1 : w5.cell? ⟨gb223, 1, none⟩ = some (.int .i64 0) := (blk_cell BK223.out 1).trans rfl; have hcz11_2 : w5.cell? ⟨gb223, 2, none⟩ = some (.int .i64 0) := (blk_cell BK223.out 2).trans rfl; have hcz11_3 : w5.cell? ⟨gb223, 3, none⟩ = some (.int .i64 0) := (blk_cell BK223.out 3).trans rfl; have hfz11_0 := blk_frozen BK223.out 0; have hfz11_1 := blk_frozen BK223.out 1; have hfz11_2 := blk_frozen BK223.out 2; have hfz11_3 := blk_frozen BK223.out 3))
 refine bodyPost_ret (results_cell_row rfl _ _ gb223 44 #[.int .i64 (wrap64 (a0_0 + a1_0)), .int .i64 (wrap64 (a0_1 + a1_1)), .int .i64 (wrap64 (a0_2 + a1_2)), .int .i64 (wrap64 (a0_3 + a1_3))] (0, 0) _ rfl (by (with_reducible repeat (first | refine blk_drewN ?_ _ | refine blk_drew ?_ | refine blk_alloc ?_ _)); refine blk_put (cs := #[.int .i64 (wrap64 (a0_0 + a1_0)), .int .i64 (wrap64 (a0_1 + a1_1)), .int .i64 (wrap64 (a0_2 + a1_2)), .int .i64 0]) ?_ 3 _ rfl; (with_reducible repeat (first | refine blk_drewN ?_ _ | refine blk_drew ?_ | refine blk_alloc ?_ _)); refine blk_put (cs := #[.int .i64 (wrap64 (a0_0 + a1_0)), .int .i64 (wrap64 (a0_1 + a1_1)), .int .i64 0, .int .i64 0]) ?_ 2 _ rfl; (with_reducible repeat (first | refine blk_drewN ?_ _ | refine blk_drew ?_ | refine blk_alloc ?_ _)); refine blk_put (cs := #[.int .i64 (wrap64 (a0_0 + a1_0)), .int .i64 0, .int .i64 0, .int .i64 0]) ?_ 1 _ rfl; (with_reducible repeat (first | refine blk_drewN ?_ _ | refine blk_drew ?_ | refine blk_alloc ?_ _)); refine blk_put (cs := #[.int .i64 0, .int .i64 0, .int .i64 0, .int .i64 0]) ?_ 0 _ rfl; (with_reducible repeat (first | refine blk_drewN ?_ _ | refine blk_drew ?_ | refine blk_alloc ?_ _)); exact BK223.out) Try.underlying44 rfl (by kernel_rfl)) rfl ?_
 exact ⟨by first | rfl | (simp [errW_none, errW_some] <;> rfl) | (simp [*, errW_none, errW_some] <;> rfl), by repeat (first | (with_reducible first | exact HB.out | apply below_alloc | apply pw_below_drewN | apply below_drew1 | refine below_set ?_ GE221.out | refine below_set ?_ GE222.out | refine below_set ?_ GE223.out) | exact HB.out)⟩

/-! ### count_units: function 55 -/
def count_units.f (a0 : Int) : Option (Int) := if a0 ≥ 65536 then (some 2) else (some 1)
set_option maxHeartbeats 8000000 in
set_option maxRecDepth 100000 in
theorem count_units.calls (a0 : Int) (r : Int) (w : World) (h : count_units.f a0 = some r) :
  Calls Try.prog 55 #[.int .i32 a0] w fun e w' => e = .returned (.int .i64 r) ∧ Drawn0 w w' := by
 have H : (if a0 ≥ 65536 then (some 2) else (some 1)) = some r := h
 clear h
 by_cases c2 : a0 ≥ 65536
 ·rw [if_pos c2] at H
  have c2b0 : decide (65536 ≤ a0) = true := decide_eq_true c2
  clear c2
  obtain rfl := Option.some.inj H
  go_enter Try.func55, Try.ntmps55
  go_wp2
  go_ret
  exact ⟨by first | rfl | (simp; done) | (simp [*]; done), by repeat (first | exact Drawn0.refl _ | apply Drawn0.step)⟩
 ·rw [if_neg c2] at H
  have c2b0 : decide (65536 ≤ a0) = false := decide_eq_false c2
  clear c2
  obtain rfl := Option.some.inj H
  go_enter Try.func55, Try.ntmps55
  go_wp2
  go_ret
  exact ⟨by first | rfl | (simp; done) | (simp [*]; done), by repeat (first | exact Drawn0.refl _ | apply Drawn0.step)⟩

end Go.Proofs.Ytgepcdpnjinadaa.PX
end

section
-- MACHINE SIDE, written by wip/drive.py (this session's driver over the kit's print) for this claim. Lean checks it.
namespace Go.Proofs.Ytgepcdpnjinadaa.PX
open Go.RowKit Go.Proofs.YtgepcdpnjinadaaW.PrintWords Go.Proofs.YtgepcdpnjinadaaW.PrintLast Go.Proofs.YtgepcdpnjinadaaW.PrintMore
attribute [local go_sem] max2_int min2_int max_two min_two max_three min_three max_four min_four   -- for this text's walks alone
set_option linter.unusedVariables false
set_option linter.unusedSimpArgs false

/-! ### count_Is: function 48 -/
def count_Is.f (a0 : Int) : Option (Bool) := if a0 ≥ 0 then (some (decide (a0 ≤ 3))) else (some false)
set_option maxHeartbeats 8000000 in
set_option maxRecDepth 100000 in
theorem count_Is.calls (a0 : Int) (r : Bool) (w : World) (h : count_Is.f a0 = some r) :
  Calls Try.prog 48 #[.int .i64 a0] w fun e w' => e = .returned (.bool r) ∧ Drawn0 w w' := by
 have H : (if a0 ≥ 0 then (some (decide (a0 ≤ 3))) else (some false)) = some r := h
 clear h
 by_cases c2 : a0 ≥ 0
 ·rw [if_pos c2] at H
  have c2b0 : decide (0 ≤ a0) = true := decide_eq_true c2
  clear c2
  obtain rfl := Option.some.inj H
  go_enter Try.func48, Try.ntmps48
  go_wp2
  go_ret
  exact ⟨by first | rfl | (simp; done) | (simp [*]; done), by repeat (first | exact Drawn0.refl _ | apply Drawn0.step)⟩
 ·rw [if_neg c2] at H
  have c2b0 : decide (0 ≤ a0) = false := decide_eq_false c2
  clear c2
  obtain rfl := Option.some.inj H
  go_enter Try.func48, Try.ntmps48
  go_wp2
  go_ret
  exact ⟨by first | rfl | (simp; done) | (simp [*]; done), by repeat (first | exact Drawn0.refl _ | apply Drawn0.step)⟩

end Go.Proofs.Ytgepcdpnjinadaa.PX
end

section
-- MACHINE SIDE, written by wip/drive.py (this session's driver over the kit's print) for this claim. Lean checks it.
namespace Go.Proofs.Ytgepcdpnjinadaa.PX
open Go.RowKit Go.Proofs.YtgepcdpnjinadaaW.PrintWords Go.Proofs.YtgepcdpnjinadaaW.PrintLast Go.Proofs.YtgepcdpnjinadaaW.PrintMore
attribute [local go_sem] max2_int min2_int max_two min_two max_three min_three max_four min_four   -- for this text's walks alone
set_option linter.unusedVariables false
set_option linter.unusedSimpArgs false

/-! ### palinoderef2_Get: function 43 -/
def palinoderef2_Get.f (a0_0 : Int) (a0_1 : Int) (a0_2 : Int) (a0_3 : Int) (a1 : Int) : Option (Int) := if a1 = 0 then (some a0_0) else (if a1 = 1 then (some a0_1) else (if a1 = 2 then (some a0_2) else (if a1 = 3 then (some a0_3) else (some 0))))
set_option maxHeartbeats 8000000 in
set_option maxRecDepth 100000 in
theorem palinoderef2_Get.calls (a0_0 : Int) (a0_1 : Int) (a0_2 : Int) (a0_3 : Int) (a1 : Int) (r : Int) (w : World) (h : palinoderef2_Get.f a0_0 a0_1 a0_2 a0_3 a1 = some r) :
  Calls Try.prog 43 #[.agg #[.int .i64 a0_0, .int .i64 a0_1, .int .i64 a0_2, .int .i64 a0_3], .int .i64 a1] w fun e w' => e = .returned (.int .i64 r) ∧ Below w.heap.size w w' := by
 have hu44 := Try.underlying44
 have HB := Aside0.mk (Below.refl w.heap.size w)
 have H : (if a1 = 0 then (some a0_0) else (if a1 = 1 then (some a0_1) else (if a1 = 2 then (some a0_2) else (if a1 = 3 then (some a0_3) else (some 0))))) = some r := h
 clear h
 by_cases c3 : a1 = 0
 ·rw [if_pos c3] at H
  have c3b0 : (a1 == 0) = true := beq_iff_eq.mpr c3
  have c3b1 : (a1 != 0) = false := bne_eq_false_iff_eq.mpr c3
  clear c3
  obtain rfl := Option.some.inj H
  go_enter Try.func43, Try.ntmps43
  go_wp2_with (first | ((with_reducible refine gate_dst (N := 2) rfl ?_); refine box_event ?hg (N := 2) ?hd (cs := #[.int .i64 a0_0, .int .i64 a0_1, .int .i64 a0_2, .int .i64 a0_3]) (t := 44) ?hr ?_; (case hd => rfl); (case hg => rfl); (case hr => first | (go_simp; done) | (go_simp; rfl)); intro gb270 hg w4 hbox hb; have n0_ := Aside0.mk (below_step (by repeat (first | (with_reducible first | exact HB.out | apply below_alloc | apply pw_below_drewN | apply below_drew1) | exact HB.out)) hb); have n1_ := Aside0.mk (hbox); have n2_ := Aside0.mk ((by rw [hg]; exact (below_size (by repeat (first | (with_reducible first | exact HB.out | apply below_alloc | apply pw_below_drewN | apply below_drew1) | exact HB.out))) : w.heap.size ≤ gb270)); have n3_ := Aside0.mk ((by rw [hg]; exact (below_size (by repeat (first | (with_reducible first | exact HB.out | apply below_alloc | apply pw_below_drewN | apply below_drew1) | exact HB.out))) : w.heap.size ≤ gb270)); clear HB; have HB := n0_; have BK270 := n1_; have GW270 := n2_; have GE270 := n3_; clear n0_ n1_ n2_ n3_; clear hb hbox hg; have hcz5_0 : w4.cell? ⟨gb270, 0, none⟩ = some (.int .i64 a0_0) := (blk_cell BK270.out 0).trans rfl; have hcz5_1 : w4.cell? ⟨gb270, 1, none⟩ = some (.int .i64 a0_1) := (blk_cell BK270.out 1).trans rfl; have hcz5_2 : w4.cell? ⟨gb270, 2, none⟩ = some (.int .i64 a0_2) := (blk_cell BK270.out 2).trans rfl; have hcz5_3 : w4.cell? ⟨gb270, 3, none⟩ = some (.int .i64 a0_3) := (blk_cell BK270.out 3).trans rfl; have hfz5_0 := blk_frozen BK270.out 0; have hfz5_1 := blk_frozen BK270.out 1; have hfz5_2 := blk_frozen BK270.out 2; have hfz5_3 := blk_frozen BK270.out 3))
  go_ret
  exact ⟨by first | rfl | (simp [errW_none, errW_some] <;> rfl) | (simp [*, errW_none, errW_some] <;> rfl), by repeat (first | (with_reducible first | exact HB.out | apply below_alloc | apply pw_below_drewN | apply below_drew1 | refine below_set ?_ GE270.out) | exact HB.out)⟩
 ·rw [if_neg c3] at H
  have c3b0 : (a1 == 0) = false := beq_eq_false_iff_ne.mpr c3
  have c3b1 : (a1 != 0) = true := bne_iff_ne.mpr c3
  by_cases c6 : a1 = 1
  ·rw [if_pos c6] at H
   have c6b0 : (a1 == 1) = true := beq_iff_eq.mpr c6
   have c6b1 : (a1 != 1) = false := bne_eq_false_iff_eq.mpr c6
   clear c6
   obtain rfl := Option.some.inj H
   go_enter Try.func43, Try.ntmps43
   go_wp2_with (first | ((with_reducible refine gate_dst (N := 2) rfl ?_); refine box_event ?hg (N := 2) ?hd (cs := #[.int .i64 a0_0, .int .i64 a0_1, .int .i64 a0_2, .int .i64 a0_3]) (t := 44) ?hr ?_; (case hd => rfl); (case hg => rfl); (case hr => first | (go_simp; done) | (go_simp; rfl)); intro gb270 hg w7 hbox hb; have n0_ := Aside0.mk (below_step (by repeat (first | (with_reducible first | exact HB.out | apply below_alloc | apply pw_below_drewN | apply below_drew1) | exact HB.out)) hb); have n1_ := Aside0.mk (hbox); have n2_ := Aside0.mk ((by rw [hg]; exact (below_size (by repeat (first | (with_reducible first | exact HB.out | apply below_alloc | apply pw_below_drewN | apply below_drew1) | exact HB.out))) : w.heap.size ≤ gb270)); have n3_ := Aside0.mk ((by rw [hg]; exact (below_size (by repeat (first | (with_reducible first | exact HB.out | apply below_alloc | apply pw_below_drewN | apply below_drew1) | exact HB.out))) : w.heap.size ≤ gb270)); clear HB; have HB := n0_; have BK270 := n1_; have GW270 := n2_; have GE270 := n3_; clear n0_ n1_ n2_ n3_; clear hb hbox hg; have hcz8_0 : w7.cell? ⟨gb270, 0, none⟩ = some (.int .i64 a0_0) := (blk_cell BK270.out 0).trans rfl; have hcz8_1 : w7.cell? ⟨gb270, 1, none⟩ = some (.int .i64 a0_1) := (blk_cell BK270.out 1).trans rfl; have hcz8_2 : w7.cell? ⟨gb270, 2, none⟩ = some (.int .i64 a0_2) := (blk_cell BK270.out 2).trans rfl; have hcz8_3 : w7.cell? ⟨gb270, 3, none⟩ = some (.int .i64 a0_3) := (blk_cell BK270.out 3).trans rfl; have hfz8_0 := blk_frozen BK270.out 0; have hfz8_1 := blk_frozen BK270.out 1; have hfz8_2 := blk_frozen BK270.out 2; have hfz8_3 := blk_frozen BK270.out 3))
   go_ret
   exact ⟨by first | rfl | (simp [errW_none, errW_some] <;> rfl) | (simp [*, errW_none, errW_some] <;> rfl), by repeat (first | (with_reducible first | exact HB.out | apply below_alloc | apply pw_below_drewN | apply below_drew1 | refine below_set ?_ GE270.out) | exact HB.out)⟩
  ·rw [if_neg c6] at H
   have c6b0 : (a1 == 1) = false := beq_eq_false_iff_ne.mpr c6
   have c6b1 : (a1 != 1) = true := bne_iff_ne.mpr c6
   by_cases c9 : a1 = 2
   ·rw [if_pos c9] at H
    have c9b0 : (a1 == 2) = true := beq_iff_eq.mpr c9
    have c9b1 : (a1 != 2) = false := bne_eq_false_iff_eq.mpr c9
    clear c9
    obtain rfl := Option.some.inj H
    go_enter Try.func43, Try.ntmps43
    go_wp2_with (first | ((with_reducible refine gate_dst (N := 2) rfl ?_); refine box_event ?hg (N := 2) ?hd (cs := #[.int .i64 a0_0, .int .i64 a0_1, .int .i64 a0_2, .int .i64 a0_3]) (t := 44) ?hr ?_; (case hd => rfl); (case hg => rfl); (case hr => first | (go_simp; done) | (go_simp; rfl)); intro gb270 hg w10 hbox hb; have n0_ := Aside0.mk (below_step (by repeat (first | (with_reducible first | exact HB.out | apply below_alloc | apply pw_below_drewN | apply below_drew1) | exact HB.out)) hb); have n1_ := Aside0.mk (hbox); have n2_ := Aside0.mk ((by rw [hg]; exact (below_size (by repeat (first | (with_reducible first | exact HB.out | apply below_alloc | apply pw_below_drewN | apply below_drew1) | exact HB.out))) : w.heap.size ≤ gb270)); have n3_ := Aside0.mk ((by rw [hg]; exact (below_size (by repeat (first | (with_reducible first | exact HB.out | apply below_alloc | apply pw_below_drewN | apply below_drew1) | exact HB.out))) : w.heap.size ≤ gb270)); clear HB; have HB := n0_; have BK270 := n1_; have GW270 := n2_; have GE270 := n3_; clear n0_ n1_ n2_ n3_; clear hb hbox hg; have hcz11_0 : w10.cell? ⟨gb270, 0, none⟩ = some (.int .i64 a0_0) := (blk_cell BK270.out 0).trans rfl; have hcz11_1 : w10.cell? ⟨gb270, 1, none⟩ = some (.int .i64 a0_1) := (blk_cell BK270.out 1).trans rfl; have hcz11_2 : w10.cell? ⟨gb270, 2, none⟩ = some (.int .i64 a0_2) := (blk_cell BK270.out 2).trans rfl; have hcz11_3 : w10.cell? ⟨gb270, 3, none⟩ = some (.int .i64 a0_3) := (blk_cell BK270.out 3).trans rfl; have hfz11_0 := blk_frozen BK270.out 0; have hfz11_1 := blk_frozen BK270.out 1; have hfz11_2 := blk_frozen BK270.out 2; have hfz11_3 := blk_frozen BK270.out 3))
    go_ret
    exact ⟨by first | rfl | (simp [errW_none, errW_some] <;> rfl) | (simp [*, errW_none, errW_some] <;> rfl), by repeat (first | (with_reducible first | exact HB.out | apply below_alloc | apply pw_below_drewN | apply below_drew1 | refine below_set ?_ GE270.out) | exact HB.out)⟩
   ·rw [if_neg c9] at H
    have c9b0 : (a1 == 2) = false := beq_eq_false_iff_ne.mpr c9
    have c9b1 : (a1 != 2) = true := bne_iff_ne.mpr c9
    by_cases c12 : a1 = 3
    ·rw [if_pos c12] at H
     have c12b0 : (a1 == 3) = true := beq_iff_eq.mpr c12
     have c12b1 : (a1 != 3) = false := bne_eq_false_iff_eq.mpr c12
     clear c12
     obtain rfl := Option.some.inj H
     go_enter Try.func43, Try.ntmps43
     go_wp2_with (first | ((with_reducible refine gate_dst (N := 2) rfl ?_); refine box_event ?hg (N := 2) ?hd (cs := #[.int .i64 a0_0, .int .i64 a0_1, .int .i64 a0_2, .int .i64 a0_3]) (t := 44) ?hr ?_; (case hd => rfl); (case hg => rfl); (case hr => first | (go_simp; done) | (go_simp; rfl)); intro gb270 hg w13 hbox hb; have n0_ := Aside0.mk (below_step (by repeat (first | (with_reducible first | exact HB.out | apply below_alloc | apply pw_below_drewN | apply below_drew1) | exact HB.out)) hb); have n1_ := Aside0.mk (hbox); have n2_ := Aside0.mk ((by rw [hg]; exact (below_size (by repeat (first | (with_reducible first | exact HB.out | apply below_alloc | apply pw_below_drewN | apply below_drew1) | exact HB.out))) : w.heap.size ≤ gb270)); have n3_ := Aside0.mk ((by rw [hg]; exact (below_size (by repeat (first | (with_reducible first | exact HB.out | apply below_alloc | apply pw_below_drewN | apply below_drew1) | exact HB.out))) : w.heap.size ≤ gb270)); clear HB; have HB := n0_; have BK270 := n1_; have GW270 := n2_; have GE270 := n3_; clear n0_ n1_ n2_ n3_; clear hb hbox hg; have hcz14_0 : w13.cell? ⟨gb270, 0, none⟩ = some (.int .i64 a0_0) := (blk_cell BK270.out 0).trans rfl; have hcz14_1 : w13.cell? ⟨gb270, 1, none⟩ = some (.int .i64 a0_1) := (blk_cell BK270.out 1).trans rfl; have hcz14_2 : w13.cell? ⟨gb270, 2, none⟩ = some (.int .i64 a0_2) := (blk_cell BK270.out 2).trans rfl; have hcz14_3 : w13.cell? ⟨gb270, 3, none⟩ = some (.int .i64 a0_3) := (blk_cell BK270.out 3).trans rfl; have hfz14_0 := blk_frozen BK270.out 0; have hfz14_1 := blk_frozen BK270.out 1; have hfz14_2 := blk_frozen BK270.out 2; have hfz14_3 := blk_frozen BK270.out 3))
     go_ret
     exact ⟨by first | rfl | (simp [errW_none, errW_some] <;> rfl) | (simp [*, errW_none, errW_some] <;> rfl), by repeat (first | (with_reducible first | exact HB.out | apply below_alloc | apply pw_below_drewN | apply below_drew1 | refine below_set ?_ GE270.out) | exact HB.out)⟩
    ·rw [if_neg c12] at H
     have c12b0 : (a1 == 3) = false := beq_eq_false_iff_ne.mpr c12
     have c12b1 : (a1 != 3) = true := bne_iff_ne.mpr c12
     obtain rfl := Option.some.inj H
     go_enter Try.func43, Try.ntmps43
     go_wp2_with (first | ((with_reducible refine gate_dst (N := 2) rfl ?_); refine box_event ?hg (N := 2) ?hd (cs := #[.int .i64 a0_0, .int .i64 a0_1, .int .i64 a0_2, .int .i64 a0_3]) (t := 44) ?hr ?_; (case hd => rfl); (case hg => rfl); (case hr => first | (go_simp; done) | (go_simp; rfl)); intro gb270 hg w15 hbox hb; have n0_ := Aside0.mk (below_step (by repeat (first | (with_reducible first | exact HB.out | apply below_alloc | apply pw_below_drewN | apply below_drew1) | exact HB.out)) hb); have n1_ := Aside0.mk (hbox); have n2_ := Aside0.mk ((by rw [hg]; exact (below_size (by repeat (first | (with_reducible first | exact HB.out | apply below_alloc | apply pw_below_drewN | apply below_drew1) | exact HB.out))) : w.heap.size ≤ gb270)); have n3_ := Aside0.mk ((by rw [hg]; exact (below_size (by repeat (first | (with_reducible first | exact HB.out | apply below_alloc | apply pw_below_drewN | apply below_drew1) | exact HB.out))) : w.heap.size ≤ gb270)); clear HB; have HB := n0_; have BK270 := n1_; have GW270 := n2_; have GE270 := n3_; clear n0_ n1_ n2_ n3_; clear hb hbox hg))
     go_ret
     exact ⟨by first | rfl | (simp [errW_none, errW_some] <;> rfl) | (simp [*, errW_none, errW_some] <;> rfl), by repeat (first | (with_reducible first | exact HB.out | apply below_alloc | apply pw_below_drewN | apply below_drew1 | refine below_set ?_ GE270.out) | exact HB.out)⟩

end Go.Proofs.Ytgepcdpnjinadaa.PX
end
