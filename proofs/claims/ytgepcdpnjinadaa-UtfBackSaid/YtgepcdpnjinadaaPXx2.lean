-- MACHINE SIDE, written by wip/drive.py (this session's driver over the kit's print) for this claim. Lean checks it.
import Derived.Test.YtgepcdpnjinadaaPXx0
import Derived.Test.YtgepcdpnjinadaaPXx1
namespace Go.Proofs.Ytgepcdpnjinadaa.PX
open Go.RowKit Go.Proofs.YtgepcdpnjinadaaW.PrintWords Go.Proofs.YtgepcdpnjinadaaW.PrintLast Go.Proofs.YtgepcdpnjinadaaW.PrintMore
attribute [local go_sem] max2_int min2_int max_two min_two max_three min_three max_four min_four   -- for this text's walks alone
set_option linter.unusedVariables false
set_option linter.unusedSimpArgs false

-- HAND
-- FUNCTION palinode/utf.point
-- KINDS (str i64) (i32 i64) rounds making
theorem utf_forms.calls (w : World) : Calls Try.prog 51 #[] w fun e w' => e = .returned (.agg #[.int .u8 128, .int .u8 0, .int .i32 0, .int .u8 224, .int .u8 192, .int .i32 128, .int .u8 240, .int .u8 224, .int .i32 2048, .int .u8 248, .int .u8 240, .int .i32 65536]) ∧ Below w.heap.size w w' := by
  go_enter Try.func51, Try.ntmps51
  go_wp2
  exact bodyPost_ret (v := .agg #[.int .u8 128, .int .u8 0, .int .i32 0, .int .u8 224, .int .u8 192, .int .i32 128, .int .u8 240, .int .u8 224, .int .i32 2048, .int .u8 248, .int .u8 240, .int .i32 65536]) (by simp [results, Try.results51, go_sem]) rfl ⟨rfl, (Below.refl _ _).alloc (Nat.le_refl _) _⟩
def utf_point.t (k : Nat) (a0 : ByteArray) (a1 : Int) : Nat → Option (Int × Int)
  | 0 => if Go.bits .and .u8 (bt a0 a1) 128 = 0 then utf_long.f k a0 a1 1 128 0 0 else utf_point.t k a0 a1 1
  | 1 => if Go.bits .and .u8 (bt a0 a1) 224 = 192 then utf_long.f k a0 a1 2 224 192 128 else utf_point.t k a0 a1 2
  | 2 => if Go.bits .and .u8 (bt a0 a1) 240 = 224 then utf_long.f k a0 a1 3 240 224 2048 else utf_point.t k a0 a1 3
  | 3 => if Go.bits .and .u8 (bt a0 a1) 248 = 240 then utf_long.f k a0 a1 4 248 240 65536 else utf_point.t k a0 a1 4
  | _ + 4 => some (0, 0)
  termination_by i => 4 - i
def utf_point.f (k : Nat) (a0 : ByteArray) (a1 : Int) : Option (Int × Int) :=
  if a1 < 0 then some (0, 0) else if (a0.size : Int) ≤ a1 then some (0, 0)
  else utf_point.t k a0 a1 0
theorem utf_point.mono_t (a0 : ByteArray) (a1 : Int) (k : Nat) : ∀ i, LeO (utf_point.t k a0 a1 i) (utf_point.t (k + 1) a0 a1 i)
  | 0 => by rw [utf_point.t, utf_point.t]; exact LeO.ite (utf_long.mono _ _ _ _ _ _ _) (utf_point.mono_t a0 a1 k 1)
  | 1 => by rw [utf_point.t, utf_point.t]; exact LeO.ite (utf_long.mono _ _ _ _ _ _ _) (utf_point.mono_t a0 a1 k 2)
  | 2 => by rw [utf_point.t, utf_point.t]; exact LeO.ite (utf_long.mono _ _ _ _ _ _ _) (utf_point.mono_t a0 a1 k 3)
  | 3 => by rw [utf_point.t, utf_point.t]; exact LeO.ite (utf_long.mono _ _ _ _ _ _ _) (utf_point.mono_t a0 a1 k 4)
  | _ + 4 => by rw [utf_point.t, utf_point.t]; exact LeO.refl _
  termination_by i => 4 - i
theorem utf_point.mono (a0 : ByteArray) (a1 : Int) (k : Nat) : LeO (utf_point.f k a0 a1) (utf_point.f (k + 1) a0 a1) := by
  unfold utf_point.f
  exact LeO.ite (LeO.refl _) (LeO.ite (LeO.refl _) (utf_point.mono_t a0 a1 k 0))
set_option maxHeartbeats 4000000 in
set_option maxRecDepth 100000 in
theorem utf_point.calls (k : Nat) (a0 : ByteArray) (a1 : Int) (r1 r2 : Int) (w : World) (h : utf_point.f k a0 a1 = some (r1, r2)) : Calls Try.prog 44 #[.string a0, .int .i64 a1] w fun e w' => e = .returned (.tuple #[.int .i32 r1, .int .i64 r2]) ∧ Below w.heap.size w w' := by
  unfold utf_point.f at h
  by_cases c1 : a1 < 0
  · rw [if_pos c1] at h
    simp only [Option.some.injEq, Prod.mk.injEq] at h
    obtain ⟨rfl, rfl⟩ := h
    go_enter Try.func44, Try.ntmps44
    go_wp2
    go_ret2
    exact ⟨rfl, Below.refl _ _⟩
  rw [if_neg c1] at h
  by_cases c2 : (a0.size : Int) ≤ a1
  · rw [if_pos c2] at h
    simp only [Option.some.injEq, Prod.mk.injEq] at h
    obtain ⟨rfl, rfl⟩ := h
    go_enter Try.func44, Try.ntmps44
    go_wp2
    go_ret2
    exact ⟨rfl, Below.refl _ _⟩
  rw [if_neg c2] at h
  have H := Aside0.mk h
  clear h
  have c1b : decide (a1 < 0) = false := decide_eq_false c1
  have c2b : decide ((a0.size : Int) ≤ a1) = false := decide_eq_false c2
  have p16 : 0 ≤ a1 := by omega
  have q16 : a1 < (a0.size : Int) := by omega
  have hx16 := bt_at a0 a1
  clear c1 c2
  replace p16 := eq_true p16
  replace q16 := eq_true q16
  go_enter Try.func44, Try.ntmps44
  go_wp2_with (go_at_call 51; refine (utf_forms.calls _).mono ?_; rintro e w1 ⟨rfl, hb1⟩)
  go_loopw [17] (fun v wr => ∃ i : Nat, v = .int .i64 i ∧ Aside0 (i ≤ 4) ∧ Aside0 (utf_point.t k a0 a1 i = some (r1, r2)) ∧ Aside0 (Below w.heap.size w wr)) (fun v _ => 4 - (intOf v).toNat)
  case atStart => exact ⟨0, rfl, ⟨by omega⟩, H, ⟨hb1⟩⟩
  case round =>
    clear H
    clear hb1
    obtain ⟨i, rfl, hi, H, HB⟩ := hrel
    rcases (by have := hi.out; omega : i = 0 ∨ 0 < i) with rfl | hi0
    · clear hi
      replace H := H.out
      rw [utf_point.t] at H
      have ix : ∀ w, (Instr.index 76 (.agg #[.int .u8 128, .int .u8 0, .int .i32 0, .int .u8 224, .int .u8 192, .int .i32 128, .int .u8 240, .int .u8 224, .int .i32 2048, .int .u8 248, .int .u8 240, .int .i32 65536]) (.int .i64 0)).run Try.prog w = .ok (.agg #[.int .u8 128, .int .u8 0, .int .i32 0]) w := fun _ => by kernel_rfl
      by_cases c : Go.bits .and .u8 (bt a0 a1) 128 = 0
      · rw [if_pos c] at H
        have cb : (Go.bits .and .u8 (bt a0 a1) 128 == 0) = true := beq_iff_eq.mpr c
        clear c
        replace H := Aside0.mk H
        go_wp2
        go_quiet (fail)
        go_wp2_with (go_at_call 52; refine (utf_long.calls _ _ _ _ _ _ _ _ _ _ H.out).mono ?_; rintro e w2 ⟨rfl, hb2⟩)
        go_ret2
        exact ⟨rfl, below_step (by repeat (first | exact HB.out | apply below_alloc | apply pw_below_drewN)) hb2⟩
      · rw [if_neg c] at H
        have cb : (Go.bits .and .u8 (bt a0 a1) 128 == 0) = false := beq_eq_false_iff_ne.mpr c
        clear c
        replace H := Aside0.mk H
        go_wp2
        go_quiet (fail)
        go_wp2
        go_roundw
        case rel => exact ⟨1, rfl, ⟨by omega⟩, H, ⟨by repeat (first | exact HB.out | apply below_alloc | apply pw_below_drewN)⟩⟩
        case measure => simp [intOf]
    rcases (by have := hi.out; omega : i = 1 ∨ 1 < i) with rfl | hi1
    · clear hi
      replace H := H.out
      rw [utf_point.t] at H
      have ix : ∀ w, (Instr.index 76 (.agg #[.int .u8 128, .int .u8 0, .int .i32 0, .int .u8 224, .int .u8 192, .int .i32 128, .int .u8 240, .int .u8 224, .int .i32 2048, .int .u8 248, .int .u8 240, .int .i32 65536]) (.int .i64 1)).run Try.prog w = .ok (.agg #[.int .u8 224, .int .u8 192, .int .i32 128]) w := fun _ => by kernel_rfl
      by_cases c : Go.bits .and .u8 (bt a0 a1) 224 = 192
      · rw [if_pos c] at H
        have cb : (Go.bits .and .u8 (bt a0 a1) 224 == 192) = true := beq_iff_eq.mpr c
        clear c
        replace H := Aside0.mk H
        go_wp2
        go_quiet (fail)
        go_wp2_with (go_at_call 52; refine (utf_long.calls _ _ _ _ _ _ _ _ _ _ H.out).mono ?_; rintro e w2 ⟨rfl, hb2⟩)
        go_ret2
        exact ⟨rfl, below_step (by repeat (first | exact HB.out | apply below_alloc | apply pw_below_drewN)) hb2⟩
      · rw [if_neg c] at H
        have cb : (Go.bits .and .u8 (bt a0 a1) 224 == 192) = false := beq_eq_false_iff_ne.mpr c
        clear c
        replace H := Aside0.mk H
        go_wp2
        go_quiet (fail)
        go_wp2
        go_roundw
        case rel => exact ⟨2, rfl, ⟨by omega⟩, H, ⟨by repeat (first | exact HB.out | apply below_alloc | apply pw_below_drewN)⟩⟩
        case measure => simp [intOf]
    rcases (by have := hi.out; omega : i = 2 ∨ 2 < i) with rfl | hi2
    · clear hi
      replace H := H.out
      rw [utf_point.t] at H
      have ix : ∀ w, (Instr.index 76 (.agg #[.int .u8 128, .int .u8 0, .int .i32 0, .int .u8 224, .int .u8 192, .int .i32 128, .int .u8 240, .int .u8 224, .int .i32 2048, .int .u8 248, .int .u8 240, .int .i32 65536]) (.int .i64 2)).run Try.prog w = .ok (.agg #[.int .u8 240, .int .u8 224, .int .i32 2048]) w := fun _ => by kernel_rfl
      by_cases c : Go.bits .and .u8 (bt a0 a1) 240 = 224
      · rw [if_pos c] at H
        have cb : (Go.bits .and .u8 (bt a0 a1) 240 == 224) = true := beq_iff_eq.mpr c
        clear c
        replace H := Aside0.mk H
        go_wp2
        go_quiet (fail)
        go_wp2_with (go_at_call 52; refine (utf_long.calls _ _ _ _ _ _ _ _ _ _ H.out).mono ?_; rintro e w2 ⟨rfl, hb2⟩)
        go_ret2
        exact ⟨rfl, below_step (by repeat (first | exact HB.out | apply below_alloc | apply pw_below_drewN)) hb2⟩
      · rw [if_neg c] at H
        have cb : (Go.bits .and .u8 (bt a0 a1) 240 == 224) = false := beq_eq_false_iff_ne.mpr c
        clear c
        replace H := Aside0.mk H
        go_wp2
        go_quiet (fail)
        go_wp2
        go_roundw
        case rel => exact ⟨3, rfl, ⟨by omega⟩, H, ⟨by repeat (first | exact HB.out | apply below_alloc | apply pw_below_drewN)⟩⟩
        case measure => simp [intOf]
    rcases (by have := hi.out; omega : i = 3 ∨ 3 < i) with rfl | hi3
    · clear hi
      replace H := H.out
      rw [utf_point.t] at H
      have ix : ∀ w, (Instr.index 76 (.agg #[.int .u8 128, .int .u8 0, .int .i32 0, .int .u8 224, .int .u8 192, .int .i32 128, .int .u8 240, .int .u8 224, .int .i32 2048, .int .u8 248, .int .u8 240, .int .i32 65536]) (.int .i64 3)).run Try.prog w = .ok (.agg #[.int .u8 248, .int .u8 240, .int .i32 65536]) w := fun _ => by kernel_rfl
      by_cases c : Go.bits .and .u8 (bt a0 a1) 248 = 240
      · rw [if_pos c] at H
        have cb : (Go.bits .and .u8 (bt a0 a1) 248 == 240) = true := beq_iff_eq.mpr c
        clear c
        replace H := Aside0.mk H
        go_wp2
        go_quiet (fail)
        go_wp2_with (go_at_call 52; refine (utf_long.calls _ _ _ _ _ _ _ _ _ _ H.out).mono ?_; rintro e w2 ⟨rfl, hb2⟩)
        go_ret2
        exact ⟨rfl, below_step (by repeat (first | exact HB.out | apply below_alloc | apply pw_below_drewN)) hb2⟩
      · rw [if_neg c] at H
        have cb : (Go.bits .and .u8 (bt a0 a1) 248 == 240) = false := beq_eq_false_iff_ne.mpr c
        clear c
        replace H := Aside0.mk H
        go_wp2
        go_quiet (fail)
        go_wp2
        go_roundw
        case rel => exact ⟨4, rfl, ⟨by omega⟩, H, ⟨by repeat (first | exact HB.out | apply below_alloc | apply pw_below_drewN)⟩⟩
        case measure => simp [intOf]
    have hi4 : i = 4 := by have := hi.out; omega
    subst hi4
    clear hi
    replace H := H.out
    rw [utf_point.t] at H
    simp only [Option.some.injEq, Prod.mk.injEq] at H
    obtain ⟨rfl, rfl⟩ := H
    go_wp2
    go_ret2
    exact ⟨rfl, HB.out⟩

end Go.Proofs.Ytgepcdpnjinadaa.PX
