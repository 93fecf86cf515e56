-- several texts in one (wip/merge.py)
import Derived.Test.YtgepcdpnjinadaaKCountSums21
import Derived.Test.YtgepcdpnjinadaaKCountSums28
section
-- MACHINE SIDE, written by wip/drive.py (this session's driver over the kit's print) for this claim. Lean checks it.
namespace Go.Proofs.Ytgepcdpnjinadaa.PX
open Go.RowKit Go.Proofs.YtgepcdpnjinadaaW.PrintWords Go.Proofs.YtgepcdpnjinadaaW.PrintLast Go.Proofs.YtgepcdpnjinadaaW.PrintMore
open Bool renaming true → TB, false → FB
attribute [local go_sem] max2_int min2_int max_two min_two max_three min_three max_four min_four   -- for this text's walks alone
set_option linter.unusedVariables false
set_option linter.unusedSimpArgs false

attribute [local go_sem high] eqA44
/-! ### palinodelaw2_CountSums: function 12 -/
def palinodelaw2_CountSums.j0 : Nat → ByteArray → ByteArray → Bool → Option (Bool)
  | 0, _, _, _ => none
  | k + 1, x0, x1, x26 => if x26 = true then (some true) else (if x0.size + x1.size ≤ 9223372036854775807 then ((count_Of.f (x0 ++ x1)).bind fun bt330 => ((count_Of.f x0).bind fun bt335 => ((count_Of.f x1).bind fun bt340 => ((count_Plus.f bt335.1 bt335.2.1 bt335.2.2.1 bt335.2.2.2 bt340.1 bt340.2.1 bt340.2.2.1 bt340.2.2.2).bind fun bt344 => (if (bt330.1 == bt344.1 && (bt330.2.1 == bt344.2.1 && (bt330.2.2.1 == bt344.2.2.1 && (bt330.2.2.2 == bt344.2.2.2)))) = true then (if bt335.1 = (x0.size : Int) then (if bt335.2.1 ≤ bt335.2.2.1 then (if bt335.2.2.1 ≤ bt335.1 then (if bt335.2.2.2 ≤ bt335.2.1 then ((count_Plus.f bt335.1 bt335.2.1 bt335.2.2.1 bt335.2.2.2 0 0 0 0).bind fun bt348 => (some (bt348.1 == bt335.1 && (bt348.2.1 == bt335.2.1 && (bt348.2.2.1 == bt335.2.2.1 && (bt348.2.2.2 == bt335.2.2.2)))))) else (some false)) else (some false)) else (some false)) else (some false)) else (some false)))))) else (none))
def palinodelaw2_CountSums.f (k : Nat) (a0 : ByteArray) (a1 : ByteArray) : Option (Bool) := (palinodelaw2_known.f k).bind fun t327 => (if t327 = true then (if (a0.size : Int) > 200 then (palinodelaw2_CountSums.j0 k a0 a1 true) else (if (a1.size : Int) > 200 then (palinodelaw2_CountSums.j0 k a0 a1 true) else ((palinoderef1_Valid.f k a0).bind fun t328 => (if t328 = true then ((palinoderef1_Valid.f k a1).bind fun t329 => (palinodelaw2_CountSums.j0 k a0 a1 (!t329))) else (palinodelaw2_CountSums.j0 k a0 a1 true))))) else (some false))
theorem palinodelaw2_CountSums.mono_l : ∀ k, (∀ y0 y1 y2, LeO (palinodelaw2_CountSums.j0 k y0 y1 y2) (palinodelaw2_CountSums.j0 (k + 1) y0 y1 y2))
  | 0 => fun _ _ _ r h => by simp [palinodelaw2_CountSums.j0] at h
  | k + 1 => by
    have ih0 := palinodelaw2_CountSums.mono_l k
    · intro y0 y1 y2
      unfold palinodelaw2_CountSums.j0
      repeat' first
      | (with_reducible exact ih0 _ _ _)
      | (with_reducible exact palinodelaw2_known.mono _)
      | (with_reducible exact palinoderef1_Valid.mono _ _)
      | (with_reducible exact LeO.refl _)
      | (with_reducible exact LeO.none _)
      | (with_reducible refine LeO.ite ?_ ?_)
      | (with_reducible refine LeO.bind ?_ (fun _ => ?_))
      | exact ih0 _ _ _
      | exact palinodelaw2_known.mono _
      | exact palinoderef1_Valid.mono _ _
      | exact LeO.none _
      | refine LeO.ite ?_ ?_
      | refine LeO.bind ?_ (fun _ => ?_)
theorem palinodelaw2_CountSums.mono : ∀ a0 a1 k, LeO (palinodelaw2_CountSums.f k a0 a1) (palinodelaw2_CountSums.f (k + 1) a0 a1) := by
  intro a0 a1 k
  have ih0 := palinodelaw2_CountSums.mono_l k
  unfold palinodelaw2_CountSums.f
  repeat' first
      | (with_reducible exact ih0 _ _ _)
      | (with_reducible exact palinodelaw2_known.mono _)
      | (with_reducible exact palinoderef1_Valid.mono _ _)
      | (with_reducible exact LeO.refl _)
      | (with_reducible exact LeO.none _)
      | (with_reducible refine LeO.ite ?_ ?_)
      | (with_reducible refine LeO.bind ?_ (fun _ => ?_))
      | exact ih0 _ _ _
      | exact palinodelaw2_known.mono _
      | exact palinoderef1_Valid.mono _ _
      | exact LeO.none _
      | refine LeO.ite ?_ ?_
      | refine LeO.bind ?_ (fun _ => ?_)
def palinodelaw2_CountSums.T7 : Bool × List (List Nat × List Nat) := (true, [([], []), ([], []), ([], []), ([2], [2]), ([1, 3, 3], [1, 3]), ([0, 4], [0, 4]), ([5, 4], [5]), ([6], [6]), ([7, 6], [6, 7]), ([6], [6]), ([9, 6], [6, 9]), ([8, 10, 6], [6, 8, 10]), ([6, 11], [6, 11]), ([12, 6], [12]), ([13], [13]), ([14, 13], [13, 14]), ([13], [13]), ([16, 13], [13, 16]), ([15, 17, 13], [13, 15, 17]), ([13, 18], [13, 18]), ([19, 13], [19]), ([20], [20]), ([21, 20], [20, 21]), ([20], [20]), ([23, 20], [20, 23]), ([22, 24, 20], [20, 22, 24]), ([20, 25], [20, 25]), ([26, 20], [26]), ([27], [27]), ([28, 27], [27, 28]), ([27], [27]), ([30, 27], [27, 30]), ([29, 31, 27], [27, 29, 31]), ([27, 32], [27, 32]), ([33, 27], [33]), ([34], [34]), ([34], [34]), ([35, 36, 34, 34], [34, 35, 36]), ([34], [34]), ([37, 38, 34], [34, 37, 38]), ([34, 39], [34, 39]), ([40, 37, 0, 1, 2, 3, 4, 5, 6, 7, 8, 9, 10, 11, 12, 13, 14, 15, 16, 17, 18, 19, 20, 21, 22, 23, 24, 25, 26, 27, 28, 29, 30, 31, 32, 33, 34, 35, 36, 37, 38, 39, 40], [40])])
def palinodelaw2_CountSums.B7 : List Nat := [0, 0, 0, 4, 14, 31, 63, 127, 255, 127, 639, 2047, 4095, 8191, 16383, 32767, 16383, 81919, 262143, 524287, 1048575, 2097151, 4194303, 2097151, 10485759, 33554431, 67108863, 134217727, 268435455, 536870911, 268435455, 1342177279, 4294967295, 8589934591, 17179869183, 34359738367, 34359738367, 137438953471, 34359738367, 549755813887, 1099511627775, 2199023255551]
theorem palinodelaw2_CountSums.tab7 : rtab .any (opsOf Try.f12 7) = palinodelaw2_CountSums.T7 := by kernel_rfl
theorem palinodelaw2_CountSums.bits7 : waitsOk palinodelaw2_CountSums.T7.2 palinodelaw2_CountSums.B7 = true := by kernel_rfl
set_option maxHeartbeats 8000000 in
set_option maxRecDepth 100000 in
theorem palinodelaw2_CountSums.calls (k : Nat) (a0 : ByteArray) (a1 : ByteArray) (r : Bool) (w : World) (h : palinodelaw2_CountSums.f k a0 a1 = some r) :
  Calls Try.prog 12 #[.string a0, .string a1] w fun e w' => e = .returned (.bool r) ∧ Below w.heap.size w w' := by
 have hu44 := Try.underlying44
 have HB := Aside0.mk (Below.refl w.heap.size w)
 have H : ((palinodelaw2_known.f k).bind fun t327 => (if t327 = true then (if (a0.size : Int) > 200 then (palinodelaw2_CountSums.j0 k a0 a1 true) else (if (a1.size : Int) > 200 then (palinodelaw2_CountSums.j0 k a0 a1 true) else ((palinoderef1_Valid.f k a0).bind fun t328 => (if t328 = true then ((palinoderef1_Valid.f k a1).bind fun t329 => (palinodelaw2_CountSums.j0 k a0 a1 (!t329))) else (palinodelaw2_CountSums.j0 k a0 a1 true))))) else (some false))) = some r := h
 clear h
 replace H := Option.bind_eq_some_iff.mp H
 obtain ⟨t327, A30, H⟩ := H
 replace H : (if t327 = true then (if (a0.size : Int) > 200 then (palinodelaw2_CountSums.j0 k a0 a1 true) else (if (a1.size : Int) > 200 then (palinodelaw2_CountSums.j0 k a0 a1 true) else ((palinoderef1_Valid.f k a0).bind fun t328 => (if t328 = true then ((palinoderef1_Valid.f k a1).bind fun t329 => (palinodelaw2_CountSums.j0 k a0 a1 (!t329))) else (palinodelaw2_CountSums.j0 k a0 a1 true))))) else (some false)) = some r := H
 have A3 := Aside0.mk A30
 clear A30
 by_cases c4 : t327 = true
 ·subst c4
  have H1 : (if (a0.size : Int) > 200 then (palinodelaw2_CountSums.j0 k a0 a1 true) else (if (a1.size : Int) > 200 then (palinodelaw2_CountSums.j0 k a0 a1 true) else ((palinoderef1_Valid.f k a0).bind fun t328 => (if t328 = true then ((palinoderef1_Valid.f k a1).bind fun t329 => (palinodelaw2_CountSums.j0 k a0 a1 (!t329))) else (palinodelaw2_CountSums.j0 k a0 a1 true))))) = some r := by rw [if_pos rfl] at H; exact H
  clear H
  have H := H1
  clear H1
  have HC5 := Aside0.mk H
  clear H
  go_enter Try.func12, Try.ntmps12
  go_upto_region 3 with (first | ((with_reducible refine gate_callee (f := 33) rfl ?_); refine goesL_ (some 7) rfl rfl Try.func33 (by kernel_rfl) rfl #[] rfl (by (try simp only [List.map_toArray, List.map_cons, List.map_nil]); first | done | rfl | (simp only [List.length_drop, List.length_take]; rfl)) ?_; (with_reducible refine (palinodelaw2_known.calls k  true _ A3.out).mono ?_); rintro e w6 ⟨rfl, hb⟩; refine ⟨_, rfl, ?_⟩; have n0_ := Aside0.mk (below_step (by repeat (first | (with_reducible first | exact HB.out | apply below_alloc | apply pw_below_drewN | apply below_drew1) | exact HB.out)) hb); clear HB; have HB := n0_; clear n0_; (try clear hb); (try clear hb2); (try clear hk); (try clear hi)))
  (try simp only [Act.put, List.setIfInBounds_toArray, List.set_cons_zero, List.set_cons_succ])
  go_cut [26] (fun v26 wc => ∃ (kq : Nat) (x26_4 : Bool), v26 = .bool x26_4 ∧ Aside0 (palinodelaw2_CountSums.j0 kq a0 a1 x26_4 = some r) ∧ Aside0 (kq ≤ k) ∧ Aside0 (Below w.heap.size w wc))
  case first =>
   have H := HC5.out
   clear HC5
   by_cases c7 : (a0.size : Int) > 200
   ·rw [if_pos c7] at H
    have c7b0 : decide (200 < (a0.size : Int)) = true := decide_eq_true c7
    have c7b1 : decide (200 < a0.size) = true := decide_eq_true (by omega)
    clear c7
    (first | rw [c7b0] | (simp only [i64_w, i32_w]; rw [c7b0]) | skip)
    have H' := Aside0.mk H
    clear H
    go_wp2
    go_meet
    case rel => exact ⟨_, (true), (by first | rfl | (simp; done) | (simp [*]; done)), H', ⟨by first | omega | exact Nat.le_refl _⟩, ⟨by repeat (first | (with_reducible first | exact HB.out | apply below_alloc | apply pw_below_drewN | apply below_drew1) | exact HB.out)⟩⟩
   ·rw [if_neg c7] at H
    have c7b0 : decide (200 < (a0.size : Int)) = false := decide_eq_false c7
    have c7b1 : decide (200 < a0.size) = false := decide_eq_false (by omega)
    clear c7
    (first | rw [c7b0] | (simp only [i64_w, i32_w]; rw [c7b0]) | skip)
    by_cases c8 : (a1.size : Int) > 200
    ·rw [if_pos c8] at H
     have c8b0 : decide (200 < (a1.size : Int)) = true := decide_eq_true c8
     have c8b1 : decide (200 < a1.size) = true := decide_eq_true (by omega)
     clear c8
     have H' := Aside0.mk H
     clear H
     go_wp2
     go_meet
     case rel => exact ⟨_, (true), (by first | rfl | (simp; done) | (simp [*]; done)), H', ⟨by first | omega | exact Nat.le_refl _⟩, ⟨by repeat (first | (with_reducible first | exact HB.out | apply below_alloc | apply pw_below_drewN | apply below_drew1) | exact HB.out)⟩⟩
    ·rw [if_neg c8] at H
     have c8b0 : decide (200 < (a1.size : Int)) = false := decide_eq_false c8
     have c8b1 : decide (200 < a1.size) = false := decide_eq_false (by omega)
     clear c8
     replace H := Option.bind_eq_some_iff.mp H
     obtain ⟨t328, A90, H⟩ := H
     replace H : (if t328 = true then ((palinoderef1_Valid.f k a1).bind fun t329 => (palinodelaw2_CountSums.j0 k a0 a1 (!t329))) else (palinodelaw2_CountSums.j0 k a0 a1 true)) = some r := H
     have A9 := Aside0.mk A90
     clear A90
     by_cases c10 : t328 = true
     ·subst c10
      have H1 : ((palinoderef1_Valid.f k a1).bind fun t329 => (palinodelaw2_CountSums.j0 k a0 a1 (!t329))) = some r := by rw [if_pos rfl] at H; exact H
      clear H
      have H := H1
      clear H1
      replace H := Option.bind_eq_some_iff.mp H
      obtain ⟨t329, A110, H⟩ := H
      replace H : (palinodelaw2_CountSums.j0 k a0 a1 (!t329)) = some r := H
      have A11 := Aside0.mk A110
      clear A110
      have H' := Aside0.mk H
      clear H
      go_wp2_with (first | (go_at_call 25; (with_reducible refine (palinoderef1_Valid.calls k a0 true _ A9.out).mono ?_); rintro e w' ⟨rfl, ⟨nd, rfl⟩⟩) | (go_at_call 25; (with_reducible refine (palinoderef1_Valid.calls k a1 t329 _ A11.out).mono ?_); rintro e w' ⟨rfl, ⟨nd, rfl⟩⟩))
      go_meet
      case rel => exact ⟨_, (!t329), (by first | rfl | (simp; done) | (simp [*]; done)), H', ⟨by first | omega | exact Nat.le_refl _⟩, ⟨by repeat (first | (with_reducible first | exact HB.out | apply below_alloc | apply pw_below_drewN | apply below_drew1) | exact HB.out)⟩⟩
     ·replace c10 := Bool.eq_false_iff.mpr c10
      subst c10
      have H1 : (palinodelaw2_CountSums.j0 k a0 a1 true) = some r := by rw [if_neg (show ¬ (false = true) by decide)] at H; exact H
      clear H
      have H := H1
      clear H1
      have H' := Aside0.mk H
      clear H
      go_wp2_with (first | (go_at_call 25; (with_reducible refine (palinoderef1_Valid.calls k a0 false _ A9.out).mono ?_); rintro e w' ⟨rfl, ⟨nd, rfl⟩⟩))
      go_meet
      case rel => exact ⟨_, (true), (by first | rfl | (simp; done) | (simp [*]; done)), H', ⟨by first | omega | exact Nat.le_refl _⟩, ⟨by repeat (first | (with_reducible first | exact HB.out | apply below_alloc | apply pw_below_drewN | apply below_drew1) | exact HB.out)⟩⟩
  case rest =>
   clear HC5
   try clear c1
   try clear p2
   try clear c3
   try clear c4
   try clear c7
   try clear c7b0
   try clear c7b1
   try clear c8
   try clear c8b0
   try clear c8b1
   try clear c10
   obtain ⟨kq, x26_4, rfl, HA, HJ4, HB⟩ := hcut
   cases kq with
   | zero => exact absurd HA.out (by simp [palinodelaw2_CountSums.j0])
   | succ kj4 =>
    have H := HA.out
    clear HA
    simp only [palinodelaw2_CountSums.j0] at H
    by_cases c12 : x26_4 = true
    ·subst c12
     have H1 : (some true) = some r := by rw [if_pos rfl] at H; exact H
     clear H
     have H := H1
     clear H1
     obtain rfl := Option.some.inj H
     go_wp2
     go_ret
     exact ⟨by first | rfl | (simp [errW_none, errW_some] <;> rfl) | (simp [*, errW_none, errW_some] <;> rfl), by repeat (first | (with_reducible first | exact HB.out | apply below_alloc | apply pw_below_drewN | apply below_drew1) | exact HB.out)⟩
    ·replace c12 := Bool.eq_false_iff.mpr c12
     subst c12
     have H1 : (if a0.size + a1.size ≤ 9223372036854775807 then ((count_Of.f (a0 ++ a1)).bind fun bt330 => ((count_Of.f a0).bind fun bt335 => ((count_Of.f a1).bind fun bt340 => ((count_Plus.f bt335.1 bt335.2.1 bt335.2.2.1 bt335.2.2.2 bt340.1 bt340.2.1 bt340.2.2.1 bt340.2.2.2).bind fun bt344 => (if (bt330.1 == bt344.1 && (bt330.2.1 == bt344.2.1 && (bt330.2.2.1 == bt344.2.2.1 && (bt330.2.2.2 == bt344.2.2.2)))) = true then (if bt335.1 = (a0.size : Int) then (if bt335.2.1 ≤ bt335.2.2.1 then (if bt335.2.2.1 ≤ bt335.1 then (if bt335.2.2.2 ≤ bt335.2.1 then ((count_Plus.f bt335.1 bt335.2.1 bt335.2.2.1 bt335.2.2.2 0 0 0 0).bind fun bt348 => (some (bt348.1 == bt335.1 && (bt348.2.1 == bt335.2.1 && (bt348.2.2.1 == bt335.2.2.1 && (bt348.2.2.2 == bt335.2.2.2)))))) else (some false)) else (some false)) else (some false)) else (some false)) else (some false)))))) else (none)) = some r := by rw [if_neg (show ¬ (false = true) by decide)] at H; exact H
     clear H
     have H := H1
     clear H1
     by_cases c13 : a0.size + a1.size ≤ 9223372036854775807
     ·rw [if_pos c13] at H
      have c13b0 := eq_true c13
      have c13b1 : decide (a0.size + a1.size ≤ 9223372036854775807) = true := decide_eq_true c13
      try have c13b2 : (9223372036854775807 < a0.size + a1.size) = False := eq_false (Nat.not_lt.2 c13)
      replace H := Option.bind_eq_some_iff.mp H
      obtain ⟨⟨t330, t331, t332, t333⟩, A140, H⟩ := H
      replace H : ((count_Of.f a0).bind fun bt335 => ((count_Of.f a1).bind fun bt340 => ((count_Plus.f bt335.1 bt335.2.1 bt335.2.2.1 bt335.2.2.2 bt340.1 bt340.2.1 bt340.2.2.1 bt340.2.2.2).bind fun bt344 => (if (t330 == bt344.1 && (t331 == bt344.2.1 && (t332 == bt344.2.2.1 && (t333 == bt344.2.2.2)))) = true then (if bt335.1 = (a0.size : Int) then (if bt335.2.1 ≤ bt335.2.2.1 then (if bt335.2.2.1 ≤ bt335.1 then (if bt335.2.2.2 ≤ bt335.2.1 then ((count_Plus.f bt335.1 bt335.2.1 bt335.2.2.1 bt335.2.2.2 0 0 0 0).bind fun bt348 => (some (bt348.1 == bt335.1 && (bt348.2.1 == bt335.2.1 && (bt348.2.2.1 == bt335.2.2.1 && (bt348.2.2.2 == bt335.2.2.2)))))) else (some false)) else (some false)) else (some false)) else (some false)) else (some false))))) = some r := H
      have A14 := Aside0.mk A140
      clear A140
      replace H := Option.bind_eq_some_iff.mp H
      obtain ⟨⟨t335, t336, t337, t338⟩, A150, H⟩ := H
      replace H : ((count_Of.f a1).bind fun bt340 => ((count_Plus.f t335 t336 t337 t338 bt340.1 bt340.2.1 bt340.2.2.1 bt340.2.2.2).bind fun bt344 => (if (t330 == bt344.1 && (t331 == bt344.2.1 && (t332 == bt344.2.2.1 && (t333 == bt344.2.2.2)))) = true then (if t335 = (a0.size : Int) then (if t336 ≤ t337 then (if t337 ≤ t335 then (if t338 ≤ t336 then ((count_Plus.f t335 t336 t337 t338 0 0 0 0).bind fun bt348 => (some (bt348.1 == t335 && (bt348.2.1 == t336 && (bt348.2.2.1 == t337 && (bt348.2.2.2 == t338)))))) else (some false)) else (some false)) else (some false)) else (some false)) else (some false)))) = some r := H
      have A15 := Aside0.mk A150
      clear A150
      replace H := Option.bind_eq_some_iff.mp H
      obtain ⟨⟨t340, t341, t342, t343⟩, A160, H⟩ := H
      replace H : ((count_Plus.f t335 t336 t337 t338 t340 t341 t342 t343).bind fun bt344 => (if (t330 == bt344.1 && (t331 == bt344.2.1 && (t332 == bt344.2.2.1 && (t333 == bt344.2.2.2)))) = true then (if t335 = (a0.size : Int) then (if t336 ≤ t337 then (if t337 ≤ t335 then (if t338 ≤ t336 then ((count_Plus.f t335 t336 t337 t338 0 0 0 0).bind fun bt348 => (some (bt348.1 == t335 && (bt348.2.1 == t336 && (bt348.2.2.1 == t337 && (bt348.2.2.2 == t338)))))) else (some false)) else (some false)) else (some false)) else (some false)) else (some false))) = some r := H
      have A16 := Aside0.mk A160
      clear A160
      replace H := Option.bind_eq_some_iff.mp H
      obtain ⟨⟨t344, t345, t346, t347⟩, A170, H⟩ := H
      replace H : (if (t330 == t344 && (t331 == t345 && (t332 == t346 && (t333 == t347)))) = true then (if t335 = (a0.size : Int) then (if t336 ≤ t337 then (if t337 ≤ t335 then (if t338 ≤ t336 then ((count_Plus.f t335 t336 t337 t338 0 0 0 0).bind fun bt348 => (some (bt348.1 == t335 && (bt348.2.1 == t336 && (bt348.2.2.1 == t337 && (bt348.2.2.2 == t338)))))) else (some false)) else (some false)) else (some false)) else (some false)) else (some false)) = some r := H
      have A17 := Aside0.mk A170
      clear A170
      by_cases c18 : (t330 == t344 && (t331 == t345 && (t332 == t346 && (t333 == t347)))) = true
      ·rw [if_pos c18] at H
       have c18b0 : (t330 == t344 && (t331 == t345 && (t332 == t346 && (t333 == t347)))) = true := c18
       (try (have c18b1 : decide (t330 = t344 && (t331 == t345 && (t332 == t346 && (t333 == t347)))) = true := by simpa using c18))
       (try (have c18b2 : (t330 == t344 && (t331 == t345 && (t332 == t346 && (t333 == t347)))) = true := by simpa using c18))
       clear c18
       by_cases c19 : t335 = (a0.size : Int)
       ·rw [if_pos c19] at H
        have c19b0 : (t335 == (a0.size : Int)) = true := beq_iff_eq.mpr c19
        have c19b1 : (t335 != (a0.size : Int)) = false := bne_eq_false_iff_eq.mpr c19
        clear c19
        by_cases c20 : t336 ≤ t337
        ·rw [if_pos c20] at H
         have c20b0 : decide (t336 ≤ t337) = true := decide_eq_true c20
         clear c20
         by_cases c21 : t337 ≤ t335
         ·rw [if_pos c21] at H
          have c21b0 : decide (t337 ≤ t335) = true := decide_eq_true c21
          clear c21
          by_cases c22 : t338 ≤ t336
          ·rw [if_pos c22] at H
           have c22b0 : decide (t338 ≤ t336) = true := decide_eq_true c22
           clear c22
           replace H := Option.bind_eq_some_iff.mp H
           obtain ⟨⟨t348, t349, t350, t351⟩, A230, H⟩ := H
           replace H : (some (t348 == t335 && (t349 == t336 && (t350 == t337 && (t351 == t338))))) = some r := H
           have A23 := Aside0.mk A230
           clear A230
           obtain rfl := Option.some.inj H
           try go_wp2_with (first | ((with_reducible refine gate_callee (f := 38) rfl ?_); refine goesL_ (some 30) rfl rfl Try.func38 (by kernel_rfl) rfl #[.string (a0 ++ a1)] rfl (by (try simp only [List.map_toArray, List.map_cons, List.map_nil]); first | done | rfl | (simp only [List.length_drop, List.length_take]; rfl)) ?_; (with_reducible refine (count_Of.calls (a0 ++ a1) t330 t331 t332 t333 _ A14.out).mono ?_); rintro e w24 ⟨rfl, hb⟩; refine ⟨_, rfl, ?_⟩; have n0_ := Aside0.mk (below_step (by repeat (first | (with_reducible first | exact HB.out | apply below_alloc | apply pw_below_drewN | apply below_drew1) | exact HB.out)) hb); clear HB; have HB := n0_; clear n0_; (try clear hb); (try clear hb2); (try clear hk); (try clear hi)) | ((with_reducible refine gate_dst (N := 5) rfl ?_); (try (refine gate_guard (by rfl) ?_; dsimp only)); refine box_event ?hg (N := 5) ?hd (cs := #[.int .i64 0, .int .i64 0, .int .i64 0, .int .i64 0]) (t := 44) ?hr ?_; (case hd => rfl); (case hg => rfl); (case hr => first | (go_simp; done) | (go_simp; rfl)); intro gb334 hg w25 hbox hb; have n0_ := Aside0.mk (below_step (by repeat (first | (with_reducible first | exact HB.out | apply below_alloc | apply pw_below_drewN | apply below_drew1) | exact HB.out)) hb); have n1_ := Aside0.mk (hbox); have n2_ := Aside0.mk ((by rw [hg]; exact (below_size (by repeat (first | (with_reducible first | exact HB.out | apply below_alloc | apply pw_below_drewN | apply below_drew1) | exact HB.out))) : w.heap.size ≤ gb334)); have n3_ := Aside0.mk ((by rw [hg]; exact (below_size (by repeat (first | (with_reducible first | exact HB.out | apply below_alloc | apply pw_below_drewN | apply below_drew1) | exact HB.out))) : w.heap.size ≤ gb334)); clear HB; have HB := n0_; have BK334 := n1_; have GW334 := n2_; have GE334 := n3_; clear n0_ n1_ n2_ n3_; clear hb hbox hg; have hcz26_0 : w25.cell? ⟨gb334, 0, none⟩ = some (.int .i64 0) := (blk_cell BK334.out 0).trans rfl; have hcz26_1 : w25.cell? ⟨gb334, 1, none⟩ = some (.int .i64 0) := (blk_cell BK334.out 1).trans rfl; have hcz26_2 : w25.cell? ⟨gb334, 2, none⟩ = some (.int .i64 0) := (blk_cell BK334.out 2).trans rfl; have hcz26_3 : w25.cell? ⟨gb334, 3, none⟩ = some (.int .i64 0) := (blk_cell BK334.out 3).trans rfl; have hfz26_0 := blk_frozen BK334.out 0; have hfz26_1 := blk_frozen BK334.out 1; have hfz26_2 := blk_frozen BK334.out 2; have hfz26_3 := blk_frozen BK334.out 3) | ((with_reducible refine gate_callee (f := 38) rfl ?_); refine goesL_ (some 32) rfl rfl Try.func38 (by kernel_rfl) rfl #[.string a0] rfl (by (try simp only [List.map_toArray, List.map_cons, List.map_nil]); first | done | rfl | (simp only [List.length_drop, List.length_take]; rfl)) ?_; (with_reducible refine (count_Of.calls a0 t335 t336 t337 t338 _ A15.out).mono ?_); rintro e w27 ⟨rfl, hb⟩; refine ⟨_, rfl, ?_⟩; have n0_ := Aside0.mk (blk_below (g := gb334) (o := .cells #[.int .i64 t330, .int .i64 t331, .int .i64 t332, .int .i64 t333] 44 (0, 0)) (by (with_reducible repeat (first | refine blk_drewN ?_ _ | refine blk_drew ?_ | refine blk_alloc ?_ _)); refine blk_put (cs := #[.int .i64 t330, .int .i64 t331, .int .i64 t332, .int .i64 0]) ?_ 3 _ rfl; (with_reducible repeat (first | refine blk_drewN ?_ _ | refine blk_drew ?_ | refine blk_alloc ?_ _)); refine blk_put (cs := #[.int .i64 t330, .int .i64 t331, .int .i64 0, .int .i64 0]) ?_ 2 _ rfl; (with_reducible repeat (first | refine blk_drewN ?_ _ | refine blk_drew ?_ | refine blk_alloc ?_ _)); refine blk_put (cs := #[.int .i64 t330, .int .i64 0, .int .i64 0, .int .i64 0]) ?_ 1 _ rfl; (with_reducible repeat (first | refine blk_drewN ?_ _ | refine blk_drew ?_ | refine blk_alloc ?_ _)); refine blk_put (cs := #[.int .i64 0, .int .i64 0, .int .i64 0, .int .i64 0]) ?_ 0 _ rfl; (with_reducible repeat (first | refine blk_drewN ?_ _ | refine blk_drew ?_ | refine blk_alloc ?_ _)); exact BK334.out) hb); have n1_ := Aside0.mk (below_step (by repeat (first | (with_reducible first | exact HB.out | apply below_alloc | apply pw_below_drewN | apply below_drew1 | refine below_set ?_ GE334.out) | exact HB.out)) hb); clear BK334; clear HB; have BK334 := n0_; have HB := n1_; clear n0_ n1_; (try clear hb); (try clear hb2); (try clear hk); (try clear hi)) | ((with_reducible refine gate_dst (N := 6) rfl ?_); (try (refine gate_guard (by rfl) ?_; dsimp only)); refine box_event ?hg (N := 6) ?hd (cs := #[.int .i64 0, .int .i64 0, .int .i64 0, .int .i64 0]) (t := 44) ?hr ?_; (case hd => rfl); (case hg => rfl); (case hr => first | (go_simp; done) | (go_simp; rfl)); intro gb339 hg w28 hbox hb; have n0_ := Aside0.mk (blk_below (g := gb334) (o := .cells #[.int .i64 t330, .int .i64 t331, .int .i64 t332, .int .i64 t333] 44 (0, 0)) (by (with_reducible repeat (first | refine blk_drewN ?_ _ | refine blk_drew ?_ | refine blk_alloc ?_ _)); exact BK334.out) hb); have n1_ := Aside0.mk (below_step (by repeat (first | (with_reducible first | exact HB.out | apply below_alloc | apply pw_below_drewN | apply below_drew1 | refine below_set ?_ GE334.out) | exact HB.out)) hb); have n2_ := Aside0.mk (hbox); have n3_ := Aside0.mk ((by rw [hg]; exact (below_size (by repeat (first | (with_reducible first | exact HB.out | apply below_alloc | apply pw_below_drewN | apply below_drew1 | refine below_set ?_ GE334.out) | exact HB.out))) : w.heap.size ≤ gb339)); have n4_ := Aside0.mk ((by rw [hg]; exact (below_size (by repeat (first | (with_reducible first | exact HB.out | apply below_alloc | apply pw_below_drewN | apply below_drew1 | refine below_set ?_ GE334.out) | exact HB.out))) : w.heap.size ≤ gb339)); have n5_ := Aside0.mk ((by rw [hg]; exact Nat.ne_of_lt (blk_lt (g := gb334) (o := .cells #[.int .i64 t330, .int .i64 t331, .int .i64 t332, .int .i64 t333] 44 (0, 0)) (by (with_reducible repeat (first | refine blk_drewN ?_ _ | refine blk_drew ?_ | refine blk_alloc ?_ _)); exact BK334.out)) : gb334 ≠ gb339)); have n6_ := Aside0.mk ((by rw [hg]; exact Nat.ne_of_gt (blk_lt (g := gb334) (o := .cells #[.int .i64 t330, .int .i64 t331, .int .i64 t332, .int .i64 t333] 44 (0, 0)) (by (with_reducible repeat (first | refine blk_drewN ?_ _ | refine blk_drew ?_ | refine blk_alloc ?_ _)); exact BK334.out)) : gb339 ≠ gb334)); clear BK334; clear HB; have BK334 := n0_; have HB := n1_; have BK339 := n2_; have GW339 := n3_; have GE339 := n4_; have NB334_339 := n5_; have NB339_334 := n6_; clear n0_ n1_ n2_ n3_ n4_ n5_ n6_; clear hb hbox hg; have hnb29 := NB339_334.out; have hnc29 := NB334_339.out; have hcz30_0 : w28.cell? ⟨gb339, 0, none⟩ = some (.int .i64 0) := (blk_cell BK339.out 0).trans rfl; have hcz30_1 : w28.cell? ⟨gb339, 1, none⟩ = some (.int .i64 0) := (blk_cell BK339.out 1).trans rfl; have hcz30_2 : w28.cell? ⟨gb339, 2, none⟩ = some (.int .i64 0) := (blk_cell BK339.out 2).trans rfl; have hcz30_3 : w28.cell? ⟨gb339, 3, none⟩ = some (.int .i64 0) := (blk_cell BK339.out 3).trans rfl; have hfz30_0 := blk_frozen BK339.out 0; have hfz30_1 := blk_frozen BK339.out 1; have hfz30_2 := blk_frozen BK339.out 2; have hfz30_3 := blk_frozen BK339.out 3))
           have n0_ : Aside0 (((((w28.setCell ⟨gb339, 0, none⟩ (.int .i64 t335)).setCell ⟨gb339, 1, none⟩ (.int .i64 t336)).setCell ⟨gb339, 2, none⟩ (.int .i64 t337)).setCell ⟨gb339, 3, none⟩ (.int .i64 t338)).heap[gb334]? = some (.cells #[.int .i64 t330, .int .i64 t331, .int .i64 t332, .int .i64 t333] 44 (0, 0))) := ⟨by (with_reducible repeat (first | refine blk_drewN ?_ _ | refine blk_drew ?_ | refine blk_alloc ?_ _)); refine blk_far ?_ NB334_339.out _; (with_reducible repeat (first | refine blk_drewN ?_ _ | refine blk_drew ?_ | refine blk_alloc ?_ _)); refine blk_far ?_ NB334_339.out _; (with_reducible repeat (first | refine blk_drewN ?_ _ | refine blk_drew ?_ | refine blk_alloc ?_ _)); refine blk_far ?_ NB334_339.out _; (with_reducible repeat (first | refine blk_drewN ?_ _ | refine blk_drew ?_ | refine blk_alloc ?_ _)); refine blk_far ?_ NB334_339.out _; (with_reducible repeat (first | refine blk_drewN ?_ _ | refine blk_drew ?_ | refine blk_alloc ?_ _)); exact BK334.out⟩
           have n1_ : Aside0 (((((w28.setCell ⟨gb339, 0, none⟩ (.int .i64 t335)).setCell ⟨gb339, 1, none⟩ (.int .i64 t336)).setCell ⟨gb339, 2, none⟩ (.int .i64 t337)).setCell ⟨gb339, 3, none⟩ (.int .i64 t338)).heap[gb339]? = some (.cells #[.int .i64 t335, .int .i64 t336, .int .i64 t337, .int .i64 t338] 44 (0, 0))) := ⟨by (with_reducible repeat (first | refine blk_drewN ?_ _ | refine blk_drew ?_ | refine blk_alloc ?_ _)); refine blk_put (cs := #[.int .i64 t335, .int .i64 t336, .int .i64 t337, .int .i64 0]) ?_ 3 _ rfl; (with_reducible repeat (first | refine blk_drewN ?_ _ | refine blk_drew ?_ | refine blk_alloc ?_ _)); refine blk_put (cs := #[.int .i64 t335, .int .i64 t336, .int .i64 0, .int .i64 0]) ?_ 2 _ rfl; (with_reducible repeat (first | refine blk_drewN ?_ _ | refine blk_drew ?_ | refine blk_alloc ?_ _)); refine blk_put (cs := #[.int .i64 t335, .int .i64 0, .int .i64 0, .int .i64 0]) ?_ 1 _ rfl; (with_reducible repeat (first | refine blk_drewN ?_ _ | refine blk_drew ?_ | refine blk_alloc ?_ _)); refine blk_put (cs := #[.int .i64 0, .int .i64 0, .int .i64 0, .int .i64 0]) ?_ 0 _ rfl; (with_reducible repeat (first | refine blk_drewN ?_ _ | refine blk_drew ?_ | refine blk_alloc ?_ _)); exact BK339.out⟩
           have n2_ : Aside0 (Below w.heap.size w ((((w28.setCell ⟨gb339, 0, none⟩ (.int .i64 t335)).setCell ⟨gb339, 1, none⟩ (.int .i64 t336)).setCell ⟨gb339, 2, none⟩ (.int .i64 t337)).setCell ⟨gb339, 3, none⟩ (.int .i64 t338))) := ⟨by repeat (first | (with_reducible first | exact HB.out | apply below_alloc | apply pw_below_drewN | apply below_drew1 | refine below_set ?_ GE334.out | refine below_set ?_ GE339.out) | exact HB.out)⟩
           (try clear BK334)
           (try clear BK339)
           (try clear HB)
           generalize ((((w28.setCell ⟨gb339, 0, none⟩ (.int .i64 t335)).setCell ⟨gb339, 1, none⟩ (.int .i64 t336)).setCell ⟨gb339, 2, none⟩ (.int .i64 t337)).setCell ⟨gb339, 3, none⟩ (.int .i64 t338)) = w31 at n0_ n1_ n2_ ⊢
           have BK334 := n0_
           have BK339 := n1_
           have HB := n2_
           clear n0_ n1_ n2_
           have n0_ := Aside0.mk (blk_drew BK334.out)
           have n1_ := Aside0.mk (blk_drew BK339.out)
           have n2_ := Aside0.mk (below_drew1 HB.out)
           clear BK334
           clear BK339
           clear HB
           have BK334 := n0_
           have BK339 := n1_
           have HB := n2_
           clear n0_ n1_ n2_
           refine start_ (n := 42) (S := fun w' => w'.cell? ⟨gb334, 0, none⟩ = some (.int .i64 t330) ∧ w'.cell? ⟨gb334, 1, none⟩ = some (.int .i64 t331) ∧ w'.cell? ⟨gb334, 2, none⟩ = some (.int .i64 t332) ∧ w'.cell? ⟨gb334, 3, none⟩ = some (.int .i64 t333) ∧ w'.cell? ⟨gb339, 0, none⟩ = some (.int .i64 t335) ∧ w'.cell? ⟨gb339, 1, none⟩ = some (.int .i64 t336) ∧ w'.cell? ⟨gb339, 2, none⟩ = some (.int .i64 t337) ∧ w'.cell? ⟨gb339, 3, none⟩ = some (.int .i64 t338)) (ds := []) #[FB,FB,FB,FB,FB,FB,FB,FB,FB,FB,FB,FB,FB,FB,FB,FB,FB,FB,FB,FB,FB,FB,FB,FB,FB,FB,FB,FB,FB,FB,FB,FB,FB,FB,FB,FB,FB,FB,FB,FB,FB,FB] (by kernel_rfl) rfl rfl ⟨(blk_cell BK334.out 0).trans rfl, (blk_cell BK334.out 1).trans rfl, (blk_cell BK334.out 2).trans rfl, (blk_cell BK334.out 3).trans rfl, (blk_cell BK339.out 0).trans rfl, (blk_cell BK339.out 1).trans rfl, (blk_cell BK339.out 2).trans rfl, (blk_cell BK339.out 3).trans rfl⟩ (fun hHeld => ?_); refine with_tabW palinodelaw2_CountSums.tab7 palinodelaw2_CountSums.bits7 (fun HT_ HW_ => ?_)
           generalize w31.drew = w32 at BK334 BK339 HB hHeld ⊢
           refine pure_ (i := 2) (N := some 35) (v := ?_) (a' := ?_) #[FB,FB,TB,FB,FB,FB,FB,FB,FB,FB,FB,FB,FB,FB,FB,FB,FB,FB,FB,FB,FB,FB,FB,FB,FB,FB,FB,FB,FB,FB,FB,FB,FB,FB,FB,FB,FB,FB,FB,FB,FB,FB] rfl rfl (any_of HT_.out (by kernel_rfl)) (fun _ _ _ h => h) (Or.inl ⟨by rfl, ?_⟩) ?_ ?_
           rotate_left
           ·intro w'
            go_simp
            with_reducible rfl
           rotate_left
           ·simp only [Act.put, List.setIfInBounds_toArray, List.set_cons_zero, List.set_cons_succ, i64_w, i32_w]
            rfl
           refine take_ (i := 0) (N := some 33) (v := ?_) (a' := ?_) #[TB,FB,TB,FB,FB,FB,FB,FB,FB,FB,FB,FB,FB,FB,FB,FB,FB,FB,FB,FB,FB,FB,FB,FB,FB,FB,FB,FB,FB,FB,FB,FB,FB,FB,FB,FB,FB,FB,FB,FB,FB,FB] rfl rfl (take_ofW HT_.out HW_.out (by kernel_rfl)) (fun _ _ _ h => h) (Or.inl ⟨by rfl, ?_⟩) hHeld ?_ ?_
           rotate_left
           ·rintro w' ⟨s0, s1, s2, s3, s4, s5, s6, s7⟩
            go_simp
            with_reducible rfl
           rotate_left
           ·simp only [Act.put, List.setIfInBounds_toArray, List.set_cons_zero, List.set_cons_succ, i64_w, i32_w]
            rfl
           refine take_ (i := 1) (N := some 34) (v := ?_) (a' := ?_) #[TB,TB,TB,FB,FB,FB,FB,FB,FB,FB,FB,FB,FB,FB,FB,FB,FB,FB,FB,FB,FB,FB,FB,FB,FB,FB,FB,FB,FB,FB,FB,FB,FB,FB,FB,FB,FB,FB,FB,FB,FB,FB] rfl rfl (take_ofW HT_.out HW_.out (by kernel_rfl)) (fun _ _ _ h => h) (Or.inl ⟨by rfl, ?_⟩) hHeld ?_ ?_
           rotate_left
           ·rintro w' ⟨s0, s1, s2, s3, s4, s5, s6, s7⟩
            go_simp
            with_reducible rfl
           rotate_left
           ·simp only [Act.put, List.setIfInBounds_toArray, List.set_cons_zero, List.set_cons_succ, i64_w, i32_w]
            rfl
           refine one_ (i := 3) (N := some 36) #[TB,TB,TB,TB,FB,FB,FB,FB,FB,FB,FB,FB,FB,FB,FB,FB,FB,FB,FB,FB,FB,FB,FB,FB,FB,FB,FB,FB,FB,FB,FB,FB,FB,FB,FB,FB,FB,FB,FB,FB,FB,FB] rfl rfl (one_of HT_.out (by kernel_rfl)) (by decide) (fun K hK => ?_)
           refine goes_ Try.func38 (by kernel_rfl) rfl #[.string a1] (by rfl) rfl rfl (by (try simp only [List.map_toArray, List.map_cons, List.map_nil]); first | done | rfl | (simp only [List.length_drop, List.length_take]; rfl)) ?_
           with_reducible refine (count_Of.calls a1 t340 t341 t342 t343 _ A16.out).mono ?_
           rintro e w33 ⟨rfl, hb⟩
           refine ⟨_, rfl, ?_⟩
           have n0_ := Aside0.mk (blk_below (g := gb334) (o := .cells #[.int .i64 t330, .int .i64 t331, .int .i64 t332, .int .i64 t333] 44 (0, 0)) (by (with_reducible repeat (first | refine blk_drewN ?_ _ | refine blk_drew ?_ | refine blk_alloc ?_ _)); exact BK334.out) hb)
           have n1_ := Aside0.mk (blk_below (g := gb339) (o := .cells #[.int .i64 t335, .int .i64 t336, .int .i64 t337, .int .i64 t338] 44 (0, 0)) (by (with_reducible repeat (first | refine blk_drewN ?_ _ | refine blk_drew ?_ | refine blk_alloc ?_ _)); exact BK339.out) hb)
           have n2_ := Aside0.mk (below_step (by repeat (first | (with_reducible first | exact HB.out | apply below_alloc | apply pw_below_drewN | apply below_drew1 | refine below_set ?_ GE334.out | refine below_set ?_ GE339.out) | exact HB.out)) hb)
           clear BK334
           clear BK339
           clear HB
           have BK334 := n0_
           have BK339 := n1_
           have HB := n2_
           clear n0_ n1_ n2_
           (try clear hb)
           (try clear hb2)
           (try clear hk)
           (try clear hi)
           refine hK.out _ _ ⟨(blk_cell BK334.out 0).trans rfl, (blk_cell BK334.out 1).trans rfl, (blk_cell BK334.out 2).trans rfl, (blk_cell BK334.out 3).trans rfl, (blk_cell BK339.out 0).trans rfl, (blk_cell BK339.out 1).trans rfl, (blk_cell BK339.out 2).trans rfl, (blk_cell BK339.out 3).trans rfl⟩ (fun hHeld => ?_)
           clear hK K
           refine norm_ (a' := ?_) ?_ ?_
           rotate_left
           ·show Act.put _ (some 36) _ = _
            simp only [Act.put, List.setIfInBounds_toArray, List.set_cons_zero, List.set_cons_succ, i64_w, i32_w]
            rfl
           refine one_ (i := 4) (N := some 37) #[TB,TB,TB,TB,TB,FB,FB,FB,FB,FB,FB,FB,FB,FB,FB,FB,FB,FB,FB,FB,FB,FB,FB,FB,FB,FB,FB,FB,FB,FB,FB,FB,FB,FB,FB,FB,FB,FB,FB,FB,FB,FB] rfl rfl (one_of HT_.out (by kernel_rfl)) (by decide) (fun K hK => ?_)
           refine goes_ Try.func40 (by kernel_rfl) rfl #[.agg #[.int .i64 t335, .int .i64 t336, .int .i64 t337, .int .i64 t338], .agg #[.int .i64 t340, .int .i64 t341, .int .i64 t342, .int .i64 t343]] (by rfl) rfl rfl (by (try simp only [List.map_toArray, List.map_cons, List.map_nil]); first | done | rfl | (simp only [List.length_drop, List.length_take]; rfl)) ?_
           with_reducible refine (count_Plus.calls t335 t336 t337 t338 t340 t341 t342 t343 t344 t345 t346 t347 _ A17.out).mono ?_
           rintro e w34 ⟨rfl, hb⟩
           refine ⟨_, rfl, ?_⟩
           have n0_ := Aside0.mk (blk_below (g := gb334) (o := .cells #[.int .i64 t330, .int .i64 t331, .int .i64 t332, .int .i64 t333] 44 (0, 0)) (by (with_reducible repeat (first | refine blk_drewN ?_ _ | refine blk_drew ?_ | refine blk_alloc ?_ _)); exact BK334.out) hb)
           have n1_ := Aside0.mk (blk_below (g := gb339) (o := .cells #[.int .i64 t335, .int .i64 t336, .int .i64 t337, .int .i64 t338] 44 (0, 0)) (by (with_reducible repeat (first | refine blk_drewN ?_ _ | refine blk_drew ?_ | refine blk_alloc ?_ _)); exact BK339.out) hb)
           have n2_ := Aside0.mk (below_step (by repeat (first | (with_reducible first | exact HB.out | apply below_alloc | apply pw_below_drewN | apply below_drew1 | refine below_set ?_ GE334.out | refine below_set ?_ GE339.out) | exact HB.out)) hb)
           clear BK334
           clear BK339
           clear HB
           have BK334 := n0_
           have BK339 := n1_
           have HB := n2_
           clear n0_ n1_ n2_
           (try clear hb)
           (try clear hb2)
           (try clear hk)
           (try clear hi)
           refine hK.out _ _ ⟨(blk_cell BK334.out 0).trans rfl, (blk_cell BK334.out 1).trans rfl, (blk_cell BK334.out 2).trans rfl, (blk_cell BK334.out 3).trans rfl, (blk_cell BK339.out 0).trans rfl, (blk_cell BK339.out 1).trans rfl, (blk_cell BK339.out 2).trans rfl, (blk_cell BK339.out 3).trans rfl⟩ (fun hHeld => ?_)
           clear hK K
           refine norm_ (a' := ?_) ?_ ?_
           rotate_left
           ·show Act.put _ (some 37) _ = _
            simp only [Act.put, List.setIfInBounds_toArray, List.set_cons_zero, List.set_cons_succ, i64_w, i32_w]
            rfl
           refine pure_ (i := 5) (N := some 38) (v := ?_) (a' := ?_) #[TB,TB,TB,TB,TB,TB,FB,FB,FB,FB,FB,FB,FB,FB,FB,FB,FB,FB,FB,FB,FB,FB,FB,FB,FB,FB,FB,FB,FB,FB,FB,FB,FB,FB,FB,FB,FB,FB,FB,FB,FB,FB] rfl rfl (any_of HT_.out (by kernel_rfl)) (fun _ _ _ h => h) (Or.inl ⟨by rfl, ?_⟩) ?_ ?_
           rotate_left
           ·intro w'
            go_simp
            with_reducible rfl
           rotate_left
           ·simp only [Act.put, List.setIfInBounds_toArray, List.set_cons_zero, List.set_cons_succ, i64_w, i32_w]
            rfl
           refine pure_ (i := 6) (N := some 39) (v := ?_) (a' := ?_) #[TB,TB,TB,TB,TB,TB,TB,FB,FB,FB,FB,FB,FB,FB,FB,FB,FB,FB,FB,FB,FB,FB,FB,FB,FB,FB,FB,FB,FB,FB,FB,FB,FB,FB,FB,FB,FB,FB,FB,FB,FB,FB] rfl rfl (any_of HT_.out (by kernel_rfl)) (fun _ _ _ h => h) (Or.inl ⟨by rfl, ?_⟩) ?_ ?_
           rotate_left
           ·intro w'
            go_simp
            with_reducible rfl
           rotate_left
           ·simp only [Act.put, List.setIfInBounds_toArray, List.set_cons_zero, List.set_cons_succ, i64_w, i32_w]
            rfl
           refine pure_ (i := 7) (N := some 40) (v := ?_) (a' := ?_) #[TB,TB,TB,TB,TB,TB,TB,TB,FB,FB,FB,FB,FB,FB,FB,FB,FB,FB,FB,FB,FB,FB,FB,FB,FB,FB,FB,FB,FB,FB,FB,FB,FB,FB,FB,FB,FB,FB,FB,FB,FB,FB] rfl rfl (any_of HT_.out (by kernel_rfl)) (fun _ _ _ h => h) (Or.inl ⟨by rfl, ?_⟩) ?_ ?_
           rotate_left
           ·intro w'
            go_simp
            with_reducible rfl
           rotate_left
           ·simp only [Act.put, List.setIfInBounds_toArray, List.set_cons_zero, List.set_cons_succ, i64_w, i32_w]
            rfl
           refine pure_ (i := 9) (N := some 42) (v := ?_) (a' := ?_) #[TB,TB,TB,TB,TB,TB,TB,TB,FB,TB,FB,FB,FB,FB,FB,FB,FB,FB,FB,FB,FB,FB,FB,FB,FB,FB,FB,FB,FB,FB,FB,FB,FB,FB,FB,FB,FB,FB,FB,FB,FB,FB] rfl rfl (any_of HT_.out (by kernel_rfl)) (fun _ _ _ h => h) (Or.inl ⟨by rfl, ?_⟩) ?_ ?_
           rotate_left
           ·intro w'
            go_simp
            with_reducible rfl
           rotate_left
           ·simp only [Act.put, List.setIfInBounds_toArray, List.set_cons_zero, List.set_cons_succ, i64_w, i32_w]
            rfl
           refine pure_ (i := 10) (N := some 43) (v := ?_) (a' := ?_) #[TB,TB,TB,TB,TB,TB,TB,TB,FB,TB,TB,FB,FB,FB,FB,FB,FB,FB,FB,FB,FB,FB,FB,FB,FB,FB,FB,FB,FB,FB,FB,FB,FB,FB,FB,FB,FB,FB,FB,FB,FB,FB] rfl rfl (any_of HT_.out (by kernel_rfl)) (fun _ _ _ h => h) (Or.inl ⟨by rfl, ?_⟩) ?_ ?_
           rotate_left
           ·intro w'
            go_simp
            with_reducible rfl
           rotate_left
           ·simp only [Act.put, List.setIfInBounds_toArray, List.set_cons_zero, List.set_cons_succ, i64_w, i32_w]
            rfl
           refine take_ (i := 8) (N := some 41) (v := ?_) (a' := ?_) #[TB,TB,TB,TB,TB,TB,TB,TB,TB,TB,TB,FB,FB,FB,FB,FB,FB,FB,FB,FB,FB,FB,FB,FB,FB,FB,FB,FB,FB,FB,FB,FB,FB,FB,FB,FB,FB,FB,FB,FB,FB,FB] rfl rfl (take_ofW HT_.out HW_.out (by kernel_rfl)) (fun _ _ _ h => h) (Or.inl ⟨by rfl, ?_⟩) hHeld ?_ ?_
           rotate_left
           ·rintro w' ⟨s0, s1, s2, s3, s4, s5, s6, s7⟩
            go_simp
            with_reducible rfl
           rotate_left
           ·simp only [Act.put, List.setIfInBounds_toArray, List.set_cons_zero, List.set_cons_succ, i64_w, i32_w]
            rfl
           refine pure_ (i := 11) (N := some 44) (v := ?_) (a' := ?_) #[TB,TB,TB,TB,TB,TB,TB,TB,TB,TB,TB,TB,FB,FB,FB,FB,FB,FB,FB,FB,FB,FB,FB,FB,FB,FB,FB,FB,FB,FB,FB,FB,FB,FB,FB,FB,FB,FB,FB,FB,FB,FB] rfl rfl (any_of HT_.out (by kernel_rfl)) (fun _ _ _ h => h) (Or.inl ⟨by rfl, ?_⟩) ?_ ?_
           rotate_left
           ·intro w'
            go_simp
            with_reducible rfl
           rotate_left
           ·simp only [Act.put, List.setIfInBounds_toArray, List.set_cons_zero, List.set_cons_succ, i64_w, i32_w]
            rfl
           refine pure_ (i := 12) (N := some 45) (v := ?_) (a' := ?_) #[TB,TB,TB,TB,TB,TB,TB,TB,TB,TB,TB,TB,TB,FB,FB,FB,FB,FB,FB,FB,FB,FB,FB,FB,FB,FB,FB,FB,FB,FB,FB,FB,FB,FB,FB,FB,FB,FB,FB,FB,FB,FB] rfl rfl (any_of HT_.out (by kernel_rfl)) (fun _ _ _ h => h) (Or.inl ⟨by rfl, ?_⟩) ?_ ?_
           rotate_left
           ·intro w'
            go_simp
            with_reducible rfl
           rotate_left
           ·simp only [Act.put, List.setIfInBounds_toArray, List.set_cons_zero, List.set_cons_succ, i64_w, i32_w]
            rfl
           refine pure_ (i := 13) (N := some 46) (v := ?_) (a' := ?_) #[TB,TB,TB,TB,TB,TB,TB,TB,TB,TB,TB,TB,TB,TB,FB,FB,FB,FB,FB,FB,FB,FB,FB,FB,FB,FB,FB,FB,FB,FB,FB,FB,FB,FB,FB,FB,FB,FB,FB,FB,FB,FB] rfl rfl (any_of HT_.out (by kernel_rfl)) (fun _ _ _ h => h) (Or.inl ⟨by rfl, ?_⟩) ?_ ?_
           rotate_left
           ·intro w'
            go_simp
            with_reducible rfl
           rotate_left
           ·simp only [Act.put, List.setIfInBounds_toArray, List.set_cons_zero, List.set_cons_succ, i64_w, i32_w]
            rfl
           refine pure_ (i := 14) (N := some 47) (v := ?_) (a' := ?_) #[TB,TB,TB,TB,TB,TB,TB,TB,TB,TB,TB,TB,TB,TB,TB,FB,FB,FB,FB,FB,FB,FB,FB,FB,FB,FB,FB,FB,FB,FB,FB,FB,FB,FB,FB,FB,FB,FB,FB,FB,FB,FB] rfl rfl (any_of HT_.out (by kernel_rfl)) (fun _ _ _ h => h) (Or.inl ⟨by rfl, ?_⟩) ?_ ?_
           rotate_left
           ·intro w'
            go_simp
            with_reducible rfl
           rotate_left
           ·simp only [Act.put, List.setIfInBounds_toArray, List.set_cons_zero, List.set_cons_succ, i64_w, i32_w]
            rfl
           refine pure_ (i := 16) (N := some 49) (v := ?_) (a' := ?_) #[TB,TB,TB,TB,TB,TB,TB,TB,TB,TB,TB,TB,TB,TB,TB,FB,TB,FB,FB,FB,FB,FB,FB,FB,FB,FB,FB,FB,FB,FB,FB,FB,FB,FB,FB,FB,FB,FB,FB,FB,FB,FB] rfl rfl (any_of HT_.out (by kernel_rfl)) (fun _ _ _ h => h) (Or.inl ⟨by rfl, ?_⟩) ?_ ?_
           rotate_left
           ·intro w'
            go_simp
            with_reducible rfl
           rotate_left
           ·simp only [Act.put, List.setIfInBounds_toArray, List.set_cons_zero, List.set_cons_succ, i64_w, i32_w]
            rfl
           refine take_ (i := 15) (N := some 48) (v := ?_) (a' := ?_) #[TB,TB,TB,TB,TB,TB,TB,TB,TB,TB,TB,TB,TB,TB,TB,TB,TB,FB,FB,FB,FB,FB,FB,FB,FB,FB,FB,FB,FB,FB,FB,FB,FB,FB,FB,FB,FB,FB,FB,FB,FB,FB] rfl rfl (take_ofW HT_.out HW_.out (by kernel_rfl)) (fun _ _ _ h => h) (Or.inl ⟨by rfl, ?_⟩) hHeld ?_ ?_
           rotate_left
           ·rintro w' ⟨s0, s1, s2, s3, s4, s5, s6, s7⟩
            go_simp
            with_reducible rfl
           rotate_left
           ·simp only [Act.put, List.setIfInBounds_toArray, List.set_cons_zero, List.set_cons_succ, i64_w, i32_w]
            rfl
           refine take_ (i := 17) (N := some 50) (v := ?_) (a' := ?_) #[TB,TB,TB,TB,TB,TB,TB,TB,TB,TB,TB,TB,TB,TB,TB,TB,TB,TB,FB,FB,FB,FB,FB,FB,FB,FB,FB,FB,FB,FB,FB,FB,FB,FB,FB,FB,FB,FB,FB,FB,FB,FB] rfl rfl (take_ofW HT_.out HW_.out (by kernel_rfl)) (fun _ _ _ h => h) (Or.inl ⟨by rfl, ?_⟩) hHeld ?_ ?_
           rotate_left
           ·rintro w' ⟨s0, s1, s2, s3, s4, s5, s6, s7⟩
            go_simp
            with_reducible rfl
           rotate_left
           ·simp only [Act.put, List.setIfInBounds_toArray, List.set_cons_zero, List.set_cons_succ, i64_w, i32_w]
            rfl
           refine pure_ (i := 18) (N := some 51) (v := ?_) (a' := ?_) #[TB,TB,TB,TB,TB,TB,TB,TB,TB,TB,TB,TB,TB,TB,TB,TB,TB,TB,TB,FB,FB,FB,FB,FB,FB,FB,FB,FB,FB,FB,FB,FB,FB,FB,FB,FB,FB,FB,FB,FB,FB,FB] rfl rfl (any_of HT_.out (by kernel_rfl)) (fun _ _ _ h => h) (Or.inl ⟨by rfl, ?_⟩) ?_ ?_
           rotate_left
           ·intro w'
            go_simp
            with_reducible rfl
           rotate_left
           ·simp only [Act.put, List.setIfInBounds_toArray, List.set_cons_zero, List.set_cons_succ, i64_w, i32_w]
            rfl
           refine pure_ (i := 19) (N := some 52) (v := ?_) (a' := ?_) #[TB,TB,TB,TB,TB,TB,TB,TB,TB,TB,TB,TB,TB,TB,TB,TB,TB,TB,TB,TB,FB,FB,FB,FB,FB,FB,FB,FB,FB,FB,FB,FB,FB,FB,FB,FB,FB,FB,FB,FB,FB,FB] rfl rfl (any_of HT_.out (by kernel_rfl)) (fun _ _ _ h => h) (Or.inl ⟨by rfl, ?_⟩) ?_ ?_
           rotate_left
           ·intro w'
            go_simp
            with_reducible rfl
           rotate_left
           ·simp only [Act.put, List.setIfInBounds_toArray, List.set_cons_zero, List.set_cons_succ, i64_w, i32_w]
            rfl
           refine pure_ (i := 20) (N := some 53) (v := ?_) (a' := ?_) #[TB,TB,TB,TB,TB,TB,TB,TB,TB,TB,TB,TB,TB,TB,TB,TB,TB,TB,TB,TB,TB,FB,FB,FB,FB,FB,FB,FB,FB,FB,FB,FB,FB,FB,FB,FB,FB,FB,FB,FB,FB,FB] rfl rfl (any_of HT_.out (by kernel_rfl)) (fun _ _ _ h => h) (Or.inl ⟨by rfl, ?_⟩) ?_ ?_
           rotate_left
           ·intro w'
            go_simp
            with_reducible rfl
           rotate_left
           ·simp only [Act.put, List.setIfInBounds_toArray, List.set_cons_zero, List.set_cons_succ, i64_w, i32_w]
            rfl
           refine pure_ (i := 21) (N := some 54) (v := ?_) (a' := ?_) #[TB,TB,TB,TB,TB,TB,TB,TB,TB,TB,TB,TB,TB,TB,TB,TB,TB,TB,TB,TB,TB,TB,FB,FB,FB,FB,FB,FB,FB,FB,FB,FB,FB,FB,FB,FB,FB,FB,FB,FB,FB,FB] rfl rfl (any_of HT_.out (by kernel_rfl)) (fun _ _ _ h => h) (Or.inl ⟨by rfl, ?_⟩) ?_ ?_
           rotate_left
           ·intro w'
            go_simp
            with_reducible rfl
           rotate_left
           ·simp only [Act.put, List.setIfInBounds_toArray, List.set_cons_zero, List.set_cons_succ, i64_w, i32_w]
            rfl
           refine pure_ (i := 23) (N := some 56) (v := ?_) (a' := ?_) #[TB,TB,TB,TB,TB,TB,TB,TB,TB,TB,TB,TB,TB,TB,TB,TB,TB,TB,TB,TB,TB,TB,FB,TB,FB,FB,FB,FB,FB,FB,FB,FB,FB,FB,FB,FB,FB,FB,FB,FB,FB,FB] rfl rfl (any_of HT_.out (by kernel_rfl)) (fun _ _ _ h => h) (Or.inl ⟨by rfl, ?_⟩) ?_ ?_
           rotate_left
           ·intro w'
            go_simp
            with_reducible rfl
           rotate_left
           ·simp only [Act.put, List.setIfInBounds_toArray, List.set_cons_zero, List.set_cons_succ, i64_w, i32_w]
            rfl
           refine take_ (i := 22) (N := some 55) (v := ?_) (a' := ?_) #[TB,TB,TB,TB,TB,TB,TB,TB,TB,TB,TB,TB,TB,TB,TB,TB,TB,TB,TB,TB,TB,TB,TB,TB,FB,FB,FB,FB,FB,FB,FB,FB,FB,FB,FB,FB,FB,FB,FB,FB,FB,FB] rfl rfl (take_ofW HT_.out HW_.out (by kernel_rfl)) (fun _ _ _ h => h) (Or.inl ⟨by rfl, ?_⟩) hHeld ?_ ?_
           rotate_left
           ·rintro w' ⟨s0, s1, s2, s3, s4, s5, s6, s7⟩
            go_simp
            with_reducible rfl
           rotate_left
           ·simp only [Act.put, List.setIfInBounds_toArray, List.set_cons_zero, List.set_cons_succ, i64_w, i32_w]
            rfl
           refine take_ (i := 24) (N := some 57) (v := ?_) (a' := ?_) #[TB,TB,TB,TB,TB,TB,TB,TB,TB,TB,TB,TB,TB,TB,TB,TB,TB,TB,TB,TB,TB,TB,TB,TB,TB,FB,FB,FB,FB,FB,FB,FB,FB,FB,FB,FB,FB,FB,FB,FB,FB,FB] rfl rfl (take_ofW HT_.out HW_.out (by kernel_rfl)) (fun _ _ _ h => h) (Or.inl ⟨by rfl, ?_⟩) hHeld ?_ ?_
           rotate_left
           ·rintro w' ⟨s0, s1, s2, s3, s4, s5, s6, s7⟩
            go_simp
            with_reducible rfl
           rotate_left
           ·simp only [Act.put, List.setIfInBounds_toArray, List.set_cons_zero, List.set_cons_succ, i64_w, i32_w]
            rfl
           refine pure_ (i := 25) (N := some 58) (v := ?_) (a' := ?_) #[TB,TB,TB,TB,TB,TB,TB,TB,TB,TB,TB,TB,TB,TB,TB,TB,TB,TB,TB,TB,TB,TB,TB,TB,TB,TB,FB,FB,FB,FB,FB,FB,FB,FB,FB,FB,FB,FB,FB,FB,FB,FB] rfl rfl (any_of HT_.out (by kernel_rfl)) (fun _ _ _ h => h) (Or.inl ⟨by rfl, ?_⟩) ?_ ?_
           rotate_left
           ·intro w'
            go_simp
            with_reducible rfl
           rotate_left
           ·simp only [Act.put, List.setIfInBounds_toArray, List.set_cons_zero, List.set_cons_succ, i64_w, i32_w]
            rfl
           refine pure_ (i := 26) (N := some 59) (v := ?_) (a' := ?_) #[TB,TB,TB,TB,TB,TB,TB,TB,TB,TB,TB,TB,TB,TB,TB,TB,TB,TB,TB,TB,TB,TB,TB,TB,TB,TB,TB,FB,FB,FB,FB,FB,FB,FB,FB,FB,FB,FB,FB,FB,FB,FB] rfl rfl (any_of HT_.out (by kernel_rfl)) (fun _ _ _ h => h) (Or.inl ⟨by rfl, ?_⟩) ?_ ?_
           rotate_left
           ·intro w'
            go_simp
            with_reducible rfl
           rotate_left
           ·simp only [Act.put, List.setIfInBounds_toArray, List.set_cons_zero, List.set_cons_succ, i64_w, i32_w]
            rfl
           refine pure_ (i := 27) (N := some 60) (v := ?_) (a' := ?_) #[TB,TB,TB,TB,TB,TB,TB,TB,TB,TB,TB,TB,TB,TB,TB,TB,TB,TB,TB,TB,TB,TB,TB,TB,TB,TB,TB,TB,FB,FB,FB,FB,FB,FB,FB,FB,FB,FB,FB,FB,FB,FB] rfl rfl (any_of HT_.out (by kernel_rfl)) (fun _ _ _ h => h) (Or.inl ⟨by rfl, ?_⟩) ?_ ?_
           rotate_left
           ·intro w'
            go_simp
            with_reducible rfl
           rotate_left
           ·simp only [Act.put, List.setIfInBounds_toArray, List.set_cons_zero, List.set_cons_succ, i64_w, i32_w]
            rfl
           refine pure_ (i := 28) (N := some 61) (v := ?_) (a' := ?_) #[TB,TB,TB,TB,TB,TB,TB,TB,TB,TB,TB,TB,TB,TB,TB,TB,TB,TB,TB,TB,TB,TB,TB,TB,TB,TB,TB,TB,TB,FB,FB,FB,FB,FB,FB,FB,FB,FB,FB,FB,FB,FB] rfl rfl (any_of HT_.out (by kernel_rfl)) (fun _ _ _ h => h) (Or.inl ⟨by rfl, ?_⟩) ?_ ?_
           rotate_left
           ·intro w'
            go_simp
            with_reducible rfl
           rotate_left
           ·simp only [Act.put, List.setIfInBounds_toArray, List.set_cons_zero, List.set_cons_succ, i64_w, i32_w]
            rfl
           refine pure_ (i := 30) (N := some 63) (v := ?_) (a' := ?_) #[TB,TB,TB,TB,TB,TB,TB,TB,TB,TB,TB,TB,TB,TB,TB,TB,TB,TB,TB,TB,TB,TB,TB,TB,TB,TB,TB,TB,TB,FB,TB,FB,FB,FB,FB,FB,FB,FB,FB,FB,FB,FB] rfl rfl (any_of HT_.out (by kernel_rfl)) (fun _ _ _ h => h) (Or.inl ⟨by rfl, ?_⟩) ?_ ?_
           rotate_left
           ·intro w'
            go_simp
            with_reducible rfl
           rotate_left
           ·simp only [Act.put, List.setIfInBounds_toArray, List.set_cons_zero, List.set_cons_succ, i64_w, i32_w]
            rfl
           refine take_ (i := 29) (N := some 62) (v := ?_) (a' := ?_) #[TB,TB,TB,TB,TB,TB,TB,TB,TB,TB,TB,TB,TB,TB,TB,TB,TB,TB,TB,TB,TB,TB,TB,TB,TB,TB,TB,TB,TB,TB,TB,FB,FB,FB,FB,FB,FB,FB,FB,FB,FB,FB] rfl rfl (take_ofW HT_.out HW_.out (by kernel_rfl)) (fun _ _ _ h => h) (Or.inl ⟨by rfl, ?_⟩) hHeld ?_ ?_
           rotate_left
           ·rintro w' ⟨s0, s1, s2, s3, s4, s5, s6, s7⟩
            go_simp
            with_reducible rfl
           rotate_left
           ·simp only [Act.put, List.setIfInBounds_toArray, List.set_cons_zero, List.set_cons_succ, i64_w, i32_w]
            rfl
           refine take_ (i := 31) (N := some 64) (v := ?_) (a' := ?_) #[TB,TB,TB,TB,TB,TB,TB,TB,TB,TB,TB,TB,TB,TB,TB,TB,TB,TB,TB,TB,TB,TB,TB,TB,TB,TB,TB,TB,TB,TB,TB,TB,FB,FB,FB,FB,FB,FB,FB,FB,FB,FB] rfl rfl (take_ofW HT_.out HW_.out (by kernel_rfl)) (fun _ _ _ h => h) (Or.inl ⟨by rfl, ?_⟩) hHeld ?_ ?_
           rotate_left
           ·rintro w' ⟨s0, s1, s2, s3, s4, s5, s6, s7⟩
            go_simp
            with_reducible rfl
           rotate_left
           ·simp only [Act.put, List.setIfInBounds_toArray, List.set_cons_zero, List.set_cons_succ, i64_w, i32_w]
            rfl
           refine pure_ (i := 32) (N := some 65) (v := ?_) (a' := ?_) #[TB,TB,TB,TB,TB,TB,TB,TB,TB,TB,TB,TB,TB,TB,TB,TB,TB,TB,TB,TB,TB,TB,TB,TB,TB,TB,TB,TB,TB,TB,TB,TB,TB,FB,FB,FB,FB,FB,FB,FB,FB,FB] rfl rfl (any_of HT_.out (by kernel_rfl)) (fun _ _ _ h => h) (Or.inl ⟨by rfl, ?_⟩) ?_ ?_
           rotate_left
           ·intro w'
            go_simp
            with_reducible rfl
           rotate_left
           ·simp only [Act.put, List.setIfInBounds_toArray, List.set_cons_zero, List.set_cons_succ, i64_w, i32_w]
            rfl
           refine pure_ (i := 33) (N := some 66) (v := ?_) (a' := ?_) #[TB,TB,TB,TB,TB,TB,TB,TB,TB,TB,TB,TB,TB,TB,TB,TB,TB,TB,TB,TB,TB,TB,TB,TB,TB,TB,TB,TB,TB,TB,TB,TB,TB,TB,FB,FB,FB,FB,FB,FB,FB,FB] rfl rfl (any_of HT_.out (by kernel_rfl)) (fun _ _ _ h => h) (Or.inl ⟨by rfl, ?_⟩) ?_ ?_
           rotate_left
           ·intro w'
            go_simp
            with_reducible rfl
           rotate_left
           ·simp only [Act.put, List.setIfInBounds_toArray, List.set_cons_zero, List.set_cons_succ, i64_w, i32_w]
            rfl
           refine pure_ (i := 34) (N := some 67) (v := ?_) (a' := ?_) #[TB,TB,TB,TB,TB,TB,TB,TB,TB,TB,TB,TB,TB,TB,TB,TB,TB,TB,TB,TB,TB,TB,TB,TB,TB,TB,TB,TB,TB,TB,TB,TB,TB,TB,TB,FB,FB,FB,FB,FB,FB,FB] rfl rfl (any_of HT_.out (by kernel_rfl)) (fun _ _ _ h => h) (Or.inl ⟨by rfl, ?_⟩) ?_ ?_
           rotate_left
           ·intro w'
            go_simp
            with_reducible rfl
           rotate_left
           ·simp only [Act.put, List.setIfInBounds_toArray, List.set_cons_zero, List.set_cons_succ, i64_w, i32_w]
            rfl
           refine pure_ (i := 36) (N := some 69) (v := ?_) (a' := ?_) #[TB,TB,TB,TB,TB,TB,TB,TB,TB,TB,TB,TB,TB,TB,TB,TB,TB,TB,TB,TB,TB,TB,TB,TB,TB,TB,TB,TB,TB,TB,TB,TB,TB,TB,TB,FB,TB,FB,FB,FB,FB,FB] rfl rfl (any_of HT_.out (by kernel_rfl)) (fun _ _ _ h => h) (Or.inl ⟨by rfl, ?_⟩) ?_ ?_
           rotate_left
           ·intro w'
            go_simp
            with_reducible rfl
           rotate_left
           ·simp only [Act.put, List.setIfInBounds_toArray, List.set_cons_zero, List.set_cons_succ, i64_w, i32_w]
            rfl
           refine take_ (i := 35) (N := some 68) (v := ?_) (a' := ?_) #[TB,TB,TB,TB,TB,TB,TB,TB,TB,TB,TB,TB,TB,TB,TB,TB,TB,TB,TB,TB,TB,TB,TB,TB,TB,TB,TB,TB,TB,TB,TB,TB,TB,TB,TB,TB,TB,FB,FB,FB,FB,FB] rfl rfl (take_ofW HT_.out HW_.out (by kernel_rfl)) (fun _ _ _ h => h) (Or.inl ⟨by rfl, ?_⟩) hHeld ?_ ?_
           rotate_left
           ·rintro w' ⟨s0, s1, s2, s3, s4, s5, s6, s7⟩
            go_simp
            with_reducible rfl
           rotate_left
           ·simp only [Act.put, List.setIfInBounds_toArray, List.set_cons_zero, List.set_cons_succ, i64_w, i32_w]
            rfl
           refine take_ (i := 38) (N := some 71) (v := ?_) (a' := ?_) #[TB,TB,TB,TB,TB,TB,TB,TB,TB,TB,TB,TB,TB,TB,TB,TB,TB,TB,TB,TB,TB,TB,TB,TB,TB,TB,TB,TB,TB,TB,TB,TB,TB,TB,TB,TB,TB,FB,TB,FB,FB,FB] rfl rfl (take_ofW HT_.out HW_.out (by kernel_rfl)) (fun _ _ _ h => h) (Or.inl ⟨by rfl, ?_⟩) hHeld ?_ ?_
           rotate_left
           ·rintro w' ⟨s0, s1, s2, s3, s4, s5, s6, s7⟩
            go_simp
            with_reducible rfl
           rotate_left
           ·simp only [Act.put, List.setIfInBounds_toArray, List.set_cons_zero, List.set_cons_succ, i64_w, i32_w]
            rfl
           refine one_ (i := 37) (N := some 70) #[TB,TB,TB,TB,TB,TB,TB,TB,TB,TB,TB,TB,TB,TB,TB,TB,TB,TB,TB,TB,TB,TB,TB,TB,TB,TB,TB,TB,TB,TB,TB,TB,TB,TB,TB,TB,TB,TB,TB,FB,FB,FB] rfl rfl (one_of HT_.out (by kernel_rfl)) (by decide) (fun K hK => ?_)
           refine goes_ Try.func40 (by kernel_rfl) rfl #[.agg #[.int .i64 t335, .int .i64 t336, .int .i64 t337, .int .i64 t338], .agg #[.int .i64 0, .int .i64 0, .int .i64 0, .int .i64 0]] (by rfl) rfl rfl (by (try simp only [List.map_toArray, List.map_cons, List.map_nil]); first | done | rfl | (simp only [List.length_drop, List.length_take]; rfl)) ?_
           with_reducible refine (count_Plus.calls t335 t336 t337 t338 0 0 0 0 t348 t349 t350 t351 _ A23.out).mono ?_
           rintro e w35 ⟨rfl, hb⟩
           refine ⟨_, rfl, ?_⟩
           have n0_ := Aside0.mk (blk_below (g := gb334) (o := .cells #[.int .i64 t330, .int .i64 t331, .int .i64 t332, .int .i64 t333] 44 (0, 0)) (by (with_reducible repeat (first | refine blk_drewN ?_ _ | refine blk_drew ?_ | refine blk_alloc ?_ _)); exact BK334.out) hb)
           have n1_ := Aside0.mk (blk_below (g := gb339) (o := .cells #[.int .i64 t335, .int .i64 t336, .int .i64 t337, .int .i64 t338] 44 (0, 0)) (by (with_reducible repeat (first | refine blk_drewN ?_ _ | refine blk_drew ?_ | refine blk_alloc ?_ _)); exact BK339.out) hb)
           have n2_ := Aside0.mk (below_step (by repeat (first | (with_reducible first | exact HB.out | apply below_alloc | apply pw_below_drewN | apply below_drew1 | refine below_set ?_ GE334.out | refine below_set ?_ GE339.out) | exact HB.out)) hb)
           clear BK334
           clear BK339
           clear HB
           have BK334 := n0_
           have BK339 := n1_
           have HB := n2_
           clear n0_ n1_ n2_
           (try clear hb)
           (try clear hb2)
           (try clear hk)
           (try clear hi)
           refine hK.out _ _ ⟨(blk_cell BK334.out 0).trans rfl, (blk_cell BK334.out 1).trans rfl, (blk_cell BK334.out 2).trans rfl, (blk_cell BK334.out 3).trans rfl, (blk_cell BK339.out 0).trans rfl, (blk_cell BK339.out 1).trans rfl, (blk_cell BK339.out 2).trans rfl, (blk_cell BK339.out 3).trans rfl⟩ (fun hHeld => ?_)
           clear hK K
           refine norm_ (a' := ?_) ?_ ?_
           rotate_left
           ·show Act.put _ (some 70) _ = _
            simp only [Act.put, List.setIfInBounds_toArray, List.set_cons_zero, List.set_cons_succ, i64_w, i32_w]
            rfl
           refine pure_ (i := 39) (N := some 72) (v := ?_) (a' := ?_) #[TB,TB,TB,TB,TB,TB,TB,TB,TB,TB,TB,TB,TB,TB,TB,TB,TB,TB,TB,TB,TB,TB,TB,TB,TB,TB,TB,TB,TB,TB,TB,TB,TB,TB,TB,TB,TB,TB,TB,TB,FB,FB] rfl rfl (any_of HT_.out (by kernel_rfl)) (fun _ _ _ h => h) (Or.inl ⟨by rfl, ?_⟩) ?_ ?_
           rotate_left
           ·intro w'
            go_simp
            with_reducible rfl
           rotate_left
           ·simp only [Act.put, List.setIfInBounds_toArray, List.set_cons_zero, List.set_cons_succ, i64_w, i32_w]
            rfl
           refine pure_ (i := 40) (N := some 73) (v := ?_) (a' := ?_) #[TB,TB,TB,TB,TB,TB,TB,TB,TB,TB,TB,TB,TB,TB,TB,TB,TB,TB,TB,TB,TB,TB,TB,TB,TB,TB,TB,TB,TB,TB,TB,TB,TB,TB,TB,TB,TB,TB,TB,TB,TB,FB] rfl rfl (any_of HT_.out (by kernel_rfl)) (fun _ _ _ h => h) (Or.inl ⟨by rfl, ?_⟩) ?_ ?_
           rotate_left
           ·intro w'
            go_simp
            with_reducible rfl
           rotate_left
           ·simp only [Act.put, List.setIfInBounds_toArray, List.set_cons_zero, List.set_cons_succ, i64_w, i32_w]
            rfl
           refine pure_ (i := 41) (N := some 4) (v := ?_) (a' := ?_) #[TB,TB,TB,TB,TB,TB,TB,TB,TB,TB,TB,TB,TB,TB,TB,TB,TB,TB,TB,TB,TB,TB,TB,TB,TB,TB,TB,TB,TB,TB,TB,TB,TB,TB,TB,TB,TB,TB,TB,TB,TB,TB] rfl rfl (any_of HT_.out (by kernel_rfl)) (fun _ _ _ h => h) (Or.inl ⟨by rfl, ?_⟩) ?_ ?_
           rotate_left
           ·intro w'
            go_simp
            with_reducible rfl
           rotate_left
           ·simp only [Act.put, List.setIfInBounds_toArray, List.set_cons_zero, List.set_cons_succ, i64_w, i32_w]
            rfl
           refine done_ (done_of HT_.out (by kernel_rfl)) ?_
           try go_wp2
           go_ret
           exact ⟨by first | rfl | (simp [errW_none, errW_some] <;> rfl) | (simp [*, errW_none, errW_some] <;> rfl), by repeat (first | (with_reducible first | exact HB.out | apply below_alloc | apply pw_below_drewN | apply below_drew1 | refine below_set ?_ GE334.out | refine below_set ?_ GE339.out) | exact HB.out)⟩
          ·rw [if_neg c22] at H
           have c22b0 : decide (t338 ≤ t336) = false := decide_eq_false c22
           clear c22
           obtain rfl := Option.some.inj H
           try go_wp2_with (first | ((with_reducible refine gate_callee (f := 38) rfl ?_); refine goesL_ (some 30) rfl rfl Try.func38 (by kernel_rfl) rfl #[.string (a0 ++ a1)] rfl (by (try simp only [List.map_toArray, List.map_cons, List.map_nil]); first | done | rfl | (simp only [List.length_drop, List.length_take]; rfl)) ?_; (with_reducible refine (count_Of.calls (a0 ++ a1) t330 t331 t332 t333 _ A14.out).mono ?_); rintro e w36 ⟨rfl, hb⟩; refine ⟨_, rfl, ?_⟩; have n0_ := Aside0.mk (below_step (by repeat (first | (with_reducible first | exact HB.out | apply below_alloc | apply pw_below_drewN | apply below_drew1) | exact HB.out)) hb); clear HB; have HB := n0_; clear n0_; (try clear hb); (try clear hb2); (try clear hk); (try clear hi)) | ((with_reducible refine gate_dst (N := 5) rfl ?_); (try (refine gate_guard (by rfl) ?_; dsimp only)); refine box_event ?hg (N := 5) ?hd (cs := #[.int .i64 0, .int .i64 0, .int .i64 0, .int .i64 0]) (t := 44) ?hr ?_; (case hd => rfl); (case hg => rfl); (case hr => first | (go_simp; done) | (go_simp; rfl)); intro gb334 hg w37 hbox hb; have n0_ := Aside0.mk (below_step (by repeat (first | (with_reducible first | exact HB.out | apply below_alloc | apply pw_below_drewN | apply below_drew1) | exact HB.out)) hb); have n1_ := Aside0.mk (hbox); have n2_ := Aside0.mk ((by rw [hg]; exact (below_size (by repeat (first | (with_reducible first | exact HB.out | apply below_alloc | apply pw_below_drewN | apply below_drew1) | exact HB.out))) : w.heap.size ≤ gb334)); have n3_ := Aside0.mk ((by rw [hg]; exact (below_size (by repeat (first | (with_reducible first | exact HB.out | apply below_alloc | apply pw_below_drewN | apply below_drew1) | exact HB.out))) : w.heap.size ≤ gb334)); clear HB; have HB := n0_; have BK334 := n1_; have GW334 := n2_; have GE334 := n3_; clear n0_ n1_ n2_ n3_; clear hb hbox hg; have hcz38_0 : w37.cell? ⟨gb334, 0, none⟩ = some (.int .i64 0) := (blk_cell BK334.out 0).trans rfl; have hcz38_1 : w37.cell? ⟨gb334, 1, none⟩ = some (.int .i64 0) := (blk_cell BK334.out 1).trans rfl; have hcz38_2 : w37.cell? ⟨gb334, 2, none⟩ = some (.int .i64 0) := (blk_cell BK334.out 2).trans rfl; have hcz38_3 : w37.cell? ⟨gb334, 3, none⟩ = some (.int .i64 0) := (blk_cell BK334.out 3).trans rfl; have hfz38_0 := blk_frozen BK334.out 0; have hfz38_1 := blk_frozen BK334.out 1; have hfz38_2 := blk_frozen BK334.out 2; have hfz38_3 := blk_frozen BK334.out 3) | ((with_reducible refine gate_callee (f := 38) rfl ?_); refine goesL_ (some 32) rfl rfl Try.func38 (by kernel_rfl) rfl #[.string a0] rfl (by (try simp only [List.map_toArray, List.map_cons, List.map_nil]); first | done | rfl | (simp only [List.length_drop, List.length_take]; rfl)) ?_; (with_reducible refine (count_Of.calls a0 t335 t336 t337 t338 _ A15.out).mono ?_); rintro e w39 ⟨rfl, hb⟩; refine ⟨_, rfl, ?_⟩; have n0_ := Aside0.mk (blk_below (g := gb334) (o := .cells #[.int .i64 t330, .int .i64 t331, .int .i64 t332, .int .i64 t333] 44 (0, 0)) (by (with_reducible repeat (first | refine blk_drewN ?_ _ | refine blk_drew ?_ | refine blk_alloc ?_ _)); refine blk_put (cs := #[.int .i64 t330, .int .i64 t331, .int .i64 t332, .int .i64 0]) ?_ 3 _ rfl; (with_reducible repeat (first | refine blk_drewN ?_ _ | refine blk_drew ?_ | refine blk_alloc ?_ _)); refine blk_put (cs := #[.int .i64 t330, .int .i64 t331, .int .i64 0, .int .i64 0]) ?_ 2 _ rfl; (with_reducible repeat (first | refine blk_drewN ?_ _ | refine blk_drew ?_ | refine blk_alloc ?_ _)); refine blk_put (cs := #[.int .i64 t330, .int .i64 0, .int .i64 0, .int .i64 0]) ?_ 1 _ rfl; (with_reducible repeat (first | refine blk_drewN ?_ _ | refine blk_drew ?_ | refine blk_alloc ?_ _)); refine blk_put (cs := #[.int .i64 0, .int .i64 0, .int .i64 0, .int .i64 0]) ?_ 0 _ rfl; (with_reducible repeat (first | refine blk_drewN ?_ _ | refine blk_drew ?_ | refine blk_alloc ?_ _)); exact BK334.out) hb); have n1_ := Aside0.mk (below_step (by repeat (first | (with_reducible first | exact HB.out | apply below_alloc | apply pw_below_drewN | apply below_drew1 | refine below_set ?_ GE334.out) | exact HB.out)) hb); clear BK334; clear HB; have BK334 := n0_; have HB := n1_; clear n0_ n1_; (try clear hb); (try clear hb2); (try clear hk); (try clear hi)) | ((with_reducible refine gate_dst (N := 6) rfl ?_); (try (refine gate_guard (by rfl) ?_; dsimp only)); refine box_event ?hg (N := 6) ?hd (cs := #[.int .i64 0, .int .i64 0, .int .i64 0, .int .i64 0]) (t := 44) ?hr ?_; (case hd => rfl); (case hg => rfl); (case hr => first | (go_simp; done) | (go_simp; rfl)); intro gb339 hg w40 hbox hb; have n0_ := Aside0.mk (blk_below (g := gb334) (o := .cells #[.int .i64 t330, .int .i64 t331, .int .i64 t332, .int .i64 t333] 44 (0, 0)) (by (with_reducible repeat (first | refine blk_drewN ?_ _ | refine blk_drew ?_ | refine blk_alloc ?_ _)); exact BK334.out) hb); have n1_ := Aside0.mk (below_step (by repeat (first | (with_reducible first | exact HB.out | apply below_alloc | apply pw_below_drewN | apply below_drew1 | refine below_set ?_ GE334.out) | exact HB.out)) hb); have n2_ := Aside0.mk (hbox); have n3_ := Aside0.mk ((by rw [hg]; exact (below_size (by repeat (first | (with_reducible first | exact HB.out | apply below_alloc | apply pw_below_drewN | apply below_drew1 | refine below_set ?_ GE334.out) | exact HB.out))) : w.heap.size ≤ gb339)); have n4_ := Aside0.mk ((by rw [hg]; exact (below_size (by repeat (first | (with_reducible first | exact HB.out | apply below_alloc | apply pw_below_drewN | apply below_drew1 | refine below_set ?_ GE334.out) | exact HB.out))) : w.heap.size ≤ gb339)); have n5_ := Aside0.mk ((by rw [hg]; exact Nat.ne_of_lt (blk_lt (g := gb334) (o := .cells #[.int .i64 t330, .int .i64 t331, .int .i64 t332, .int .i64 t333] 44 (0, 0)) (by (with_reducible repeat (first | refine blk_drewN ?_ _ | refine blk_drew ?_ | refine blk_alloc ?_ _)); exact BK334.out)) : gb334 ≠ gb339)); have n6_ := Aside0.mk ((by rw [hg]; exact Nat.ne_of_gt (blk_lt (g := gb334) (o := .cells #[.int .i64 t330, .int .i64 t331, .int .i64 t332, .int .i64 t333] 44 (0, 0)) (by (with_reducible repeat (first | refine blk_drewN ?_ _ | refine blk_drew ?_ | refine blk_alloc ?_ _)); exact BK334.out)) : gb339 ≠ gb334)); clear BK334; clear HB; have BK334 := n0_; have HB := n1_; have BK339 := n2_; have GW339 := n3_; have GE339 := n4_; have NB334_339 := n5_; have NB339_334 := n6_; clear n0_ n1_ n2_ n3_ n4_ n5_ n6_; clear hb hbox hg; have hnb41 := NB339_334.out; have hnc41 := NB334_339.out; have hcz42_0 : w40.cell? ⟨gb339, 0, none⟩ = some (.int .i64 0) := (blk_cell BK339.out 0).trans rfl; have hcz42_1 : w40.cell? ⟨gb339, 1, none⟩ = some (.int .i64 0) := (blk_cell BK339.out 1).trans rfl; have hcz42_2 : w40.cell? ⟨gb339, 2, none⟩ = some (.int .i64 0) := (blk_cell BK339.out 2).trans rfl; have hcz42_3 : w40.cell? ⟨gb339, 3, none⟩ = some (.int .i64 0) := (blk_cell BK339.out 3).trans rfl; have hfz42_0 := blk_frozen BK339.out 0; have hfz42_1 := blk_frozen BK339.out 1; have hfz42_2 := blk_frozen BK339.out 2; have hfz42_3 := blk_frozen BK339.out 3))
           have n0_ : Aside0 (((((w40.setCell ⟨gb339, 0, none⟩ (.int .i64 t335)).setCell ⟨gb339, 1, none⟩ (.int .i64 t336)).setCell ⟨gb339, 2, none⟩ (.int .i64 t337)).setCell ⟨gb339, 3, none⟩ (.int .i64 t338)).heap[gb334]? = some (.cells #[.int .i64 t330, .int .i64 t331, .int .i64 t332, .int .i64 t333] 44 (0, 0))) := ⟨by (with_reducible repeat (first | refine blk_drewN ?_ _ | refine blk_drew ?_ | refine blk_alloc ?_ _)); refine blk_far ?_ NB334_339.out _; (with_reducible repeat (first | refine blk_drewN ?_ _ | refine blk_drew ?_ | refine blk_alloc ?_ _)); refine blk_far ?_ NB334_339.out _; (with_reducible repeat (first | refine blk_drewN ?_ _ | refine blk_drew ?_ | refine blk_alloc ?_ _)); refine blk_far ?_ NB334_339.out _; (with_reducible repeat (first | refine blk_drewN ?_ _ | refine blk_drew ?_ | refine blk_alloc ?_ _)); refine blk_far ?_ NB334_339.out _; (with_reducible repeat (first | refine blk_drewN ?_ _ | refine blk_drew ?_ | refine blk_alloc ?_ _)); exact BK334.out⟩
           have n1_ : Aside0 (((((w40.setCell ⟨gb339, 0, none⟩ (.int .i64 t335)).setCell ⟨gb339, 1, none⟩ (.int .i64 t336)).setCell ⟨gb339, 2, none⟩ (.int .i64 t337)).setCell ⟨gb339, 3, none⟩ (.int .i64 t338)).heap[gb339]? = some (.cells #[.int .i64 t335, .int .i64 t336, .int .i64 t337, .int .i64 t338] 44 (0, 0))) := ⟨by (with_reducible repeat (first | refine blk_drewN ?_ _ | refine blk_drew ?_ | refine blk_alloc ?_ _)); refine blk_put (cs := #[.int .i64 t335, .int .i64 t336, .int .i64 t337, .int .i64 0]) ?_ 3 _ rfl; (with_reducible repeat (first | refine blk_drewN ?_ _ | refine blk_drew ?_ | refine blk_alloc ?_ _)); refine blk_put (cs := #[.int .i64 t335, .int .i64 t336, .int .i64 0, .int .i64 0]) ?_ 2 _ rfl; (with_reducible repeat (first | refine blk_drewN ?_ _ | refine blk_drew ?_ | refine blk_alloc ?_ _)); refine blk_put (cs := #[.int .i64 t335, .int .i64 0, .int .i64 0, .int .i64 0]) ?_ 1 _ rfl; (with_reducible repeat (first | refine blk_drewN ?_ _ | refine blk_drew ?_ | refine blk_alloc ?_ _)); refine blk_put (cs := #[.int .i64 0, .int .i64 0, .int .i64 0, .int .i64 0]) ?_ 0 _ rfl; (with_reducible repeat (first | refine blk_drewN ?_ _ | refine blk_drew ?_ | refine blk_alloc ?_ _)); exact BK339.out⟩
           have n2_ : Aside0 (Below w.heap.size w ((((w40.setCell ⟨gb339, 0, none⟩ (.int .i64 t335)).setCell ⟨gb339, 1, none⟩ (.int .i64 t336)).setCell ⟨gb339, 2, none⟩ (.int .i64 t337)).setCell ⟨gb339, 3, none⟩ (.int .i64 t338))) := ⟨by repeat (first | (with_reducible first | exact HB.out | apply below_alloc | apply pw_below_drewN | apply below_drew1 | refine below_set ?_ GE334.out | refine below_set ?_ GE339.out) | exact HB.out)⟩
           (try clear BK334)
           (try clear BK339)
           (try clear HB)
           generalize ((((w40.setCell ⟨gb339, 0, none⟩ (.int .i64 t335)).setCell ⟨gb339, 1, none⟩ (.int .i64 t336)).setCell ⟨gb339, 2, none⟩ (.int .i64 t337)).setCell ⟨gb339, 3, none⟩ (.int .i64 t338)) = w43 at n0_ n1_ n2_ ⊢
           have BK334 := n0_
           have BK339 := n1_
           have HB := n2_
           clear n0_ n1_ n2_
           have n0_ := Aside0.mk (blk_drew BK334.out)
           have n1_ := Aside0.mk (blk_drew BK339.out)
           have n2_ := Aside0.mk (below_drew1 HB.out)
           clear BK334
           clear BK339
           clear HB
           have BK334 := n0_
           have BK339 := n1_
           have HB := n2_
           clear n0_ n1_ n2_
           refine start_ (n := 42) (S := fun w' => w'.cell? ⟨gb334, 0, none⟩ = some (.int .i64 t330) ∧ w'.cell? ⟨gb334, 1, none⟩ = some (.int .i64 t331) ∧ w'.cell? ⟨gb334, 2, none⟩ = some (.int .i64 t332) ∧ w'.cell? ⟨gb334, 3, none⟩ = some (.int .i64 t333) ∧ w'.cell? ⟨gb339, 0, none⟩ = some (.int .i64 t335) ∧ w'.cell? ⟨gb339, 1, none⟩ = some (.int .i64 t336) ∧ w'.cell? ⟨gb339, 2, none⟩ = some (.int .i64 t337) ∧ w'.cell? ⟨gb339, 3, none⟩ = some (.int .i64 t338)) (ds := []) #[FB,FB,FB,FB,FB,FB,FB,FB,FB,FB,FB,FB,FB,FB,FB,FB,FB,FB,FB,FB,FB,FB,FB,FB,FB,FB,FB,FB,FB,FB,FB,FB,FB,FB,FB,FB,FB,FB,FB,FB,FB,FB] (by kernel_rfl) rfl rfl ⟨(blk_cell BK334.out 0).trans rfl, (blk_cell BK334.out 1).trans rfl, (blk_cell BK334.out 2).trans rfl, (blk_cell BK334.out 3).trans rfl, (blk_cell BK339.out 0).trans rfl, (blk_cell BK339.out 1).trans rfl, (blk_cell BK339.out 2).trans rfl, (blk_cell BK339.out 3).trans rfl⟩ (fun hHeld => ?_); refine with_tabW palinodelaw2_CountSums.tab7 palinodelaw2_CountSums.bits7 (fun HT_ HW_ => ?_)
           generalize w43.drew = w44 at BK334 BK339 HB hHeld ⊢
           refine pure_ (i := 2) (N := some 35) (v := ?_) (a' := ?_) #[FB,FB,TB,FB,FB,FB,FB,FB,FB,FB,FB,FB,FB,FB,FB,FB,FB,FB,FB,FB,FB,FB,FB,FB,FB,FB,FB,FB,FB,FB,FB,FB,FB,FB,FB,FB,FB,FB,FB,FB,FB,FB] rfl rfl (any_of HT_.out (by kernel_rfl)) (fun _ _ _ h => h) (Or.inl ⟨by rfl, ?_⟩) ?_ ?_
           rotate_left
           ·intro w'
            go_simp
            with_reducible rfl
           rotate_left
           ·simp only [Act.put, List.setIfInBounds_toArray, List.set_cons_zero, List.set_cons_succ, i64_w, i32_w]
            rfl
           refine take_ (i := 0) (N := some 33) (v := ?_) (a' := ?_) #[TB,FB,TB,FB,FB,FB,FB,FB,FB,FB,FB,FB,FB,FB,FB,FB,FB,FB,FB,FB,FB,FB,FB,FB,FB,FB,FB,FB,FB,FB,FB,FB,FB,FB,FB,FB,FB,FB,FB,FB,FB,FB] rfl rfl (take_ofW HT_.out HW_.out (by kernel_rfl)) (fun _ _ _ h => h) (Or.inl ⟨by rfl, ?_⟩) hHeld ?_ ?_
           rotate_left
           ·rintro w' ⟨s0, s1, s2, s3, s4, s5, s6, s7⟩
            go_simp
            with_reducible rfl
           rotate_left
           ·simp only [Act.put, List.setIfInBounds_toArray, List.set_cons_zero, List.set_cons_succ, i64_w, i32_w]
            rfl
           refine take_ (i := 1) (N := some 34) (v := ?_) (a' := ?_) #[TB,TB,TB,FB,FB,FB,FB,FB,FB,FB,FB,FB,FB,FB,FB,FB,FB,FB,FB,FB,FB,FB,FB,FB,FB,FB,FB,FB,FB,FB,FB,FB,FB,FB,FB,FB,FB,FB,FB,FB,FB,FB] rfl rfl (take_ofW HT_.out HW_.out (by kernel_rfl)) (fun _ _ _ h => h) (Or.inl ⟨by rfl, ?_⟩) hHeld ?_ ?_
           rotate_left
           ·rintro w' ⟨s0, s1, s2, s3, s4, s5, s6, s7⟩
            go_simp
            with_reducible rfl
           rotate_left
           ·simp only [Act.put, List.setIfInBounds_toArray, List.set_cons_zero, List.set_cons_succ, i64_w, i32_w]
            rfl
           refine one_ (i := 3) (N := some 36) #[TB,TB,TB,TB,FB,FB,FB,FB,FB,FB,FB,FB,FB,FB,FB,FB,FB,FB,FB,FB,FB,FB,FB,FB,FB,FB,FB,FB,FB,FB,FB,FB,FB,FB,FB,FB,FB,FB,FB,FB,FB,FB] rfl rfl (one_of HT_.out (by kernel_rfl)) (by decide) (fun K hK => ?_)
           refine goes_ Try.func38 (by kernel_rfl) rfl #[.string a1] (by rfl) rfl rfl (by (try simp only [List.map_toArray, List.map_cons, List.map_nil]); first | done | rfl | (simp only [List.length_drop, List.length_take]; rfl)) ?_
           with_reducible refine (count_Of.calls a1 t340 t341 t342 t343 _ A16.out).mono ?_
           rintro e w45 ⟨rfl, hb⟩
           refine ⟨_, rfl, ?_⟩
           have n0_ := Aside0.mk (blk_below (g := gb334) (o := .cells #[.int .i64 t330, .int .i64 t331, .int .i64 t332, .int .i64 t333] 44 (0, 0)) (by (with_reducible repeat (first | refine blk_drewN ?_ _ | refine blk_drew ?_ | refine blk_alloc ?_ _)); exact BK334.out) hb)
           have n1_ := Aside0.mk (blk_below (g := gb339) (o := .cells #[.int .i64 t335, .int .i64 t336, .int .i64 t337, .int .i64 t338] 44 (0, 0)) (by (with_reducible repeat (first | refine blk_drewN ?_ _ | refine blk_drew ?_ | refine blk_alloc ?_ _)); exact BK339.out) hb)
           have n2_ := Aside0.mk (below_step (by repeat (first | (with_reducible first | exact HB.out | apply below_alloc | apply pw_below_drewN | apply below_drew1 | refine below_set ?_ GE334.out | refine below_set ?_ GE339.out) | exact HB.out)) hb)
           clear BK334
           clear BK339
           clear HB
           have BK334 := n0_
           have BK339 := n1_
           have HB := n2_
           clear n0_ n1_ n2_
           (try clear hb)
           (try clear hb2)
           (try clear hk)
           (try clear hi)
           refine hK.out _ _ ⟨(blk_cell BK334.out 0).trans rfl, (blk_cell BK334.out 1).trans rfl, (blk_cell BK334.out 2).trans rfl, (blk_cell BK334.out 3).trans rfl, (blk_cell BK339.out 0).trans rfl, (blk_cell BK339.out 1).trans rfl, (blk_cell BK339.out 2).trans rfl, (blk_cell BK339.out 3).trans rfl⟩ (fun hHeld => ?_)
           clear hK K
           refine norm_ (a' := ?_) ?_ ?_
           rotate_left
           ·show Act.put _ (some 36) _ = _
            simp only [Act.put, List.setIfInBounds_toArray, List.set_cons_zero, List.set_cons_succ, i64_w, i32_w]
            rfl
           refine one_ (i := 4) (N := some 37) #[TB,TB,TB,TB,TB,FB,FB,FB,FB,FB,FB,FB,FB,FB,FB,FB,FB,FB,FB,FB,FB,FB,FB,FB,FB,FB,FB,FB,FB,FB,FB,FB,FB,FB,FB,FB,FB,FB,FB,FB,FB,FB] rfl rfl (one_of HT_.out (by kernel_rfl)) (by decide) (fun K hK => ?_)
           refine goes_ Try.func40 (by kernel_rfl) rfl #[.agg #[.int .i64 t335, .int .i64 t336, .int .i64 t337, .int .i64 t338], .agg #[.int .i64 t340, .int .i64 t341, .int .i64 t342, .int .i64 t343]] (by rfl) rfl rfl (by (try simp only [List.map_toArray, List.map_cons, List.map_nil]); first | done | rfl | (simp only [List.length_drop, List.length_take]; rfl)) ?_
           with_reducible refine (count_Plus.calls t335 t336 t337 t338 t340 t341 t342 t343 t344 t345 t346 t347 _ A17.out).mono ?_
           rintro e w46 ⟨rfl, hb⟩
           refine ⟨_, rfl, ?_⟩
           have n0_ := Aside0.mk (blk_below (g := gb334) (o := .cells #[.int .i64 t330, .int .i64 t331, .int .i64 t332, .int .i64 t333] 44 (0, 0)) (by (with_reducible repeat (first | refine blk_drewN ?_ _ | refine blk_drew ?_ | refine blk_alloc ?_ _)); exact BK334.out) hb)
           have n1_ := Aside0.mk (blk_below (g := gb339) (o := .cells #[.int .i64 t335, .int .i64 t336, .int .i64 t337, .int .i64 t338] 44 (0, 0)) (by (with_reducible repeat (first | refine blk_drewN ?_ _ | refine blk_drew ?_ | refine blk_alloc ?_ _)); exact BK339.out) hb)
           have n2_ := Aside0.mk (below_step (by repeat (first | (with_reducible first | exact HB.out | apply below_alloc | apply pw_below_drewN | apply below_drew1 | refine below_set ?_ GE334.out | refine below_set ?_ GE339.out) | exact HB.out)) hb)
           clear BK334
           clear BK339
           clear HB
           have BK334 := n0_
           have BK339 := n1_
           have HB := n2_
           clear n0_ n1_ n2_
           (try clear hb)
           (try clear hb2)
           (try clear hk)
           (try clear hi)
           refine hK.out _ _ ⟨(blk_cell BK334.out 0).trans rfl, (blk_cell BK334.out 1).trans rfl, (blk_cell BK334.out 2).trans rfl, (blk_cell BK334.out 3).trans rfl, (blk_cell BK339.out 0).trans rfl, (blk_cell BK339.out 1).trans rfl, (blk_cell BK339.out 2).trans rfl, (blk_cell BK339.out 3).trans rfl⟩ (fun hHeld => ?_)
           clear hK K
           refine norm_ (a' := ?_) ?_ ?_
           rotate_left
           ·show Act.put _ (some 37) _ = _
            simp only [Act.put, List.setIfInBounds_toArray, List.set_cons_zero, List.set_cons_succ, i64_w, i32_w]
            rfl
           refine pure_ (i := 5) (N := some 38) (v := ?_) (a' := ?_) #[TB,TB,TB,TB,TB,TB,FB,FB,FB,FB,FB,FB,FB,FB,FB,FB,FB,FB,FB,FB,FB,FB,FB,FB,FB,FB,FB,FB,FB,FB,FB,FB,FB,FB,FB,FB,FB,FB,FB,FB,FB,FB] rfl rfl (any_of HT_.out (by kernel_rfl)) (fun _ _ _ h => h) (Or.inl ⟨by rfl, ?_⟩) ?_ ?_
           rotate_left
           ·intro w'
            go_simp
            with_reducible rfl
           rotate_left
           ·simp only [Act.put, List.setIfInBounds_toArray, List.set_cons_zero, List.set_cons_succ, i64_w, i32_w]
            rfl
           refine pure_ (i := 6) (N := some 39) (v := ?_) (a' := ?_) #[TB,TB,TB,TB,TB,TB,TB,FB,FB,FB,FB,FB,FB,FB,FB,FB,FB,FB,FB,FB,FB,FB,FB,FB,FB,FB,FB,FB,FB,FB,FB,FB,FB,FB,FB,FB,FB,FB,FB,FB,FB,FB] rfl rfl (any_of HT_.out (by kernel_rfl)) (fun _ _ _ h => h) (Or.inl ⟨by rfl, ?_⟩) ?_ ?_
           rotate_left
           ·intro w'
            go_simp
            with_reducible rfl
           rotate_left
           ·simp only [Act.put, List.setIfInBounds_toArray, List.set_cons_zero, List.set_cons_succ, i64_w, i32_w]
            rfl
           refine pure_ (i := 7) (N := some 40) (v := ?_) (a' := ?_) #[TB,TB,TB,TB,TB,TB,TB,TB,FB,FB,FB,FB,FB,FB,FB,FB,FB,FB,FB,FB,FB,FB,FB,FB,FB,FB,FB,FB,FB,FB,FB,FB,FB,FB,FB,FB,FB,FB,FB,FB,FB,FB] rfl rfl (any_of HT_.out (by kernel_rfl)) (fun _ _ _ h => h) (Or.inl ⟨by rfl, ?_⟩) ?_ ?_
           rotate_left
           ·intro w'
            go_simp
            with_reducible rfl
           rotate_left
           ·simp only [Act.put, List.setIfInBounds_toArray, List.set_cons_zero, List.set_cons_succ, i64_w, i32_w]
            rfl
           refine pure_ (i := 9) (N := some 42) (v := ?_) (a' := ?_) #[TB,TB,TB,TB,TB,TB,TB,TB,FB,TB,FB,FB,FB,FB,FB,FB,FB,FB,FB,FB,FB,FB,FB,FB,FB,FB,FB,FB,FB,FB,FB,FB,FB,FB,FB,FB,FB,FB,FB,FB,FB,FB] rfl rfl (any_of HT_.out (by kernel_rfl)) (fun _ _ _ h => h) (Or.inl ⟨by rfl, ?_⟩) ?_ ?_
           rotate_left
           ·intro w'
            go_simp
            with_reducible rfl
           rotate_left
           ·simp only [Act.put, List.setIfInBounds_toArray, List.set_cons_zero, List.set_cons_succ, i64_w, i32_w]
            rfl
           refine pure_ (i := 10) (N := some 43) (v := ?_) (a' := ?_) #[TB,TB,TB,TB,TB,TB,TB,TB,FB,TB,TB,FB,FB,FB,FB,FB,FB,FB,FB,FB,FB,FB,FB,FB,FB,FB,FB,FB,FB,FB,FB,FB,FB,FB,FB,FB,FB,FB,FB,FB,FB,FB] rfl rfl (any_of HT_.out (by kernel_rfl)) (fun _ _ _ h => h) (Or.inl ⟨by rfl, ?_⟩) ?_ ?_
           rotate_left
           ·intro w'
            go_simp
            with_reducible rfl
           rotate_left
           ·simp only [Act.put, List.setIfInBounds_toArray, List.set_cons_zero, List.set_cons_succ, i64_w, i32_w]
            rfl
           refine take_ (i := 8) (N := some 41) (v := ?_) (a' := ?_) #[TB,TB,TB,TB,TB,TB,TB,TB,TB,TB,TB,FB,FB,FB,FB,FB,FB,FB,FB,FB,FB,FB,FB,FB,FB,FB,FB,FB,FB,FB,FB,FB,FB,FB,FB,FB,FB,FB,FB,FB,FB,FB] rfl rfl (take_ofW HT_.out HW_.out (by kernel_rfl)) (fun _ _ _ h => h) (Or.inl ⟨by rfl, ?_⟩) hHeld ?_ ?_
           rotate_left
           ·rintro w' ⟨s0, s1, s2, s3, s4, s5, s6, s7⟩
            go_simp
            with_reducible rfl
           rotate_left
           ·simp only [Act.put, List.setIfInBounds_toArray, List.set_cons_zero, List.set_cons_succ, i64_w, i32_w]
            rfl
           refine pure_ (i := 11) (N := some 44) (v := ?_) (a' := ?_) #[TB,TB,TB,TB,TB,TB,TB,TB,TB,TB,TB,TB,FB,FB,FB,FB,FB,FB,FB,FB,FB,FB,FB,FB,FB,FB,FB,FB,FB,FB,FB,FB,FB,FB,FB,FB,FB,FB,FB,FB,FB,FB] rfl rfl (any_of HT_.out (by kernel_rfl)) (fun _ _ _ h => h) (Or.inl ⟨by rfl, ?_⟩) ?_ ?_
           rotate_left
           ·intro w'
            go_simp
            with_reducible rfl
           rotate_left
           ·simp only [Act.put, List.setIfInBounds_toArray, List.set_cons_zero, List.set_cons_succ, i64_w, i32_w]
            rfl
           refine pure_ (i := 12) (N := some 45) (v := ?_) (a' := ?_) #[TB,TB,TB,TB,TB,TB,TB,TB,TB,TB,TB,TB,TB,FB,FB,FB,FB,FB,FB,FB,FB,FB,FB,FB,FB,FB,FB,FB,FB,FB,FB,FB,FB,FB,FB,FB,FB,FB,FB,FB,FB,FB] rfl rfl (any_of HT_.out (by kernel_rfl)) (fun _ _ _ h => h) (Or.inl ⟨by rfl, ?_⟩) ?_ ?_
           rotate_left
           ·intro w'
            go_simp
            with_reducible rfl
           rotate_left
           ·simp only [Act.put, List.setIfInBounds_toArray, List.set_cons_zero, List.set_cons_succ, i64_w, i32_w]
            rfl
           refine pure_ (i := 13) (N := some 46) (v := ?_) (a' := ?_) #[TB,TB,TB,TB,TB,TB,TB,TB,TB,TB,TB,TB,TB,TB,FB,FB,FB,FB,FB,FB,FB,FB,FB,FB,FB,FB,FB,FB,FB,FB,FB,FB,FB,FB,FB,FB,FB,FB,FB,FB,FB,FB] rfl rfl (any_of HT_.out (by kernel_rfl)) (fun _ _ _ h => h) (Or.inl ⟨by rfl, ?_⟩) ?_ ?_
           rotate_left
           ·intro w'
            go_simp
            with_reducible rfl
           rotate_left
           ·simp only [Act.put, List.setIfInBounds_toArray, List.set_cons_zero, List.set_cons_succ, i64_w, i32_w]
            rfl
           refine pure_ (i := 14) (N := some 47) (v := ?_) (a' := ?_) #[TB,TB,TB,TB,TB,TB,TB,TB,TB,TB,TB,TB,TB,TB,TB,FB,FB,FB,FB,FB,FB,FB,FB,FB,FB,FB,FB,FB,FB,FB,FB,FB,FB,FB,FB,FB,FB,FB,FB,FB,FB,FB] rfl rfl (any_of HT_.out (by kernel_rfl)) (fun _ _ _ h => h) (Or.inl ⟨by rfl, ?_⟩) ?_ ?_
           rotate_left
           ·intro w'
            go_simp
            with_reducible rfl
           rotate_left
           ·simp only [Act.put, List.setIfInBounds_toArray, List.set_cons_zero, List.set_cons_succ, i64_w, i32_w]
            rfl
           refine pure_ (i := 16) (N := some 49) (v := ?_) (a' := ?_) #[TB,TB,TB,TB,TB,TB,TB,TB,TB,TB,TB,TB,TB,TB,TB,FB,TB,FB,FB,FB,FB,FB,FB,FB,FB,FB,FB,FB,FB,FB,FB,FB,FB,FB,FB,FB,FB,FB,FB,FB,FB,FB] rfl rfl (any_of HT_.out (by kernel_rfl)) (fun _ _ _ h => h) (Or.inl ⟨by rfl, ?_⟩) ?_ ?_
           rotate_left
           ·intro w'
            go_simp
            with_reducible rfl
           rotate_left
           ·simp only [Act.put, List.setIfInBounds_toArray, List.set_cons_zero, List.set_cons_succ, i64_w, i32_w]
            rfl
           refine take_ (i := 15) (N := some 48) (v := ?_) (a' := ?_) #[TB,TB,TB,TB,TB,TB,TB,TB,TB,TB,TB,TB,TB,TB,TB,TB,TB,FB,FB,FB,FB,FB,FB,FB,FB,FB,FB,FB,FB,FB,FB,FB,FB,FB,FB,FB,FB,FB,FB,FB,FB,FB] rfl rfl (take_ofW HT_.out HW_.out (by kernel_rfl)) (fun _ _ _ h => h) (Or.inl ⟨by rfl, ?_⟩) hHeld ?_ ?_
           rotate_left
           ·rintro w' ⟨s0, s1, s2, s3, s4, s5, s6, s7⟩
            go_simp
            with_reducible rfl
           rotate_left
           ·simp only [Act.put, List.setIfInBounds_toArray, List.set_cons_zero, List.set_cons_succ, i64_w, i32_w]
            rfl
           refine take_ (i := 17) (N := some 50) (v := ?_) (a' := ?_) #[TB,TB,TB,TB,TB,TB,TB,TB,TB,TB,TB,TB,TB,TB,TB,TB,TB,TB,FB,FB,FB,FB,FB,FB,FB,FB,FB,FB,FB,FB,FB,FB,FB,FB,FB,FB,FB,FB,FB,FB,FB,FB] rfl rfl (take_ofW HT_.out HW_.out (by kernel_rfl)) (fun _ _ _ h => h) (Or.inl ⟨by rfl, ?_⟩) hHeld ?_ ?_
           rotate_left
           ·rintro w' ⟨s0, s1, s2, s3, s4, s5, s6, s7⟩
            go_simp
            with_reducible rfl
           rotate_left
           ·simp only [Act.put, List.setIfInBounds_toArray, List.set_cons_zero, List.set_cons_succ, i64_w, i32_w]
            rfl
           refine pure_ (i := 18) (N := some 51) (v := ?_) (a' := ?_) #[TB,TB,TB,TB,TB,TB,TB,TB,TB,TB,TB,TB,TB,TB,TB,TB,TB,TB,TB,FB,FB,FB,FB,FB,FB,FB,FB,FB,FB,FB,FB,FB,FB,FB,FB,FB,FB,FB,FB,FB,FB,FB] rfl rfl (any_of HT_.out (by kernel_rfl)) (fun _ _ _ h => h) (Or.inl ⟨by rfl, ?_⟩) ?_ ?_
           rotate_left
           ·intro w'
            go_simp
            with_reducible rfl
           rotate_left
           ·simp only [Act.put, List.setIfInBounds_toArray, List.set_cons_zero, List.set_cons_succ, i64_w, i32_w]
            rfl
           refine pure_ (i := 19) (N := some 52) (v := ?_) (a' := ?_) #[TB,TB,TB,TB,TB,TB,TB,TB,TB,TB,TB,TB,TB,TB,TB,TB,TB,TB,TB,TB,FB,FB,FB,FB,FB,FB,FB,FB,FB,FB,FB,FB,FB,FB,FB,FB,FB,FB,FB,FB,FB,FB] rfl rfl (any_of HT_.out (by kernel_rfl)) (fun _ _ _ h => h) (Or.inl ⟨by rfl, ?_⟩) ?_ ?_
           rotate_left
           ·intro w'
            go_simp
            with_reducible rfl
           rotate_left
           ·simp only [Act.put, List.setIfInBounds_toArray, List.set_cons_zero, List.set_cons_succ, i64_w, i32_w]
            rfl
           refine pure_ (i := 20) (N := some 53) (v := ?_) (a' := ?_) #[TB,TB,TB,TB,TB,TB,TB,TB,TB,TB,TB,TB,TB,TB,TB,TB,TB,TB,TB,TB,TB,FB,FB,FB,FB,FB,FB,FB,FB,FB,FB,FB,FB,FB,FB,FB,FB,FB,FB,FB,FB,FB] rfl rfl (any_of HT_.out (by kernel_rfl)) (fun _ _ _ h => h) (Or.inl ⟨by rfl, ?_⟩) ?_ ?_
           rotate_left
           ·intro w'
            go_simp
            with_reducible rfl
           rotate_left
           ·simp only [Act.put, List.setIfInBounds_toArray, List.set_cons_zero, List.set_cons_succ, i64_w, i32_w]
            rfl
           refine pure_ (i := 21) (N := some 54) (v := ?_) (a' := ?_) #[TB,TB,TB,TB,TB,TB,TB,TB,TB,TB,TB,TB,TB,TB,TB,TB,TB,TB,TB,TB,TB,TB,FB,FB,FB,FB,FB,FB,FB,FB,FB,FB,FB,FB,FB,FB,FB,FB,FB,FB,FB,FB] rfl rfl (any_of HT_.out (by kernel_rfl)) (fun _ _ _ h => h) (Or.inl ⟨by rfl, ?_⟩) ?_ ?_
           rotate_left
           ·intro w'
            go_simp
            with_reducible rfl
           rotate_left
           ·simp only [Act.put, List.setIfInBounds_toArray, List.set_cons_zero, List.set_cons_succ, i64_w, i32_w]
            rfl
           refine pure_ (i := 23) (N := some 56) (v := ?_) (a' := ?_) #[TB,TB,TB,TB,TB,TB,TB,TB,TB,TB,TB,TB,TB,TB,TB,TB,TB,TB,TB,TB,TB,TB,FB,TB,FB,FB,FB,FB,FB,FB,FB,FB,FB,FB,FB,FB,FB,FB,FB,FB,FB,FB] rfl rfl (any_of HT_.out (by kernel_rfl)) (fun _ _ _ h => h) (Or.inl ⟨by rfl, ?_⟩) ?_ ?_
           rotate_left
           ·intro w'
            go_simp
            with_reducible rfl
           rotate_left
           ·simp only [Act.put, List.setIfInBounds_toArray, List.set_cons_zero, List.set_cons_succ, i64_w, i32_w]
            rfl
           refine take_ (i := 22) (N := some 55) (v := ?_) (a' := ?_) #[TB,TB,TB,TB,TB,TB,TB,TB,TB,TB,TB,TB,TB,TB,TB,TB,TB,TB,TB,TB,TB,TB,TB,TB,FB,FB,FB,FB,FB,FB,FB,FB,FB,FB,FB,FB,FB,FB,FB,FB,FB,FB] rfl rfl (take_ofW HT_.out HW_.out (by kernel_rfl)) (fun _ _ _ h => h) (Or.inl ⟨by rfl, ?_⟩) hHeld ?_ ?_
           rotate_left
           ·rintro w' ⟨s0, s1, s2, s3, s4, s5, s6, s7⟩
            go_simp
            with_reducible rfl
           rotate_left
           ·simp only [Act.put, List.setIfInBounds_toArray, List.set_cons_zero, List.set_cons_succ, i64_w, i32_w]
            rfl
           refine take_ (i := 24) (N := some 57) (v := ?_) (a' := ?_) #[TB,TB,TB,TB,TB,TB,TB,TB,TB,TB,TB,TB,TB,TB,TB,TB,TB,TB,TB,TB,TB,TB,TB,TB,TB,FB,FB,FB,FB,FB,FB,FB,FB,FB,FB,FB,FB,FB,FB,FB,FB,FB] rfl rfl (take_ofW HT_.out HW_.out (by kernel_rfl)) (fun _ _ _ h => h) (Or.inl ⟨by rfl, ?_⟩) hHeld ?_ ?_
           rotate_left
           ·rintro w' ⟨s0, s1, s2, s3, s4, s5, s6, s7⟩
            go_simp
            with_reducible rfl
           rotate_left
           ·simp only [Act.put, List.setIfInBounds_toArray, List.set_cons_zero, List.set_cons_succ, i64_w, i32_w]
            rfl
           refine pure_ (i := 25) (N := some 58) (v := ?_) (a' := ?_) #[TB,TB,TB,TB,TB,TB,TB,TB,TB,TB,TB,TB,TB,TB,TB,TB,TB,TB,TB,TB,TB,TB,TB,TB,TB,TB,FB,FB,FB,FB,FB,FB,FB,FB,FB,FB,FB,FB,FB,FB,FB,FB] rfl rfl (any_of HT_.out (by kernel_rfl)) (fun _ _ _ h => h) (Or.inl ⟨by rfl, ?_⟩) ?_ ?_
           rotate_left
           ·intro w'
            go_simp
            with_reducible rfl
           rotate_left
           ·simp only [Act.put, List.setIfInBounds_toArray, List.set_cons_zero, List.set_cons_succ, i64_w, i32_w]
            rfl
           refine pure_ (i := 26) (N := some 59) (v := ?_) (a' := ?_) #[TB,TB,TB,TB,TB,TB,TB,TB,TB,TB,TB,TB,TB,TB,TB,TB,TB,TB,TB,TB,TB,TB,TB,TB,TB,TB,TB,FB,FB,FB,FB,FB,FB,FB,FB,FB,FB,FB,FB,FB,FB,FB] rfl rfl (any_of HT_.out (by kernel_rfl)) (fun _ _ _ h => h) (Or.inl ⟨by rfl, ?_⟩) ?_ ?_
           rotate_left
           ·intro w'
            go_simp
            with_reducible rfl
           rotate_left
           ·simp only [Act.put, List.setIfInBounds_toArray, List.set_cons_zero, List.set_cons_succ, i64_w, i32_w]
            rfl
           refine pure_ (i := 27) (N := some 60) (v := ?_) (a' := ?_) #[TB,TB,TB,TB,TB,TB,TB,TB,TB,TB,TB,TB,TB,TB,TB,TB,TB,TB,TB,TB,TB,TB,TB,TB,TB,TB,TB,TB,FB,FB,FB,FB,FB,FB,FB,FB,FB,FB,FB,FB,FB,FB] rfl rfl (any_of HT_.out (by kernel_rfl)) (fun _ _ _ h => h) (Or.inl ⟨by rfl, ?_⟩) ?_ ?_
           rotate_left
           ·intro w'
            go_simp
            with_reducible rfl
           rotate_left
           ·simp only [Act.put, List.setIfInBounds_toArray, List.set_cons_zero, List.set_cons_succ, i64_w, i32_w]
            rfl
           refine pure_ (i := 28) (N := some 61) (v := ?_) (a' := ?_) #[TB,TB,TB,TB,TB,TB,TB,TB,TB,TB,TB,TB,TB,TB,TB,TB,TB,TB,TB,TB,TB,TB,TB,TB,TB,TB,TB,TB,TB,FB,FB,FB,FB,FB,FB,FB,FB,FB,FB,FB,FB,FB] rfl rfl (any_of HT_.out (by kernel_rfl)) (fun _ _ _ h => h) (Or.inl ⟨by rfl, ?_⟩) ?_ ?_
           rotate_left
           ·intro w'
            go_simp
            with_reducible rfl
           rotate_left
           ·simp only [Act.put, List.setIfInBounds_toArray, List.set_cons_zero, List.set_cons_succ, i64_w, i32_w]
            rfl
           refine pure_ (i := 30) (N := some 63) (v := ?_) (a' := ?_) #[TB,TB,TB,TB,TB,TB,TB,TB,TB,TB,TB,TB,TB,TB,TB,TB,TB,TB,TB,TB,TB,TB,TB,TB,TB,TB,TB,TB,TB,FB,TB,FB,FB,FB,FB,FB,FB,FB,FB,FB,FB,FB] rfl rfl (any_of HT_.out (by kernel_rfl)) (fun _ _ _ h => h) (Or.inl ⟨by rfl, ?_⟩) ?_ ?_
           rotate_left
           ·intro w'
            go_simp
            with_reducible rfl
           rotate_left
           ·simp only [Act.put, List.setIfInBounds_toArray, List.set_cons_zero, List.set_cons_succ, i64_w, i32_w]
            rfl
           refine take_ (i := 29) (N := some 62) (v := ?_) (a' := ?_) #[TB,TB,TB,TB,TB,TB,TB,TB,TB,TB,TB,TB,TB,TB,TB,TB,TB,TB,TB,TB,TB,TB,TB,TB,TB,TB,TB,TB,TB,TB,TB,FB,FB,FB,FB,FB,FB,FB,FB,FB,FB,FB] rfl rfl (take_ofW HT_.out HW_.out (by kernel_rfl)) (fun _ _ _ h => h) (Or.inl ⟨by rfl, ?_⟩) hHeld ?_ ?_
           rotate_left
           ·rintro w' ⟨s0, s1, s2, s3, s4, s5, s6, s7⟩
            go_simp
            with_reducible rfl
           rotate_left
           ·simp only [Act.put, List.setIfInBounds_toArray, List.set_cons_zero, List.set_cons_succ, i64_w, i32_w]
            rfl
           refine take_ (i := 31) (N := some 64) (v := ?_) (a' := ?_) #[TB,TB,TB,TB,TB,TB,TB,TB,TB,TB,TB,TB,TB,TB,TB,TB,TB,TB,TB,TB,TB,TB,TB,TB,TB,TB,TB,TB,TB,TB,TB,TB,FB,FB,FB,FB,FB,FB,FB,FB,FB,FB] rfl rfl (take_ofW HT_.out HW_.out (by kernel_rfl)) (fun _ _ _ h => h) (Or.inl ⟨by rfl, ?_⟩) hHeld ?_ ?_
           rotate_left
           ·rintro w' ⟨s0, s1, s2, s3, s4, s5, s6, s7⟩
            go_simp
            with_reducible rfl
           rotate_left
           ·simp only [Act.put, List.setIfInBounds_toArray, List.set_cons_zero, List.set_cons_succ, i64_w, i32_w]
            rfl
           refine pure_ (i := 32) (N := some 65) (v := ?_) (a' := ?_) #[TB,TB,TB,TB,TB,TB,TB,TB,TB,TB,TB,TB,TB,TB,TB,TB,TB,TB,TB,TB,TB,TB,TB,TB,TB,TB,TB,TB,TB,TB,TB,TB,TB,FB,FB,FB,FB,FB,FB,FB,FB,FB] rfl rfl (any_of HT_.out (by kernel_rfl)) (fun _ _ _ h => h) (Or.inl ⟨by rfl, ?_⟩) ?_ ?_
           rotate_left
           ·intro w'
            go_simp
            with_reducible rfl
           rotate_left
           ·simp only [Act.put, List.setIfInBounds_toArray, List.set_cons_zero, List.set_cons_succ, i64_w, i32_w]
            rfl
           refine pure_ (i := 33) (N := some 66) (v := ?_) (a' := ?_) #[TB,TB,TB,TB,TB,TB,TB,TB,TB,TB,TB,TB,TB,TB,TB,TB,TB,TB,TB,TB,TB,TB,TB,TB,TB,TB,TB,TB,TB,TB,TB,TB,TB,TB,FB,FB,FB,FB,FB,FB,FB,FB] rfl rfl (any_of HT_.out (by kernel_rfl)) (fun _ _ _ h => h) (Or.inl ⟨by rfl, ?_⟩) ?_ ?_
           rotate_left
           ·intro w'
            go_simp
            with_reducible rfl
           rotate_left
           ·simp only [Act.put, List.setIfInBounds_toArray, List.set_cons_zero, List.set_cons_succ, i64_w, i32_w]
            rfl
           refine pure_ (i := 34) (N := some 67) (v := ?_) (a' := ?_) #[TB,TB,TB,TB,TB,TB,TB,TB,TB,TB,TB,TB,TB,TB,TB,TB,TB,TB,TB,TB,TB,TB,TB,TB,TB,TB,TB,TB,TB,TB,TB,TB,TB,TB,TB,FB,FB,FB,FB,FB,FB,FB] rfl rfl (any_of HT_.out (by kernel_rfl)) (fun _ _ _ h => h) (Or.inl ⟨by rfl, ?_⟩) ?_ ?_
           rotate_left
           ·intro w'
            go_simp
            with_reducible rfl
           rotate_left
           ·simp only [Act.put, List.setIfInBounds_toArray, List.set_cons_zero, List.set_cons_succ, i64_w, i32_w]
            rfl
           refine pure_ (i := 35) (N := some 68) (v := undef) (a' := ?_) #[TB,TB,TB,TB,TB,TB,TB,TB,TB,TB,TB,TB,TB,TB,TB,TB,TB,TB,TB,TB,TB,TB,TB,TB,TB,TB,TB,TB,TB,TB,TB,TB,TB,TB,TB,TB,FB,FB,FB,FB,FB,FB] rfl rfl (any_of HT_.out (by kernel_rfl)) (fun _ _ _ h => h) (Or.inr ⟨by rfl, rfl⟩) ?_ ?_
           rotate_left
           ·simp only [Act.put, List.setIfInBounds_toArray, List.set_cons_zero, List.set_cons_succ, i64_w, i32_w]
            rfl
           refine pure_ (i := 36) (N := some 69) (v := undef) (a' := ?_) #[TB,TB,TB,TB,TB,TB,TB,TB,TB,TB,TB,TB,TB,TB,TB,TB,TB,TB,TB,TB,TB,TB,TB,TB,TB,TB,TB,TB,TB,TB,TB,TB,TB,TB,TB,TB,TB,FB,FB,FB,FB,FB] rfl rfl (any_of HT_.out (by kernel_rfl)) (fun _ _ _ h => h) (Or.inr ⟨by rfl, rfl⟩) ?_ ?_
           rotate_left
           ·simp only [Act.put, List.setIfInBounds_toArray, List.set_cons_zero, List.set_cons_succ, i64_w, i32_w]
            rfl
           refine pure_ (i := 37) (N := some 70) (v := undef) (a' := ?_) #[TB,TB,TB,TB,TB,TB,TB,TB,TB,TB,TB,TB,TB,TB,TB,TB,TB,TB,TB,TB,TB,TB,TB,TB,TB,TB,TB,TB,TB,TB,TB,TB,TB,TB,TB,TB,TB,TB,FB,FB,FB,FB] rfl rfl (any_of HT_.out (by kernel_rfl)) (fun _ _ _ h => h) (Or.inr ⟨by rfl, rfl⟩) ?_ ?_
           rotate_left
           ·simp only [Act.put, List.setIfInBounds_toArray, List.set_cons_zero, List.set_cons_succ, i64_w, i32_w]
            rfl
           refine pure_ (i := 38) (N := some 71) (v := undef) (a' := ?_) #[TB,TB,TB,TB,TB,TB,TB,TB,TB,TB,TB,TB,TB,TB,TB,TB,TB,TB,TB,TB,TB,TB,TB,TB,TB,TB,TB,TB,TB,TB,TB,TB,TB,TB,TB,TB,TB,TB,TB,FB,FB,FB] rfl rfl (any_of HT_.out (by kernel_rfl)) (fun _ _ _ h => h) (Or.inr ⟨by rfl, rfl⟩) ?_ ?_
           rotate_left
           ·simp only [Act.put, List.setIfInBounds_toArray, List.set_cons_zero, List.set_cons_succ, i64_w, i32_w]
            rfl
           refine pure_ (i := 39) (N := some 72) (v := undef) (a' := ?_) #[TB,TB,TB,TB,TB,TB,TB,TB,TB,TB,TB,TB,TB,TB,TB,TB,TB,TB,TB,TB,TB,TB,TB,TB,TB,TB,TB,TB,TB,TB,TB,TB,TB,TB,TB,TB,TB,TB,TB,TB,FB,FB] rfl rfl (any_of HT_.out (by kernel_rfl)) (fun _ _ _ h => h) (Or.inr ⟨by rfl, rfl⟩) ?_ ?_
           rotate_left
           ·simp only [Act.put, List.setIfInBounds_toArray, List.set_cons_zero, List.set_cons_succ, i64_w, i32_w]
            rfl
           refine pure_ (i := 40) (N := some 73) (v := ?_) (a' := ?_) #[TB,TB,TB,TB,TB,TB,TB,TB,TB,TB,TB,TB,TB,TB,TB,TB,TB,TB,TB,TB,TB,TB,TB,TB,TB,TB,TB,TB,TB,TB,TB,TB,TB,TB,TB,TB,TB,TB,TB,TB,TB,FB] rfl rfl (any_of HT_.out (by kernel_rfl)) (fun _ _ _ h => h) (Or.inl ⟨by rfl, ?_⟩) ?_ ?_
           rotate_left
           ·intro w'
            go_simp
            with_reducible rfl
           rotate_left
           ·simp only [Act.put, List.setIfInBounds_toArray, List.set_cons_zero, List.set_cons_succ, i64_w, i32_w]
            rfl
           refine pure_ (i := 41) (N := some 4) (v := ?_) (a' := ?_) #[TB,TB,TB,TB,TB,TB,TB,TB,TB,TB,TB,TB,TB,TB,TB,TB,TB,TB,TB,TB,TB,TB,TB,TB,TB,TB,TB,TB,TB,TB,TB,TB,TB,TB,TB,TB,TB,TB,TB,TB,TB,TB] rfl rfl (any_of HT_.out (by kernel_rfl)) (fun _ _ _ h => h) (Or.inl ⟨by rfl, ?_⟩) ?_ ?_
           rotate_left
           ·intro w'
            go_simp
            with_reducible rfl
           rotate_left
           ·simp only [Act.put, List.setIfInBounds_toArray, List.set_cons_zero, List.set_cons_succ, i64_w, i32_w]
            rfl
           refine done_ (done_of HT_.out (by kernel_rfl)) ?_
           try go_wp2
           go_ret
           exact ⟨by first | rfl | (simp [errW_none, errW_some] <;> rfl) | (simp [*, errW_none, errW_some] <;> rfl), by repeat (first | (with_reducible first | exact HB.out | apply below_alloc | apply pw_below_drewN | apply below_drew1 | refine below_set ?_ GE334.out | refine below_set ?_ GE339.out) | exact HB.out)⟩
         ·rw [if_neg c21] at H
          have c21b0 : decide (t337 ≤ t335) = false := decide_eq_false c21
          clear c21
          obtain rfl := Option.some.inj H
          try go_wp2_with (first | ((with_reducible refine gate_callee (f := 38) rfl ?_); refine goesL_ (some 30) rfl rfl Try.func38 (by kernel_rfl) rfl #[.string (a0 ++ a1)] rfl (by (try simp only [List.map_toArray, List.map_cons, List.map_nil]); first | done | rfl | (simp only [List.length_drop, List.length_take]; rfl)) ?_; (with_reducible refine (count_Of.calls (a0 ++ a1) t330 t331 t332 t333 _ A14.out).mono ?_); rintro e w47 ⟨rfl, hb⟩; refine ⟨_, rfl, ?_⟩; have n0_ := Aside0.mk (below_step (by repeat (first | (with_reducible first | exact HB.out | apply below_alloc | apply pw_below_drewN | apply below_drew1) | exact HB.out)) hb); clear HB; have HB := n0_; clear n0_; (try clear hb); (try clear hb2); (try clear hk); (try clear hi)) | ((with_reducible refine gate_dst (N := 5) rfl ?_); (try (refine gate_guard (by rfl) ?_; dsimp only)); refine box_event ?hg (N := 5) ?hd (cs := #[.int .i64 0, .int .i64 0, .int .i64 0, .int .i64 0]) (t := 44) ?hr ?_; (case hd => rfl); (case hg => rfl); (case hr => first | (go_simp; done) | (go_simp; rfl)); intro gb334 hg w48 hbox hb; have n0_ := Aside0.mk (below_step (by repeat (first | (with_reducible first | exact HB.out | apply below_alloc | apply pw_below_drewN | apply below_drew1) | exact HB.out)) hb); have n1_ := Aside0.mk (hbox); have n2_ := Aside0.mk ((by rw [hg]; exact (below_size (by repeat (first | (with_reducible first | exact HB.out | apply below_alloc | apply pw_below_drewN | apply below_drew1) | exact HB.out))) : w.heap.size ≤ gb334)); have n3_ := Aside0.mk ((by rw [hg]; exact (below_size (by repeat (first | (with_reducible first | exact HB.out | apply below_alloc | apply pw_below_drewN | apply below_drew1) | exact HB.out))) : w.heap.size ≤ gb334)); clear HB; have HB := n0_; have BK334 := n1_; have GW334 := n2_; have GE334 := n3_; clear n0_ n1_ n2_ n3_; clear hb hbox hg; have hcz49_0 : w48.cell? ⟨gb334, 0, none⟩ = some (.int .i64 0) := (blk_cell BK334.out 0).trans rfl; have hcz49_1 : w48.cell? ⟨gb334, 1, none⟩ = some (.int .i64 0) := (blk_cell BK334.out 1).trans rfl; have hcz49_2 : w48.cell? ⟨gb334, 2, none⟩ = some (.int .i64 0) := (blk_cell BK334.out 2).trans rfl; have hcz49_3 : w48.cell? ⟨gb334, 3, none⟩ = some (.int .i64 0) := (blk_cell BK334.out 3).trans rfl; have hfz49_0 := blk_frozen BK334.out 0; have hfz49_1 := blk_frozen BK334.out 1; have hfz49_2 := blk_frozen BK334.out 2; have hfz49_3 := blk_frozen BK334.out 3) | ((with_reducible refine gate_callee (f := 38) rfl ?_); refine goesL_ (some 32) rfl rfl Try.func38 (by kernel_rfl) rfl #[.string a0] rfl (by (try simp only [List.map_toArray, List.map_cons, List.map_nil]); first | done | rfl | (simp only [List.length_drop, List.length_take]; rfl)) ?_; (with_reducible refine (count_Of.calls a0 t335 t336 t337 t338 _ A15.out).mono ?_); rintro e w50 ⟨rfl, hb⟩; refine ⟨_, rfl, ?_⟩; have n0_ := Aside0.mk (blk_below (g := gb334) (o := .cells #[.int .i64 t330, .int .i64 t331, .int .i64 t332, .int .i64 t333] 44 (0, 0)) (by (with_reducible repeat (first | refine blk_drewN ?_ _ | refine blk_drew ?_ | refine blk_alloc ?_ _)); refine blk_put (cs := #[.int .i64 t330, .int .i64 t331, .int .i64 t332, .int .i64 0]) ?_ 3 _ rfl; (with_reducible repeat (first | refine blk_drewN ?_ _ | refine blk_drew ?_ | refine blk_alloc ?_ _)); refine blk_put (cs := #[.int .i64 t330, .int .i64 t331, .int .i64 0, .int .i64 0]) ?_ 2 _ rfl; (with_reducible repeat (first | refine blk_drewN ?_ _ | refine blk_drew ?_ | refine blk_alloc ?_ _)); refine blk_put (cs := #[.int .i64 t330, .int .i64 0, .int .i64 0, .int .i64 0]) ?_ 1 _ rfl; (with_reducible repeat (first | refine blk_drewN ?_ _ | refine blk_drew ?_ | refine blk_alloc ?_ _)); refine blk_put (cs := #[.int .i64 0, .int .i64 0, .int .i64 0, .int .i64 0]) ?_ 0 _ rfl; (with_reducible repeat (first | refine blk_drewN ?_ _ | refine blk_drew ?_ | refine blk_alloc ?_ _)); exact BK334.out) hb); have n1_ := Aside0.mk (below_step (by repeat (first | (with_reducible first | exact HB.out | apply below_alloc | apply pw_below_drewN | apply below_drew1 | refine below_set ?_ GE334.out) | exact HB.out)) hb); clear BK334; clear HB; have BK334 := n0_; have HB := n1_; clear n0_ n1_; (try clear hb); (try clear hb2); (try clear hk); (try clear hi)) | ((with_reducible refine gate_dst (N := 6) rfl ?_); (try (refine gate_guard (by rfl) ?_; dsimp only)); refine box_event ?hg (N := 6) ?hd (cs := #[.int .i64 0, .int .i64 0, .int .i64 0, .int .i64 0]) (t := 44) ?hr ?_; (case hd => rfl); (case hg => rfl); (case hr => first | (go_simp; done) | (go_simp; rfl)); intro gb339 hg w51 hbox hb; have n0_ := Aside0.mk (blk_below (g := gb334) (o := .cells #[.int .i64 t330, .int .i64 t331, .int .i64 t332, .int .i64 t333] 44 (0, 0)) (by (with_reducible repeat (first | refine blk_drewN ?_ _ | refine blk_drew ?_ | refine blk_alloc ?_ _)); exact BK334.out) hb); have n1_ := Aside0.mk (below_step (by repeat (first | (with_reducible first | exact HB.out | apply below_alloc | apply pw_below_drewN | apply below_drew1 | refine below_set ?_ GE334.out) | exact HB.out)) hb); have n2_ := Aside0.mk (hbox); have n3_ := Aside0.mk ((by rw [hg]; exact (below_size (by repeat (first | (with_reducible first | exact HB.out | apply below_alloc | apply pw_below_drewN | apply below_drew1 | refine below_set ?_ GE334.out) | exact HB.out))) : w.heap.size ≤ gb339)); have n4_ := Aside0.mk ((by rw [hg]; exact (below_size (by repeat (first | (with_reducible first | exact HB.out | apply below_alloc | apply pw_below_drewN | apply below_drew1 | refine below_set ?_ GE334.out) | exact HB.out))) : w.heap.size ≤ gb339)); have n5_ := Aside0.mk ((by rw [hg]; exact Nat.ne_of_lt (blk_lt (g := gb334) (o := .cells #[.int .i64 t330, .int .i64 t331, .int .i64 t332, .int .i64 t333] 44 (0, 0)) (by (with_reducible repeat (first | refine blk_drewN ?_ _ | refine blk_drew ?_ | refine blk_alloc ?_ _)); exact BK334.out)) : gb334 ≠ gb339)); have n6_ := Aside0.mk ((by rw [hg]; exact Nat.ne_of_gt (blk_lt (g := gb334) (o := .cells #[.int .i64 t330, .int .i64 t331, .int .i64 t332, .int .i64 t333] 44 (0, 0)) (by (with_reducible repeat (first | refine blk_drewN ?_ _ | refine blk_drew ?_ | refine blk_alloc ?_ _)); exact BK334.out)) : gb339 ≠ gb334)); clear BK334; clear HB; have BK334 := n0_; have HB := n1_; have BK339 := n2_; have GW339 := n3_; have GE339 := n4_; have NB334_339 := n5_; have NB339_334 := n6_; clear n0_ n1_ n2_ n3_ n4_ n5_ n6_; clear hb hbox hg; have hnb52 := NB339_334.out; have hnc52 := NB334_339.out; have hcz53_0 : w51.cell? ⟨gb339, 0, none⟩ = some (.int .i64 0) := (blk_cell BK339.out 0).trans rfl; have hcz53_1 : w51.cell? ⟨gb339, 1, none⟩ = some (.int .i64 0) := (blk_cell BK339.out 1).trans rfl; have hcz53_2 : w51.cell? ⟨gb339, 2, none⟩ = some (.int .i64 0) := (blk_cell BK339.out 2).trans rfl; have hcz53_3 : w51.cell? ⟨gb339, 3, none⟩ = some (.int .i64 0) := (blk_cell BK339.out 3).trans rfl; have hfz53_0 := blk_frozen BK339.out 0; have hfz53_1 := blk_frozen BK339.out 1; have hfz53_2 := blk_frozen BK339.out 2; have hfz53_3 := blk_frozen BK339.out 3))
          have n0_ : Aside0 (((((w51.setCell ⟨gb339, 0, none⟩ (.int .i64 t335)).setCell ⟨gb339, 1, none⟩ (.int .i64 t336)).setCell ⟨gb339, 2, none⟩ (.int .i64 t337)).setCell ⟨gb339, 3, none⟩ (.int .i64 t338)).heap[gb334]? = some (.cells #[.int .i64 t330, .int .i64 t331, .int .i64 t332, .int .i64 t333] 44 (0, 0))) := ⟨by (with_reducible repeat (first | refine blk_drewN ?_ _ | refine blk_drew ?_ | refine blk_alloc ?_ _)); refine blk_far ?_ NB334_339.out _; (with_reducible repeat (first | refine blk_drewN ?_ _ | refine blk_drew ?_ | refine blk_alloc ?_ _)); refine blk_far ?_ NB334_339.out _; (with_reducible repeat (first | refine blk_drewN ?_ _ | refine blk_drew ?_ | refine blk_alloc ?_ _)); refine blk_far ?_ NB334_339.out _; (with_reducible repeat (first | refine blk_drewN ?_ _ | refine blk_drew ?_ | refine blk_alloc ?_ _)); refine blk_far ?_ NB334_339.out _; (with_reducible repeat (first | refine blk_drewN ?_ _ | refine blk_drew ?_ | refine blk_alloc ?_ _)); exact BK334.out⟩
          have n1_ : Aside0 (((((w51.setCell ⟨gb339, 0, none⟩ (.int .i64 t335)).setCell ⟨gb339, 1, none⟩ (.int .i64 t336)).setCell ⟨gb339, 2, none⟩ (.int .i64 t337)).setCell ⟨gb339, 3, none⟩ (.int .i64 t338)).heap[gb339]? = some (.cells #[.int .i64 t335, .int .i64 t336, .int .i64 t337, .int .i64 t338] 44 (0, 0))) := ⟨by (with_reducible repeat (first | refine blk_drewN ?_ _ | refine blk_drew ?_ | refine blk_alloc ?_ _)); refine blk_put (cs := #[.int .i64 t335, .int .i64 t336, .int .i64 t337, .int .i64 0]) ?_ 3 _ rfl; (with_reducible repeat (first | refine blk_drewN ?_ _ | refine blk_drew ?_ | refine blk_alloc ?_ _)); refine blk_put (cs := #[.int .i64 t335, .int .i64 t336, .int .i64 0, .int .i64 0]) ?_ 2 _ rfl; (with_reducible repeat (first | refine blk_drewN ?_ _ | refine blk_drew ?_ | refine blk_alloc ?_ _)); refine blk_put (cs := #[.int .i64 t335, .int .i64 0, .int .i64 0, .int .i64 0]) ?_ 1 _ rfl; (with_reducible repeat (first | refine blk_drewN ?_ _ | refine blk_drew ?_ | refine blk_alloc ?_ _)); refine blk_put (cs := #[.int .i64 0, .int .i64 0, .int .i64 0, .int .i64 0]) ?_ 0 _ rfl; (with_reducible repeat (first | refine blk_drewN ?_ _ | refine blk_drew ?_ | refine blk_alloc ?_ _)); exact BK339.out⟩
          have n2_ : Aside0 (Below w.heap.size w ((((w51.setCell ⟨gb339, 0, none⟩ (.int .i64 t335)).setCell ⟨gb339, 1, none⟩ (.int .i64 t336)).setCell ⟨gb339, 2, none⟩ (.int .i64 t337)).setCell ⟨gb339, 3, none⟩ (.int .i64 t338))) := ⟨by repeat (first | (with_reducible first | exact HB.out | apply below_alloc | apply pw_below_drewN | apply below_drew1 | refine below_set ?_ GE334.out | refine below_set ?_ GE339.out) | exact HB.out)⟩
          (try clear BK334)
          (try clear BK339)
          (try clear HB)
          generalize ((((w51.setCell ⟨gb339, 0, none⟩ (.int .i64 t335)).setCell ⟨gb339, 1, none⟩ (.int .i64 t336)).setCell ⟨gb339, 2, none⟩ (.int .i64 t337)).setCell ⟨gb339, 3, none⟩ (.int .i64 t338)) = w54 at n0_ n1_ n2_ ⊢
          have BK334 := n0_
          have BK339 := n1_
          have HB := n2_
          clear n0_ n1_ n2_
          have n0_ := Aside0.mk (blk_drew BK334.out)
          have n1_ := Aside0.mk (blk_drew BK339.out)
          have n2_ := Aside0.mk (below_drew1 HB.out)
          clear BK334
          clear BK339
          clear HB
          have BK334 := n0_
          have BK339 := n1_
          have HB := n2_
          clear n0_ n1_ n2_
          refine start_ (n := 42) (S := fun w' => w'.cell? ⟨gb334, 0, none⟩ = some (.int .i64 t330) ∧ w'.cell? ⟨gb334, 1, none⟩ = some (.int .i64 t331) ∧ w'.cell? ⟨gb334, 2, none⟩ = some (.int .i64 t332) ∧ w'.cell? ⟨gb334, 3, none⟩ = some (.int .i64 t333) ∧ w'.cell? ⟨gb339, 0, none⟩ = some (.int .i64 t335) ∧ w'.cell? ⟨gb339, 1, none⟩ = some (.int .i64 t336) ∧ w'.cell? ⟨gb339, 2, none⟩ = some (.int .i64 t337) ∧ w'.cell? ⟨gb339, 3, none⟩ = some (.int .i64 t338)) (ds := []) #[FB,FB,FB,FB,FB,FB,FB,FB,FB,FB,FB,FB,FB,FB,FB,FB,FB,FB,FB,FB,FB,FB,FB,FB,FB,FB,FB,FB,FB,FB,FB,FB,FB,FB,FB,FB,FB,FB,FB,FB,FB,FB] (by kernel_rfl) rfl rfl ⟨(blk_cell BK334.out 0).trans rfl, (blk_cell BK334.out 1).trans rfl, (blk_cell BK334.out 2).trans rfl, (blk_cell BK334.out 3).trans rfl, (blk_cell BK339.out 0).trans rfl, (blk_cell BK339.out 1).trans rfl, (blk_cell BK339.out 2).trans rfl, (blk_cell BK339.out 3).trans rfl⟩ (fun hHeld => ?_); refine with_tabW palinodelaw2_CountSums.tab7 palinodelaw2_CountSums.bits7 (fun HT_ HW_ => ?_)
          generalize w54.drew = w55 at BK334 BK339 HB hHeld ⊢
          refine pure_ (i := 2) (N := some 35) (v := ?_) (a' := ?_) #[FB,FB,TB,FB,FB,FB,FB,FB,FB,FB,FB,FB,FB,FB,FB,FB,FB,FB,FB,FB,FB,FB,FB,FB,FB,FB,FB,FB,FB,FB,FB,FB,FB,FB,FB,FB,FB,FB,FB,FB,FB,FB] rfl rfl (any_of HT_.out (by kernel_rfl)) (fun _ _ _ h => h) (Or.inl ⟨by rfl, ?_⟩) ?_ ?_
          rotate_left
          ·intro w'
           go_simp
           with_reducible rfl
          rotate_left
          ·simp only [Act.put, List.setIfInBounds_toArray, List.set_cons_zero, List.set_cons_succ, i64_w, i32_w]
           rfl
          refine take_ (i := 0) (N := some 33) (v := ?_) (a' := ?_) #[TB,FB,TB,FB,FB,FB,FB,FB,FB,FB,FB,FB,FB,FB,FB,FB,FB,FB,FB,FB,FB,FB,FB,FB,FB,FB,FB,FB,FB,FB,FB,FB,FB,FB,FB,FB,FB,FB,FB,FB,FB,FB] rfl rfl (take_ofW HT_.out HW_.out (by kernel_rfl)) (fun _ _ _ h => h) (Or.inl ⟨by rfl, ?_⟩) hHeld ?_ ?_
          rotate_left
          ·rintro w' ⟨s0, s1, s2, s3, s4, s5, s6, s7⟩
           go_simp
           with_reducible rfl
          rotate_left
          ·simp only [Act.put, List.setIfInBounds_toArray, List.set_cons_zero, List.set_cons_succ, i64_w, i32_w]
           rfl
          refine take_ (i := 1) (N := some 34) (v := ?_) (a' := ?_) #[TB,TB,TB,FB,FB,FB,FB,FB,FB,FB,FB,FB,FB,FB,FB,FB,FB,FB,FB,FB,FB,FB,FB,FB,FB,FB,FB,FB,FB,FB,FB,FB,FB,FB,FB,FB,FB,FB,FB,FB,FB,FB] rfl rfl (take_ofW HT_.out HW_.out (by kernel_rfl)) (fun _ _ _ h => h) (Or.inl ⟨by rfl, ?_⟩) hHeld ?_ ?_
          rotate_left
          ·rintro w' ⟨s0, s1, s2, s3, s4, s5, s6, s7⟩
           go_simp
           with_reducible rfl
          rotate_left
          ·simp only [Act.put, List.setIfInBounds_toArray, List.set_cons_zero, List.set_cons_succ, i64_w, i32_w]
           rfl
          refine one_ (i := 3) (N := some 36) #[TB,TB,TB,TB,FB,FB,FB,FB,FB,FB,FB,FB,FB,FB,FB,FB,FB,FB,FB,FB,FB,FB,FB,FB,FB,FB,FB,FB,FB,FB,FB,FB,FB,FB,FB,FB,FB,FB,FB,FB,FB,FB] rfl rfl (one_of HT_.out (by kernel_rfl)) (by decide) (fun K hK => ?_)
          refine goes_ Try.func38 (by kernel_rfl) rfl #[.string a1] (by rfl) rfl rfl (by (try simp only [List.map_toArray, List.map_cons, List.map_nil]); first | done | rfl | (simp only [List.length_drop, List.length_take]; rfl)) ?_
          with_reducible refine (count_Of.calls a1 t340 t341 t342 t343 _ A16.out).mono ?_
          rintro e w56 ⟨rfl, hb⟩
          refine ⟨_, rfl, ?_⟩
          have n0_ := Aside0.mk (blk_below (g := gb334) (o := .cells #[.int .i64 t330, .int .i64 t331, .int .i64 t332, .int .i64 t333] 44 (0, 0)) (by (with_reducible repeat (first | refine blk_drewN ?_ _ | refine blk_drew ?_ | refine blk_alloc ?_ _)); exact BK334.out) hb)
          have n1_ := Aside0.mk (blk_below (g := gb339) (o := .cells #[.int .i64 t335, .int .i64 t336, .int .i64 t337, .int .i64 t338] 44 (0, 0)) (by (with_reducible repeat (first | refine blk_drewN ?_ _ | refine blk_drew ?_ | refine blk_alloc ?_ _)); exact BK339.out) hb)
          have n2_ := Aside0.mk (below_step (by repeat (first | (with_reducible first | exact HB.out | apply below_alloc | apply pw_below_drewN | apply below_drew1 | refine below_set ?_ GE334.out | refine below_set ?_ GE339.out) | exact HB.out)) hb)
          clear BK334
          clear BK339
          clear HB
          have BK334 := n0_
          have BK339 := n1_
          have HB := n2_
          clear n0_ n1_ n2_
          (try clear hb)
          (try clear hb2)
          (try clear hk)
          (try clear hi)
          refine hK.out _ _ ⟨(blk_cell BK334.out 0).trans rfl, (blk_cell BK334.out 1).trans rfl, (blk_cell BK334.out 2).trans rfl, (blk_cell BK334.out 3).trans rfl, (blk_cell BK339.out 0).trans rfl, (blk_cell BK339.out 1).trans rfl, (blk_cell BK339.out 2).trans rfl, (blk_cell BK339.out 3).trans rfl⟩ (fun hHeld => ?_)
          clear hK K
          refine norm_ (a' := ?_) ?_ ?_
          rotate_left
          ·show Act.put _ (some 36) _ = _
           simp only [Act.put, List.setIfInBounds_toArray, List.set_cons_zero, List.set_cons_succ, i64_w, i32_w]
           rfl
          refine one_ (i := 4) (N := some 37) #[TB,TB,TB,TB,TB,FB,FB,FB,FB,FB,FB,FB,FB,FB,FB,FB,FB,FB,FB,FB,FB,FB,FB,FB,FB,FB,FB,FB,FB,FB,FB,FB,FB,FB,FB,FB,FB,FB,FB,FB,FB,FB] rfl rfl (one_of HT_.out (by kernel_rfl)) (by decide) (fun K hK => ?_)
          refine goes_ Try.func40 (by kernel_rfl) rfl #[.agg #[.int .i64 t335, .int .i64 t336, .int .i64 t337, .int .i64 t338], .agg #[.int .i64 t340, .int .i64 t341, .int .i64 t342, .int .i64 t343]] (by rfl) rfl rfl (by (try simp only [List.map_toArray, List.map_cons, List.map_nil]); first | done | rfl | (simp only [List.length_drop, List.length_take]; rfl)) ?_
          with_reducible refine (count_Plus.calls t335 t336 t337 t338 t340 t341 t342 t343 t344 t345 t346 t347 _ A17.out).mono ?_
          rintro e w57 ⟨rfl, hb⟩
          refine ⟨_, rfl, ?_⟩
          have n0_ := Aside0.mk (blk_below (g := gb334) (o := .cells #[.int .i64 t330, .int .i64 t331, .int .i64 t332, .int .i64 t333] 44 (0, 0)) (by (with_reducible repeat (first | refine blk_drewN ?_ _ | refine blk_drew ?_ | refine blk_alloc ?_ _)); exact BK334.out) hb)
          have n1_ := Aside0.mk (blk_below (g := gb339) (o := .cells #[.int .i64 t335, .int .i64 t336, .int .i64 t337, .int .i64 t338] 44 (0, 0)) (by (with_reducible repeat (first | refine blk_drewN ?_ _ | refine blk_drew ?_ | refine blk_alloc ?_ _)); exact BK339.out) hb)
          have n2_ := Aside0.mk (below_step (by repeat (first | (with_reducible first | exact HB.out | apply below_alloc | apply pw_below_drewN | apply below_drew1 | refine below_set ?_ GE334.out | refine below_set ?_ GE339.out) | exact HB.out)) hb)
          clear BK334
          clear BK339
          clear HB
          have BK334 := n0_
          have BK339 := n1_
          have HB := n2_
          clear n0_ n1_ n2_
          (try clear hb)
          (try clear hb2)
          (try clear hk)
          (try clear hi)
          refine hK.out _ _ ⟨(blk_cell BK334.out 0).trans rfl, (blk_cell BK334.out 1).trans rfl, (blk_cell BK334.out 2).trans rfl, (blk_cell BK334.out 3).trans rfl, (blk_cell BK339.out 0).trans rfl, (blk_cell BK339.out 1).trans rfl, (blk_cell BK339.out 2).trans rfl, (blk_cell BK339.out 3).trans rfl⟩ (fun hHeld => ?_)
          clear hK K
          refine norm_ (a' := ?_) ?_ ?_
          rotate_left
          ·show Act.put _ (some 37) _ = _
           simp only [Act.put, List.setIfInBounds_toArray, List.set_cons_zero, List.set_cons_succ, i64_w, i32_w]
           rfl
          refine pure_ (i := 5) (N := some 38) (v := ?_) (a' := ?_) #[TB,TB,TB,TB,TB,TB,FB,FB,FB,FB,FB,FB,FB,FB,FB,FB,FB,FB,FB,FB,FB,FB,FB,FB,FB,FB,FB,FB,FB,FB,FB,FB,FB,FB,FB,FB,FB,FB,FB,FB,FB,FB] rfl rfl (any_of HT_.out (by kernel_rfl)) (fun _ _ _ h => h) (Or.inl ⟨by rfl, ?_⟩) ?_ ?_
          rotate_left
          ·intro w'
           go_simp
           with_reducible rfl
          rotate_left
          ·simp only [Act.put, List.setIfInBounds_toArray, List.set_cons_zero, List.set_cons_succ, i64_w, i32_w]
           rfl
          refine pure_ (i := 6) (N := some 39) (v := ?_) (a' := ?_) #[TB,TB,TB,TB,TB,TB,TB,FB,FB,FB,FB,FB,FB,FB,FB,FB,FB,FB,FB,FB,FB,FB,FB,FB,FB,FB,FB,FB,FB,FB,FB,FB,FB,FB,FB,FB,FB,FB,FB,FB,FB,FB] rfl rfl (any_of HT_.out (by kernel_rfl)) (fun _ _ _ h => h) (Or.inl ⟨by rfl, ?_⟩) ?_ ?_
          rotate_left
          ·intro w'
           go_simp
           with_reducible rfl
          rotate_left
          ·simp only [Act.put, List.setIfInBounds_toArray, List.set_cons_zero, List.set_cons_succ, i64_w, i32_w]
           rfl
          refine pure_ (i := 7) (N := some 40) (v := ?_) (a' := ?_) #[TB,TB,TB,TB,TB,TB,TB,TB,FB,FB,FB,FB,FB,FB,FB,FB,FB,FB,FB,FB,FB,FB,FB,FB,FB,FB,FB,FB,FB,FB,FB,FB,FB,FB,FB,FB,FB,FB,FB,FB,FB,FB] rfl rfl (any_of HT_.out (by kernel_rfl)) (fun _ _ _ h => h) (Or.inl ⟨by rfl, ?_⟩) ?_ ?_
          rotate_left
          ·intro w'
           go_simp
           with_reducible rfl
          rotate_left
          ·simp only [Act.put, List.setIfInBounds_toArray, List.set_cons_zero, List.set_cons_succ, i64_w, i32_w]
           rfl
          refine pure_ (i := 9) (N := some 42) (v := ?_) (a' := ?_) #[TB,TB,TB,TB,TB,TB,TB,TB,FB,TB,FB,FB,FB,FB,FB,FB,FB,FB,FB,FB,FB,FB,FB,FB,FB,FB,FB,FB,FB,FB,FB,FB,FB,FB,FB,FB,FB,FB,FB,FB,FB,FB] rfl rfl (any_of HT_.out (by kernel_rfl)) (fun _ _ _ h => h) (Or.inl ⟨by rfl, ?_⟩) ?_ ?_
          rotate_left
          ·intro w'
           go_simp
           with_reducible rfl
          rotate_left
          ·simp only [Act.put, List.setIfInBounds_toArray, List.set_cons_zero, List.set_cons_succ, i64_w, i32_w]
           rfl
          refine pure_ (i := 10) (N := some 43) (v := ?_) (a' := ?_) #[TB,TB,TB,TB,TB,TB,TB,TB,FB,TB,TB,FB,FB,FB,FB,FB,FB,FB,FB,FB,FB,FB,FB,FB,FB,FB,FB,FB,FB,FB,FB,FB,FB,FB,FB,FB,FB,FB,FB,FB,FB,FB] rfl rfl (any_of HT_.out (by kernel_rfl)) (fun _ _ _ h => h) (Or.inl ⟨by rfl, ?_⟩) ?_ ?_
          rotate_left
          ·intro w'
           go_simp
           with_reducible rfl
          rotate_left
          ·simp only [Act.put, List.setIfInBounds_toArray, List.set_cons_zero, List.set_cons_succ, i64_w, i32_w]
           rfl
          refine take_ (i := 8) (N := some 41) (v := ?_) (a' := ?_) #[TB,TB,TB,TB,TB,TB,TB,TB,TB,TB,TB,FB,FB,FB,FB,FB,FB,FB,FB,FB,FB,FB,FB,FB,FB,FB,FB,FB,FB,FB,FB,FB,FB,FB,FB,FB,FB,FB,FB,FB,FB,FB] rfl rfl (take_ofW HT_.out HW_.out (by kernel_rfl)) (fun _ _ _ h => h) (Or.inl ⟨by rfl, ?_⟩) hHeld ?_ ?_
          rotate_left
          ·rintro w' ⟨s0, s1, s2, s3, s4, s5, s6, s7⟩
           go_simp
           with_reducible rfl
          rotate_left
          ·simp only [Act.put, List.setIfInBounds_toArray, List.set_cons_zero, List.set_cons_succ, i64_w, i32_w]
           rfl
          refine pure_ (i := 11) (N := some 44) (v := ?_) (a' := ?_) #[TB,TB,TB,TB,TB,TB,TB,TB,TB,TB,TB,TB,FB,FB,FB,FB,FB,FB,FB,FB,FB,FB,FB,FB,FB,FB,FB,FB,FB,FB,FB,FB,FB,FB,FB,FB,FB,FB,FB,FB,FB,FB] rfl rfl (any_of HT_.out (by kernel_rfl)) (fun _ _ _ h => h) (Or.inl ⟨by rfl, ?_⟩) ?_ ?_
          rotate_left
          ·intro w'
           go_simp
           with_reducible rfl
          rotate_left
          ·simp only [Act.put, List.setIfInBounds_toArray, List.set_cons_zero, List.set_cons_succ, i64_w, i32_w]
           rfl
          refine pure_ (i := 12) (N := some 45) (v := ?_) (a' := ?_) #[TB,TB,TB,TB,TB,TB,TB,TB,TB,TB,TB,TB,TB,FB,FB,FB,FB,FB,FB,FB,FB,FB,FB,FB,FB,FB,FB,FB,FB,FB,FB,FB,FB,FB,FB,FB,FB,FB,FB,FB,FB,FB] rfl rfl (any_of HT_.out (by kernel_rfl)) (fun _ _ _ h => h) (Or.inl ⟨by rfl, ?_⟩) ?_ ?_
          rotate_left
          ·intro w'
           go_simp
           with_reducible rfl
          rotate_left
          ·simp only [Act.put, List.setIfInBounds_toArray, List.set_cons_zero, List.set_cons_succ, i64_w, i32_w]
           rfl
          refine pure_ (i := 13) (N := some 46) (v := ?_) (a' := ?_) #[TB,TB,TB,TB,TB,TB,TB,TB,TB,TB,TB,TB,TB,TB,FB,FB,FB,FB,FB,FB,FB,FB,FB,FB,FB,FB,FB,FB,FB,FB,FB,FB,FB,FB,FB,FB,FB,FB,FB,FB,FB,FB] rfl rfl (any_of HT_.out (by kernel_rfl)) (fun _ _ _ h => h) (Or.inl ⟨by rfl, ?_⟩) ?_ ?_
          rotate_left
          ·intro w'
           go_simp
           with_reducible rfl
          rotate_left
          ·simp only [Act.put, List.setIfInBounds_toArray, List.set_cons_zero, List.set_cons_succ, i64_w, i32_w]
           rfl
          refine pure_ (i := 14) (N := some 47) (v := ?_) (a' := ?_) #[TB,TB,TB,TB,TB,TB,TB,TB,TB,TB,TB,TB,TB,TB,TB,FB,FB,FB,FB,FB,FB,FB,FB,FB,FB,FB,FB,FB,FB,FB,FB,FB,FB,FB,FB,FB,FB,FB,FB,FB,FB,FB] rfl rfl (any_of HT_.out (by kernel_rfl)) (fun _ _ _ h => h) (Or.inl ⟨by rfl, ?_⟩) ?_ ?_
          rotate_left
          ·intro w'
           go_simp
           with_reducible rfl
          rotate_left
          ·simp only [Act.put, List.setIfInBounds_toArray, List.set_cons_zero, List.set_cons_succ, i64_w, i32_w]
           rfl
          refine pure_ (i := 16) (N := some 49) (v := ?_) (a' := ?_) #[TB,TB,TB,TB,TB,TB,TB,TB,TB,TB,TB,TB,TB,TB,TB,FB,TB,FB,FB,FB,FB,FB,FB,FB,FB,FB,FB,FB,FB,FB,FB,FB,FB,FB,FB,FB,FB,FB,FB,FB,FB,FB] rfl rfl (any_of HT_.out (by kernel_rfl)) (fun _ _ _ h => h) (Or.inl ⟨by rfl, ?_⟩) ?_ ?_
          rotate_left
          ·intro w'
           go_simp
           with_reducible rfl
          rotate_left
          ·simp only [Act.put, List.setIfInBounds_toArray, List.set_cons_zero, List.set_cons_succ, i64_w, i32_w]
           rfl
          refine take_ (i := 15) (N := some 48) (v := ?_) (a' := ?_) #[TB,TB,TB,TB,TB,TB,TB,TB,TB,TB,TB,TB,TB,TB,TB,TB,TB,FB,FB,FB,FB,FB,FB,FB,FB,FB,FB,FB,FB,FB,FB,FB,FB,FB,FB,FB,FB,FB,FB,FB,FB,FB] rfl rfl (take_ofW HT_.out HW_.out (by kernel_rfl)) (fun _ _ _ h => h) (Or.inl ⟨by rfl, ?_⟩) hHeld ?_ ?_
          rotate_left
          ·rintro w' ⟨s0, s1, s2, s3, s4, s5, s6, s7⟩
           go_simp
           with_reducible rfl
          rotate_left
          ·simp only [Act.put, List.setIfInBounds_toArray, List.set_cons_zero, List.set_cons_succ, i64_w, i32_w]
           rfl
          refine take_ (i := 17) (N := some 50) (v := ?_) (a' := ?_) #[TB,TB,TB,TB,TB,TB,TB,TB,TB,TB,TB,TB,TB,TB,TB,TB,TB,TB,FB,FB,FB,FB,FB,FB,FB,FB,FB,FB,FB,FB,FB,FB,FB,FB,FB,FB,FB,FB,FB,FB,FB,FB] rfl rfl (take_ofW HT_.out HW_.out (by kernel_rfl)) (fun _ _ _ h => h) (Or.inl ⟨by rfl, ?_⟩) hHeld ?_ ?_
          rotate_left
          ·rintro w' ⟨s0, s1, s2, s3, s4, s5, s6, s7⟩
           go_simp
           with_reducible rfl
          rotate_left
          ·simp only [Act.put, List.setIfInBounds_toArray, List.set_cons_zero, List.set_cons_succ, i64_w, i32_w]
           rfl
          refine pure_ (i := 18) (N := some 51) (v := ?_) (a' := ?_) #[TB,TB,TB,TB,TB,TB,TB,TB,TB,TB,TB,TB,TB,TB,TB,TB,TB,TB,TB,FB,FB,FB,FB,FB,FB,FB,FB,FB,FB,FB,FB,FB,FB,FB,FB,FB,FB,FB,FB,FB,FB,FB] rfl rfl (any_of HT_.out (by kernel_rfl)) (fun _ _ _ h => h) (Or.inl ⟨by rfl, ?_⟩) ?_ ?_
          rotate_left
          ·intro w'
           go_simp
           with_reducible rfl
          rotate_left
          ·simp only [Act.put, List.setIfInBounds_toArray, List.set_cons_zero, List.set_cons_succ, i64_w, i32_w]
           rfl
          refine pure_ (i := 19) (N := some 52) (v := ?_) (a' := ?_) #[TB,TB,TB,TB,TB,TB,TB,TB,TB,TB,TB,TB,TB,TB,TB,TB,TB,TB,TB,TB,FB,FB,FB,FB,FB,FB,FB,FB,FB,FB,FB,FB,FB,FB,FB,FB,FB,FB,FB,FB,FB,FB] rfl rfl (any_of HT_.out (by kernel_rfl)) (fun _ _ _ h => h) (Or.inl ⟨by rfl, ?_⟩) ?_ ?_
          rotate_left
          ·intro w'
           go_simp
           with_reducible rfl
          rotate_left
          ·simp only [Act.put, List.setIfInBounds_toArray, List.set_cons_zero, List.set_cons_succ, i64_w, i32_w]
           rfl
          refine pure_ (i := 20) (N := some 53) (v := ?_) (a' := ?_) #[TB,TB,TB,TB,TB,TB,TB,TB,TB,TB,TB,TB,TB,TB,TB,TB,TB,TB,TB,TB,TB,FB,FB,FB,FB,FB,FB,FB,FB,FB,FB,FB,FB,FB,FB,FB,FB,FB,FB,FB,FB,FB] rfl rfl (any_of HT_.out (by kernel_rfl)) (fun _ _ _ h => h) (Or.inl ⟨by rfl, ?_⟩) ?_ ?_
          rotate_left
          ·intro w'
           go_simp
           with_reducible rfl
          rotate_left
          ·simp only [Act.put, List.setIfInBounds_toArray, List.set_cons_zero, List.set_cons_succ, i64_w, i32_w]
           rfl
          refine pure_ (i := 21) (N := some 54) (v := ?_) (a' := ?_) #[TB,TB,TB,TB,TB,TB,TB,TB,TB,TB,TB,TB,TB,TB,TB,TB,TB,TB,TB,TB,TB,TB,FB,FB,FB,FB,FB,FB,FB,FB,FB,FB,FB,FB,FB,FB,FB,FB,FB,FB,FB,FB] rfl rfl (any_of HT_.out (by kernel_rfl)) (fun _ _ _ h => h) (Or.inl ⟨by rfl, ?_⟩) ?_ ?_
          rotate_left
          ·intro w'
           go_simp
           with_reducible rfl
          rotate_left
          ·simp only [Act.put, List.setIfInBounds_toArray, List.set_cons_zero, List.set_cons_succ, i64_w, i32_w]
           rfl
          refine pure_ (i := 23) (N := some 56) (v := ?_) (a' := ?_) #[TB,TB,TB,TB,TB,TB,TB,TB,TB,TB,TB,TB,TB,TB,TB,TB,TB,TB,TB,TB,TB,TB,FB,TB,FB,FB,FB,FB,FB,FB,FB,FB,FB,FB,FB,FB,FB,FB,FB,FB,FB,FB] rfl rfl (any_of HT_.out (by kernel_rfl)) (fun _ _ _ h => h) (Or.inl ⟨by rfl, ?_⟩) ?_ ?_
          rotate_left
          ·intro w'
           go_simp
           with_reducible rfl
          rotate_left
          ·simp only [Act.put, List.setIfInBounds_toArray, List.set_cons_zero, List.set_cons_succ, i64_w, i32_w]
           rfl
          refine take_ (i := 22) (N := some 55) (v := ?_) (a' := ?_) #[TB,TB,TB,TB,TB,TB,TB,TB,TB,TB,TB,TB,TB,TB,TB,TB,TB,TB,TB,TB,TB,TB,TB,TB,FB,FB,FB,FB,FB,FB,FB,FB,FB,FB,FB,FB,FB,FB,FB,FB,FB,FB] rfl rfl (take_ofW HT_.out HW_.out (by kernel_rfl)) (fun _ _ _ h => h) (Or.inl ⟨by rfl, ?_⟩) hHeld ?_ ?_
          rotate_left
          ·rintro w' ⟨s0, s1, s2, s3, s4, s5, s6, s7⟩
           go_simp
           with_reducible rfl
          rotate_left
          ·simp only [Act.put, List.setIfInBounds_toArray, List.set_cons_zero, List.set_cons_succ, i64_w, i32_w]
           rfl
          refine take_ (i := 24) (N := some 57) (v := ?_) (a' := ?_) #[TB,TB,TB,TB,TB,TB,TB,TB,TB,TB,TB,TB,TB,TB,TB,TB,TB,TB,TB,TB,TB,TB,TB,TB,TB,FB,FB,FB,FB,FB,FB,FB,FB,FB,FB,FB,FB,FB,FB,FB,FB,FB] rfl rfl (take_ofW HT_.out HW_.out (by kernel_rfl)) (fun _ _ _ h => h) (Or.inl ⟨by rfl, ?_⟩) hHeld ?_ ?_
          rotate_left
          ·rintro w' ⟨s0, s1, s2, s3, s4, s5, s6, s7⟩
           go_simp
           with_reducible rfl
          rotate_left
          ·simp only [Act.put, List.setIfInBounds_toArray, List.set_cons_zero, List.set_cons_succ, i64_w, i32_w]
           rfl
          refine pure_ (i := 25) (N := some 58) (v := ?_) (a' := ?_) #[TB,TB,TB,TB,TB,TB,TB,TB,TB,TB,TB,TB,TB,TB,TB,TB,TB,TB,TB,TB,TB,TB,TB,TB,TB,TB,FB,FB,FB,FB,FB,FB,FB,FB,FB,FB,FB,FB,FB,FB,FB,FB] rfl rfl (any_of HT_.out (by kernel_rfl)) (fun _ _ _ h => h) (Or.inl ⟨by rfl, ?_⟩) ?_ ?_
          rotate_left
          ·intro w'
           go_simp
           with_reducible rfl
          rotate_left
          ·simp only [Act.put, List.setIfInBounds_toArray, List.set_cons_zero, List.set_cons_succ, i64_w, i32_w]
           rfl
          refine pure_ (i := 26) (N := some 59) (v := ?_) (a' := ?_) #[TB,TB,TB,TB,TB,TB,TB,TB,TB,TB,TB,TB,TB,TB,TB,TB,TB,TB,TB,TB,TB,TB,TB,TB,TB,TB,TB,FB,FB,FB,FB,FB,FB,FB,FB,FB,FB,FB,FB,FB,FB,FB] rfl rfl (any_of HT_.out (by kernel_rfl)) (fun _ _ _ h => h) (Or.inl ⟨by rfl, ?_⟩) ?_ ?_
          rotate_left
          ·intro w'
           go_simp
           with_reducible rfl
          rotate_left
          ·simp only [Act.put, List.setIfInBounds_toArray, List.set_cons_zero, List.set_cons_succ, i64_w, i32_w]
           rfl
          refine pure_ (i := 27) (N := some 60) (v := ?_) (a' := ?_) #[TB,TB,TB,TB,TB,TB,TB,TB,TB,TB,TB,TB,TB,TB,TB,TB,TB,TB,TB,TB,TB,TB,TB,TB,TB,TB,TB,TB,FB,FB,FB,FB,FB,FB,FB,FB,FB,FB,FB,FB,FB,FB] rfl rfl (any_of HT_.out (by kernel_rfl)) (fun _ _ _ h => h) (Or.inl ⟨by rfl, ?_⟩) ?_ ?_
          rotate_left
          ·intro w'
           go_simp
           with_reducible rfl
          rotate_left
          ·simp only [Act.put, List.setIfInBounds_toArray, List.set_cons_zero, List.set_cons_succ, i64_w, i32_w]
           rfl
          refine pure_ (i := 28) (N := some 61) (v := undef) (a' := ?_) #[TB,TB,TB,TB,TB,TB,TB,TB,TB,TB,TB,TB,TB,TB,TB,TB,TB,TB,TB,TB,TB,TB,TB,TB,TB,TB,TB,TB,TB,FB,FB,FB,FB,FB,FB,FB,FB,FB,FB,FB,FB,FB] rfl rfl (any_of HT_.out (by kernel_rfl)) (fun _ _ _ h => h) (Or.inr ⟨by rfl, rfl⟩) ?_ ?_
          rotate_left
          ·simp only [Act.put, List.setIfInBounds_toArray, List.set_cons_zero, List.set_cons_succ, i64_w, i32_w]
           rfl
          refine pure_ (i := 29) (N := some 62) (v := undef) (a' := ?_) #[TB,TB,TB,TB,TB,TB,TB,TB,TB,TB,TB,TB,TB,TB,TB,TB,TB,TB,TB,TB,TB,TB,TB,TB,TB,TB,TB,TB,TB,TB,FB,FB,FB,FB,FB,FB,FB,FB,FB,FB,FB,FB] rfl rfl (any_of HT_.out (by kernel_rfl)) (fun _ _ _ h => h) (Or.inr ⟨by rfl, rfl⟩) ?_ ?_
          rotate_left
          ·simp only [Act.put, List.setIfInBounds_toArray, List.set_cons_zero, List.set_cons_succ, i64_w, i32_w]
           rfl
          refine pure_ (i := 30) (N := some 63) (v := undef) (a' := ?_) #[TB,TB,TB,TB,TB,TB,TB,TB,TB,TB,TB,TB,TB,TB,TB,TB,TB,TB,TB,TB,TB,TB,TB,TB,TB,TB,TB,TB,TB,TB,TB,FB,FB,FB,FB,FB,FB,FB,FB,FB,FB,FB] rfl rfl (any_of HT_.out (by kernel_rfl)) (fun _ _ _ h => h) (Or.inr ⟨by rfl, rfl⟩) ?_ ?_
          rotate_left
          ·simp only [Act.put, List.setIfInBounds_toArray, List.set_cons_zero, List.set_cons_succ, i64_w, i32_w]
           rfl
          refine pure_ (i := 31) (N := some 64) (v := undef) (a' := ?_) #[TB,TB,TB,TB,TB,TB,TB,TB,TB,TB,TB,TB,TB,TB,TB,TB,TB,TB,TB,TB,TB,TB,TB,TB,TB,TB,TB,TB,TB,TB,TB,TB,FB,FB,FB,FB,FB,FB,FB,FB,FB,FB] rfl rfl (any_of HT_.out (by kernel_rfl)) (fun _ _ _ h => h) (Or.inr ⟨by rfl, rfl⟩) ?_ ?_
          rotate_left
          ·simp only [Act.put, List.setIfInBounds_toArray, List.set_cons_zero, List.set_cons_succ, i64_w, i32_w]
           rfl
          refine pure_ (i := 32) (N := some 65) (v := undef) (a' := ?_) #[TB,TB,TB,TB,TB,TB,TB,TB,TB,TB,TB,TB,TB,TB,TB,TB,TB,TB,TB,TB,TB,TB,TB,TB,TB,TB,TB,TB,TB,TB,TB,TB,TB,FB,FB,FB,FB,FB,FB,FB,FB,FB] rfl rfl (any_of HT_.out (by kernel_rfl)) (fun _ _ _ h => h) (Or.inr ⟨by rfl, rfl⟩) ?_ ?_
          rotate_left
          ·simp only [Act.put, List.setIfInBounds_toArray, List.set_cons_zero, List.set_cons_succ, i64_w, i32_w]
           rfl
          refine pure_ (i := 33) (N := some 66) (v := ?_) (a' := ?_) #[TB,TB,TB,TB,TB,TB,TB,TB,TB,TB,TB,TB,TB,TB,TB,TB,TB,TB,TB,TB,TB,TB,TB,TB,TB,TB,TB,TB,TB,TB,TB,TB,TB,TB,FB,FB,FB,FB,FB,FB,FB,FB] rfl rfl (any_of HT_.out (by kernel_rfl)) (fun _ _ _ h => h) (Or.inl ⟨by rfl, ?_⟩) ?_ ?_
          rotate_left
          ·intro w'
           go_simp
           with_reducible rfl
          rotate_left
          ·simp only [Act.put, List.setIfInBounds_toArray, List.set_cons_zero, List.set_cons_succ, i64_w, i32_w]
           rfl
          refine pure_ (i := 34) (N := some 67) (v := ?_) (a' := ?_) #[TB,TB,TB,TB,TB,TB,TB,TB,TB,TB,TB,TB,TB,TB,TB,TB,TB,TB,TB,TB,TB,TB,TB,TB,TB,TB,TB,TB,TB,TB,TB,TB,TB,TB,TB,FB,FB,FB,FB,FB,FB,FB] rfl rfl (any_of HT_.out (by kernel_rfl)) (fun _ _ _ h => h) (Or.inl ⟨by rfl, ?_⟩) ?_ ?_
          rotate_left
          ·intro w'
           go_simp
           with_reducible rfl
          rotate_left
          ·simp only [Act.put, List.setIfInBounds_toArray, List.set_cons_zero, List.set_cons_succ, i64_w, i32_w]
           rfl
          refine pure_ (i := 35) (N := some 68) (v := undef) (a' := ?_) #[TB,TB,TB,TB,TB,TB,TB,TB,TB,TB,TB,TB,TB,TB,TB,TB,TB,TB,TB,TB,TB,TB,TB,TB,TB,TB,TB,TB,TB,TB,TB,TB,TB,TB,TB,TB,FB,FB,FB,FB,FB,FB] rfl rfl (any_of HT_.out (by kernel_rfl)) (fun _ _ _ h => h) (Or.inr ⟨by rfl, rfl⟩) ?_ ?_
          rotate_left
          ·simp only [Act.put, List.setIfInBounds_toArray, List.set_cons_zero, List.set_cons_succ, i64_w, i32_w]
           rfl
          refine pure_ (i := 36) (N := some 69) (v := undef) (a' := ?_) #[TB,TB,TB,TB,TB,TB,TB,TB,TB,TB,TB,TB,TB,TB,TB,TB,TB,TB,TB,TB,TB,TB,TB,TB,TB,TB,TB,TB,TB,TB,TB,TB,TB,TB,TB,TB,TB,FB,FB,FB,FB,FB] rfl rfl (any_of HT_.out (by kernel_rfl)) (fun _ _ _ h => h) (Or.inr ⟨by rfl, rfl⟩) ?_ ?_
          rotate_left
          ·simp only [Act.put, List.setIfInBounds_toArray, List.set_cons_zero, List.set_cons_succ, i64_w, i32_w]
           rfl
          refine pure_ (i := 37) (N := some 70) (v := undef) (a' := ?_) #[TB,TB,TB,TB,TB,TB,TB,TB,TB,TB,TB,TB,TB,TB,TB,TB,TB,TB,TB,TB,TB,TB,TB,TB,TB,TB,TB,TB,TB,TB,TB,TB,TB,TB,TB,TB,TB,TB,FB,FB,FB,FB] rfl rfl (any_of HT_.out (by kernel_rfl)) (fun _ _ _ h => h) (Or.inr ⟨by rfl, rfl⟩) ?_ ?_
          rotate_left
          ·simp only [Act.put, List.setIfInBounds_toArray, List.set_cons_zero, List.set_cons_succ, i64_w, i32_w]
           rfl
          refine pure_ (i := 38) (N := some 71) (v := undef) (a' := ?_) #[TB,TB,TB,TB,TB,TB,TB,TB,TB,TB,TB,TB,TB,TB,TB,TB,TB,TB,TB,TB,TB,TB,TB,TB,TB,TB,TB,TB,TB,TB,TB,TB,TB,TB,TB,TB,TB,TB,TB,FB,FB,FB] rfl rfl (any_of HT_.out (by kernel_rfl)) (fun _ _ _ h => h) (Or.inr ⟨by rfl, rfl⟩) ?_ ?_
          rotate_left
          ·simp only [Act.put, List.setIfInBounds_toArray, List.set_cons_zero, List.set_cons_succ, i64_w, i32_w]
           rfl
          refine pure_ (i := 39) (N := some 72) (v := undef) (a' := ?_) #[TB,TB,TB,TB,TB,TB,TB,TB,TB,TB,TB,TB,TB,TB,TB,TB,TB,TB,TB,TB,TB,TB,TB,TB,TB,TB,TB,TB,TB,TB,TB,TB,TB,TB,TB,TB,TB,TB,TB,TB,FB,FB] rfl rfl (any_of HT_.out (by kernel_rfl)) (fun _ _ _ h => h) (Or.inr ⟨by rfl, rfl⟩) ?_ ?_
          rotate_left
          ·simp only [Act.put, List.setIfInBounds_toArray, List.set_cons_zero, List.set_cons_succ, i64_w, i32_w]
           rfl
          refine pure_ (i := 40) (N := some 73) (v := ?_) (a' := ?_) #[TB,TB,TB,TB,TB,TB,TB,TB,TB,TB,TB,TB,TB,TB,TB,TB,TB,TB,TB,TB,TB,TB,TB,TB,TB,TB,TB,TB,TB,TB,TB,TB,TB,TB,TB,TB,TB,TB,TB,TB,TB,FB] rfl rfl (any_of HT_.out (by kernel_rfl)) (fun _ _ _ h => h) (Or.inl ⟨by rfl, ?_⟩) ?_ ?_
          rotate_left
          ·intro w'
           go_simp
           with_reducible rfl
          rotate_left
          ·simp only [Act.put, List.setIfInBounds_toArray, List.set_cons_zero, List.set_cons_succ, i64_w, i32_w]
           rfl
          refine pure_ (i := 41) (N := some 4) (v := ?_) (a' := ?_) #[TB,TB,TB,TB,TB,TB,TB,TB,TB,TB,TB,TB,TB,TB,TB,TB,TB,TB,TB,TB,TB,TB,TB,TB,TB,TB,TB,TB,TB,TB,TB,TB,TB,TB,TB,TB,TB,TB,TB,TB,TB,TB] rfl rfl (any_of HT_.out (by kernel_rfl)) (fun _ _ _ h => h) (Or.inl ⟨by rfl, ?_⟩) ?_ ?_
          rotate_left
          ·intro w'
           go_simp
           with_reducible rfl
          rotate_left
          ·simp only [Act.put, List.setIfInBounds_toArray, List.set_cons_zero, List.set_cons_succ, i64_w, i32_w]
           rfl
          refine done_ (done_of HT_.out (by kernel_rfl)) ?_
          try go_wp2
          go_ret
          exact ⟨by first | rfl | (simp [errW_none, errW_some] <;> rfl) | (simp [*, errW_none, errW_some] <;> rfl), by repeat (first | (with_reducible first | exact HB.out | apply below_alloc | apply pw_below_drewN | apply below_drew1 | refine below_set ?_ GE334.out | refine below_set ?_ GE339.out) | exact HB.out)⟩
        ·rw [if_neg c20] at H
         have c20b0 : decide (t336 ≤ t337) = false := decide_eq_false c20
         clear c20
         obtain rfl := Option.some.inj H
         try go_wp2_with (first | ((with_reducible refine gate_callee (f := 38) rfl ?_); refine goesL_ (some 30) rfl rfl Try.func38 (by kernel_rfl) rfl #[.string (a0 ++ a1)] rfl (by (try simp only [List.map_toArray, List.map_cons, List.map_nil]); first | done | rfl | (simp only [List.length_drop, List.length_take]; rfl)) ?_; (with_reducible refine (count_Of.calls (a0 ++ a1) t330 t331 t332 t333 _ A14.out).mono ?_); rintro e w58 ⟨rfl, hb⟩; refine ⟨_, rfl, ?_⟩; have n0_ := Aside0.mk (below_step (by repeat (first | (with_reducible first | exact HB.out | apply below_alloc | apply pw_below_drewN | apply below_drew1) | exact HB.out)) hb); clear HB; have HB := n0_; clear n0_; (try clear hb); (try clear hb2); (try clear hk); (try clear hi)) | ((with_reducible refine gate_dst (N := 5) rfl ?_); (try (refine gate_guard (by rfl) ?_; dsimp only)); refine box_event ?hg (N := 5) ?hd (cs := #[.int .i64 0, .int .i64 0, .int .i64 0, .int .i64 0]) (t := 44) ?hr ?_; (case hd => rfl); (case hg => rfl); (case hr => first | (go_simp; done) | (go_simp; rfl)); intro gb334 hg w59 hbox hb; have n0_ := Aside0.mk (below_step (by repeat (first | (with_reducible first | exact HB.out | apply below_alloc | apply pw_below_drewN | apply below_drew1) | exact HB.out)) hb); have n1_ := Aside0.mk (hbox); have n2_ := Aside0.mk ((by rw [hg]; exact (below_size (by repeat (first | (with_reducible first | exact HB.out | apply below_alloc | apply pw_below_drewN | apply below_drew1) | exact HB.out))) : w.heap.size ≤ gb334)); have n3_ := Aside0.mk ((by rw [hg]; exact (below_size (by repeat (first | (with_reducible first | exact HB.out | apply below_alloc | apply pw_below_drewN | apply below_drew1) | exact HB.out))) : w.heap.size ≤ gb334)); clear HB; have HB := n0_; have BK334 := n1_; have GW334 := n2_; have GE334 := n3_; clear n0_ n1_ n2_ n3_; clear hb hbox hg; have hcz60_0 : w59.cell? ⟨gb334, 0, none⟩ = some (.int .i64 0) := (blk_cell BK334.out 0).trans rfl; have hcz60_1 : w59.cell? ⟨gb334, 1, none⟩ = some (.int .i64 0) := (blk_cell BK334.out 1).trans rfl; have hcz60_2 : w59.cell? ⟨gb334, 2, none⟩ = some (.int .i64 0) := (blk_cell BK334.out 2).trans rfl; have hcz60_3 : w59.cell? ⟨gb334, 3, none⟩ = some (.int .i64 0) := (blk_cell BK334.out 3).trans rfl; have hfz60_0 := blk_frozen BK334.out 0; have hfz60_1 := blk_frozen BK334.out 1; have hfz60_2 := blk_frozen BK334.out 2; have hfz60_3 := blk_frozen BK334.out 3) | ((with_reducible refine gate_callee (f := 38) rfl ?_); refine goesL_ (some 32) rfl rfl Try.func38 (by kernel_rfl) rfl #[.string a0] rfl (by (try simp only [List.map_toArray, List.map_cons, List.map_nil]); first | done | rfl | (simp only [List.length_drop, List.length_take]; rfl)) ?_; (with_reducible refine (count_Of.calls a0 t335 t336 t337 t338 _ A15.out).mono ?_); rintro e w61 ⟨rfl, hb⟩; refine ⟨_, rfl, ?_⟩; have n0_ := Aside0.mk (blk_below (g := gb334) (o := .cells #[.int .i64 t330, .int .i64 t331, .int .i64 t332, .int .i64 t333] 44 (0, 0)) (by (with_reducible repeat (first | refine blk_drewN ?_ _ | refine blk_drew ?_ | refine blk_alloc ?_ _)); refine blk_put (cs := #[.int .i64 t330, .int .i64 t331, .int .i64 t332, .int .i64 0]) ?_ 3 _ rfl; (with_reducible repeat (first | refine blk_drewN ?_ _ | refine blk_drew ?_ | refine blk_alloc ?_ _)); refine blk_put (cs := #[.int .i64 t330, .int .i64 t331, .int .i64 0, .int .i64 0]) ?_ 2 _ rfl; (with_reducible repeat (first | refine blk_drewN ?_ _ | refine blk_drew ?_ | refine blk_alloc ?_ _)); refine blk_put (cs := #[.int .i64 t330, .int .i64 0, .int .i64 0, .int .i64 0]) ?_ 1 _ rfl; (with_reducible repeat (first | refine blk_drewN ?_ _ | refine blk_drew ?_ | refine blk_alloc ?_ _)); refine blk_put (cs := #[.int .i64 0, .int .i64 0, .int .i64 0, .int .i64 0]) ?_ 0 _ rfl; (with_reducible repeat (first | refine blk_drewN ?_ _ | refine blk_drew ?_ | refine blk_alloc ?_ _)); exact BK334.out) hb); have n1_ := Aside0.mk (below_step (by repeat (first | (with_reducible first | exact HB.out | apply below_alloc | apply pw_below_drewN | apply below_drew1 | refine below_set ?_ GE334.out) | exact HB.out)) hb); clear BK334; clear HB; have BK334 := n0_; have HB := n1_; clear n0_ n1_; (try clear hb); (try clear hb2); (try clear hk); (try clear hi)) | ((with_reducible refine gate_dst (N := 6) rfl ?_); (try (refine gate_guard (by rfl) ?_; dsimp only)); refine box_event ?hg (N := 6) ?hd (cs := #[.int .i64 0, .int .i64 0, .int .i64 0, .int .i64 0]) (t := 44) ?hr ?_; (case hd => rfl); (case hg => rfl); (case hr => first | (go_simp; done) | (go_simp; rfl)); intro gb339 hg w62 hbox hb; have n0_ := Aside0.mk (blk_below (g := gb334) (o := .cells #[.int .i64 t330, .int .i64 t331, .int .i64 t332, .int .i64 t333] 44 (0, 0)) (by (with_reducible repeat (first | refine blk_drewN ?_ _ | refine blk_drew ?_ | refine blk_alloc ?_ _)); exact BK334.out) hb); have n1_ := Aside0.mk (below_step (by repeat (first | (with_reducible first | exact HB.out | apply below_alloc | apply pw_below_drewN | apply below_drew1 | refine below_set ?_ GE334.out) | exact HB.out)) hb); have n2_ := Aside0.mk (hbox); have n3_ := Aside0.mk ((by rw [hg]; exact (below_size (by repeat (first | (with_reducible first | exact HB.out | apply below_alloc | apply pw_below_drewN | apply below_drew1 | refine below_set ?_ GE334.out) | exact HB.out))) : w.heap.size ≤ gb339)); have n4_ := Aside0.mk ((by rw [hg]; exact (below_size (by repeat (first | (with_reducible first | exact HB.out | apply below_alloc | apply pw_below_drewN | apply below_drew1 | refine below_set ?_ GE334.out) | exact HB.out))) : w.heap.size ≤ gb339)); have n5_ := Aside0.mk ((by rw [hg]; exact Nat.ne_of_lt (blk_lt (g := gb334) (o := .cells #[.int .i64 t330, .int .i64 t331, .int .i64 t332, .int .i64 t333] 44 (0, 0)) (by (with_reducible repeat (first | refine blk_drewN ?_ _ | refine blk_drew ?_ | refine blk_alloc ?_ _)); exact BK334.out)) : gb334 ≠ gb339)); have n6_ := Aside0.mk ((by rw [hg]; exact Nat.ne_of_gt (blk_lt (g := gb334) (o := .cells #[.int .i64 t330, .int .i64 t331, .int .i64 t332, .int .i64 t333] 44 (0, 0)) (by (with_reducible repeat (first | refine blk_drewN ?_ _ | refine blk_drew ?_ | refine blk_alloc ?_ _)); exact BK334.out)) : gb339 ≠ gb334)); clear BK334; clear HB; have BK334 := n0_; have HB := n1_; have BK339 := n2_; have GW339 := n3_; have GE339 := n4_; have NB334_339 := n5_; have NB339_334 := n6_; clear n0_ n1_ n2_ n3_ n4_ n5_ n6_; clear hb hbox hg; have hnb63 := NB339_334.out; have hnc63 := NB334_339.out; have hcz64_0 : w62.cell? ⟨gb339, 0, none⟩ = some (.int .i64 0) := (blk_cell BK339.out 0).trans rfl; have hcz64_1 : w62.cell? ⟨gb339, 1, none⟩ = some (.int .i64 0) := (blk_cell BK339.out 1).trans rfl; have hcz64_2 : w62.cell? ⟨gb339, 2, none⟩ = some (.int .i64 0) := (blk_cell BK339.out 2).trans rfl; have hcz64_3 : w62.cell? ⟨gb339, 3, none⟩ = some (.int .i64 0) := (blk_cell BK339.out 3).trans rfl; have hfz64_0 := blk_frozen BK339.out 0; have hfz64_1 := blk_frozen BK339.out 1; have hfz64_2 := blk_frozen BK339.out 2; have hfz64_3 := blk_frozen BK339.out 3))
         have n0_ : Aside0 (((((w62.setCell ⟨gb339, 0, none⟩ (.int .i64 t335)).setCell ⟨gb339, 1, none⟩ (.int .i64 t336)).setCell ⟨gb339, 2, none⟩ (.int .i64 t337)).setCell ⟨gb339, 3, none⟩ (.int .i64 t338)).heap[gb334]? = some (.cells #[.int .i64 t330, .int .i64 t331, .int .i64 t332, .int .i64 t333] 44 (0, 0))) := ⟨by (with_reducible repeat (first | refine blk_drewN ?_ _ | refine blk_drew ?_ | refine blk_alloc ?_ _)); refine blk_far ?_ NB334_339.out _; (with_reducible repeat (first | refine blk_drewN ?_ _ | refine blk_drew ?_ | refine blk_alloc ?_ _)); refine blk_far ?_ NB334_339.out _; (with_reducible repeat (first | refine blk_drewN ?_ _ | refine blk_drew ?_ | refine blk_alloc ?_ _)); refine blk_far ?_ NB334_339.out _; (with_reducible repeat (first | refine blk_drewN ?_ _ | refine blk_drew ?_ | refine blk_alloc ?_ _)); refine blk_far ?_ NB334_339.out _; (with_reducible repeat (first | refine blk_drewN ?_ _ | refine blk_drew ?_ | refine blk_alloc ?_ _)); exact BK334.out⟩
         have n1_ : Aside0 (((((w62.setCell ⟨gb339, 0, none⟩ (.int .i64 t335)).setCell ⟨gb339, 1, none⟩ (.int .i64 t336)).setCell ⟨gb339, 2, none⟩ (.int .i64 t337)).setCell ⟨gb339, 3, none⟩ (.int .i64 t338)).heap[gb339]? = some (.cells #[.int .i64 t335, .int .i64 t336, .int .i64 t337, .int .i64 t338] 44 (0, 0))) := ⟨by (with_reducible repeat (first | refine blk_drewN ?_ _ | refine blk_drew ?_ | refine blk_alloc ?_ _)); refine blk_put (cs := #[.int .i64 t335, .int .i64 t336, .int .i64 t337, .int .i64 0]) ?_ 3 _ rfl; (with_reducible repeat (first | refine blk_drewN ?_ _ | refine blk_drew ?_ | refine blk_alloc ?_ _)); refine blk_put (cs := #[.int .i64 t335, .int .i64 t336, .int .i64 0, .int .i64 0]) ?_ 2 _ rfl; (with_reducible repeat (first | refine blk_drewN ?_ _ | refine blk_drew ?_ | refine blk_alloc ?_ _)); refine blk_put (cs := #[.int .i64 t335, .int .i64 0, .int .i64 0, .int .i64 0]) ?_ 1 _ rfl; (with_reducible repeat (first | refine blk_drewN ?_ _ | refine blk_drew ?_ | refine blk_alloc ?_ _)); refine blk_put (cs := #[.int .i64 0, .int .i64 0, .int .i64 0, .int .i64 0]) ?_ 0 _ rfl; (with_reducible repeat (first | refine blk_drewN ?_ _ | refine blk_drew ?_ | refine blk_alloc ?_ _)); exact BK339.out⟩
         have n2_ : Aside0 (Below w.heap.size w ((((w62.setCell ⟨gb339, 0, none⟩ (.int .i64 t335)).setCell ⟨gb339, 1, none⟩ (.int .i64 t336)).setCell ⟨gb339, 2, none⟩ (.int .i64 t337)).setCell ⟨gb339, 3, none⟩ (.int .i64 t338))) := ⟨by repeat (first | (with_reducible first | exact HB.out | apply below_alloc | apply pw_below_drewN | apply below_drew1 | refine below_set ?_ GE334.out | refine below_set ?_ GE339.out) | exact HB.out)⟩
         (try clear BK334)
         (try clear BK339)
         (try clear HB)
         generalize ((((w62.setCell ⟨gb339, 0, none⟩ (.int .i64 t335)).setCell ⟨gb339, 1, none⟩ (.int .i64 t336)).setCell ⟨gb339, 2, none⟩ (.int .i64 t337)).setCell ⟨gb339, 3, none⟩ (.int .i64 t338)) = w65 at n0_ n1_ n2_ ⊢
         have BK334 := n0_
         have BK339 := n1_
         have HB := n2_
         clear n0_ n1_ n2_
         have n0_ := Aside0.mk (blk_drew BK334.out)
         have n1_ := Aside0.mk (blk_drew BK339.out)
         have n2_ := Aside0.mk (below_drew1 HB.out)
         clear BK334
         clear BK339
         clear HB
         have BK334 := n0_
         have BK339 := n1_
         have HB := n2_
         clear n0_ n1_ n2_
         refine start_ (n := 42) (S := fun w' => w'.cell? ⟨gb334, 0, none⟩ = some (.int .i64 t330) ∧ w'.cell? ⟨gb334, 1, none⟩ = some (.int .i64 t331) ∧ w'.cell? ⟨gb334, 2, none⟩ = some (.int .i64 t332) ∧ w'.cell? ⟨gb334, 3, none⟩ = some (.int .i64 t333) ∧ w'.cell? ⟨gb339, 0, none⟩ = some (.int .i64 t335) ∧ w'.cell? ⟨gb339, 1, none⟩ = some (.int .i64 t336) ∧ w'.cell? ⟨gb339, 2, none⟩ = some (.int .i64 t337) ∧ w'.cell? ⟨gb339, 3, none⟩ = some (.int .i64 t338)) (ds := []) #[FB,FB,FB,FB,FB,FB,FB,FB,FB,FB,FB,FB,FB,FB,FB,FB,FB,FB,FB,FB,FB,FB,FB,FB,FB,FB,FB,FB,FB,FB,FB,FB,FB,FB,FB,FB,FB,FB,FB,FB,FB,FB] (by kernel_rfl) rfl rfl ⟨(blk_cell BK334.out 0).trans rfl, (blk_cell BK334.out 1).trans rfl, (blk_cell BK334.out 2).trans rfl, (blk_cell BK334.out 3).trans rfl, (blk_cell BK339.out 0).trans rfl, (blk_cell BK339.out 1).trans rfl, (blk_cell BK339.out 2).trans rfl, (blk_cell BK339.out 3).trans rfl⟩ (fun hHeld => ?_); refine with_tabW palinodelaw2_CountSums.tab7 palinodelaw2_CountSums.bits7 (fun HT_ HW_ => ?_)
         generalize w65.drew = w66 at BK334 BK339 HB hHeld ⊢
         refine pure_ (i := 2) (N := some 35) (v := ?_) (a' := ?_) #[FB,FB,TB,FB,FB,FB,FB,FB,FB,FB,FB,FB,FB,FB,FB,FB,FB,FB,FB,FB,FB,FB,FB,FB,FB,FB,FB,FB,FB,FB,FB,FB,FB,FB,FB,FB,FB,FB,FB,FB,FB,FB] rfl rfl (any_of HT_.out (by kernel_rfl)) (fun _ _ _ h => h) (Or.inl ⟨by rfl, ?_⟩) ?_ ?_
         rotate_left
         ·intro w'
          go_simp
          with_reducible rfl
         rotate_left
         ·simp only [Act.put, List.setIfInBounds_toArray, List.set_cons_zero, List.set_cons_succ, i64_w, i32_w]
          rfl
         refine take_ (i := 0) (N := some 33) (v := ?_) (a' := ?_) #[TB,FB,TB,FB,FB,FB,FB,FB,FB,FB,FB,FB,FB,FB,FB,FB,FB,FB,FB,FB,FB,FB,FB,FB,FB,FB,FB,FB,FB,FB,FB,FB,FB,FB,FB,FB,FB,FB,FB,FB,FB,FB] rfl rfl (take_ofW HT_.out HW_.out (by kernel_rfl)) (fun _ _ _ h => h) (Or.inl ⟨by rfl, ?_⟩) hHeld ?_ ?_
         rotate_left
         ·rintro w' ⟨s0, s1, s2, s3, s4, s5, s6, s7⟩
          go_simp
          with_reducible rfl
         rotate_left
         ·simp only [Act.put, List.setIfInBounds_toArray, List.set_cons_zero, List.set_cons_succ, i64_w, i32_w]
          rfl
         refine take_ (i := 1) (N := some 34) (v := ?_) (a' := ?_) #[TB,TB,TB,FB,FB,FB,FB,FB,FB,FB,FB,FB,FB,FB,FB,FB,FB,FB,FB,FB,FB,FB,FB,FB,FB,FB,FB,FB,FB,FB,FB,FB,FB,FB,FB,FB,FB,FB,FB,FB,FB,FB] rfl rfl (take_ofW HT_.out HW_.out (by kernel_rfl)) (fun _ _ _ h => h) (Or.inl ⟨by rfl, ?_⟩) hHeld ?_ ?_
         rotate_left
         ·rintro w' ⟨s0, s1, s2, s3, s4, s5, s6, s7⟩
          go_simp
          with_reducible rfl
         rotate_left
         ·simp only [Act.put, List.setIfInBounds_toArray, List.set_cons_zero, List.set_cons_succ, i64_w, i32_w]
          rfl
         refine one_ (i := 3) (N := some 36) #[TB,TB,TB,TB,FB,FB,FB,FB,FB,FB,FB,FB,FB,FB,FB,FB,FB,FB,FB,FB,FB,FB,FB,FB,FB,FB,FB,FB,FB,FB,FB,FB,FB,FB,FB,FB,FB,FB,FB,FB,FB,FB] rfl rfl (one_of HT_.out (by kernel_rfl)) (by decide) (fun K hK => ?_)
         refine goes_ Try.func38 (by kernel_rfl) rfl #[.string a1] (by rfl) rfl rfl (by (try simp only [List.map_toArray, List.map_cons, List.map_nil]); first | done | rfl | (simp only [List.length_drop, List.length_take]; rfl)) ?_
         with_reducible refine (count_Of.calls a1 t340 t341 t342 t343 _ A16.out).mono ?_
         rintro e w67 ⟨rfl, hb⟩
         refine ⟨_, rfl, ?_⟩
         have n0_ := Aside0.mk (blk_below (g := gb334) (o := .cells #[.int .i64 t330, .int .i64 t331, .int .i64 t332, .int .i64 t333] 44 (0, 0)) (by (with_reducible repeat (first | refine blk_drewN ?_ _ | refine blk_drew ?_ | refine blk_alloc ?_ _)); exact BK334.out) hb)
         have n1_ := Aside0.mk (blk_below (g := gb339) (o := .cells #[.int .i64 t335, .int .i64 t336, .int .i64 t337, .int .i64 t338] 44 (0, 0)) (by (with_reducible repeat (first | refine blk_drewN ?_ _ | refine blk_drew ?_ | refine blk_alloc ?_ _)); exact BK339.out) hb)
         have n2_ := Aside0.mk (below_step (by repeat (first | (with_reducible first | exact HB.out | apply below_alloc | apply pw_below_drewN | apply below_drew1 | refine below_set ?_ GE334.out | refine below_set ?_ GE339.out) | exact HB.out)) hb)
         clear BK334
         clear BK339
         clear HB
         have BK334 := n0_
         have BK339 := n1_
         have HB := n2_
         clear n0_ n1_ n2_
         (try clear hb)
         (try clear hb2)
         (try clear hk)
         (try clear hi)
         refine hK.out _ _ ⟨(blk_cell BK334.out 0).trans rfl, (blk_cell BK334.out 1).trans rfl, (blk_cell BK334.out 2).trans rfl, (blk_cell BK334.out 3).trans rfl, (blk_cell BK339.out 0).trans rfl, (blk_cell BK339.out 1).trans rfl, (blk_cell BK339.out 2).trans rfl, (blk_cell BK339.out 3).trans rfl⟩ (fun hHeld => ?_)
         clear hK K
         refine norm_ (a' := ?_) ?_ ?_
         rotate_left
         ·show Act.put _ (some 36) _ = _
          simp only [Act.put, List.setIfInBounds_toArray, List.set_cons_zero, List.set_cons_succ, i64_w, i32_w]
          rfl
         refine one_ (i := 4) (N := some 37) #[TB,TB,TB,TB,TB,FB,FB,FB,FB,FB,FB,FB,FB,FB,FB,FB,FB,FB,FB,FB,FB,FB,FB,FB,FB,FB,FB,FB,FB,FB,FB,FB,FB,FB,FB,FB,FB,FB,FB,FB,FB,FB] rfl rfl (one_of HT_.out (by kernel_rfl)) (by decide) (fun K hK => ?_)
         refine goes_ Try.func40 (by kernel_rfl) rfl #[.agg #[.int .i64 t335, .int .i64 t336, .int .i64 t337, .int .i64 t338], .agg #[.int .i64 t340, .int .i64 t341, .int .i64 t342, .int .i64 t343]] (by rfl) rfl rfl (by (try simp only [List.map_toArray, List.map_cons, List.map_nil]); first | done | rfl | (simp only [List.length_drop, List.length_take]; rfl)) ?_
         with_reducible refine (count_Plus.calls t335 t336 t337 t338 t340 t341 t342 t343 t344 t345 t346 t347 _ A17.out).mono ?_
         rintro e w68 ⟨rfl, hb⟩
         refine ⟨_, rfl, ?_⟩
         have n0_ := Aside0.mk (blk_below (g := gb334) (o := .cells #[.int .i64 t330, .int .i64 t331, .int .i64 t332, .int .i64 t333] 44 (0, 0)) (by (with_reducible repeat (first | refine blk_drewN ?_ _ | refine blk_drew ?_ | refine blk_alloc ?_ _)); exact BK334.out) hb)
         have n1_ := Aside0.mk (blk_below (g := gb339) (o := .cells #[.int .i64 t335, .int .i64 t336, .int .i64 t337, .int .i64 t338] 44 (0, 0)) (by (with_reducible repeat (first | refine blk_drewN ?_ _ | refine blk_drew ?_ | refine blk_alloc ?_ _)); exact BK339.out) hb)
         have n2_ := Aside0.mk (below_step (by repeat (first | (with_reducible first | exact HB.out | apply below_alloc | apply pw_below_drewN | apply below_drew1 | refine below_set ?_ GE334.out | refine below_set ?_ GE339.out) | exact HB.out)) hb)
         clear BK334
         clear BK339
         clear HB
         have BK334 := n0_
         have BK339 := n1_
         have HB := n2_
         clear n0_ n1_ n2_
         (try clear hb)
         (try clear hb2)
         (try clear hk)
         (try clear hi)
         refine hK.out _ _ ⟨(blk_cell BK334.out 0).trans rfl, (blk_cell BK334.out 1).trans rfl, (blk_cell BK334.out 2).trans rfl, (blk_cell BK334.out 3).trans rfl, (blk_cell BK339.out 0).trans rfl, (blk_cell BK339.out 1).trans rfl, (blk_cell BK339.out 2).trans rfl, (blk_cell BK339.out 3).trans rfl⟩ (fun hHeld => ?_)
         clear hK K
         refine norm_ (a' := ?_) ?_ ?_
         rotate_left
         ·show Act.put _ (some 37) _ = _
          simp only [Act.put, List.setIfInBounds_toArray, List.set_cons_zero, List.set_cons_succ, i64_w, i32_w]
          rfl
         refine pure_ (i := 5) (N := some 38) (v := ?_) (a' := ?_) #[TB,TB,TB,TB,TB,TB,FB,FB,FB,FB,FB,FB,FB,FB,FB,FB,FB,FB,FB,FB,FB,FB,FB,FB,FB,FB,FB,FB,FB,FB,FB,FB,FB,FB,FB,FB,FB,FB,FB,FB,FB,FB] rfl rfl (any_of HT_.out (by kernel_rfl)) (fun _ _ _ h => h) (Or.inl ⟨by rfl, ?_⟩) ?_ ?_
         rotate_left
         ·intro w'
          go_simp
          with_reducible rfl
         rotate_left
         ·simp only [Act.put, List.setIfInBounds_toArray, List.set_cons_zero, List.set_cons_succ, i64_w, i32_w]
          rfl
         refine pure_ (i := 6) (N := some 39) (v := ?_) (a' := ?_) #[TB,TB,TB,TB,TB,TB,TB,FB,FB,FB,FB,FB,FB,FB,FB,FB,FB,FB,FB,FB,FB,FB,FB,FB,FB,FB,FB,FB,FB,FB,FB,FB,FB,FB,FB,FB,FB,FB,FB,FB,FB,FB] rfl rfl (any_of HT_.out (by kernel_rfl)) (fun _ _ _ h => h) (Or.inl ⟨by rfl, ?_⟩) ?_ ?_
         rotate_left
         ·intro w'
          go_simp
          with_reducible rfl
         rotate_left
         ·simp only [Act.put, List.setIfInBounds_toArray, List.set_cons_zero, List.set_cons_succ, i64_w, i32_w]
          rfl
         refine pure_ (i := 7) (N := some 40) (v := ?_) (a' := ?_) #[TB,TB,TB,TB,TB,TB,TB,TB,FB,FB,FB,FB,FB,FB,FB,FB,FB,FB,FB,FB,FB,FB,FB,FB,FB,FB,FB,FB,FB,FB,FB,FB,FB,FB,FB,FB,FB,FB,FB,FB,FB,FB] rfl rfl (any_of HT_.out (by kernel_rfl)) (fun _ _ _ h => h) (Or.inl ⟨by rfl, ?_⟩) ?_ ?_
         rotate_left
         ·intro w'
          go_simp
          with_reducible rfl
         rotate_left
         ·simp only [Act.put, List.setIfInBounds_toArray, List.set_cons_zero, List.set_cons_succ, i64_w, i32_w]
          rfl
         refine pure_ (i := 9) (N := some 42) (v := ?_) (a' := ?_) #[TB,TB,TB,TB,TB,TB,TB,TB,FB,TB,FB,FB,FB,FB,FB,FB,FB,FB,FB,FB,FB,FB,FB,FB,FB,FB,FB,FB,FB,FB,FB,FB,FB,FB,FB,FB,FB,FB,FB,FB,FB,FB] rfl rfl (any_of HT_.out (by kernel_rfl)) (fun _ _ _ h => h) (Or.inl ⟨by rfl, ?_⟩) ?_ ?_
         rotate_left
         ·intro w'
          go_simp
          with_reducible rfl
         rotate_left
         ·simp only [Act.put, List.setIfInBounds_toArray, List.set_cons_zero, List.set_cons_succ, i64_w, i32_w]
          rfl
         refine pure_ (i := 10) (N := some 43) (v := ?_) (a' := ?_) #[TB,TB,TB,TB,TB,TB,TB,TB,FB,TB,TB,FB,FB,FB,FB,FB,FB,FB,FB,FB,FB,FB,FB,FB,FB,FB,FB,FB,FB,FB,FB,FB,FB,FB,FB,FB,FB,FB,FB,FB,FB,FB] rfl rfl (any_of HT_.out (by kernel_rfl)) (fun _ _ _ h => h) (Or.inl ⟨by rfl, ?_⟩) ?_ ?_
         rotate_left
         ·intro w'
          go_simp
          with_reducible rfl
         rotate_left
         ·simp only [Act.put, List.setIfInBounds_toArray, List.set_cons_zero, List.set_cons_succ, i64_w, i32_w]
          rfl
         refine take_ (i := 8) (N := some 41) (v := ?_) (a' := ?_) #[TB,TB,TB,TB,TB,TB,TB,TB,TB,TB,TB,FB,FB,FB,FB,FB,FB,FB,FB,FB,FB,FB,FB,FB,FB,FB,FB,FB,FB,FB,FB,FB,FB,FB,FB,FB,FB,FB,FB,FB,FB,FB] rfl rfl (take_ofW HT_.out HW_.out (by kernel_rfl)) (fun _ _ _ h => h) (Or.inl ⟨by rfl, ?_⟩) hHeld ?_ ?_
         rotate_left
         ·rintro w' ⟨s0, s1, s2, s3, s4, s5, s6, s7⟩
          go_simp
          with_reducible rfl
         rotate_left
         ·simp only [Act.put, List.setIfInBounds_toArray, List.set_cons_zero, List.set_cons_succ, i64_w, i32_w]
          rfl
         refine pure_ (i := 11) (N := some 44) (v := ?_) (a' := ?_) #[TB,TB,TB,TB,TB,TB,TB,TB,TB,TB,TB,TB,FB,FB,FB,FB,FB,FB,FB,FB,FB,FB,FB,FB,FB,FB,FB,FB,FB,FB,FB,FB,FB,FB,FB,FB,FB,FB,FB,FB,FB,FB] rfl rfl (any_of HT_.out (by kernel_rfl)) (fun _ _ _ h => h) (Or.inl ⟨by rfl, ?_⟩) ?_ ?_
         rotate_left
         ·intro w'
          go_simp
          with_reducible rfl
         rotate_left
         ·simp only [Act.put, List.setIfInBounds_toArray, List.set_cons_zero, List.set_cons_succ, i64_w, i32_w]
          rfl
         refine pure_ (i := 12) (N := some 45) (v := ?_) (a' := ?_) #[TB,TB,TB,TB,TB,TB,TB,TB,TB,TB,TB,TB,TB,FB,FB,FB,FB,FB,FB,FB,FB,FB,FB,FB,FB,FB,FB,FB,FB,FB,FB,FB,FB,FB,FB,FB,FB,FB,FB,FB,FB,FB] rfl rfl (any_of HT_.out (by kernel_rfl)) (fun _ _ _ h => h) (Or.inl ⟨by rfl, ?_⟩) ?_ ?_
         rotate_left
         ·intro w'
          go_simp
          with_reducible rfl
         rotate_left
         ·simp only [Act.put, List.setIfInBounds_toArray, List.set_cons_zero, List.set_cons_succ, i64_w, i32_w]
          rfl
         refine pure_ (i := 13) (N := some 46) (v := ?_) (a' := ?_) #[TB,TB,TB,TB,TB,TB,TB,TB,TB,TB,TB,TB,TB,TB,FB,FB,FB,FB,FB,FB,FB,FB,FB,FB,FB,FB,FB,FB,FB,FB,FB,FB,FB,FB,FB,FB,FB,FB,FB,FB,FB,FB] rfl rfl (any_of HT_.out (by kernel_rfl)) (fun _ _ _ h => h) (Or.inl ⟨by rfl, ?_⟩) ?_ ?_
         rotate_left
         ·intro w'
          go_simp
          with_reducible rfl
         rotate_left
         ·simp only [Act.put, List.setIfInBounds_toArray, List.set_cons_zero, List.set_cons_succ, i64_w, i32_w]
          rfl
         refine pure_ (i := 14) (N := some 47) (v := ?_) (a' := ?_) #[TB,TB,TB,TB,TB,TB,TB,TB,TB,TB,TB,TB,TB,TB,TB,FB,FB,FB,FB,FB,FB,FB,FB,FB,FB,FB,FB,FB,FB,FB,FB,FB,FB,FB,FB,FB,FB,FB,FB,FB,FB,FB] rfl rfl (any_of HT_.out (by kernel_rfl)) (fun _ _ _ h => h) (Or.inl ⟨by rfl, ?_⟩) ?_ ?_
         rotate_left
         ·intro w'
          go_simp
          with_reducible rfl
         rotate_left
         ·simp only [Act.put, List.setIfInBounds_toArray, List.set_cons_zero, List.set_cons_succ, i64_w, i32_w]
          rfl
         refine pure_ (i := 16) (N := some 49) (v := ?_) (a' := ?_) #[TB,TB,TB,TB,TB,TB,TB,TB,TB,TB,TB,TB,TB,TB,TB,FB,TB,FB,FB,FB,FB,FB,FB,FB,FB,FB,FB,FB,FB,FB,FB,FB,FB,FB,FB,FB,FB,FB,FB,FB,FB,FB] rfl rfl (any_of HT_.out (by kernel_rfl)) (fun _ _ _ h => h) (Or.inl ⟨by rfl, ?_⟩) ?_ ?_
         rotate_left
         ·intro w'
          go_simp
          with_reducible rfl
         rotate_left
         ·simp only [Act.put, List.setIfInBounds_toArray, List.set_cons_zero, List.set_cons_succ, i64_w, i32_w]
          rfl
         refine take_ (i := 15) (N := some 48) (v := ?_) (a' := ?_) #[TB,TB,TB,TB,TB,TB,TB,TB,TB,TB,TB,TB,TB,TB,TB,TB,TB,FB,FB,FB,FB,FB,FB,FB,FB,FB,FB,FB,FB,FB,FB,FB,FB,FB,FB,FB,FB,FB,FB,FB,FB,FB] rfl rfl (take_ofW HT_.out HW_.out (by kernel_rfl)) (fun _ _ _ h => h) (Or.inl ⟨by rfl, ?_⟩) hHeld ?_ ?_
         rotate_left
         ·rintro w' ⟨s0, s1, s2, s3, s4, s5, s6, s7⟩
          go_simp
          with_reducible rfl
         rotate_left
         ·simp only [Act.put, List.setIfInBounds_toArray, List.set_cons_zero, List.set_cons_succ, i64_w, i32_w]
          rfl
         refine take_ (i := 17) (N := some 50) (v := ?_) (a' := ?_) #[TB,TB,TB,TB,TB,TB,TB,TB,TB,TB,TB,TB,TB,TB,TB,TB,TB,TB,FB,FB,FB,FB,FB,FB,FB,FB,FB,FB,FB,FB,FB,FB,FB,FB,FB,FB,FB,FB,FB,FB,FB,FB] rfl rfl (take_ofW HT_.out HW_.out (by kernel_rfl)) (fun _ _ _ h => h) (Or.inl ⟨by rfl, ?_⟩) hHeld ?_ ?_
         rotate_left
         ·rintro w' ⟨s0, s1, s2, s3, s4, s5, s6, s7⟩
          go_simp
          with_reducible rfl
         rotate_left
         ·simp only [Act.put, List.setIfInBounds_toArray, List.set_cons_zero, List.set_cons_succ, i64_w, i32_w]
          rfl
         refine pure_ (i := 18) (N := some 51) (v := ?_) (a' := ?_) #[TB,TB,TB,TB,TB,TB,TB,TB,TB,TB,TB,TB,TB,TB,TB,TB,TB,TB,TB,FB,FB,FB,FB,FB,FB,FB,FB,FB,FB,FB,FB,FB,FB,FB,FB,FB,FB,FB,FB,FB,FB,FB] rfl rfl (any_of HT_.out (by kernel_rfl)) (fun _ _ _ h => h) (Or.inl ⟨by rfl, ?_⟩) ?_ ?_
         rotate_left
         ·intro w'
          go_simp
          with_reducible rfl
         rotate_left
         ·simp only [Act.put, List.setIfInBounds_toArray, List.set_cons_zero, List.set_cons_succ, i64_w, i32_w]
          rfl
         refine pure_ (i := 19) (N := some 52) (v := ?_) (a' := ?_) #[TB,TB,TB,TB,TB,TB,TB,TB,TB,TB,TB,TB,TB,TB,TB,TB,TB,TB,TB,TB,FB,FB,FB,FB,FB,FB,FB,FB,FB,FB,FB,FB,FB,FB,FB,FB,FB,FB,FB,FB,FB,FB] rfl rfl (any_of HT_.out (by kernel_rfl)) (fun _ _ _ h => h) (Or.inl ⟨by rfl, ?_⟩) ?_ ?_
         rotate_left
         ·intro w'
          go_simp
          with_reducible rfl
         rotate_left
         ·simp only [Act.put, List.setIfInBounds_toArray, List.set_cons_zero, List.set_cons_succ, i64_w, i32_w]
          rfl
         refine pure_ (i := 20) (N := some 53) (v := ?_) (a' := ?_) #[TB,TB,TB,TB,TB,TB,TB,TB,TB,TB,TB,TB,TB,TB,TB,TB,TB,TB,TB,TB,TB,FB,FB,FB,FB,FB,FB,FB,FB,FB,FB,FB,FB,FB,FB,FB,FB,FB,FB,FB,FB,FB] rfl rfl (any_of HT_.out (by kernel_rfl)) (fun _ _ _ h => h) (Or.inl ⟨by rfl, ?_⟩) ?_ ?_
         rotate_left
         ·intro w'
          go_simp
          with_reducible rfl
         rotate_left
         ·simp only [Act.put, List.setIfInBounds_toArray, List.set_cons_zero, List.set_cons_succ, i64_w, i32_w]
          rfl
         refine pure_ (i := 21) (N := some 54) (v := undef) (a' := ?_) #[TB,TB,TB,TB,TB,TB,TB,TB,TB,TB,TB,TB,TB,TB,TB,TB,TB,TB,TB,TB,TB,TB,FB,FB,FB,FB,FB,FB,FB,FB,FB,FB,FB,FB,FB,FB,FB,FB,FB,FB,FB,FB] rfl rfl (any_of HT_.out (by kernel_rfl)) (fun _ _ _ h => h) (Or.inr ⟨by rfl, rfl⟩) ?_ ?_
         rotate_left
         ·simp only [Act.put, List.setIfInBounds_toArray, List.set_cons_zero, List.set_cons_succ, i64_w, i32_w]
          rfl
         refine pure_ (i := 22) (N := some 55) (v := undef) (a' := ?_) #[TB,TB,TB,TB,TB,TB,TB,TB,TB,TB,TB,TB,TB,TB,TB,TB,TB,TB,TB,TB,TB,TB,TB,FB,FB,FB,FB,FB,FB,FB,FB,FB,FB,FB,FB,FB,FB,FB,FB,FB,FB,FB] rfl rfl (any_of HT_.out (by kernel_rfl)) (fun _ _ _ h => h) (Or.inr ⟨by rfl, rfl⟩) ?_ ?_
         rotate_left
         ·simp only [Act.put, List.setIfInBounds_toArray, List.set_cons_zero, List.set_cons_succ, i64_w, i32_w]
          rfl
         refine pure_ (i := 23) (N := some 56) (v := undef) (a' := ?_) #[TB,TB,TB,TB,TB,TB,TB,TB,TB,TB,TB,TB,TB,TB,TB,TB,TB,TB,TB,TB,TB,TB,TB,TB,FB,FB,FB,FB,FB,FB,FB,FB,FB,FB,FB,FB,FB,FB,FB,FB,FB,FB] rfl rfl (any_of HT_.out (by kernel_rfl)) (fun _ _ _ h => h) (Or.inr ⟨by rfl, rfl⟩) ?_ ?_
         rotate_left
         ·simp only [Act.put, List.setIfInBounds_toArray, List.set_cons_zero, List.set_cons_succ, i64_w, i32_w]
          rfl
         refine pure_ (i := 24) (N := some 57) (v := undef) (a' := ?_) #[TB,TB,TB,TB,TB,TB,TB,TB,TB,TB,TB,TB,TB,TB,TB,TB,TB,TB,TB,TB,TB,TB,TB,TB,TB,FB,FB,FB,FB,FB,FB,FB,FB,FB,FB,FB,FB,FB,FB,FB,FB,FB] rfl rfl (any_of HT_.out (by kernel_rfl)) (fun _ _ _ h => h) (Or.inr ⟨by rfl, rfl⟩) ?_ ?_
         rotate_left
         ·simp only [Act.put, List.setIfInBounds_toArray, List.set_cons_zero, List.set_cons_succ, i64_w, i32_w]
          rfl
         refine pure_ (i := 25) (N := some 58) (v := undef) (a' := ?_) #[TB,TB,TB,TB,TB,TB,TB,TB,TB,TB,TB,TB,TB,TB,TB,TB,TB,TB,TB,TB,TB,TB,TB,TB,TB,TB,FB,FB,FB,FB,FB,FB,FB,FB,FB,FB,FB,FB,FB,FB,FB,FB] rfl rfl (any_of HT_.out (by kernel_rfl)) (fun _ _ _ h => h) (Or.inr ⟨by rfl, rfl⟩) ?_ ?_
         rotate_left
         ·simp only [Act.put, List.setIfInBounds_toArray, List.set_cons_zero, List.set_cons_succ, i64_w, i32_w]
          rfl
         refine pure_ (i := 26) (N := some 59) (v := ?_) (a' := ?_) #[TB,TB,TB,TB,TB,TB,TB,TB,TB,TB,TB,TB,TB,TB,TB,TB,TB,TB,TB,TB,TB,TB,TB,TB,TB,TB,TB,FB,FB,FB,FB,FB,FB,FB,FB,FB,FB,FB,FB,FB,FB,FB] rfl rfl (any_of HT_.out (by kernel_rfl)) (fun _ _ _ h => h) (Or.inl ⟨by rfl, ?_⟩) ?_ ?_
         rotate_left
         ·intro w'
          go_simp
          with_reducible rfl
         rotate_left
         ·simp only [Act.put, List.setIfInBounds_toArray, List.set_cons_zero, List.set_cons_succ, i64_w, i32_w]
          rfl
         refine pure_ (i := 27) (N := some 60) (v := ?_) (a' := ?_) #[TB,TB,TB,TB,TB,TB,TB,TB,TB,TB,TB,TB,TB,TB,TB,TB,TB,TB,TB,TB,TB,TB,TB,TB,TB,TB,TB,TB,FB,FB,FB,FB,FB,FB,FB,FB,FB,FB,FB,FB,FB,FB] rfl rfl (any_of HT_.out (by kernel_rfl)) (fun _ _ _ h => h) (Or.inl ⟨by rfl, ?_⟩) ?_ ?_
         rotate_left
         ·intro w'
          go_simp
          with_reducible rfl
         rotate_left
         ·simp only [Act.put, List.setIfInBounds_toArray, List.set_cons_zero, List.set_cons_succ, i64_w, i32_w]
          rfl
         refine pure_ (i := 28) (N := some 61) (v := undef) (a' := ?_) #[TB,TB,TB,TB,TB,TB,TB,TB,TB,TB,TB,TB,TB,TB,TB,TB,TB,TB,TB,TB,TB,TB,TB,TB,TB,TB,TB,TB,TB,FB,FB,FB,FB,FB,FB,FB,FB,FB,FB,FB,FB,FB] rfl rfl (any_of HT_.out (by kernel_rfl)) (fun _ _ _ h => h) (Or.inr ⟨by rfl, rfl⟩) ?_ ?_
         rotate_left
         ·simp only [Act.put, List.setIfInBounds_toArray, List.set_cons_zero, List.set_cons_succ, i64_w, i32_w]
          rfl
         refine pure_ (i := 29) (N := some 62) (v := undef) (a' := ?_) #[TB,TB,TB,TB,TB,TB,TB,TB,TB,TB,TB,TB,TB,TB,TB,TB,TB,TB,TB,TB,TB,TB,TB,TB,TB,TB,TB,TB,TB,TB,FB,FB,FB,FB,FB,FB,FB,FB,FB,FB,FB,FB] rfl rfl (any_of HT_.out (by kernel_rfl)) (fun _ _ _ h => h) (Or.inr ⟨by rfl, rfl⟩) ?_ ?_
         rotate_left
         ·simp only [Act.put, List.setIfInBounds_toArray, List.set_cons_zero, List.set_cons_succ, i64_w, i32_w]
          rfl
         refine pure_ (i := 30) (N := some 63) (v := undef) (a' := ?_) #[TB,TB,TB,TB,TB,TB,TB,TB,TB,TB,TB,TB,TB,TB,TB,TB,TB,TB,TB,TB,TB,TB,TB,TB,TB,TB,TB,TB,TB,TB,TB,FB,FB,FB,FB,FB,FB,FB,FB,FB,FB,FB] rfl rfl (any_of HT_.out (by kernel_rfl)) (fun _ _ _ h => h) (Or.inr ⟨by rfl, rfl⟩) ?_ ?_
         rotate_left
         ·simp only [Act.put, List.setIfInBounds_toArray, List.set_cons_zero, List.set_cons_succ, i64_w, i32_w]
          rfl
         refine pure_ (i := 31) (N := some 64) (v := undef) (a' := ?_) #[TB,TB,TB,TB,TB,TB,TB,TB,TB,TB,TB,TB,TB,TB,TB,TB,TB,TB,TB,TB,TB,TB,TB,TB,TB,TB,TB,TB,TB,TB,TB,TB,FB,FB,FB,FB,FB,FB,FB,FB,FB,FB] rfl rfl (any_of HT_.out (by kernel_rfl)) (fun _ _ _ h => h) (Or.inr ⟨by rfl, rfl⟩) ?_ ?_
         rotate_left
         ·simp only [Act.put, List.setIfInBounds_toArray, List.set_cons_zero, List.set_cons_succ, i64_w, i32_w]
          rfl
         refine pure_ (i := 32) (N := some 65) (v := undef) (a' := ?_) #[TB,TB,TB,TB,TB,TB,TB,TB,TB,TB,TB,TB,TB,TB,TB,TB,TB,TB,TB,TB,TB,TB,TB,TB,TB,TB,TB,TB,TB,TB,TB,TB,TB,FB,FB,FB,FB,FB,FB,FB,FB,FB] rfl rfl (any_of HT_.out (by kernel_rfl)) (fun _ _ _ h => h) (Or.inr ⟨by rfl, rfl⟩) ?_ ?_
         rotate_left
         ·simp only [Act.put, List.setIfInBounds_toArray, List.set_cons_zero, List.set_cons_succ, i64_w, i32_w]
          rfl
         refine pure_ (i := 33) (N := some 66) (v := ?_) (a' := ?_) #[TB,TB,TB,TB,TB,TB,TB,TB,TB,TB,TB,TB,TB,TB,TB,TB,TB,TB,TB,TB,TB,TB,TB,TB,TB,TB,TB,TB,TB,TB,TB,TB,TB,TB,FB,FB,FB,FB,FB,FB,FB,FB] rfl rfl (any_of HT_.out (by kernel_rfl)) (fun _ _ _ h => h) (Or.inl ⟨by rfl, ?_⟩) ?_ ?_
         rotate_left
         ·intro w'
          go_simp
          with_reducible rfl
         rotate_left
         ·simp only [Act.put, List.setIfInBounds_toArray, List.set_cons_zero, List.set_cons_succ, i64_w, i32_w]
          rfl
         refine pure_ (i := 34) (N := some 67) (v := ?_) (a' := ?_) #[TB,TB,TB,TB,TB,TB,TB,TB,TB,TB,TB,TB,TB,TB,TB,TB,TB,TB,TB,TB,TB,TB,TB,TB,TB,TB,TB,TB,TB,TB,TB,TB,TB,TB,TB,FB,FB,FB,FB,FB,FB,FB] rfl rfl (any_of HT_.out (by kernel_rfl)) (fun _ _ _ h => h) (Or.inl ⟨by rfl, ?_⟩) ?_ ?_
         rotate_left
         ·intro w'
          go_simp
          with_reducible rfl
         rotate_left
         ·simp only [Act.put, List.setIfInBounds_toArray, List.set_cons_zero, List.set_cons_succ, i64_w, i32_w]
          rfl
         refine pure_ (i := 35) (N := some 68) (v := undef) (a' := ?_) #[TB,TB,TB,TB,TB,TB,TB,TB,TB,TB,TB,TB,TB,TB,TB,TB,TB,TB,TB,TB,TB,TB,TB,TB,TB,TB,TB,TB,TB,TB,TB,TB,TB,TB,TB,TB,FB,FB,FB,FB,FB,FB] rfl rfl (any_of HT_.out (by kernel_rfl)) (fun _ _ _ h => h) (Or.inr ⟨by rfl, rfl⟩) ?_ ?_
         rotate_left
         ·simp only [Act.put, List.setIfInBounds_toArray, List.set_cons_zero, List.set_cons_succ, i64_w, i32_w]
          rfl
         refine pure_ (i := 36) (N := some 69) (v := undef) (a' := ?_) #[TB,TB,TB,TB,TB,TB,TB,TB,TB,TB,TB,TB,TB,TB,TB,TB,TB,TB,TB,TB,TB,TB,TB,TB,TB,TB,TB,TB,TB,TB,TB,TB,TB,TB,TB,TB,TB,FB,FB,FB,FB,FB] rfl rfl (any_of HT_.out (by kernel_rfl)) (fun _ _ _ h => h) (Or.inr ⟨by rfl, rfl⟩) ?_ ?_
         rotate_left
         ·simp only [Act.put, List.setIfInBounds_toArray, List.set_cons_zero, List.set_cons_succ, i64_w, i32_w]
          rfl
         refine pure_ (i := 37) (N := some 70) (v := undef) (a' := ?_) #[TB,TB,TB,TB,TB,TB,TB,TB,TB,TB,TB,TB,TB,TB,TB,TB,TB,TB,TB,TB,TB,TB,TB,TB,TB,TB,TB,TB,TB,TB,TB,TB,TB,TB,TB,TB,TB,TB,FB,FB,FB,FB] rfl rfl (any_of HT_.out (by kernel_rfl)) (fun _ _ _ h => h) (Or.inr ⟨by rfl, rfl⟩) ?_ ?_
         rotate_left
         ·simp only [Act.put, List.setIfInBounds_toArray, List.set_cons_zero, List.set_cons_succ, i64_w, i32_w]
          rfl
         refine pure_ (i := 38) (N := some 71) (v := undef) (a' := ?_) #[TB,TB,TB,TB,TB,TB,TB,TB,TB,TB,TB,TB,TB,TB,TB,TB,TB,TB,TB,TB,TB,TB,TB,TB,TB,TB,TB,TB,TB,TB,TB,TB,TB,TB,TB,TB,TB,TB,TB,FB,FB,FB] rfl rfl (any_of HT_.out (by kernel_rfl)) (fun _ _ _ h => h) (Or.inr ⟨by rfl, rfl⟩) ?_ ?_
         rotate_left
         ·simp only [Act.put, List.setIfInBounds_toArray, List.set_cons_zero, List.set_cons_succ, i64_w, i32_w]
          rfl
         refine pure_ (i := 39) (N := some 72) (v := undef) (a' := ?_) #[TB,TB,TB,TB,TB,TB,TB,TB,TB,TB,TB,TB,TB,TB,TB,TB,TB,TB,TB,TB,TB,TB,TB,TB,TB,TB,TB,TB,TB,TB,TB,TB,TB,TB,TB,TB,TB,TB,TB,TB,FB,FB] rfl rfl (any_of HT_.out (by kernel_rfl)) (fun _ _ _ h => h) (Or.inr ⟨by rfl, rfl⟩) ?_ ?_
         rotate_left
         ·simp only [Act.put, List.setIfInBounds_toArray, List.set_cons_zero, List.set_cons_succ, i64_w, i32_w]
          rfl
         refine pure_ (i := 40) (N := some 73) (v := ?_) (a' := ?_) #[TB,TB,TB,TB,TB,TB,TB,TB,TB,TB,TB,TB,TB,TB,TB,TB,TB,TB,TB,TB,TB,TB,TB,TB,TB,TB,TB,TB,TB,TB,TB,TB,TB,TB,TB,TB,TB,TB,TB,TB,TB,FB] rfl rfl (any_of HT_.out (by kernel_rfl)) (fun _ _ _ h => h) (Or.inl ⟨by rfl, ?_⟩) ?_ ?_
         rotate_left
         ·intro w'
          go_simp
          with_reducible rfl
         rotate_left
         ·simp only [Act.put, List.setIfInBounds_toArray, List.set_cons_zero, List.set_cons_succ, i64_w, i32_w]
          rfl
         refine pure_ (i := 41) (N := some 4) (v := ?_) (a' := ?_) #[TB,TB,TB,TB,TB,TB,TB,TB,TB,TB,TB,TB,TB,TB,TB,TB,TB,TB,TB,TB,TB,TB,TB,TB,TB,TB,TB,TB,TB,TB,TB,TB,TB,TB,TB,TB,TB,TB,TB,TB,TB,TB] rfl rfl (any_of HT_.out (by kernel_rfl)) (fun _ _ _ h => h) (Or.inl ⟨by rfl, ?_⟩) ?_ ?_
         rotate_left
         ·intro w'
          go_simp
          with_reducible rfl
         rotate_left
         ·simp only [Act.put, List.setIfInBounds_toArray, List.set_cons_zero, List.set_cons_succ, i64_w, i32_w]
          rfl
         refine done_ (done_of HT_.out (by kernel_rfl)) ?_
         try go_wp2
         go_ret
         exact ⟨by first | rfl | (simp [errW_none, errW_some] <;> rfl) | (simp [*, errW_none, errW_some] <;> rfl), by repeat (first | (with_reducible first | exact HB.out | apply below_alloc | apply pw_below_drewN | apply below_drew1 | refine below_set ?_ GE334.out | refine below_set ?_ GE339.out) | exact HB.out)⟩
       ·rw [if_neg c19] at H
        have c19b0 : (t335 == (a0.size : Int)) = false := beq_eq_false_iff_ne.mpr c19
        have c19b1 : (t335 != (a0.size : Int)) = true := bne_iff_ne.mpr c19
        obtain rfl := Option.some.inj H
        try go_wp2_with (first | ((with_reducible refine gate_callee (f := 38) rfl ?_); refine goesL_ (some 30) rfl rfl Try.func38 (by kernel_rfl) rfl #[.string (a0 ++ a1)] rfl (by (try simp only [List.map_toArray, List.map_cons, List.map_nil]); first | done | rfl | (simp only [List.length_drop, List.length_take]; rfl)) ?_; (with_reducible refine (count_Of.calls (a0 ++ a1) t330 t331 t332 t333 _ A14.out).mono ?_); rintro e w69 ⟨rfl, hb⟩; refine ⟨_, rfl, ?_⟩; have n0_ := Aside0.mk (below_step (by repeat (first | (with_reducible first | exact HB.out | apply below_alloc | apply pw_below_drewN | apply below_drew1) | exact HB.out)) hb); clear HB; have HB := n0_; clear n0_; (try clear hb); (try clear hb2); (try clear hk); (try clear hi)) | ((with_reducible refine gate_dst (N := 5) rfl ?_); (try (refine gate_guard (by rfl) ?_; dsimp only)); refine box_event ?hg (N := 5) ?hd (cs := #[.int .i64 0, .int .i64 0, .int .i64 0, .int .i64 0]) (t := 44) ?hr ?_; (case hd => rfl); (case hg => rfl); (case hr => first | (go_simp; done) | (go_simp; rfl)); intro gb334 hg w70 hbox hb; have n0_ := Aside0.mk (below_step (by repeat (first | (with_reducible first | exact HB.out | apply below_alloc | apply pw_below_drewN | apply below_drew1) | exact HB.out)) hb); have n1_ := Aside0.mk (hbox); have n2_ := Aside0.mk ((by rw [hg]; exact (below_size (by repeat (first | (with_reducible first | exact HB.out | apply below_alloc | apply pw_below_drewN | apply below_drew1) | exact HB.out))) : w.heap.size ≤ gb334)); have n3_ := Aside0.mk ((by rw [hg]; exact (below_size (by repeat (first | (with_reducible first | exact HB.out | apply below_alloc | apply pw_below_drewN | apply below_drew1) | exact HB.out))) : w.heap.size ≤ gb334)); clear HB; have HB := n0_; have BK334 := n1_; have GW334 := n2_; have GE334 := n3_; clear n0_ n1_ n2_ n3_; clear hb hbox hg; have hcz71_0 : w70.cell? ⟨gb334, 0, none⟩ = some (.int .i64 0) := (blk_cell BK334.out 0).trans rfl; have hcz71_1 : w70.cell? ⟨gb334, 1, none⟩ = some (.int .i64 0) := (blk_cell BK334.out 1).trans rfl; have hcz71_2 : w70.cell? ⟨gb334, 2, none⟩ = some (.int .i64 0) := (blk_cell BK334.out 2).trans rfl; have hcz71_3 : w70.cell? ⟨gb334, 3, none⟩ = some (.int .i64 0) := (blk_cell BK334.out 3).trans rfl; have hfz71_0 := blk_frozen BK334.out 0; have hfz71_1 := blk_frozen BK334.out 1; have hfz71_2 := blk_frozen BK334.out 2; have hfz71_3 := blk_frozen BK334.out 3) | ((with_reducible refine gate_callee (f := 38) rfl ?_); refine goesL_ (some 32) rfl rfl Try.func38 (by kernel_rfl) rfl #[.string a0] rfl (by (try simp only [List.map_toArray, List.map_cons, List.map_nil]); first | done | rfl | (simp only [List.length_drop, List.length_take]; rfl)) ?_; (with_reducible refine (count_Of.calls a0 t335 t336 t337 t338 _ A15.out).mono ?_); rintro e w72 ⟨rfl, hb⟩; refine ⟨_, rfl, ?_⟩; have n0_ := Aside0.mk (blk_below (g := gb334) (o := .cells #[.int .i64 t330, .int .i64 t331, .int .i64 t332, .int .i64 t333] 44 (0, 0)) (by (with_reducible repeat (first | refine blk_drewN ?_ _ | refine blk_drew ?_ | refine blk_alloc ?_ _)); refine blk_put (cs := #[.int .i64 t330, .int .i64 t331, .int .i64 t332, .int .i64 0]) ?_ 3 _ rfl; (with_reducible repeat (first | refine blk_drewN ?_ _ | refine blk_drew ?_ | refine blk_alloc ?_ _)); refine blk_put (cs := #[.int .i64 t330, .int .i64 t331, .int .i64 0, .int .i64 0]) ?_ 2 _ rfl; (with_reducible repeat (first | refine blk_drewN ?_ _ | refine blk_drew ?_ | refine blk_alloc ?_ _)); refine blk_put (cs := #[.int .i64 t330, .int .i64 0, .int .i64 0, .int .i64 0]) ?_ 1 _ rfl; (with_reducible repeat (first | refine blk_drewN ?_ _ | refine blk_drew ?_ | refine blk_alloc ?_ _)); refine blk_put (cs := #[.int .i64 0, .int .i64 0, .int .i64 0, .int .i64 0]) ?_ 0 _ rfl; (with_reducible repeat (first | refine blk_drewN ?_ _ | refine blk_drew ?_ | refine blk_alloc ?_ _)); exact BK334.out) hb); have n1_ := Aside0.mk (below_step (by repeat (first | (with_reducible first | exact HB.out | apply below_alloc | apply pw_below_drewN | apply below_drew1 | refine below_set ?_ GE334.out) | exact HB.out)) hb); clear BK334; clear HB; have BK334 := n0_; have HB := n1_; clear n0_ n1_; (try clear hb); (try clear hb2); (try clear hk); (try clear hi)) | ((with_reducible refine gate_dst (N := 6) rfl ?_); (try (refine gate_guard (by rfl) ?_; dsimp only)); refine box_event ?hg (N := 6) ?hd (cs := #[.int .i64 0, .int .i64 0, .int .i64 0, .int .i64 0]) (t := 44) ?hr ?_; (case hd => rfl); (case hg => rfl); (case hr => first | (go_simp; done) | (go_simp; rfl)); intro gb339 hg w73 hbox hb; have n0_ := Aside0.mk (blk_below (g := gb334) (o := .cells #[.int .i64 t330, .int .i64 t331, .int .i64 t332, .int .i64 t333] 44 (0, 0)) (by (with_reducible repeat (first | refine blk_drewN ?_ _ | refine blk_drew ?_ | refine blk_alloc ?_ _)); exact BK334.out) hb); have n1_ := Aside0.mk (below_step (by repeat (first | (with_reducible first | exact HB.out | apply below_alloc | apply pw_below_drewN | apply below_drew1 | refine below_set ?_ GE334.out) | exact HB.out)) hb); have n2_ := Aside0.mk (hbox); have n3_ := Aside0.mk ((by rw [hg]; exact (below_size (by repeat (first | (with_reducible first | exact HB.out | apply below_alloc | apply pw_below_drewN | apply below_drew1 | refine below_set ?_ GE334.out) | exact HB.out))) : w.heap.size ≤ gb339)); have n4_ := Aside0.mk ((by rw [hg]; exact (below_size (by repeat (first | (with_reducible first | exact HB.out | apply below_alloc | apply pw_below_drewN | apply below_drew1 | refine below_set ?_ GE334.out) | exact HB.out))) : w.heap.size ≤ gb339)); have n5_ := Aside0.mk ((by rw [hg]; exact Nat.ne_of_lt (blk_lt (g := gb334) (o := .cells #[.int .i64 t330, .int .i64 t331, .int .i64 t332, .int .i64 t333] 44 (0, 0)) (by (with_reducible repeat (first | refine blk_drewN ?_ _ | refine blk_drew ?_ | refine blk_alloc ?_ _)); exact BK334.out)) : gb334 ≠ gb339)); have n6_ := Aside0.mk ((by rw [hg]; exact Nat.ne_of_gt (blk_lt (g := gb334) (o := .cells #[.int .i64 t330, .int .i64 t331, .int .i64 t332, .int .i64 t333] 44 (0, 0)) (by (with_reducible repeat (first | refine blk_drewN ?_ _ | refine blk_drew ?_ | refine blk_alloc ?_ _)); exact BK334.out)) : gb339 ≠ gb334)); clear BK334; clear HB; have BK334 := n0_; have HB := n1_; have BK339 := n2_; have GW339 := n3_; have GE339 := n4_; have NB334_339 := n5_; have NB339_334 := n6_; clear n0_ n1_ n2_ n3_ n4_ n5_ n6_; clear hb hbox hg; have hnb74 := NB339_334.out; have hnc74 := NB334_339.out; have hcz75_0 : w73.cell? ⟨gb339, 0, none⟩ = some (.int .i64 0) := (blk_cell BK339.out 0).trans rfl; have hcz75_1 : w73.cell? ⟨gb339, 1, none⟩ = some (.int .i64 0) := (blk_cell BK339.out 1).trans rfl; have hcz75_2 : w73.cell? ⟨gb339, 2, none⟩ = some (.int .i64 0) := (blk_cell BK339.out 2).trans rfl; have hcz75_3 : w73.cell? ⟨gb339, 3, none⟩ = some (.int .i64 0) := (blk_cell BK339.out 3).trans rfl; have hfz75_0 := blk_frozen BK339.out 0; have hfz75_1 := blk_frozen BK339.out 1; have hfz75_2 := blk_frozen BK339.out 2; have hfz75_3 := blk_frozen BK339.out 3))
        have n0_ : Aside0 (((((w73.setCell ⟨gb339, 0, none⟩ (.int .i64 t335)).setCell ⟨gb339, 1, none⟩ (.int .i64 t336)).setCell ⟨gb339, 2, none⟩ (.int .i64 t337)).setCell ⟨gb339, 3, none⟩ (.int .i64 t338)).heap[gb334]? = some (.cells #[.int .i64 t330, .int .i64 t331, .int .i64 t332, .int .i64 t333] 44 (0, 0))) := ⟨by (with_reducible repeat (first | refine blk_drewN ?_ _ | refine blk_drew ?_ | refine blk_alloc ?_ _)); refine blk_far ?_ NB334_339.out _; (with_reducible repeat (first | refine blk_drewN ?_ _ | refine blk_drew ?_ | refine blk_alloc ?_ _)); refine blk_far ?_ NB334_339.out _; (with_reducible repeat (first | refine blk_drewN ?_ _ | refine blk_drew ?_ | refine blk_alloc ?_ _)); refine blk_far ?_ NB334_339.out _; (with_reducible repeat (first | refine blk_drewN ?_ _ | refine blk_drew ?_ | refine blk_alloc ?_ _)); refine blk_far ?_ NB334_339.out _; (with_reducible repeat (first | refine blk_drewN ?_ _ | refine blk_drew ?_ | refine blk_alloc ?_ _)); exact BK334.out⟩
        have n1_ : Aside0 (((((w73.setCell ⟨gb339, 0, none⟩ (.int .i64 t335)).setCell ⟨gb339, 1, none⟩ (.int .i64 t336)).setCell ⟨gb339, 2, none⟩ (.int .i64 t337)).setCell ⟨gb339, 3, none⟩ (.int .i64 t338)).heap[gb339]? = some (.cells #[.int .i64 t335, .int .i64 t336, .int .i64 t337, .int .i64 t338] 44 (0, 0))) := ⟨by (with_reducible repeat (first | refine blk_drewN ?_ _ | refine blk_drew ?_ | refine blk_alloc ?_ _)); refine blk_put (cs := #[.int .i64 t335, .int .i64 t336, .int .i64 t337, .int .i64 0]) ?_ 3 _ rfl; (with_reducible repeat (first | refine blk_drewN ?_ _ | refine blk_drew ?_ | refine blk_alloc ?_ _)); refine blk_put (cs := #[.int .i64 t335, .int .i64 t336, .int .i64 0, .int .i64 0]) ?_ 2 _ rfl; (with_reducible repeat (first | refine blk_drewN ?_ _ | refine blk_drew ?_ | refine blk_alloc ?_ _)); refine blk_put (cs := #[.int .i64 t335, .int .i64 0, .int .i64 0, .int .i64 0]) ?_ 1 _ rfl; (with_reducible repeat (first | refine blk_drewN ?_ _ | refine blk_drew ?_ | refine blk_alloc ?_ _)); refine blk_put (cs := #[.int .i64 0, .int .i64 0, .int .i64 0, .int .i64 0]) ?_ 0 _ rfl; (with_reducible repeat (first | refine blk_drewN ?_ _ | refine blk_drew ?_ | refine blk_alloc ?_ _)); exact BK339.out⟩
        have n2_ : Aside0 (Below w.heap.size w ((((w73.setCell ⟨gb339, 0, none⟩ (.int .i64 t335)).setCell ⟨gb339, 1, none⟩ (.int .i64 t336)).setCell ⟨gb339, 2, none⟩ (.int .i64 t337)).setCell ⟨gb339, 3, none⟩ (.int .i64 t338))) := ⟨by repeat (first | (with_reducible first | exact HB.out | apply below_alloc | apply pw_below_drewN | apply below_drew1 | refine below_set ?_ GE334.out | refine below_set ?_ GE339.out) | exact HB.out)⟩
        (try clear BK334)
        (try clear BK339)
        (try clear HB)
        generalize ((((w73.setCell ⟨gb339, 0, none⟩ (.int .i64 t335)).setCell ⟨gb339, 1, none⟩ (.int .i64 t336)).setCell ⟨gb339, 2, none⟩ (.int .i64 t337)).setCell ⟨gb339, 3, none⟩ (.int .i64 t338)) = w76 at n0_ n1_ n2_ ⊢
        have BK334 := n0_
        have BK339 := n1_
        have HB := n2_
        clear n0_ n1_ n2_
        have n0_ := Aside0.mk (blk_drew BK334.out)
        have n1_ := Aside0.mk (blk_drew BK339.out)
        have n2_ := Aside0.mk (below_drew1 HB.out)
        clear BK334
        clear BK339
        clear HB
        have BK334 := n0_
        have BK339 := n1_
        have HB := n2_
        clear n0_ n1_ n2_
        refine start_ (n := 42) (S := fun w' => w'.cell? ⟨gb334, 0, none⟩ = some (.int .i64 t330) ∧ w'.cell? ⟨gb334, 1, none⟩ = some (.int .i64 t331) ∧ w'.cell? ⟨gb334, 2, none⟩ = some (.int .i64 t332) ∧ w'.cell? ⟨gb334, 3, none⟩ = some (.int .i64 t333) ∧ w'.cell? ⟨gb339, 0, none⟩ = some (.int .i64 t335) ∧ w'.cell? ⟨gb339, 1, none⟩ = some (.int .i64 t336) ∧ w'.cell? ⟨gb339, 2, none⟩ = some (.int .i64 t337) ∧ w'.cell? ⟨gb339, 3, none⟩ = some (.int .i64 t338)) (ds := []) #[FB,FB,FB,FB,FB,FB,FB,FB,FB,FB,FB,FB,FB,FB,FB,FB,FB,FB,FB,FB,FB,FB,FB,FB,FB,FB,FB,FB,FB,FB,FB,FB,FB,FB,FB,FB,FB,FB,FB,FB,FB,FB] (by kernel_rfl) rfl rfl ⟨(blk_cell BK334.out 0).trans rfl, (blk_cell BK334.out 1).trans rfl, (blk_cell BK334.out 2).trans rfl, (blk_cell BK334.out 3).trans rfl, (blk_cell BK339.out 0).trans rfl, (blk_cell BK339.out 1).trans rfl, (blk_cell BK339.out 2).trans rfl, (blk_cell BK339.out 3).trans rfl⟩ (fun hHeld => ?_); refine with_tabW palinodelaw2_CountSums.tab7 palinodelaw2_CountSums.bits7 (fun HT_ HW_ => ?_)
        generalize w76.drew = w77 at BK334 BK339 HB hHeld ⊢
        refine pure_ (i := 2) (N := some 35) (v := ?_) (a' := ?_) #[FB,FB,TB,FB,FB,FB,FB,FB,FB,FB,FB,FB,FB,FB,FB,FB,FB,FB,FB,FB,FB,FB,FB,FB,FB,FB,FB,FB,FB,FB,FB,FB,FB,FB,FB,FB,FB,FB,FB,FB,FB,FB] rfl rfl (any_of HT_.out (by kernel_rfl)) (fun _ _ _ h => h) (Or.inl ⟨by rfl, ?_⟩) ?_ ?_
        rotate_left
        ·intro w'
         go_simp
         with_reducible rfl
        rotate_left
        ·simp only [Act.put, List.setIfInBounds_toArray, List.set_cons_zero, List.set_cons_succ, i64_w, i32_w]
         rfl
        refine take_ (i := 0) (N := some 33) (v := ?_) (a' := ?_) #[TB,FB,TB,FB,FB,FB,FB,FB,FB,FB,FB,FB,FB,FB,FB,FB,FB,FB,FB,FB,FB,FB,FB,FB,FB,FB,FB,FB,FB,FB,FB,FB,FB,FB,FB,FB,FB,FB,FB,FB,FB,FB] rfl rfl (take_ofW HT_.out HW_.out (by kernel_rfl)) (fun _ _ _ h => h) (Or.inl ⟨by rfl, ?_⟩) hHeld ?_ ?_
        rotate_left
        ·rintro w' ⟨s0, s1, s2, s3, s4, s5, s6, s7⟩
         go_simp
         with_reducible rfl
        rotate_left
        ·simp only [Act.put, List.setIfInBounds_toArray, List.set_cons_zero, List.set_cons_succ, i64_w, i32_w]
         rfl
        refine take_ (i := 1) (N := some 34) (v := ?_) (a' := ?_) #[TB,TB,TB,FB,FB,FB,FB,FB,FB,FB,FB,FB,FB,FB,FB,FB,FB,FB,FB,FB,FB,FB,FB,FB,FB,FB,FB,FB,FB,FB,FB,FB,FB,FB,FB,FB,FB,FB,FB,FB,FB,FB] rfl rfl (take_ofW HT_.out HW_.out (by kernel_rfl)) (fun _ _ _ h => h) (Or.inl ⟨by rfl, ?_⟩) hHeld ?_ ?_
        rotate_left
        ·rintro w' ⟨s0, s1, s2, s3, s4, s5, s6, s7⟩
         go_simp
         with_reducible rfl
        rotate_left
        ·simp only [Act.put, List.setIfInBounds_toArray, List.set_cons_zero, List.set_cons_succ, i64_w, i32_w]
         rfl
        refine one_ (i := 3) (N := some 36) #[TB,TB,TB,TB,FB,FB,FB,FB,FB,FB,FB,FB,FB,FB,FB,FB,FB,FB,FB,FB,FB,FB,FB,FB,FB,FB,FB,FB,FB,FB,FB,FB,FB,FB,FB,FB,FB,FB,FB,FB,FB,FB] rfl rfl (one_of HT_.out (by kernel_rfl)) (by decide) (fun K hK => ?_)
        refine goes_ Try.func38 (by kernel_rfl) rfl #[.string a1] (by rfl) rfl rfl (by (try simp only [List.map_toArray, List.map_cons, List.map_nil]); first | done | rfl | (simp only [List.length_drop, List.length_take]; rfl)) ?_
        with_reducible refine (count_Of.calls a1 t340 t341 t342 t343 _ A16.out).mono ?_
        rintro e w78 ⟨rfl, hb⟩
        refine ⟨_, rfl, ?_⟩
        have n0_ := Aside0.mk (blk_below (g := gb334) (o := .cells #[.int .i64 t330, .int .i64 t331, .int .i64 t332, .int .i64 t333] 44 (0, 0)) (by (with_reducible repeat (first | refine blk_drewN ?_ _ | refine blk_drew ?_ | refine blk_alloc ?_ _)); exact BK334.out) hb)
        have n1_ := Aside0.mk (blk_below (g := gb339) (o := .cells #[.int .i64 t335, .int .i64 t336, .int .i64 t337, .int .i64 t338] 44 (0, 0)) (by (with_reducible repeat (first | refine blk_drewN ?_ _ | refine blk_drew ?_ | refine blk_alloc ?_ _)); exact BK339.out) hb)
        have n2_ := Aside0.mk (below_step (by repeat (first | (with_reducible first | exact HB.out | apply below_alloc | apply pw_below_drewN | apply below_drew1 | refine below_set ?_ GE334.out | refine below_set ?_ GE339.out) | exact HB.out)) hb)
        clear BK334
        clear BK339
        clear HB
        have BK334 := n0_
        have BK339 := n1_
        have HB := n2_
        clear n0_ n1_ n2_
        (try clear hb)
        (try clear hb2)
        (try clear hk)
        (try clear hi)
        refine hK.out _ _ ⟨(blk_cell BK334.out 0).trans rfl, (blk_cell BK334.out 1).trans rfl, (blk_cell BK334.out 2).trans rfl, (blk_cell BK334.out 3).trans rfl, (blk_cell BK339.out 0).trans rfl, (blk_cell BK339.out 1).trans rfl, (blk_cell BK339.out 2).trans rfl, (blk_cell BK339.out 3).trans rfl⟩ (fun hHeld => ?_)
        clear hK K
        refine norm_ (a' := ?_) ?_ ?_
        rotate_left
        ·show Act.put _ (some 36) _ = _
         simp only [Act.put, List.setIfInBounds_toArray, List.set_cons_zero, List.set_cons_succ, i64_w, i32_w]
         rfl
        refine one_ (i := 4) (N := some 37) #[TB,TB,TB,TB,TB,FB,FB,FB,FB,FB,FB,FB,FB,FB,FB,FB,FB,FB,FB,FB,FB,FB,FB,FB,FB,FB,FB,FB,FB,FB,FB,FB,FB,FB,FB,FB,FB,FB,FB,FB,FB,FB] rfl rfl (one_of HT_.out (by kernel_rfl)) (by decide) (fun K hK => ?_)
        refine goes_ Try.func40 (by kernel_rfl) rfl #[.agg #[.int .i64 t335, .int .i64 t336, .int .i64 t337, .int .i64 t338], .agg #[.int .i64 t340, .int .i64 t341, .int .i64 t342, .int .i64 t343]] (by rfl) rfl rfl (by (try simp only [List.map_toArray, List.map_cons, List.map_nil]); first | done | rfl | (simp only [List.length_drop, List.length_take]; rfl)) ?_
        with_reducible refine (count_Plus.calls t335 t336 t337 t338 t340 t341 t342 t343 t344 t345 t346 t347 _ A17.out).mono ?_
        rintro e w79 ⟨rfl, hb⟩
        refine ⟨_, rfl, ?_⟩
        have n0_ := Aside0.mk (blk_below (g := gb334) (o := .cells #[.int .i64 t330, .int .i64 t331, .int .i64 t332, .int .i64 t333] 44 (0, 0)) (by (with_reducible repeat (first | refine blk_drewN ?_ _ | refine blk_drew ?_ | refine blk_alloc ?_ _)); exact BK334.out) hb)
        have n1_ := Aside0.mk (blk_below (g := gb339) (o := .cells #[.int .i64 t335, .int .i64 t336, .int .i64 t337, .int .i64 t338] 44 (0, 0)) (by (with_reducible repeat (first | refine blk_drewN ?_ _ | refine blk_drew ?_ | refine blk_alloc ?_ _)); exact BK339.out) hb)
        have n2_ := Aside0.mk (below_step (by repeat (first | (with_reducible first | exact HB.out | apply below_alloc | apply pw_below_drewN | apply below_drew1 | refine below_set ?_ GE334.out | refine below_set ?_ GE339.out) | exact HB.out)) hb)
        clear BK334
        clear BK339
        clear HB
        have BK334 := n0_
        have BK339 := n1_
        have HB := n2_
        clear n0_ n1_ n2_
        (try clear hb)
        (try clear hb2)
        (try clear hk)
        (try clear hi)
        refine hK.out _ _ ⟨(blk_cell BK334.out 0).trans rfl, (blk_cell BK334.out 1).trans rfl, (blk_cell BK334.out 2).trans rfl, (blk_cell BK334.out 3).trans rfl, (blk_cell BK339.out 0).trans rfl, (blk_cell BK339.out 1).trans rfl, (blk_cell BK339.out 2).trans rfl, (blk_cell BK339.out 3).trans rfl⟩ (fun hHeld => ?_)
        clear hK K
        refine norm_ (a' := ?_) ?_ ?_
        rotate_left
        ·show Act.put _ (some 37) _ = _
         simp only [Act.put, List.setIfInBounds_toArray, List.set_cons_zero, List.set_cons_succ, i64_w, i32_w]
         rfl
        refine pure_ (i := 5) (N := some 38) (v := ?_) (a' := ?_) #[TB,TB,TB,TB,TB,TB,FB,FB,FB,FB,FB,FB,FB,FB,FB,FB,FB,FB,FB,FB,FB,FB,FB,FB,FB,FB,FB,FB,FB,FB,FB,FB,FB,FB,FB,FB,FB,FB,FB,FB,FB,FB] rfl rfl (any_of HT_.out (by kernel_rfl)) (fun _ _ _ h => h) (Or.inl ⟨by rfl, ?_⟩) ?_ ?_
        rotate_left
        ·intro w'
         go_simp
         with_reducible rfl
        rotate_left
        ·simp only [Act.put, List.setIfInBounds_toArray, List.set_cons_zero, List.set_cons_succ, i64_w, i32_w]
         rfl
        refine pure_ (i := 6) (N := some 39) (v := ?_) (a' := ?_) #[TB,TB,TB,TB,TB,TB,TB,FB,FB,FB,FB,FB,FB,FB,FB,FB,FB,FB,FB,FB,FB,FB,FB,FB,FB,FB,FB,FB,FB,FB,FB,FB,FB,FB,FB,FB,FB,FB,FB,FB,FB,FB] rfl rfl (any_of HT_.out (by kernel_rfl)) (fun _ _ _ h => h) (Or.inl ⟨by rfl, ?_⟩) ?_ ?_
        rotate_left
        ·intro w'
         go_simp
         with_reducible rfl
        rotate_left
        ·simp only [Act.put, List.setIfInBounds_toArray, List.set_cons_zero, List.set_cons_succ, i64_w, i32_w]
         rfl
        refine pure_ (i := 7) (N := some 40) (v := ?_) (a' := ?_) #[TB,TB,TB,TB,TB,TB,TB,TB,FB,FB,FB,FB,FB,FB,FB,FB,FB,FB,FB,FB,FB,FB,FB,FB,FB,FB,FB,FB,FB,FB,FB,FB,FB,FB,FB,FB,FB,FB,FB,FB,FB,FB] rfl rfl (any_of HT_.out (by kernel_rfl)) (fun _ _ _ h => h) (Or.inl ⟨by rfl, ?_⟩) ?_ ?_
        rotate_left
        ·intro w'
         go_simp
         with_reducible rfl
        rotate_left
        ·simp only [Act.put, List.setIfInBounds_toArray, List.set_cons_zero, List.set_cons_succ, i64_w, i32_w]
         rfl
        refine pure_ (i := 9) (N := some 42) (v := ?_) (a' := ?_) #[TB,TB,TB,TB,TB,TB,TB,TB,FB,TB,FB,FB,FB,FB,FB,FB,FB,FB,FB,FB,FB,FB,FB,FB,FB,FB,FB,FB,FB,FB,FB,FB,FB,FB,FB,FB,FB,FB,FB,FB,FB,FB] rfl rfl (any_of HT_.out (by kernel_rfl)) (fun _ _ _ h => h) (Or.inl ⟨by rfl, ?_⟩) ?_ ?_
        rotate_left
        ·intro w'
         go_simp
         with_reducible rfl
        rotate_left
        ·simp only [Act.put, List.setIfInBounds_toArray, List.set_cons_zero, List.set_cons_succ, i64_w, i32_w]
         rfl
        refine pure_ (i := 10) (N := some 43) (v := ?_) (a' := ?_) #[TB,TB,TB,TB,TB,TB,TB,TB,FB,TB,TB,FB,FB,FB,FB,FB,FB,FB,FB,FB,FB,FB,FB,FB,FB,FB,FB,FB,FB,FB,FB,FB,FB,FB,FB,FB,FB,FB,FB,FB,FB,FB] rfl rfl (any_of HT_.out (by kernel_rfl)) (fun _ _ _ h => h) (Or.inl ⟨by rfl, ?_⟩) ?_ ?_
        rotate_left
        ·intro w'
         go_simp
         with_reducible rfl
        rotate_left
        ·simp only [Act.put, List.setIfInBounds_toArray, List.set_cons_zero, List.set_cons_succ, i64_w, i32_w]
         rfl
        refine take_ (i := 8) (N := some 41) (v := ?_) (a' := ?_) #[TB,TB,TB,TB,TB,TB,TB,TB,TB,TB,TB,FB,FB,FB,FB,FB,FB,FB,FB,FB,FB,FB,FB,FB,FB,FB,FB,FB,FB,FB,FB,FB,FB,FB,FB,FB,FB,FB,FB,FB,FB,FB] rfl rfl (take_ofW HT_.out HW_.out (by kernel_rfl)) (fun _ _ _ h => h) (Or.inl ⟨by rfl, ?_⟩) hHeld ?_ ?_
        rotate_left
        ·rintro w' ⟨s0, s1, s2, s3, s4, s5, s6, s7⟩
         go_simp
         with_reducible rfl
        rotate_left
        ·simp only [Act.put, List.setIfInBounds_toArray, List.set_cons_zero, List.set_cons_succ, i64_w, i32_w]
         rfl
        refine pure_ (i := 11) (N := some 44) (v := ?_) (a' := ?_) #[TB,TB,TB,TB,TB,TB,TB,TB,TB,TB,TB,TB,FB,FB,FB,FB,FB,FB,FB,FB,FB,FB,FB,FB,FB,FB,FB,FB,FB,FB,FB,FB,FB,FB,FB,FB,FB,FB,FB,FB,FB,FB] rfl rfl (any_of HT_.out (by kernel_rfl)) (fun _ _ _ h => h) (Or.inl ⟨by rfl, ?_⟩) ?_ ?_
        rotate_left
        ·intro w'
         go_simp
         with_reducible rfl
        rotate_left
        ·simp only [Act.put, List.setIfInBounds_toArray, List.set_cons_zero, List.set_cons_succ, i64_w, i32_w]
         rfl
        refine pure_ (i := 12) (N := some 45) (v := ?_) (a' := ?_) #[TB,TB,TB,TB,TB,TB,TB,TB,TB,TB,TB,TB,TB,FB,FB,FB,FB,FB,FB,FB,FB,FB,FB,FB,FB,FB,FB,FB,FB,FB,FB,FB,FB,FB,FB,FB,FB,FB,FB,FB,FB,FB] rfl rfl (any_of HT_.out (by kernel_rfl)) (fun _ _ _ h => h) (Or.inl ⟨by rfl, ?_⟩) ?_ ?_
        rotate_left
        ·intro w'
         go_simp
         with_reducible rfl
        rotate_left
        ·simp only [Act.put, List.setIfInBounds_toArray, List.set_cons_zero, List.set_cons_succ, i64_w, i32_w]
         rfl
        refine pure_ (i := 13) (N := some 46) (v := ?_) (a' := ?_) #[TB,TB,TB,TB,TB,TB,TB,TB,TB,TB,TB,TB,TB,TB,FB,FB,FB,FB,FB,FB,FB,FB,FB,FB,FB,FB,FB,FB,FB,FB,FB,FB,FB,FB,FB,FB,FB,FB,FB,FB,FB,FB] rfl rfl (any_of HT_.out (by kernel_rfl)) (fun _ _ _ h => h) (Or.inl ⟨by rfl, ?_⟩) ?_ ?_
        rotate_left
        ·intro w'
         go_simp
         with_reducible rfl
        rotate_left
        ·simp only [Act.put, List.setIfInBounds_toArray, List.set_cons_zero, List.set_cons_succ, i64_w, i32_w]
         rfl
        refine pure_ (i := 14) (N := some 47) (v := undef) (a' := ?_) #[TB,TB,TB,TB,TB,TB,TB,TB,TB,TB,TB,TB,TB,TB,TB,FB,FB,FB,FB,FB,FB,FB,FB,FB,FB,FB,FB,FB,FB,FB,FB,FB,FB,FB,FB,FB,FB,FB,FB,FB,FB,FB] rfl rfl (any_of HT_.out (by kernel_rfl)) (fun _ _ _ h => h) (Or.inr ⟨by rfl, rfl⟩) ?_ ?_
        rotate_left
        ·simp only [Act.put, List.setIfInBounds_toArray, List.set_cons_zero, List.set_cons_succ, i64_w, i32_w]
         rfl
        refine pure_ (i := 15) (N := some 48) (v := undef) (a' := ?_) #[TB,TB,TB,TB,TB,TB,TB,TB,TB,TB,TB,TB,TB,TB,TB,TB,FB,FB,FB,FB,FB,FB,FB,FB,FB,FB,FB,FB,FB,FB,FB,FB,FB,FB,FB,FB,FB,FB,FB,FB,FB,FB] rfl rfl (any_of HT_.out (by kernel_rfl)) (fun _ _ _ h => h) (Or.inr ⟨by rfl, rfl⟩) ?_ ?_
        rotate_left
        ·simp only [Act.put, List.setIfInBounds_toArray, List.set_cons_zero, List.set_cons_succ, i64_w, i32_w]
         rfl
        refine pure_ (i := 16) (N := some 49) (v := undef) (a' := ?_) #[TB,TB,TB,TB,TB,TB,TB,TB,TB,TB,TB,TB,TB,TB,TB,TB,TB,FB,FB,FB,FB,FB,FB,FB,FB,FB,FB,FB,FB,FB,FB,FB,FB,FB,FB,FB,FB,FB,FB,FB,FB,FB] rfl rfl (any_of HT_.out (by kernel_rfl)) (fun _ _ _ h => h) (Or.inr ⟨by rfl, rfl⟩) ?_ ?_
        rotate_left
        ·simp only [Act.put, List.setIfInBounds_toArray, List.set_cons_zero, List.set_cons_succ, i64_w, i32_w]
         rfl
        refine pure_ (i := 17) (N := some 50) (v := undef) (a' := ?_) #[TB,TB,TB,TB,TB,TB,TB,TB,TB,TB,TB,TB,TB,TB,TB,TB,TB,TB,FB,FB,FB,FB,FB,FB,FB,FB,FB,FB,FB,FB,FB,FB,FB,FB,FB,FB,FB,FB,FB,FB,FB,FB] rfl rfl (any_of HT_.out (by kernel_rfl)) (fun _ _ _ h => h) (Or.inr ⟨by rfl, rfl⟩) ?_ ?_
        rotate_left
        ·simp only [Act.put, List.setIfInBounds_toArray, List.set_cons_zero, List.set_cons_succ, i64_w, i32_w]
         rfl
        refine pure_ (i := 18) (N := some 51) (v := undef) (a' := ?_) #[TB,TB,TB,TB,TB,TB,TB,TB,TB,TB,TB,TB,TB,TB,TB,TB,TB,TB,TB,FB,FB,FB,FB,FB,FB,FB,FB,FB,FB,FB,FB,FB,FB,FB,FB,FB,FB,FB,FB,FB,FB,FB] rfl rfl (any_of HT_.out (by kernel_rfl)) (fun _ _ _ h => h) (Or.inr ⟨by rfl, rfl⟩) ?_ ?_
        rotate_left
        ·simp only [Act.put, List.setIfInBounds_toArray, List.set_cons_zero, List.set_cons_succ, i64_w, i32_w]
         rfl
        refine pure_ (i := 19) (N := some 52) (v := ?_) (a' := ?_) #[TB,TB,TB,TB,TB,TB,TB,TB,TB,TB,TB,TB,TB,TB,TB,TB,TB,TB,TB,TB,FB,FB,FB,FB,FB,FB,FB,FB,FB,FB,FB,FB,FB,FB,FB,FB,FB,FB,FB,FB,FB,FB] rfl rfl (any_of HT_.out (by kernel_rfl)) (fun _ _ _ h => h) (Or.inl ⟨by rfl, ?_⟩) ?_ ?_
        rotate_left
        ·intro w'
         go_simp
         with_reducible rfl
        rotate_left
        ·simp only [Act.put, List.setIfInBounds_toArray, List.set_cons_zero, List.set_cons_succ, i64_w, i32_w]
         rfl
        refine pure_ (i := 20) (N := some 53) (v := ?_) (a' := ?_) #[TB,TB,TB,TB,TB,TB,TB,TB,TB,TB,TB,TB,TB,TB,TB,TB,TB,TB,TB,TB,TB,FB,FB,FB,FB,FB,FB,FB,FB,FB,FB,FB,FB,FB,FB,FB,FB,FB,FB,FB,FB,FB] rfl rfl (any_of HT_.out (by kernel_rfl)) (fun _ _ _ h => h) (Or.inl ⟨by rfl, ?_⟩) ?_ ?_
        rotate_left
        ·intro w'
         go_simp
         with_reducible rfl
        rotate_left
        ·simp only [Act.put, List.setIfInBounds_toArray, List.set_cons_zero, List.set_cons_succ, i64_w, i32_w]
         rfl
        refine pure_ (i := 21) (N := some 54) (v := undef) (a' := ?_) #[TB,TB,TB,TB,TB,TB,TB,TB,TB,TB,TB,TB,TB,TB,TB,TB,TB,TB,TB,TB,TB,TB,FB,FB,FB,FB,FB,FB,FB,FB,FB,FB,FB,FB,FB,FB,FB,FB,FB,FB,FB,FB] rfl rfl (any_of HT_.out (by kernel_rfl)) (fun _ _ _ h => h) (Or.inr ⟨by rfl, rfl⟩) ?_ ?_
        rotate_left
        ·simp only [Act.put, List.setIfInBounds_toArray, List.set_cons_zero, List.set_cons_succ, i64_w, i32_w]
         rfl
        refine pure_ (i := 22) (N := some 55) (v := undef) (a' := ?_) #[TB,TB,TB,TB,TB,TB,TB,TB,TB,TB,TB,TB,TB,TB,TB,TB,TB,TB,TB,TB,TB,TB,TB,FB,FB,FB,FB,FB,FB,FB,FB,FB,FB,FB,FB,FB,FB,FB,FB,FB,FB,FB] rfl rfl (any_of HT_.out (by kernel_rfl)) (fun _ _ _ h => h) (Or.inr ⟨by rfl, rfl⟩) ?_ ?_
        rotate_left
        ·simp only [Act.put, List.setIfInBounds_toArray, List.set_cons_zero, List.set_cons_succ, i64_w, i32_w]
         rfl
        refine pure_ (i := 23) (N := some 56) (v := undef) (a' := ?_) #[TB,TB,TB,TB,TB,TB,TB,TB,TB,TB,TB,TB,TB,TB,TB,TB,TB,TB,TB,TB,TB,TB,TB,TB,FB,FB,FB,FB,FB,FB,FB,FB,FB,FB,FB,FB,FB,FB,FB,FB,FB,FB] rfl rfl (any_of HT_.out (by kernel_rfl)) (fun _ _ _ h => h) (Or.inr ⟨by rfl, rfl⟩) ?_ ?_
        rotate_left
        ·simp only [Act.put, List.setIfInBounds_toArray, List.set_cons_zero, List.set_cons_succ, i64_w, i32_w]
         rfl
        refine pure_ (i := 24) (N := some 57) (v := undef) (a' := ?_) #[TB,TB,TB,TB,TB,TB,TB,TB,TB,TB,TB,TB,TB,TB,TB,TB,TB,TB,TB,TB,TB,TB,TB,TB,TB,FB,FB,FB,FB,FB,FB,FB,FB,FB,FB,FB,FB,FB,FB,FB,FB,FB] rfl rfl (any_of HT_.out (by kernel_rfl)) (fun _ _ _ h => h) (Or.inr ⟨by rfl, rfl⟩) ?_ ?_
        rotate_left
        ·simp only [Act.put, List.setIfInBounds_toArray, List.set_cons_zero, List.set_cons_succ, i64_w, i32_w]
         rfl
        refine pure_ (i := 25) (N := some 58) (v := undef) (a' := ?_) #[TB,TB,TB,TB,TB,TB,TB,TB,TB,TB,TB,TB,TB,TB,TB,TB,TB,TB,TB,TB,TB,TB,TB,TB,TB,TB,FB,FB,FB,FB,FB,FB,FB,FB,FB,FB,FB,FB,FB,FB,FB,FB] rfl rfl (any_of HT_.out (by kernel_rfl)) (fun _ _ _ h => h) (Or.inr ⟨by rfl, rfl⟩) ?_ ?_
        rotate_left
        ·simp only [Act.put, List.setIfInBounds_toArray, List.set_cons_zero, List.set_cons_succ, i64_w, i32_w]
         rfl
        refine pure_ (i := 26) (N := some 59) (v := ?_) (a' := ?_) #[TB,TB,TB,TB,TB,TB,TB,TB,TB,TB,TB,TB,TB,TB,TB,TB,TB,TB,TB,TB,TB,TB,TB,TB,TB,TB,TB,FB,FB,FB,FB,FB,FB,FB,FB,FB,FB,FB,FB,FB,FB,FB] rfl rfl (any_of HT_.out (by kernel_rfl)) (fun _ _ _ h => h) (Or.inl ⟨by rfl, ?_⟩) ?_ ?_
        rotate_left
        ·intro w'
         go_simp
         with_reducible rfl
        rotate_left
        ·simp only [Act.put, List.setIfInBounds_toArray, List.set_cons_zero, List.set_cons_succ, i64_w, i32_w]
         rfl
        refine pure_ (i := 27) (N := some 60) (v := ?_) (a' := ?_) #[TB,TB,TB,TB,TB,TB,TB,TB,TB,TB,TB,TB,TB,TB,TB,TB,TB,TB,TB,TB,TB,TB,TB,TB,TB,TB,TB,TB,FB,FB,FB,FB,FB,FB,FB,FB,FB,FB,FB,FB,FB,FB] rfl rfl (any_of HT_.out (by kernel_rfl)) (fun _ _ _ h => h) (Or.inl ⟨by rfl, ?_⟩) ?_ ?_
        rotate_left
        ·intro w'
         go_simp
         with_reducible rfl
        rotate_left
        ·simp only [Act.put, List.setIfInBounds_toArray, List.set_cons_zero, List.set_cons_succ, i64_w, i32_w]
         rfl
        refine pure_ (i := 28) (N := some 61) (v := undef) (a' := ?_) #[TB,TB,TB,TB,TB,TB,TB,TB,TB,TB,TB,TB,TB,TB,TB,TB,TB,TB,TB,TB,TB,TB,TB,TB,TB,TB,TB,TB,TB,FB,FB,FB,FB,FB,FB,FB,FB,FB,FB,FB,FB,FB] rfl rfl (any_of HT_.out (by kernel_rfl)) (fun _ _ _ h => h) (Or.inr ⟨by rfl, rfl⟩) ?_ ?_
        rotate_left
        ·simp only [Act.put, List.setIfInBounds_toArray, List.set_cons_zero, List.set_cons_succ, i64_w, i32_w]
         rfl
        refine pure_ (i := 29) (N := some 62) (v := undef) (a' := ?_) #[TB,TB,TB,TB,TB,TB,TB,TB,TB,TB,TB,TB,TB,TB,TB,TB,TB,TB,TB,TB,TB,TB,TB,TB,TB,TB,TB,TB,TB,TB,FB,FB,FB,FB,FB,FB,FB,FB,FB,FB,FB,FB] rfl rfl (any_of HT_.out (by kernel_rfl)) (fun _ _ _ h => h) (Or.inr ⟨by rfl, rfl⟩) ?_ ?_
        rotate_left
        ·simp only [Act.put, List.setIfInBounds_toArray, List.set_cons_zero, List.set_cons_succ, i64_w, i32_w]
         rfl
        refine pure_ (i := 30) (N := some 63) (v := undef) (a' := ?_) #[TB,TB,TB,TB,TB,TB,TB,TB,TB,TB,TB,TB,TB,TB,TB,TB,TB,TB,TB,TB,TB,TB,TB,TB,TB,TB,TB,TB,TB,TB,TB,FB,FB,FB,FB,FB,FB,FB,FB,FB,FB,FB] rfl rfl (any_of HT_.out (by kernel_rfl)) (fun _ _ _ h => h) (Or.inr ⟨by rfl, rfl⟩) ?_ ?_
        rotate_left
        ·simp only [Act.put, List.setIfInBounds_toArray, List.set_cons_zero, List.set_cons_succ, i64_w, i32_w]
         rfl
        refine pure_ (i := 31) (N := some 64) (v := undef) (a' := ?_) #[TB,TB,TB,TB,TB,TB,TB,TB,TB,TB,TB,TB,TB,TB,TB,TB,TB,TB,TB,TB,TB,TB,TB,TB,TB,TB,TB,TB,TB,TB,TB,TB,FB,FB,FB,FB,FB,FB,FB,FB,FB,FB] rfl rfl (any_of HT_.out (by kernel_rfl)) (fun _ _ _ h => h) (Or.inr ⟨by rfl, rfl⟩) ?_ ?_
        rotate_left
        ·simp only [Act.put, List.setIfInBounds_toArray, List.set_cons_zero, List.set_cons_succ, i64_w, i32_w]
         rfl
        refine pure_ (i := 32) (N := some 65) (v := undef) (a' := ?_) #[TB,TB,TB,TB,TB,TB,TB,TB,TB,TB,TB,TB,TB,TB,TB,TB,TB,TB,TB,TB,TB,TB,TB,TB,TB,TB,TB,TB,TB,TB,TB,TB,TB,FB,FB,FB,FB,FB,FB,FB,FB,FB] rfl rfl (any_of HT_.out (by kernel_rfl)) (fun _ _ _ h => h) (Or.inr ⟨by rfl, rfl⟩) ?_ ?_
        rotate_left
        ·simp only [Act.put, List.setIfInBounds_toArray, List.set_cons_zero, List.set_cons_succ, i64_w, i32_w]
         rfl
        refine pure_ (i := 33) (N := some 66) (v := ?_) (a' := ?_) #[TB,TB,TB,TB,TB,TB,TB,TB,TB,TB,TB,TB,TB,TB,TB,TB,TB,TB,TB,TB,TB,TB,TB,TB,TB,TB,TB,TB,TB,TB,TB,TB,TB,TB,FB,FB,FB,FB,FB,FB,FB,FB] rfl rfl (any_of HT_.out (by kernel_rfl)) (fun _ _ _ h => h) (Or.inl ⟨by rfl, ?_⟩) ?_ ?_
        rotate_left
        ·intro w'
         go_simp
         with_reducible rfl
        rotate_left
        ·simp only [Act.put, List.setIfInBounds_toArray, List.set_cons_zero, List.set_cons_succ, i64_w, i32_w]
         rfl
        refine pure_ (i := 34) (N := some 67) (v := ?_) (a' := ?_) #[TB,TB,TB,TB,TB,TB,TB,TB,TB,TB,TB,TB,TB,TB,TB,TB,TB,TB,TB,TB,TB,TB,TB,TB,TB,TB,TB,TB,TB,TB,TB,TB,TB,TB,TB,FB,FB,FB,FB,FB,FB,FB] rfl rfl (any_of HT_.out (by kernel_rfl)) (fun _ _ _ h => h) (Or.inl ⟨by rfl, ?_⟩) ?_ ?_
        rotate_left
        ·intro w'
         go_simp
         with_reducible rfl
        rotate_left
        ·simp only [Act.put, List.setIfInBounds_toArray, List.set_cons_zero, List.set_cons_succ, i64_w, i32_w]
         rfl
        refine pure_ (i := 35) (N := some 68) (v := undef) (a' := ?_) #[TB,TB,TB,TB,TB,TB,TB,TB,TB,TB,TB,TB,TB,TB,TB,TB,TB,TB,TB,TB,TB,TB,TB,TB,TB,TB,TB,TB,TB,TB,TB,TB,TB,TB,TB,TB,FB,FB,FB,FB,FB,FB] rfl rfl (any_of HT_.out (by kernel_rfl)) (fun _ _ _ h => h) (Or.inr ⟨by rfl, rfl⟩) ?_ ?_
        rotate_left
        ·simp only [Act.put, List.setIfInBounds_toArray, List.set_cons_zero, List.set_cons_succ, i64_w, i32_w]
         rfl
        refine pure_ (i := 36) (N := some 69) (v := undef) (a' := ?_) #[TB,TB,TB,TB,TB,TB,TB,TB,TB,TB,TB,TB,TB,TB,TB,TB,TB,TB,TB,TB,TB,TB,TB,TB,TB,TB,TB,TB,TB,TB,TB,TB,TB,TB,TB,TB,TB,FB,FB,FB,FB,FB] rfl rfl (any_of HT_.out (by kernel_rfl)) (fun _ _ _ h => h) (Or.inr ⟨by rfl, rfl⟩) ?_ ?_
        rotate_left
        ·simp only [Act.put, List.setIfInBounds_toArray, List.set_cons_zero, List.set_cons_succ, i64_w, i32_w]
         rfl
        refine pure_ (i := 37) (N := some 70) (v := undef) (a' := ?_) #[TB,TB,TB,TB,TB,TB,TB,TB,TB,TB,TB,TB,TB,TB,TB,TB,TB,TB,TB,TB,TB,TB,TB,TB,TB,TB,TB,TB,TB,TB,TB,TB,TB,TB,TB,TB,TB,TB,FB,FB,FB,FB] rfl rfl (any_of HT_.out (by kernel_rfl)) (fun _ _ _ h => h) (Or.inr ⟨by rfl, rfl⟩) ?_ ?_
        rotate_left
        ·simp only [Act.put, List.setIfInBounds_toArray, List.set_cons_zero, List.set_cons_succ, i64_w, i32_w]
         rfl
        refine pure_ (i := 38) (N := some 71) (v := undef) (a' := ?_) #[TB,TB,TB,TB,TB,TB,TB,TB,TB,TB,TB,TB,TB,TB,TB,TB,TB,TB,TB,TB,TB,TB,TB,TB,TB,TB,TB,TB,TB,TB,TB,TB,TB,TB,TB,TB,TB,TB,TB,FB,FB,FB] rfl rfl (any_of HT_.out (by kernel_rfl)) (fun _ _ _ h => h) (Or.inr ⟨by rfl, rfl⟩) ?_ ?_
        rotate_left
        ·simp only [Act.put, List.setIfInBounds_toArray, List.set_cons_zero, List.set_cons_succ, i64_w, i32_w]
         rfl
        refine pure_ (i := 39) (N := some 72) (v := undef) (a' := ?_) #[TB,TB,TB,TB,TB,TB,TB,TB,TB,TB,TB,TB,TB,TB,TB,TB,TB,TB,TB,TB,TB,TB,TB,TB,TB,TB,TB,TB,TB,TB,TB,TB,TB,TB,TB,TB,TB,TB,TB,TB,FB,FB] rfl rfl (any_of HT_.out (by kernel_rfl)) (fun _ _ _ h => h) (Or.inr ⟨by rfl, rfl⟩) ?_ ?_
        rotate_left
        ·simp only [Act.put, List.setIfInBounds_toArray, List.set_cons_zero, List.set_cons_succ, i64_w, i32_w]
         rfl
        refine pure_ (i := 40) (N := some 73) (v := ?_) (a' := ?_) #[TB,TB,TB,TB,TB,TB,TB,TB,TB,TB,TB,TB,TB,TB,TB,TB,TB,TB,TB,TB,TB,TB,TB,TB,TB,TB,TB,TB,TB,TB,TB,TB,TB,TB,TB,TB,TB,TB,TB,TB,TB,FB] rfl rfl (any_of HT_.out (by kernel_rfl)) (fun _ _ _ h => h) (Or.inl ⟨by rfl, ?_⟩) ?_ ?_
        rotate_left
        ·intro w'
         go_simp
         with_reducible rfl
        rotate_left
        ·simp only [Act.put, List.setIfInBounds_toArray, List.set_cons_zero, List.set_cons_succ, i64_w, i32_w]
         rfl
        refine pure_ (i := 41) (N := some 4) (v := ?_) (a' := ?_) #[TB,TB,TB,TB,TB,TB,TB,TB,TB,TB,TB,TB,TB,TB,TB,TB,TB,TB,TB,TB,TB,TB,TB,TB,TB,TB,TB,TB,TB,TB,TB,TB,TB,TB,TB,TB,TB,TB,TB,TB,TB,TB] rfl rfl (any_of HT_.out (by kernel_rfl)) (fun _ _ _ h => h) (Or.inl ⟨by rfl, ?_⟩) ?_ ?_
        rotate_left
        ·intro w'
         go_simp
         with_reducible rfl
        rotate_left
        ·simp only [Act.put, List.setIfInBounds_toArray, List.set_cons_zero, List.set_cons_succ, i64_w, i32_w]
         rfl
        refine done_ (done_of HT_.out (by kernel_rfl)) ?_
        try go_wp2
        go_ret
        exact ⟨by first | rfl | (simp [errW_none, errW_some] <;> rfl) | (simp [*, errW_none, errW_some] <;> rfl), by repeat (first | (with_reducible first | exact HB.out | apply below_alloc | apply pw_below_drewN | apply below_drew1 | refine below_set ?_ GE334.out | refine below_set ?_ GE339.out) | exact HB.out)⟩
      ·rw [if_neg c18] at H
       have c18b0 : (t330 == t344 && (t331 == t345 && (t332 == t346 && (t333 == t347)))) = false := by simpa using c18
       (try (have c18b1 : decide (t330 = t344 && (t331 == t345 && (t332 == t346 && (t333 == t347)))) = false := by simpa using c18))
       (try (have c18b2 : (t330 == t344 && (t331 == t345 && (t332 == t346 && (t333 == t347)))) = false := by simpa using c18))
       (try (have c18b3 : ¬ (t330 = t344 && (t331 == t345 && (t332 == t346 && (t333 == t347)))) := by simpa using c18))
       clear c18
       obtain rfl := Option.some.inj H
       try go_wp2_with (first | ((with_reducible refine gate_callee (f := 38) rfl ?_); refine goesL_ (some 30) rfl rfl Try.func38 (by kernel_rfl) rfl #[.string (a0 ++ a1)] rfl (by (try simp only [List.map_toArray, List.map_cons, List.map_nil]); first | done | rfl | (simp only [List.length_drop, List.length_take]; rfl)) ?_; (with_reducible refine (count_Of.calls (a0 ++ a1) t330 t331 t332 t333 _ A14.out).mono ?_); rintro e w80 ⟨rfl, hb⟩; refine ⟨_, rfl, ?_⟩; have n0_ := Aside0.mk (below_step (by repeat (first | (with_reducible first | exact HB.out | apply below_alloc | apply pw_below_drewN | apply below_drew1) | exact HB.out)) hb); clear HB; have HB := n0_; clear n0_; (try clear hb); (try clear hb2); (try clear hk); (try clear hi)) | ((with_reducible refine gate_dst (N := 5) rfl ?_); (try (refine gate_guard (by rfl) ?_; dsimp only)); refine box_event ?hg (N := 5) ?hd (cs := #[.int .i64 0, .int .i64 0, .int .i64 0, .int .i64 0]) (t := 44) ?hr ?_; (case hd => rfl); (case hg => rfl); (case hr => first | (go_simp; done) | (go_simp; rfl)); intro gb334 hg w81 hbox hb; have n0_ := Aside0.mk (below_step (by repeat (first | (with_reducible first | exact HB.out | apply below_alloc | apply pw_below_drewN | apply below_drew1) | exact HB.out)) hb); have n1_ := Aside0.mk (hbox); have n2_ := Aside0.mk ((by rw [hg]; exact (below_size (by repeat (first | (with_reducible first | exact HB.out | apply below_alloc | apply pw_below_drewN | apply below_drew1) | exact HB.out))) : w.heap.size ≤ gb334)); have n3_ := Aside0.mk ((by rw [hg]; exact (below_size (by repeat (first | (with_reducible first | exact HB.out | apply below_alloc | apply pw_below_drewN | apply below_drew1) | exact HB.out))) : w.heap.size ≤ gb334)); clear HB; have HB := n0_; have BK334 := n1_; have GW334 := n2_; have GE334 := n3_; clear n0_ n1_ n2_ n3_; clear hb hbox hg; have hcz82_0 : w81.cell? ⟨gb334, 0, none⟩ = some (.int .i64 0) := (blk_cell BK334.out 0).trans rfl; have hcz82_1 : w81.cell? ⟨gb334, 1, none⟩ = some (.int .i64 0) := (blk_cell BK334.out 1).trans rfl; have hcz82_2 : w81.cell? ⟨gb334, 2, none⟩ = some (.int .i64 0) := (blk_cell BK334.out 2).trans rfl; have hcz82_3 : w81.cell? ⟨gb334, 3, none⟩ = some (.int .i64 0) := (blk_cell BK334.out 3).trans rfl; have hfz82_0 := blk_frozen BK334.out 0; have hfz82_1 := blk_frozen BK334.out 1; have hfz82_2 := blk_frozen BK334.out 2; have hfz82_3 := blk_frozen BK334.out 3) | ((with_reducible refine gate_callee (f := 38) rfl ?_); refine goesL_ (some 32) rfl rfl Try.func38 (by kernel_rfl) rfl #[.string a0] rfl (by (try simp only [List.map_toArray, List.map_cons, List.map_nil]); first | done | rfl | (simp only [List.length_drop, List.length_take]; rfl)) ?_; (with_reducible refine (count_Of.calls a0 t335 t336 t337 t338 _ A15.out).mono ?_); rintro e w83 ⟨rfl, hb⟩; refine ⟨_, rfl, ?_⟩; have n0_ := Aside0.mk (blk_below (g := gb334) (o := .cells #[.int .i64 t330, .int .i64 t331, .int .i64 t332, .int .i64 t333] 44 (0, 0)) (by (with_reducible repeat (first | refine blk_drewN ?_ _ | refine blk_drew ?_ | refine blk_alloc ?_ _)); refine blk_put (cs := #[.int .i64 t330, .int .i64 t331, .int .i64 t332, .int .i64 0]) ?_ 3 _ rfl; (with_reducible repeat (first | refine blk_drewN ?_ _ | refine blk_drew ?_ | refine blk_alloc ?_ _)); refine blk_put (cs := #[.int .i64 t330, .int .i64 t331, .int .i64 0, .int .i64 0]) ?_ 2 _ rfl; (with_reducible repeat (first | refine blk_drewN ?_ _ | refine blk_drew ?_ | refine blk_alloc ?_ _)); refine blk_put (cs := #[.int .i64 t330, .int .i64 0, .int .i64 0, .int .i64 0]) ?_ 1 _ rfl; (with_reducible repeat (first | refine blk_drewN ?_ _ | refine blk_drew ?_ | refine blk_alloc ?_ _)); refine blk_put (cs := #[.int .i64 0, .int .i64 0, .int .i64 0, .int .i64 0]) ?_ 0 _ rfl; (with_reducible repeat (first | refine blk_drewN ?_ _ | refine blk_drew ?_ | refine blk_alloc ?_ _)); exact BK334.out) hb); have n1_ := Aside0.mk (below_step (by repeat (first | (with_reducible first | exact HB.out | apply below_alloc | apply pw_below_drewN | apply below_drew1 | refine below_set ?_ GE334.out) | exact HB.out)) hb); clear BK334; clear HB; have BK334 := n0_; have HB := n1_; clear n0_ n1_; (try clear hb); (try clear hb2); (try clear hk); (try clear hi)) | ((with_reducible refine gate_dst (N := 6) rfl ?_); (try (refine gate_guard (by rfl) ?_; dsimp only)); refine box_event ?hg (N := 6) ?hd (cs := #[.int .i64 0, .int .i64 0, .int .i64 0, .int .i64 0]) (t := 44) ?hr ?_; (case hd => rfl); (case hg => rfl); (case hr => first | (go_simp; done) | (go_simp; rfl)); intro gb339 hg w84 hbox hb; have n0_ := Aside0.mk (blk_below (g := gb334) (o := .cells #[.int .i64 t330, .int .i64 t331, .int .i64 t332, .int .i64 t333] 44 (0, 0)) (by (with_reducible repeat (first | refine blk_drewN ?_ _ | refine blk_drew ?_ | refine blk_alloc ?_ _)); exact BK334.out) hb); have n1_ := Aside0.mk (below_step (by repeat (first | (with_reducible first | exact HB.out | apply below_alloc | apply pw_below_drewN | apply below_drew1 | refine below_set ?_ GE334.out) | exact HB.out)) hb); have n2_ := Aside0.mk (hbox); have n3_ := Aside0.mk ((by rw [hg]; exact (below_size (by repeat (first | (with_reducible first | exact HB.out | apply below_alloc | apply pw_below_drewN | apply below_drew1 | refine below_set ?_ GE334.out) | exact HB.out))) : w.heap.size ≤ gb339)); have n4_ := Aside0.mk ((by rw [hg]; exact (below_size (by repeat (first | (with_reducible first | exact HB.out | apply below_alloc | apply pw_below_drewN | apply below_drew1 | refine below_set ?_ GE334.out) | exact HB.out))) : w.heap.size ≤ gb339)); have n5_ := Aside0.mk ((by rw [hg]; exact Nat.ne_of_lt (blk_lt (g := gb334) (o := .cells #[.int .i64 t330, .int .i64 t331, .int .i64 t332, .int .i64 t333] 44 (0, 0)) (by (with_reducible repeat (first | refine blk_drewN ?_ _ | refine blk_drew ?_ | refine blk_alloc ?_ _)); exact BK334.out)) : gb334 ≠ gb339)); have n6_ := Aside0.mk ((by rw [hg]; exact Nat.ne_of_gt (blk_lt (g := gb334) (o := .cells #[.int .i64 t330, .int .i64 t331, .int .i64 t332, .int .i64 t333] 44 (0, 0)) (by (with_reducible repeat (first | refine blk_drewN ?_ _ | refine blk_drew ?_ | refine blk_alloc ?_ _)); exact BK334.out)) : gb339 ≠ gb334)); clear BK334; clear HB; have BK334 := n0_; have HB := n1_; have BK339 := n2_; have GW339 := n3_; have GE339 := n4_; have NB334_339 := n5_; have NB339_334 := n6_; clear n0_ n1_ n2_ n3_ n4_ n5_ n6_; clear hb hbox hg; have hnb85 := NB339_334.out; have hnc85 := NB334_339.out; have hcz86_0 : w84.cell? ⟨gb339, 0, none⟩ = some (.int .i64 0) := (blk_cell BK339.out 0).trans rfl; have hcz86_1 : w84.cell? ⟨gb339, 1, none⟩ = some (.int .i64 0) := (blk_cell BK339.out 1).trans rfl; have hcz86_2 : w84.cell? ⟨gb339, 2, none⟩ = some (.int .i64 0) := (blk_cell BK339.out 2).trans rfl; have hcz86_3 : w84.cell? ⟨gb339, 3, none⟩ = some (.int .i64 0) := (blk_cell BK339.out 3).trans rfl; have hfz86_0 := blk_frozen BK339.out 0; have hfz86_1 := blk_frozen BK339.out 1; have hfz86_2 := blk_frozen BK339.out 2; have hfz86_3 := blk_frozen BK339.out 3))
       have n0_ : Aside0 (((((w84.setCell ⟨gb339, 0, none⟩ (.int .i64 t335)).setCell ⟨gb339, 1, none⟩ (.int .i64 t336)).setCell ⟨gb339, 2, none⟩ (.int .i64 t337)).setCell ⟨gb339, 3, none⟩ (.int .i64 t338)).heap[gb334]? = some (.cells #[.int .i64 t330, .int .i64 t331, .int .i64 t332, .int .i64 t333] 44 (0, 0))) := ⟨by (with_reducible repeat (first | refine blk_drewN ?_ _ | refine blk_drew ?_ | refine blk_alloc ?_ _)); refine blk_far ?_ NB334_339.out _; (with_reducible repeat (first | refine blk_drewN ?_ _ | refine blk_drew ?_ | refine blk_alloc ?_ _)); refine blk_far ?_ NB334_339.out _; (with_reducible repeat (first | refine blk_drewN ?_ _ | refine blk_drew ?_ | refine blk_alloc ?_ _)); refine blk_far ?_ NB334_339.out _; (with_reducible repeat (first | refine blk_drewN ?_ _ | refine blk_drew ?_ | refine blk_alloc ?_ _)); refine blk_far ?_ NB334_339.out _; (with_reducible repeat (first | refine blk_drewN ?_ _ | refine blk_drew ?_ | refine blk_alloc ?_ _)); exact BK334.out⟩
       have n1_ : Aside0 (((((w84.setCell ⟨gb339, 0, none⟩ (.int .i64 t335)).setCell ⟨gb339, 1, none⟩ (.int .i64 t336)).setCell ⟨gb339, 2, none⟩ (.int .i64 t337)).setCell ⟨gb339, 3, none⟩ (.int .i64 t338)).heap[gb339]? = some (.cells #[.int .i64 t335, .int .i64 t336, .int .i64 t337, .int .i64 t338] 44 (0, 0))) := ⟨by (with_reducible repeat (first | refine blk_drewN ?_ _ | refine blk_drew ?_ | refine blk_alloc ?_ _)); refine blk_put (cs := #[.int .i64 t335, .int .i64 t336, .int .i64 t337, .int .i64 0]) ?_ 3 _ rfl; (with_reducible repeat (first | refine blk_drewN ?_ _ | refine blk_drew ?_ | refine blk_alloc ?_ _)); refine blk_put (cs := #[.int .i64 t335, .int .i64 t336, .int .i64 0, .int .i64 0]) ?_ 2 _ rfl; (with_reducible repeat (first | refine blk_drewN ?_ _ | refine blk_drew ?_ | refine blk_alloc ?_ _)); refine blk_put (cs := #[.int .i64 t335, .int .i64 0, .int .i64 0, .int .i64 0]) ?_ 1 _ rfl; (with_reducible repeat (first | refine blk_drewN ?_ _ | refine blk_drew ?_ | refine blk_alloc ?_ _)); refine blk_put (cs := #[.int .i64 0, .int .i64 0, .int .i64 0, .int .i64 0]) ?_ 0 _ rfl; (with_reducible repeat (first | refine blk_drewN ?_ _ | refine blk_drew ?_ | refine blk_alloc ?_ _)); exact BK339.out⟩
       have n2_ : Aside0 (Below w.heap.size w ((((w84.setCell ⟨gb339, 0, none⟩ (.int .i64 t335)).setCell ⟨gb339, 1, none⟩ (.int .i64 t336)).setCell ⟨gb339, 2, none⟩ (.int .i64 t337)).setCell ⟨gb339, 3, none⟩ (.int .i64 t338))) := ⟨by repeat (first | (with_reducible first | exact HB.out | apply below_alloc | apply pw_below_drewN | apply below_drew1 | refine below_set ?_ GE334.out | refine below_set ?_ GE339.out) | exact HB.out)⟩
       (try clear BK334)
       (try clear BK339)
       (try clear HB)
       generalize ((((w84.setCell ⟨gb339, 0, none⟩ (.int .i64 t335)).setCell ⟨gb339, 1, none⟩ (.int .i64 t336)).setCell ⟨gb339, 2, none⟩ (.int .i64 t337)).setCell ⟨gb339, 3, none⟩ (.int .i64 t338)) = w87 at n0_ n1_ n2_ ⊢
       have BK334 := n0_
       have BK339 := n1_
       have HB := n2_
       clear n0_ n1_ n2_
       have n0_ := Aside0.mk (blk_drew BK334.out)
       have n1_ := Aside0.mk (blk_drew BK339.out)
       have n2_ := Aside0.mk (below_drew1 HB.out)
       clear BK334
       clear BK339
       clear HB
       have BK334 := n0_
       have BK339 := n1_
       have HB := n2_
       clear n0_ n1_ n2_
       refine start_ (n := 42) (S := fun w' => w'.cell? ⟨gb334, 0, none⟩ = some (.int .i64 t330) ∧ w'.cell? ⟨gb334, 1, none⟩ = some (.int .i64 t331) ∧ w'.cell? ⟨gb334, 2, none⟩ = some (.int .i64 t332) ∧ w'.cell? ⟨gb334, 3, none⟩ = some (.int .i64 t333) ∧ w'.cell? ⟨gb339, 0, none⟩ = some (.int .i64 t335) ∧ w'.cell? ⟨gb339, 1, none⟩ = some (.int .i64 t336) ∧ w'.cell? ⟨gb339, 2, none⟩ = some (.int .i64 t337) ∧ w'.cell? ⟨gb339, 3, none⟩ = some (.int .i64 t338)) (ds := []) #[FB,FB,FB,FB,FB,FB,FB,FB,FB,FB,FB,FB,FB,FB,FB,FB,FB,FB,FB,FB,FB,FB,FB,FB,FB,FB,FB,FB,FB,FB,FB,FB,FB,FB,FB,FB,FB,FB,FB,FB,FB,FB] (by kernel_rfl) rfl rfl ⟨(blk_cell BK334.out 0).trans rfl, (blk_cell BK334.out 1).trans rfl, (blk_cell BK334.out 2).trans rfl, (blk_cell BK334.out 3).trans rfl, (blk_cell BK339.out 0).trans rfl, (blk_cell BK339.out 1).trans rfl, (blk_cell BK339.out 2).trans rfl, (blk_cell BK339.out 3).trans rfl⟩ (fun hHeld => ?_); refine with_tabW palinodelaw2_CountSums.tab7 palinodelaw2_CountSums.bits7 (fun HT_ HW_ => ?_)
       generalize w87.drew = w88 at BK334 BK339 HB hHeld ⊢
       refine pure_ (i := 2) (N := some 35) (v := ?_) (a' := ?_) #[FB,FB,TB,FB,FB,FB,FB,FB,FB,FB,FB,FB,FB,FB,FB,FB,FB,FB,FB,FB,FB,FB,FB,FB,FB,FB,FB,FB,FB,FB,FB,FB,FB,FB,FB,FB,FB,FB,FB,FB,FB,FB] rfl rfl (any_of HT_.out (by kernel_rfl)) (fun _ _ _ h => h) (Or.inl ⟨by rfl, ?_⟩) ?_ ?_
       rotate_left
       ·intro w'
        go_simp
        with_reducible rfl
       rotate_left
       ·simp only [Act.put, List.setIfInBounds_toArray, List.set_cons_zero, List.set_cons_succ, i64_w, i32_w]
        rfl
       refine take_ (i := 0) (N := some 33) (v := ?_) (a' := ?_) #[TB,FB,TB,FB,FB,FB,FB,FB,FB,FB,FB,FB,FB,FB,FB,FB,FB,FB,FB,FB,FB,FB,FB,FB,FB,FB,FB,FB,FB,FB,FB,FB,FB,FB,FB,FB,FB,FB,FB,FB,FB,FB] rfl rfl (take_ofW HT_.out HW_.out (by kernel_rfl)) (fun _ _ _ h => h) (Or.inl ⟨by rfl, ?_⟩) hHeld ?_ ?_
       rotate_left
       ·rintro w' ⟨s0, s1, s2, s3, s4, s5, s6, s7⟩
        go_simp
        with_reducible rfl
       rotate_left
       ·simp only [Act.put, List.setIfInBounds_toArray, List.set_cons_zero, List.set_cons_succ, i64_w, i32_w]
        rfl
       refine take_ (i := 1) (N := some 34) (v := ?_) (a' := ?_) #[TB,TB,TB,FB,FB,FB,FB,FB,FB,FB,FB,FB,FB,FB,FB,FB,FB,FB,FB,FB,FB,FB,FB,FB,FB,FB,FB,FB,FB,FB,FB,FB,FB,FB,FB,FB,FB,FB,FB,FB,FB,FB] rfl rfl (take_ofW HT_.out HW_.out (by kernel_rfl)) (fun _ _ _ h => h) (Or.inl ⟨by rfl, ?_⟩) hHeld ?_ ?_
       rotate_left
       ·rintro w' ⟨s0, s1, s2, s3, s4, s5, s6, s7⟩
        go_simp
        with_reducible rfl
       rotate_left
       ·simp only [Act.put, List.setIfInBounds_toArray, List.set_cons_zero, List.set_cons_succ, i64_w, i32_w]
        rfl
       refine one_ (i := 3) (N := some 36) #[TB,TB,TB,TB,FB,FB,FB,FB,FB,FB,FB,FB,FB,FB,FB,FB,FB,FB,FB,FB,FB,FB,FB,FB,FB,FB,FB,FB,FB,FB,FB,FB,FB,FB,FB,FB,FB,FB,FB,FB,FB,FB] rfl rfl (one_of HT_.out (by kernel_rfl)) (by decide) (fun K hK => ?_)
       refine goes_ Try.func38 (by kernel_rfl) rfl #[.string a1] (by rfl) rfl rfl (by (try simp only [List.map_toArray, List.map_cons, List.map_nil]); first | done | rfl | (simp only [List.length_drop, List.length_take]; rfl)) ?_
       with_reducible refine (count_Of.calls a1 t340 t341 t342 t343 _ A16.out).mono ?_
       rintro e w89 ⟨rfl, hb⟩
       refine ⟨_, rfl, ?_⟩
       have n0_ := Aside0.mk (blk_below (g := gb334) (o := .cells #[.int .i64 t330, .int .i64 t331, .int .i64 t332, .int .i64 t333] 44 (0, 0)) (by (with_reducible repeat (first | refine blk_drewN ?_ _ | refine blk_drew ?_ | refine blk_alloc ?_ _)); exact BK334.out) hb)
       have n1_ := Aside0.mk (blk_below (g := gb339) (o := .cells #[.int .i64 t335, .int .i64 t336, .int .i64 t337, .int .i64 t338] 44 (0, 0)) (by (with_reducible repeat (first | refine blk_drewN ?_ _ | refine blk_drew ?_ | refine blk_alloc ?_ _)); exact BK339.out) hb)
       have n2_ := Aside0.mk (below_step (by repeat (first | (with_reducible first | exact HB.out | apply below_alloc | apply pw_below_drewN | apply below_drew1 | refine below_set ?_ GE334.out | refine below_set ?_ GE339.out) | exact HB.out)) hb)
       clear BK334
       clear BK339
       clear HB
       have BK334 := n0_
       have BK339 := n1_
       have HB := n2_
       clear n0_ n1_ n2_
       (try clear hb)
       (try clear hb2)
       (try clear hk)
       (try clear hi)
       refine hK.out _ _ ⟨(blk_cell BK334.out 0).trans rfl, (blk_cell BK334.out 1).trans rfl, (blk_cell BK334.out 2).trans rfl, (blk_cell BK334.out 3).trans rfl, (blk_cell BK339.out 0).trans rfl, (blk_cell BK339.out 1).trans rfl, (blk_cell BK339.out 2).trans rfl, (blk_cell BK339.out 3).trans rfl⟩ (fun hHeld => ?_)
       clear hK K
       refine norm_ (a' := ?_) ?_ ?_
       rotate_left
       ·show Act.put _ (some 36) _ = _
        simp only [Act.put, List.setIfInBounds_toArray, List.set_cons_zero, List.set_cons_succ, i64_w, i32_w]
        rfl
       refine one_ (i := 4) (N := some 37) #[TB,TB,TB,TB,TB,FB,FB,FB,FB,FB,FB,FB,FB,FB,FB,FB,FB,FB,FB,FB,FB,FB,FB,FB,FB,FB,FB,FB,FB,FB,FB,FB,FB,FB,FB,FB,FB,FB,FB,FB,FB,FB] rfl rfl (one_of HT_.out (by kernel_rfl)) (by decide) (fun K hK => ?_)
       refine goes_ Try.func40 (by kernel_rfl) rfl #[.agg #[.int .i64 t335, .int .i64 t336, .int .i64 t337, .int .i64 t338], .agg #[.int .i64 t340, .int .i64 t341, .int .i64 t342, .int .i64 t343]] (by rfl) rfl rfl (by (try simp only [List.map_toArray, List.map_cons, List.map_nil]); first | done | rfl | (simp only [List.length_drop, List.length_take]; rfl)) ?_
       with_reducible refine (count_Plus.calls t335 t336 t337 t338 t340 t341 t342 t343 t344 t345 t346 t347 _ A17.out).mono ?_
       rintro e w90 ⟨rfl, hb⟩
       refine ⟨_, rfl, ?_⟩
       have n0_ := Aside0.mk (blk_below (g := gb334) (o := .cells #[.int .i64 t330, .int .i64 t331, .int .i64 t332, .int .i64 t333] 44 (0, 0)) (by (with_reducible repeat (first | refine blk_drewN ?_ _ | refine blk_drew ?_ | refine blk_alloc ?_ _)); exact BK334.out) hb)
       have n1_ := Aside0.mk (blk_below (g := gb339) (o := .cells #[.int .i64 t335, .int .i64 t336, .int .i64 t337, .int .i64 t338] 44 (0, 0)) (by (with_reducible repeat (first | refine blk_drewN ?_ _ | refine blk_drew ?_ | refine blk_alloc ?_ _)); exact BK339.out) hb)
       have n2_ := Aside0.mk (below_step (by repeat (first | (with_reducible first | exact HB.out | apply below_alloc | apply pw_below_drewN | apply below_drew1 | refine below_set ?_ GE334.out | refine below_set ?_ GE339.out) | exact HB.out)) hb)
       clear BK334
       clear BK339
       clear HB
       have BK334 := n0_
       have BK339 := n1_
       have HB := n2_
       clear n0_ n1_ n2_
       (try clear hb)
       (try clear hb2)
       (try clear hk)
       (try clear hi)
       refine hK.out _ _ ⟨(blk_cell BK334.out 0).trans rfl, (blk_cell BK334.out 1).trans rfl, (blk_cell BK334.out 2).trans rfl, (blk_cell BK334.out 3).trans rfl, (blk_cell BK339.out 0).trans rfl, (blk_cell BK339.out 1).trans rfl, (blk_cell BK339.out 2).trans rfl, (blk_cell BK339.out 3).trans rfl⟩ (fun hHeld => ?_)
       clear hK K
       refine norm_ (a' := ?_) ?_ ?_
       rotate_left
       ·show Act.put _ (some 37) _ = _
        simp only [Act.put, List.setIfInBounds_toArray, List.set_cons_zero, List.set_cons_succ, i64_w, i32_w]
        rfl
       refine pure_ (i := 5) (N := some 38) (v := ?_) (a' := ?_) #[TB,TB,TB,TB,TB,TB,FB,FB,FB,FB,FB,FB,FB,FB,FB,FB,FB,FB,FB,FB,FB,FB,FB,FB,FB,FB,FB,FB,FB,FB,FB,FB,FB,FB,FB,FB,FB,FB,FB,FB,FB,FB] rfl rfl (any_of HT_.out (by kernel_rfl)) (fun _ _ _ h => h) (Or.inl ⟨by rfl, ?_⟩) ?_ ?_
       rotate_left
       ·intro w'
        go_simp
        with_reducible rfl
       rotate_left
       ·simp only [Act.put, List.setIfInBounds_toArray, List.set_cons_zero, List.set_cons_succ, i64_w, i32_w]
        rfl
       refine pure_ (i := 6) (N := some 39) (v := ?_) (a' := ?_) #[TB,TB,TB,TB,TB,TB,TB,FB,FB,FB,FB,FB,FB,FB,FB,FB,FB,FB,FB,FB,FB,FB,FB,FB,FB,FB,FB,FB,FB,FB,FB,FB,FB,FB,FB,FB,FB,FB,FB,FB,FB,FB] rfl rfl (any_of HT_.out (by kernel_rfl)) (fun _ _ _ h => h) (Or.inl ⟨by rfl, ?_⟩) ?_ ?_
       rotate_left
       ·intro w'
        go_simp
        with_reducible rfl
       rotate_left
       ·simp only [Act.put, List.setIfInBounds_toArray, List.set_cons_zero, List.set_cons_succ, i64_w, i32_w]
        rfl
       refine pure_ (i := 7) (N := some 40) (v := undef) (a' := ?_) #[TB,TB,TB,TB,TB,TB,TB,TB,FB,FB,FB,FB,FB,FB,FB,FB,FB,FB,FB,FB,FB,FB,FB,FB,FB,FB,FB,FB,FB,FB,FB,FB,FB,FB,FB,FB,FB,FB,FB,FB,FB,FB] rfl rfl (any_of HT_.out (by kernel_rfl)) (fun _ _ _ h => h) (Or.inr ⟨by rfl, rfl⟩) ?_ ?_
       rotate_left
       ·simp only [Act.put, List.setIfInBounds_toArray, List.set_cons_zero, List.set_cons_succ, i64_w, i32_w]
        rfl
       refine pure_ (i := 8) (N := some 41) (v := undef) (a' := ?_) #[TB,TB,TB,TB,TB,TB,TB,TB,TB,FB,FB,FB,FB,FB,FB,FB,FB,FB,FB,FB,FB,FB,FB,FB,FB,FB,FB,FB,FB,FB,FB,FB,FB,FB,FB,FB,FB,FB,FB,FB,FB,FB] rfl rfl (any_of HT_.out (by kernel_rfl)) (fun _ _ _ h => h) (Or.inr ⟨by rfl, rfl⟩) ?_ ?_
       rotate_left
       ·simp only [Act.put, List.setIfInBounds_toArray, List.set_cons_zero, List.set_cons_succ, i64_w, i32_w]
        rfl
       refine pure_ (i := 9) (N := some 42) (v := undef) (a' := ?_) #[TB,TB,TB,TB,TB,TB,TB,TB,TB,TB,FB,FB,FB,FB,FB,FB,FB,FB,FB,FB,FB,FB,FB,FB,FB,FB,FB,FB,FB,FB,FB,FB,FB,FB,FB,FB,FB,FB,FB,FB,FB,FB] rfl rfl (any_of HT_.out (by kernel_rfl)) (fun _ _ _ h => h) (Or.inr ⟨by rfl, rfl⟩) ?_ ?_
       rotate_left
       ·simp only [Act.put, List.setIfInBounds_toArray, List.set_cons_zero, List.set_cons_succ, i64_w, i32_w]
        rfl
       refine pure_ (i := 10) (N := some 43) (v := undef) (a' := ?_) #[TB,TB,TB,TB,TB,TB,TB,TB,TB,TB,TB,FB,FB,FB,FB,FB,FB,FB,FB,FB,FB,FB,FB,FB,FB,FB,FB,FB,FB,FB,FB,FB,FB,FB,FB,FB,FB,FB,FB,FB,FB,FB] rfl rfl (any_of HT_.out (by kernel_rfl)) (fun _ _ _ h => h) (Or.inr ⟨by rfl, rfl⟩) ?_ ?_
       rotate_left
       ·simp only [Act.put, List.setIfInBounds_toArray, List.set_cons_zero, List.set_cons_succ, i64_w, i32_w]
        rfl
       refine pure_ (i := 11) (N := some 44) (v := undef) (a' := ?_) #[TB,TB,TB,TB,TB,TB,TB,TB,TB,TB,TB,TB,FB,FB,FB,FB,FB,FB,FB,FB,FB,FB,FB,FB,FB,FB,FB,FB,FB,FB,FB,FB,FB,FB,FB,FB,FB,FB,FB,FB,FB,FB] rfl rfl (any_of HT_.out (by kernel_rfl)) (fun _ _ _ h => h) (Or.inr ⟨by rfl, rfl⟩) ?_ ?_
       rotate_left
       ·simp only [Act.put, List.setIfInBounds_toArray, List.set_cons_zero, List.set_cons_succ, i64_w, i32_w]
        rfl
       refine pure_ (i := 12) (N := some 45) (v := ?_) (a' := ?_) #[TB,TB,TB,TB,TB,TB,TB,TB,TB,TB,TB,TB,TB,FB,FB,FB,FB,FB,FB,FB,FB,FB,FB,FB,FB,FB,FB,FB,FB,FB,FB,FB,FB,FB,FB,FB,FB,FB,FB,FB,FB,FB] rfl rfl (any_of HT_.out (by kernel_rfl)) (fun _ _ _ h => h) (Or.inl ⟨by rfl, ?_⟩) ?_ ?_
       rotate_left
       ·intro w'
        go_simp
        with_reducible rfl
       rotate_left
       ·simp only [Act.put, List.setIfInBounds_toArray, List.set_cons_zero, List.set_cons_succ, i64_w, i32_w]
        rfl
       refine pure_ (i := 13) (N := some 46) (v := ?_) (a' := ?_) #[TB,TB,TB,TB,TB,TB,TB,TB,TB,TB,TB,TB,TB,TB,FB,FB,FB,FB,FB,FB,FB,FB,FB,FB,FB,FB,FB,FB,FB,FB,FB,FB,FB,FB,FB,FB,FB,FB,FB,FB,FB,FB] rfl rfl (any_of HT_.out (by kernel_rfl)) (fun _ _ _ h => h) (Or.inl ⟨by rfl, ?_⟩) ?_ ?_
       rotate_left
       ·intro w'
        go_simp
        with_reducible rfl
       rotate_left
       ·simp only [Act.put, List.setIfInBounds_toArray, List.set_cons_zero, List.set_cons_succ, i64_w, i32_w]
        rfl
       refine pure_ (i := 14) (N := some 47) (v := undef) (a' := ?_) #[TB,TB,TB,TB,TB,TB,TB,TB,TB,TB,TB,TB,TB,TB,TB,FB,FB,FB,FB,FB,FB,FB,FB,FB,FB,FB,FB,FB,FB,FB,FB,FB,FB,FB,FB,FB,FB,FB,FB,FB,FB,FB] rfl rfl (any_of HT_.out (by kernel_rfl)) (fun _ _ _ h => h) (Or.inr ⟨by rfl, rfl⟩) ?_ ?_
       rotate_left
       ·simp only [Act.put, List.setIfInBounds_toArray, List.set_cons_zero, List.set_cons_succ, i64_w, i32_w]
        rfl
       refine pure_ (i := 15) (N := some 48) (v := undef) (a' := ?_) #[TB,TB,TB,TB,TB,TB,TB,TB,TB,TB,TB,TB,TB,TB,TB,TB,FB,FB,FB,FB,FB,FB,FB,FB,FB,FB,FB,FB,FB,FB,FB,FB,FB,FB,FB,FB,FB,FB,FB,FB,FB,FB] rfl rfl (any_of HT_.out (by kernel_rfl)) (fun _ _ _ h => h) (Or.inr ⟨by rfl, rfl⟩) ?_ ?_
       rotate_left
       ·simp only [Act.put, List.setIfInBounds_toArray, List.set_cons_zero, List.set_cons_succ, i64_w, i32_w]
        rfl
       refine pure_ (i := 16) (N := some 49) (v := undef) (a' := ?_) #[TB,TB,TB,TB,TB,TB,TB,TB,TB,TB,TB,TB,TB,TB,TB,TB,TB,FB,FB,FB,FB,FB,FB,FB,FB,FB,FB,FB,FB,FB,FB,FB,FB,FB,FB,FB,FB,FB,FB,FB,FB,FB] rfl rfl (any_of HT_.out (by kernel_rfl)) (fun _ _ _ h => h) (Or.inr ⟨by rfl, rfl⟩) ?_ ?_
       rotate_left
       ·simp only [Act.put, List.setIfInBounds_toArray, List.set_cons_zero, List.set_cons_succ, i64_w, i32_w]
        rfl
       refine pure_ (i := 17) (N := some 50) (v := undef) (a' := ?_) #[TB,TB,TB,TB,TB,TB,TB,TB,TB,TB,TB,TB,TB,TB,TB,TB,TB,TB,FB,FB,FB,FB,FB,FB,FB,FB,FB,FB,FB,FB,FB,FB,FB,FB,FB,FB,FB,FB,FB,FB,FB,FB] rfl rfl (any_of HT_.out (by kernel_rfl)) (fun _ _ _ h => h) (Or.inr ⟨by rfl, rfl⟩) ?_ ?_
       rotate_left
       ·simp only [Act.put, List.setIfInBounds_toArray, List.set_cons_zero, List.set_cons_succ, i64_w, i32_w]
        rfl
       refine pure_ (i := 18) (N := some 51) (v := undef) (a' := ?_) #[TB,TB,TB,TB,TB,TB,TB,TB,TB,TB,TB,TB,TB,TB,TB,TB,TB,TB,TB,FB,FB,FB,FB,FB,FB,FB,FB,FB,FB,FB,FB,FB,FB,FB,FB,FB,FB,FB,FB,FB,FB,FB] rfl rfl (any_of HT_.out (by kernel_rfl)) (fun _ _ _ h => h) (Or.inr ⟨by rfl, rfl⟩) ?_ ?_
       rotate_left
       ·simp only [Act.put, List.setIfInBounds_toArray, List.set_cons_zero, List.set_cons_succ, i64_w, i32_w]
        rfl
       refine pure_ (i := 19) (N := some 52) (v := ?_) (a' := ?_) #[TB,TB,TB,TB,TB,TB,TB,TB,TB,TB,TB,TB,TB,TB,TB,TB,TB,TB,TB,TB,FB,FB,FB,FB,FB,FB,FB,FB,FB,FB,FB,FB,FB,FB,FB,FB,FB,FB,FB,FB,FB,FB] rfl rfl (any_of HT_.out (by kernel_rfl)) (fun _ _ _ h => h) (Or.inl ⟨by rfl, ?_⟩) ?_ ?_
       rotate_left
       ·intro w'
        go_simp
        with_reducible rfl
       rotate_left
       ·simp only [Act.put, List.setIfInBounds_toArray, List.set_cons_zero, List.set_cons_succ, i64_w, i32_w]
        rfl
       refine pure_ (i := 20) (N := some 53) (v := ?_) (a' := ?_) #[TB,TB,TB,TB,TB,TB,TB,TB,TB,TB,TB,TB,TB,TB,TB,TB,TB,TB,TB,TB,TB,FB,FB,FB,FB,FB,FB,FB,FB,FB,FB,FB,FB,FB,FB,FB,FB,FB,FB,FB,FB,FB] rfl rfl (any_of HT_.out (by kernel_rfl)) (fun _ _ _ h => h) (Or.inl ⟨by rfl, ?_⟩) ?_ ?_
       rotate_left
       ·intro w'
        go_simp
        with_reducible rfl
       rotate_left
       ·simp only [Act.put, List.setIfInBounds_toArray, List.set_cons_zero, List.set_cons_succ, i64_w, i32_w]
        rfl
       refine pure_ (i := 21) (N := some 54) (v := undef) (a' := ?_) #[TB,TB,TB,TB,TB,TB,TB,TB,TB,TB,TB,TB,TB,TB,TB,TB,TB,TB,TB,TB,TB,TB,FB,FB,FB,FB,FB,FB,FB,FB,FB,FB,FB,FB,FB,FB,FB,FB,FB,FB,FB,FB] rfl rfl (any_of HT_.out (by kernel_rfl)) (fun _ _ _ h => h) (Or.inr ⟨by rfl, rfl⟩) ?_ ?_
       rotate_left
       ·simp only [Act.put, List.setIfInBounds_toArray, List.set_cons_zero, List.set_cons_succ, i64_w, i32_w]
        rfl
       refine pure_ (i := 22) (N := some 55) (v := undef) (a' := ?_) #[TB,TB,TB,TB,TB,TB,TB,TB,TB,TB,TB,TB,TB,TB,TB,TB,TB,TB,TB,TB,TB,TB,TB,FB,FB,FB,FB,FB,FB,FB,FB,FB,FB,FB,FB,FB,FB,FB,FB,FB,FB,FB] rfl rfl (any_of HT_.out (by kernel_rfl)) (fun _ _ _ h => h) (Or.inr ⟨by rfl, rfl⟩) ?_ ?_
       rotate_left
       ·simp only [Act.put, List.setIfInBounds_toArray, List.set_cons_zero, List.set_cons_succ, i64_w, i32_w]
        rfl
       refine pure_ (i := 23) (N := some 56) (v := undef) (a' := ?_) #[TB,TB,TB,TB,TB,TB,TB,TB,TB,TB,TB,TB,TB,TB,TB,TB,TB,TB,TB,TB,TB,TB,TB,TB,FB,FB,FB,FB,FB,FB,FB,FB,FB,FB,FB,FB,FB,FB,FB,FB,FB,FB] rfl rfl (any_of HT_.out (by kernel_rfl)) (fun _ _ _ h => h) (Or.inr ⟨by rfl, rfl⟩) ?_ ?_
       rotate_left
       ·simp only [Act.put, List.setIfInBounds_toArray, List.set_cons_zero, List.set_cons_succ, i64_w, i32_w]
        rfl
       refine pure_ (i := 24) (N := some 57) (v := undef) (a' := ?_) #[TB,TB,TB,TB,TB,TB,TB,TB,TB,TB,TB,TB,TB,TB,TB,TB,TB,TB,TB,TB,TB,TB,TB,TB,TB,FB,FB,FB,FB,FB,FB,FB,FB,FB,FB,FB,FB,FB,FB,FB,FB,FB] rfl rfl (any_of HT_.out (by kernel_rfl)) (fun _ _ _ h => h) (Or.inr ⟨by rfl, rfl⟩) ?_ ?_
       rotate_left
       ·simp only [Act.put, List.setIfInBounds_toArray, List.set_cons_zero, List.set_cons_succ, i64_w, i32_w]
        rfl
       refine pure_ (i := 25) (N := some 58) (v := undef) (a' := ?_) #[TB,TB,TB,TB,TB,TB,TB,TB,TB,TB,TB,TB,TB,TB,TB,TB,TB,TB,TB,TB,TB,TB,TB,TB,TB,TB,FB,FB,FB,FB,FB,FB,FB,FB,FB,FB,FB,FB,FB,FB,FB,FB] rfl rfl (any_of HT_.out (by kernel_rfl)) (fun _ _ _ h => h) (Or.inr ⟨by rfl, rfl⟩) ?_ ?_
       rotate_left
       ·simp only [Act.put, List.setIfInBounds_toArray, List.set_cons_zero, List.set_cons_succ, i64_w, i32_w]
        rfl
       refine pure_ (i := 26) (N := some 59) (v := ?_) (a' := ?_) #[TB,TB,TB,TB,TB,TB,TB,TB,TB,TB,TB,TB,TB,TB,TB,TB,TB,TB,TB,TB,TB,TB,TB,TB,TB,TB,TB,FB,FB,FB,FB,FB,FB,FB,FB,FB,FB,FB,FB,FB,FB,FB] rfl rfl (any_of HT_.out (by kernel_rfl)) (fun _ _ _ h => h) (Or.inl ⟨by rfl, ?_⟩) ?_ ?_
       rotate_left
       ·intro w'
        go_simp
        with_reducible rfl
       rotate_left
       ·simp only [Act.put, List.setIfInBounds_toArray, List.set_cons_zero, List.set_cons_succ, i64_w, i32_w]
        rfl
       refine pure_ (i := 27) (N := some 60) (v := ?_) (a' := ?_) #[TB,TB,TB,TB,TB,TB,TB,TB,TB,TB,TB,TB,TB,TB,TB,TB,TB,TB,TB,TB,TB,TB,TB,TB,TB,TB,TB,TB,FB,FB,FB,FB,FB,FB,FB,FB,FB,FB,FB,FB,FB,FB] rfl rfl (any_of HT_.out (by kernel_rfl)) (fun _ _ _ h => h) (Or.inl ⟨by rfl, ?_⟩) ?_ ?_
       rotate_left
       ·intro w'
        go_simp
        with_reducible rfl
       rotate_left
       ·simp only [Act.put, List.setIfInBounds_toArray, List.set_cons_zero, List.set_cons_succ, i64_w, i32_w]
        rfl
       refine pure_ (i := 28) (N := some 61) (v := undef) (a' := ?_) #[TB,TB,TB,TB,TB,TB,TB,TB,TB,TB,TB,TB,TB,TB,TB,TB,TB,TB,TB,TB,TB,TB,TB,TB,TB,TB,TB,TB,TB,FB,FB,FB,FB,FB,FB,FB,FB,FB,FB,FB,FB,FB] rfl rfl (any_of HT_.out (by kernel_rfl)) (fun _ _ _ h => h) (Or.inr ⟨by rfl, rfl⟩) ?_ ?_
       rotate_left
       ·simp only [Act.put, List.setIfInBounds_toArray, List.set_cons_zero, List.set_cons_succ, i64_w, i32_w]
        rfl
       refine pure_ (i := 29) (N := some 62) (v := undef) (a' := ?_) #[TB,TB,TB,TB,TB,TB,TB,TB,TB,TB,TB,TB,TB,TB,TB,TB,TB,TB,TB,TB,TB,TB,TB,TB,TB,TB,TB,TB,TB,TB,FB,FB,FB,FB,FB,FB,FB,FB,FB,FB,FB,FB] rfl rfl (any_of HT_.out (by kernel_rfl)) (fun _ _ _ h => h) (Or.inr ⟨by rfl, rfl⟩) ?_ ?_
       rotate_left
       ·simp only [Act.put, List.setIfInBounds_toArray, List.set_cons_zero, List.set_cons_succ, i64_w, i32_w]
        rfl
       refine pure_ (i := 30) (N := some 63) (v := undef) (a' := ?_) #[TB,TB,TB,TB,TB,TB,TB,TB,TB,TB,TB,TB,TB,TB,TB,TB,TB,TB,TB,TB,TB,TB,TB,TB,TB,TB,TB,TB,TB,TB,TB,FB,FB,FB,FB,FB,FB,FB,FB,FB,FB,FB] rfl rfl (any_of HT_.out (by kernel_rfl)) (fun _ _ _ h => h) (Or.inr ⟨by rfl, rfl⟩) ?_ ?_
       rotate_left
       ·simp only [Act.put, List.setIfInBounds_toArray, List.set_cons_zero, List.set_cons_succ, i64_w, i32_w]
        rfl
       refine pure_ (i := 31) (N := some 64) (v := undef) (a' := ?_) #[TB,TB,TB,TB,TB,TB,TB,TB,TB,TB,TB,TB,TB,TB,TB,TB,TB,TB,TB,TB,TB,TB,TB,TB,TB,TB,TB,TB,TB,TB,TB,TB,FB,FB,FB,FB,FB,FB,FB,FB,FB,FB] rfl rfl (any_of HT_.out (by kernel_rfl)) (fun _ _ _ h => h) (Or.inr ⟨by rfl, rfl⟩) ?_ ?_
       rotate_left
       ·simp only [Act.put, List.setIfInBounds_toArray, List.set_cons_zero, List.set_cons_succ, i64_w, i32_w]
        rfl
       refine pure_ (i := 32) (N := some 65) (v := undef) (a' := ?_) #[TB,TB,TB,TB,TB,TB,TB,TB,TB,TB,TB,TB,TB,TB,TB,TB,TB,TB,TB,TB,TB,TB,TB,TB,TB,TB,TB,TB,TB,TB,TB,TB,TB,FB,FB,FB,FB,FB,FB,FB,FB,FB] rfl rfl (any_of HT_.out (by kernel_rfl)) (fun _ _ _ h => h) (Or.inr ⟨by rfl, rfl⟩) ?_ ?_
       rotate_left
       ·simp only [Act.put, List.setIfInBounds_toArray, List.set_cons_zero, List.set_cons_succ, i64_w, i32_w]
        rfl
       refine pure_ (i := 33) (N := some 66) (v := ?_) (a' := ?_) #[TB,TB,TB,TB,TB,TB,TB,TB,TB,TB,TB,TB,TB,TB,TB,TB,TB,TB,TB,TB,TB,TB,TB,TB,TB,TB,TB,TB,TB,TB,TB,TB,TB,TB,FB,FB,FB,FB,FB,FB,FB,FB] rfl rfl (any_of HT_.out (by kernel_rfl)) (fun _ _ _ h => h) (Or.inl ⟨by rfl, ?_⟩) ?_ ?_
       rotate_left
       ·intro w'
        go_simp
        with_reducible rfl
       rotate_left
       ·simp only [Act.put, List.setIfInBounds_toArray, List.set_cons_zero, List.set_cons_succ, i64_w, i32_w]
        rfl
       refine pure_ (i := 34) (N := some 67) (v := ?_) (a' := ?_) #[TB,TB,TB,TB,TB,TB,TB,TB,TB,TB,TB,TB,TB,TB,TB,TB,TB,TB,TB,TB,TB,TB,TB,TB,TB,TB,TB,TB,TB,TB,TB,TB,TB,TB,TB,FB,FB,FB,FB,FB,FB,FB] rfl rfl (any_of HT_.out (by kernel_rfl)) (fun _ _ _ h => h) (Or.inl ⟨by rfl, ?_⟩) ?_ ?_
       rotate_left
       ·intro w'
        go_simp
        with_reducible rfl
       rotate_left
       ·simp only [Act.put, List.setIfInBounds_toArray, List.set_cons_zero, List.set_cons_succ, i64_w, i32_w]
        rfl
       refine pure_ (i := 35) (N := some 68) (v := undef) (a' := ?_) #[TB,TB,TB,TB,TB,TB,TB,TB,TB,TB,TB,TB,TB,TB,TB,TB,TB,TB,TB,TB,TB,TB,TB,TB,TB,TB,TB,TB,TB,TB,TB,TB,TB,TB,TB,TB,FB,FB,FB,FB,FB,FB] rfl rfl (any_of HT_.out (by kernel_rfl)) (fun _ _ _ h => h) (Or.inr ⟨by rfl, rfl⟩) ?_ ?_
       rotate_left
       ·simp only [Act.put, List.setIfInBounds_toArray, List.set_cons_zero, List.set_cons_succ, i64_w, i32_w]
        rfl
       refine pure_ (i := 36) (N := some 69) (v := undef) (a' := ?_) #[TB,TB,TB,TB,TB,TB,TB,TB,TB,TB,TB,TB,TB,TB,TB,TB,TB,TB,TB,TB,TB,TB,TB,TB,TB,TB,TB,TB,TB,TB,TB,TB,TB,TB,TB,TB,TB,FB,FB,FB,FB,FB] rfl rfl (any_of HT_.out (by kernel_rfl)) (fun _ _ _ h => h) (Or.inr ⟨by rfl, rfl⟩) ?_ ?_
       rotate_left
       ·simp only [Act.put, List.setIfInBounds_toArray, List.set_cons_zero, List.set_cons_succ, i64_w, i32_w]
        rfl
       refine pure_ (i := 37) (N := some 70) (v := undef) (a' := ?_) #[TB,TB,TB,TB,TB,TB,TB,TB,TB,TB,TB,TB,TB,TB,TB,TB,TB,TB,TB,TB,TB,TB,TB,TB,TB,TB,TB,TB,TB,TB,TB,TB,TB,TB,TB,TB,TB,TB,FB,FB,FB,FB] rfl rfl (any_of HT_.out (by kernel_rfl)) (fun _ _ _ h => h) (Or.inr ⟨by rfl, rfl⟩) ?_ ?_
       rotate_left
       ·simp only [Act.put, List.setIfInBounds_toArray, List.set_cons_zero, List.set_cons_succ, i64_w, i32_w]
        rfl
       refine pure_ (i := 38) (N := some 71) (v := undef) (a' := ?_) #[TB,TB,TB,TB,TB,TB,TB,TB,TB,TB,TB,TB,TB,TB,TB,TB,TB,TB,TB,TB,TB,TB,TB,TB,TB,TB,TB,TB,TB,TB,TB,TB,TB,TB,TB,TB,TB,TB,TB,FB,FB,FB] rfl rfl (any_of HT_.out (by kernel_rfl)) (fun _ _ _ h => h) (Or.inr ⟨by rfl, rfl⟩) ?_ ?_
       rotate_left
       ·simp only [Act.put, List.setIfInBounds_toArray, List.set_cons_zero, List.set_cons_succ, i64_w, i32_w]
        rfl
       refine pure_ (i := 39) (N := some 72) (v := undef) (a' := ?_) #[TB,TB,TB,TB,TB,TB,TB,TB,TB,TB,TB,TB,TB,TB,TB,TB,TB,TB,TB,TB,TB,TB,TB,TB,TB,TB,TB,TB,TB,TB,TB,TB,TB,TB,TB,TB,TB,TB,TB,TB,FB,FB] rfl rfl (any_of HT_.out (by kernel_rfl)) (fun _ _ _ h => h) (Or.inr ⟨by rfl, rfl⟩) ?_ ?_
       rotate_left
       ·simp only [Act.put, List.setIfInBounds_toArray, List.set_cons_zero, List.set_cons_succ, i64_w, i32_w]
        rfl
       refine pure_ (i := 40) (N := some 73) (v := ?_) (a' := ?_) #[TB,TB,TB,TB,TB,TB,TB,TB,TB,TB,TB,TB,TB,TB,TB,TB,TB,TB,TB,TB,TB,TB,TB,TB,TB,TB,TB,TB,TB,TB,TB,TB,TB,TB,TB,TB,TB,TB,TB,TB,TB,FB] rfl rfl (any_of HT_.out (by kernel_rfl)) (fun _ _ _ h => h) (Or.inl ⟨by rfl, ?_⟩) ?_ ?_
       rotate_left
       ·intro w'
        go_simp
        with_reducible rfl
       rotate_left
       ·simp only [Act.put, List.setIfInBounds_toArray, List.set_cons_zero, List.set_cons_succ, i64_w, i32_w]
        rfl
       refine pure_ (i := 41) (N := some 4) (v := ?_) (a' := ?_) #[TB,TB,TB,TB,TB,TB,TB,TB,TB,TB,TB,TB,TB,TB,TB,TB,TB,TB,TB,TB,TB,TB,TB,TB,TB,TB,TB,TB,TB,TB,TB,TB,TB,TB,TB,TB,TB,TB,TB,TB,TB,TB] rfl rfl (any_of HT_.out (by kernel_rfl)) (fun _ _ _ h => h) (Or.inl ⟨by rfl, ?_⟩) ?_ ?_
       rotate_left
       ·intro w'
        go_simp
        with_reducible rfl
       rotate_left
       ·simp only [Act.put, List.setIfInBounds_toArray, List.set_cons_zero, List.set_cons_succ, i64_w, i32_w]
        rfl
       refine done_ (done_of HT_.out (by kernel_rfl)) ?_
       try go_wp2
       go_ret
       exact ⟨by first | rfl | (simp [errW_none, errW_some] <;> rfl) | (simp [*, errW_none, errW_some] <;> rfl), by repeat (first | (with_reducible first | exact HB.out | apply below_alloc | apply pw_below_drewN | apply below_drew1 | refine below_set ?_ GE334.out | refine below_set ?_ GE339.out) | exact HB.out)⟩
     ·rw [if_neg c13] at H
      exact absurd H (by simp)
 ·replace c4 := Bool.eq_false_iff.mpr c4
  subst c4
  have H1 : (some false) = some r := by rw [if_neg (show ¬ (false = true) by decide)] at H; exact H
  clear H
  have H := H1
  clear H1
  obtain rfl := Option.some.inj H
  go_enter Try.func12, Try.ntmps12
  go_wp2_with (first | ((with_reducible refine gate_callee (f := 33) rfl ?_); refine goesL_ (some 7) rfl rfl Try.func33 (by kernel_rfl) rfl #[] rfl (by (try simp only [List.map_toArray, List.map_cons, List.map_nil]); first | done | rfl | (simp only [List.length_drop, List.length_take]; rfl)) ?_; (with_reducible refine (palinodelaw2_known.calls k  false _ A3.out).mono ?_); rintro e w91 ⟨rfl, hb⟩; refine ⟨_, rfl, ?_⟩; have n0_ := Aside0.mk (below_step (by repeat (first | (with_reducible first | exact HB.out | apply below_alloc | apply pw_below_drewN | apply below_drew1) | exact HB.out)) hb); clear HB; have HB := n0_; clear n0_; (try clear hb); (try clear hb2); (try clear hk); (try clear hi)))
  go_ret
  exact ⟨by first | rfl | (simp [errW_none, errW_some] <;> rfl) | (simp [*, errW_none, errW_some] <;> rfl), by repeat (first | (with_reducible first | exact HB.out | apply below_alloc | apply pw_below_drewN | apply below_drew1) | exact HB.out)⟩

/-- THE ONE PURE STATEMENT of palinodelaw2_CountSums: yours. -/
def palinodelaw2_CountSums.Pure : Prop := ∀ (a0 : ByteArray) (a1 : ByteArray), a0.size ≤ 140737488351232 → a1.size ≤ 140737488351232 → ∃ k, palinodelaw2_CountSums.f k a0 a1 = some true
theorem palinodelaw2_CountSums.walk (P : palinodelaw2_CountSums.Pure) (a0 : ByteArray) (a1 : ByteArray) (w : World) (w0 : a0.size ≤ 140737488351232) (w1 : a1.size ≤ 140737488351232) :
    Calls Try.prog 12 #[.string a0, .string a1] w fun e w' => e = .returned (.bool true) ∧ Below w.heap.size w w' := by
  obtain ⟨k, h⟩ := P a0 a1 w0 w1
  refine (palinodelaw2_CountSums.calls k a0 a1 true w h).mono ?_
  rintro e w' ⟨rfl, hd⟩
  exact ⟨rfl, hd⟩

end Go.Proofs.Ytgepcdpnjinadaa.PX
end
