-- MACHINE SIDE, written by wip/drive.py (this session's driver over the kit's print) for this claim. Lean checks it.
import Derived.Test.YtgepcdpnjinadaaPXx0
import Derived.Test.YtgepcdpnjinadaaPXx9
import Derived.Test.YtgepcdpnjinadaaPXx10
namespace Go.Proofs.Ytgepcdpnjinadaa.PX
open Go.RowKit Go.Proofs.YtgepcdpnjinadaaW.PrintWords Go.Proofs.YtgepcdpnjinadaaW.PrintLast Go.Proofs.YtgepcdpnjinadaaW.PrintMore
attribute [local go_sem] max2_int min2_int max_two min_two max_three min_three max_four min_four   -- for this text's walks alone
set_option linter.unusedVariables false
set_option linter.unusedSimpArgs false

/-! ### palinoderef1_Points: function 20 -/
def palinoderef1_Points.l0 : Nat → ByteArray → List ByteArray → Int → Option (List ByteArray)
  | 0, _, _, _ => none
  | k + 1, x3, x4, x5 => if x5 < (x3.size : Int) then ((palinoderef1_Size.f k x3 x5).bind fun t142 => (if 0 ≤ x5 then (if x5 ≤ (wrap64 (x5 + t142)) then (if (wrap64 (x5 + t142)) ≤ (x3.size : Int) then (if x4.length < 8796093022208 then (palinoderef1_Points.l0 k x3 (x4 ++ [x3.extract (x5 : Int).toNat ((wrap64 (x5 + t142)) : Int).toNat]) (wrap64 (x5 + t142))) else (none)) else (none)) else (none)) else (none))) else (some x4)
def palinoderef1_Points.f (k : Nat) (a0 : ByteArray) : Option (List ByteArray) := (palinoderef1_Clean.f k a0).bind fun t141 => (palinoderef1_Points.l0 k t141 ([] : List ByteArray) 0)
theorem palinoderef1_Points.mono_l : ∀ k, (∀ y0 y1 y2, LeO (palinoderef1_Points.l0 k y0 y1 y2) (palinoderef1_Points.l0 (k + 1) y0 y1 y2))
  | 0 => fun _ _ _ r h => by simp [palinoderef1_Points.l0] at h
  | k + 1 => by
    have ih0 := palinoderef1_Points.mono_l k
    · intro y0 y1 y2
      unfold palinoderef1_Points.l0
      repeat' first
      | (with_reducible exact ih0 _ _ _)
      | (with_reducible exact palinoderef1_Clean.mono _ _)
      | (with_reducible exact palinoderef1_Size.mono _ _ _)
      | (with_reducible exact LeO.refl _)
      | (with_reducible exact LeO.none _)
      | (with_reducible refine LeO.ite ?_ ?_)
      | (with_reducible refine LeO.bind ?_ (fun _ => ?_))
      | exact ih0 _ _ _
      | exact palinoderef1_Clean.mono _ _
      | exact palinoderef1_Size.mono _ _ _
      | exact LeO.none _
      | refine LeO.ite ?_ ?_
      | refine LeO.bind ?_ (fun _ => ?_)
theorem palinoderef1_Points.mono : ∀ a0 k, LeO (palinoderef1_Points.f k a0) (palinoderef1_Points.f (k + 1) a0) := by
  intro a0 k
  have ih0 := palinoderef1_Points.mono_l k
  unfold palinoderef1_Points.f
  repeat' first
      | (with_reducible exact ih0 _ _ _)
      | (with_reducible exact palinoderef1_Clean.mono _ _)
      | (with_reducible exact palinoderef1_Size.mono _ _ _)
      | (with_reducible exact LeO.refl _)
      | (with_reducible exact LeO.none _)
      | (with_reducible refine LeO.ite ?_ ?_)
      | (with_reducible refine LeO.bind ?_ (fun _ => ?_))
      | exact ih0 _ _ _
      | exact palinoderef1_Clean.mono _ _
      | exact palinoderef1_Size.mono _ _ _
      | exact LeO.none _
      | refine LeO.ite ?_ ?_
      | refine LeO.bind ?_ (fun _ => ?_)
set_option maxHeartbeats 8000000 in
set_option maxRecDepth 100000 in
theorem palinoderef1_Points.calls (k : Nat) (a0 : ByteArray) (r : List ByteArray) (w : World) (h : palinoderef1_Points.f k a0 = some r) :
    Calls Try.prog 20 #[.string a0] w fun e w' => ∃ v0_ : Value, e = .returned (v0_) ∧ Kd.R Kd.string 9 w' w.heap.size (fun _ => True) v0_ r ∧ Below w.heap.size w w' := by
  have HB := Aside0.mk (Below.refl w.heap.size w)
  have H : ((palinoderef1_Clean.f k a0).bind fun t141 => (palinoderef1_Points.l0 k t141 ([] : List ByteArray) 0)) = some r := h
  clear h
  replace H := Option.bind_eq_some_iff.mp H
  obtain ⟨t141, A20, H⟩ := H
  replace H : (palinoderef1_Points.l0 k t141 ([] : List ByteArray) 0) = some r := H
  have A2 := Aside0.mk A20
  clear A20
  have H' := Aside0.mk H
  clear H
  go_enter Try.func20, Try.ntmps20
  go_wp2_with (first | ((with_reducible refine gate_callee (f := 27) rfl ?_); refine goesL_ (some 8) rfl rfl Try.func27 (by kernel_rfl) rfl #[.string a0] rfl (by (try simp only [List.map_toArray, List.map_cons, List.map_nil]); first | done | rfl | (simp only [List.length_drop, List.length_take]; rfl)) ?_; (with_reducible refine (palinoderef1_Clean.calls k a0 t141 _ A2.out).mono ?_); rintro e w' ⟨rfl, ⟨nd, rfl⟩⟩; refine ⟨_, rfl, ?_⟩))
  go_loopg [4, 5] k (fun kq v4 v5 w' => ∃ (x4_1 : List ByteArray) (x5_1 : Int), v5 = .int .i64 x5_1 ∧ Aside0 (palinoderef1_Points.l0 kq t141 x4_1 x5_1 = some r) ∧ Aside0 (kq ≤ k) ∧ Aside0 (Kd.R Kd.string 9 w' w.heap.size (fun _ => True) v4 x4_1) ∧ Aside0 (Below w.heap.size w w'))
  case atStart => exact ⟨(([] : List ByteArray)), (0), (by first | rfl | (simp; done) | (simp [*]; done)), H', ⟨Nat.le_refl _⟩, ⟨by first | exact Kd.R_nil _ _ _ _ _ | exact Kd.N_nil _ _ _ _ _ | exact Kd.V_nil _ _ _ _ _ | exact Kd.Q_nil _ _ _ _ _ | exact Kd.S_nil _ _ _ _ _⟩, ⟨by repeat (first | (with_reducible first | exact HB.out | apply below_alloc | apply pw_below_drewN | apply below_drew1) | exact HB.out)⟩⟩
  case round =>
    clear H'
    try clear c2
    try clear p2
    obtain ⟨x4_1, x5_1, rfl, HA, HK1, HO_4, HB⟩ := hrel
    cases gk with
    | zero => exact absurd HA.out (by simp [palinoderef1_Points.l0])
    | succ k1 =>
      have H := HA.out
      clear HA
      simp only [palinoderef1_Points.l0] at H
      by_cases c3 : x5_1 < (t141.size : Int)
      · rw [if_pos c3] at H
        have c3b0 : decide (x5_1 < (t141.size : Int)) = true := decide_eq_true c3
        clear c3
        replace H := Option.bind_eq_some_iff.mp H
        obtain ⟨t142, A40, H⟩ := H
        replace H : (if 0 ≤ x5_1 then (if x5_1 ≤ (wrap64 (x5_1 + t142)) then (if (wrap64 (x5_1 + t142)) ≤ (t141.size : Int) then (if x4_1.length < 8796093022208 then (palinoderef1_Points.l0 k1 t141 (x4_1 ++ [t141.extract (x5_1 : Int).toNat ((wrap64 (x5_1 + t142)) : Int).toNat]) (wrap64 (x5_1 + t142))) else (none)) else (none)) else (none)) else (none)) = some r := H
        have A4 := Aside0.mk A40
        clear A40
        by_cases c5 : 0 ≤ x5_1
        · rw [if_pos c5] at H
          have c5b0 := eq_true c5
          have c5b1 : decide (0 ≤ x5_1) = true := decide_eq_true c5
          clear c5
          by_cases c6 : x5_1 ≤ (wrap64 (x5_1 + t142))
          · rw [if_pos c6] at H
            have c6b0 := eq_true c6
            have c6b1 : decide (x5_1 ≤ (wrap64 (x5_1 + t142))) = true := decide_eq_true c6
            by_cases c7 : (wrap64 (x5_1 + t142)) ≤ (t141.size : Int)
            · rw [if_pos c7] at H
              have c7b0 := eq_true c7
              have c7b1 : decide ((wrap64 (x5_1 + t142)) ≤ (t141.size : Int)) = true := decide_eq_true c7
              by_cases c8 : x4_1.length < 8796093022208
              · rw [if_pos c8] at H
                have LMc8 := Aside0.mk c8
                clear c8
                obtain ⟨y143, hy143⟩ : ∃ y_ : List ByteArray, y_ = (x4_1 ++ [t141.extract (x5_1 : Int).toNat ((wrap64 (x5_1 + t142)) : Int).toNat]) := ⟨_, rfl⟩
                replace H : (palinoderef1_Points.l0 k1 t141 y143 (wrap64 (x5_1 + t142))) = some r := by first | (rw [hy143]; with_reducible exact H) | (have H2_ := (Option.bind_some _ _).symm.trans H; rw [hy143]; with_reducible exact H2_) | (have H2_ := (Option.bind_some _ _).symm.trans H; with_reducible exact H2_) | with_reducible exact H | (rw [hy143]; exact H) | exact H
                have Ny143 := Aside0.mk hy143
                clear hy143
                have H' := Aside0.mk H
                clear H
                go_wp2_with (first | ((with_reducible refine gate_callee (f := 23) rfl ?_); refine goesL_ (some 15) rfl rfl Try.func23 (by kernel_rfl) rfl #[.string t141, .int .i64 x5_1] rfl (by (try simp only [List.map_toArray, List.map_cons, List.map_nil]); first | done | rfl | (simp only [List.length_drop, List.length_take]; rfl)) ?_; (with_reducible refine (palinoderef1_Size.calls k1 t141 x5_1 t142 _ A4.out).mono ?_); rintro e w' ⟨rfl, ⟨nd, rfl⟩⟩; refine ⟨_, rfl, ?_⟩) | ((with_reducible refine gate_builtin (b := .append) (xs := #[.tmp 16, .tmp 23]) rfl ?_); at_builtin; refine Kd.R_append Kd.string (w0 := w) w.heap.size rfl (.tmp 16) (.tmp 23) 26 9 (.string ⟨#[]⟩) 16 rfl Try.underlying26 info9 rfl (by decide) (by omega) u4 x4_1 (t141.extract (x5_1 : Int).toNat ((wrap64 (x5_1 + t142)) : Int).toNat) [.string (t141.extract (x5_1 : Int).toNat ((wrap64 (x5_1 + t142)) : Int).toNat)] (fun _ => True) (fun _ => False) rfl rfl ?aP (fun _ hk => hk.elim) ?aF ?aO ?aB ?aS ?aL ?_; (case aP => exact rfl); (case aB => exact (by repeat (first | (with_reducible first | exact HB.out | apply below_alloc | apply pw_below_drewN | apply below_drew1) | exact HB.out))); (case aF => exact (fun _ _ => trivial)); (case aO => exact (by (with_reducible repeat (first | apply Kd.R_alloc | apply Kd.R_drewN | apply Kd.R_drew)); exact HO_4.out)); (case aS => exact (below_size (by repeat (first | (with_reducible first | exact HB.out | apply below_alloc | apply pw_below_drewN | apply below_drew1) | exact HB.out)))); (case aL => have := LMc8.out; omega); intro v144 w9 ho hb hg hat; rw [← Ny143.out] at ho; have n0_ := Aside0.mk (hb); have n1_ := Aside0.mk (ho); clear HB; clear HO_4; have HB := n0_; have HO145 := n1_; clear n0_ n1_; clear ho hb hg hat))
                go_roundg k1
                case measure => have := HK1.out; omega
                case rel => exact ⟨(y143), (wrap64 (x5_1 + t142)), (by first | rfl | (simp; done) | (simp [*]; done)), H', ⟨by have := HK1.out; omega⟩, ⟨by (with_reducible repeat (first | apply Kd.R_alloc | apply Kd.R_drewN | apply Kd.R_drew)); exact HO145.out⟩, ⟨by repeat (first | (with_reducible first | exact HB.out | apply below_alloc | apply pw_below_drewN | apply below_drew1) | exact HB.out)⟩⟩
              · rw [if_neg c8] at H
                exact absurd H (by simp)
            · rw [if_neg c7] at H
              exact absurd H (by simp)
          · rw [if_neg c6] at H
            exact absurd H (by simp)
        · rw [if_neg c5] at H
          exact absurd H (by simp)
      · rw [if_neg c3] at H
        have c3b0 : decide (x5_1 < (t141.size : Int)) = false := decide_eq_false c3
        clear c3
        obtain rfl := Option.some.inj H
        go_wp2
        go_ret
        exact ⟨_, by first | rfl | (simp [errW_none, errW_some] <;> rfl) | (simp [*, errW_none, errW_some] <;> rfl), by (with_reducible repeat (first | apply Kd.R_alloc | apply Kd.R_drewN | apply Kd.R_drew)); exact HO_4.out, by repeat (first | (with_reducible first | exact HB.out | apply below_alloc | apply pw_below_drewN | apply below_drew1) | exact HB.out)⟩

/-! ### palinoderef1_Number: function 21 -/
mutual
def palinoderef1_Number.j0 : Nat → ByteArray → Int → Option (Int)
  | 0, _, _ => none
  | k + 1, x0, x4 => palinoderef1_Number.l0 k x0 x4 1
def palinoderef1_Number.l0 : Nat → ByteArray → Int → Int → Option (Int)
  | 0, _, _, _ => none
  | k + 1, x0, x4, x5 => if x5 < (x0.size : Int) then (if 0 ≤ x5 then (palinoderef1_Number.l0 k x0 (Go.bits .or .i64 (wrap64 (x4 * 64)) (Go.bits .and .i64 (wrap64 (bt x0 x5)) 63)) (wrap64 (x5 + 1))) else (none)) else (some x4)
end
def palinoderef1_Number.f (k : Nat) (a0 : ByteArray) : Option (Int) := if 0 < (a0.size : Int) then (if (a0.size : Int) = 2 then (palinoderef1_Number.j0 k a0 (Go.bits .and .i64 (wrap64 (bt a0 0)) 31)) else (if (a0.size : Int) = 3 then (palinoderef1_Number.j0 k a0 (Go.bits .and .i64 (wrap64 (bt a0 0)) 15)) else (if (a0.size : Int) = 4 then (palinoderef1_Number.j0 k a0 (Go.bits .and .i64 (wrap64 (bt a0 0)) 7)) else (palinoderef1_Number.j0 k a0 (wrap64 (bt a0 0)))))) else (none)
theorem palinoderef1_Number.mono_l : ∀ k, (∀ y0 y1, LeO (palinoderef1_Number.j0 k y0 y1) (palinoderef1_Number.j0 (k + 1) y0 y1)) ∧ (∀ y0 y1 y2, LeO (palinoderef1_Number.l0 k y0 y1 y2) (palinoderef1_Number.l0 (k + 1) y0 y1 y2))
  | 0 => ⟨fun _ _ r h => by simp [palinoderef1_Number.j0] at h, fun _ _ _ r h => by simp [palinoderef1_Number.l0] at h⟩
  | k + 1 => by
    obtain ⟨ih0, ih1⟩ := palinoderef1_Number.mono_l k
    refine ⟨?_, ?_⟩
    · intro y0 y1
      unfold palinoderef1_Number.j0
      repeat' first
      | (with_reducible exact ih0 _ _)
      | (with_reducible exact ih1 _ _ _)
      | (with_reducible exact LeO.refl _)
      | (with_reducible exact LeO.none _)
      | (with_reducible refine LeO.ite ?_ ?_)
      | (with_reducible refine LeO.bind ?_ (fun _ => ?_))
      | exact ih0 _ _
      | exact ih1 _ _ _
      | exact LeO.none _
      | refine LeO.ite ?_ ?_
      | refine LeO.bind ?_ (fun _ => ?_)
    · intro y0 y1 y2
      unfold palinoderef1_Number.l0
      repeat' first
      | (with_reducible exact ih0 _ _)
      | (with_reducible exact ih1 _ _ _)
      | (with_reducible exact LeO.refl _)
      | (with_reducible exact LeO.none _)
      | (with_reducible refine LeO.ite ?_ ?_)
      | (with_reducible refine LeO.bind ?_ (fun _ => ?_))
      | exact ih0 _ _
      | exact ih1 _ _ _
      | exact LeO.none _
      | refine LeO.ite ?_ ?_
      | refine LeO.bind ?_ (fun _ => ?_)
theorem palinoderef1_Number.mono : ∀ a0 k, LeO (palinoderef1_Number.f k a0) (palinoderef1_Number.f (k + 1) a0) := by
  intro a0 k
  obtain ⟨ih0, ih1⟩ := palinoderef1_Number.mono_l k
  unfold palinoderef1_Number.f
  repeat' first
      | (with_reducible exact ih0 _ _)
      | (with_reducible exact ih1 _ _ _)
      | (with_reducible exact LeO.refl _)
      | (with_reducible exact LeO.none _)
      | (with_reducible refine LeO.ite ?_ ?_)
      | (with_reducible refine LeO.bind ?_ (fun _ => ?_))
      | exact ih0 _ _
      | exact ih1 _ _ _
      | exact LeO.none _
      | refine LeO.ite ?_ ?_
      | refine LeO.bind ?_ (fun _ => ?_)
set_option maxHeartbeats 8000000 in
set_option maxRecDepth 100000 in
theorem palinoderef1_Number.calls (k : Nat) (a0 : ByteArray) (r : Int) (w : World) (h : palinoderef1_Number.f k a0 = some r) :
    Calls Try.prog 21 #[.string a0] w fun e w' => e = .returned (.int .i64 r) ∧ Drawn0 w w' := by
  have H : (if 0 < (a0.size : Int) then (if (a0.size : Int) = 2 then (palinoderef1_Number.j0 k a0 (Go.bits .and .i64 (wrap64 (bt a0 0)) 31)) else (if (a0.size : Int) = 3 then (palinoderef1_Number.j0 k a0 (Go.bits .and .i64 (wrap64 (bt a0 0)) 15)) else (if (a0.size : Int) = 4 then (palinoderef1_Number.j0 k a0 (Go.bits .and .i64 (wrap64 (bt a0 0)) 7)) else (palinoderef1_Number.j0 k a0 (wrap64 (bt a0 0)))))) else (none)) = some r := h
  clear h
  by_cases c2 : 0 < (a0.size : Int)
  · rw [if_pos c2] at H
    have c2b0 : decide (0 < (a0.size : Int)) = true := decide_eq_true c2
    have c2b1 : decide (0 < a0.size) = true := decide_eq_true (by omega)
    clear c2
    have HC4 := Aside0.mk H
    clear H
    have p3 : 0 ≤ (0 : Int) := (by omega)
    have q3 : 0 < a0.size := (by have : (0 : Int) < (a0.size : Int) := of_decide_eq_true (by first | (with_reducible assumption) | assumption); omega)
    have hx3 : ∀ h : 0 < a0.size, ((a0[0]'h).toNat : Int) = bt a0 0 := bt_at a0 0
    clear p3
    have qi3 : (0 < (a0.size : Int)) = True := eq_true (of_decide_eq_true (by first | (with_reducible assumption) | assumption))
    replace q3 := eq_true q3
    go_enter Try.func21, Try.ntmps21
    go_upto_block 0 with (fail)
    go_cut [4] (fun v4 wc => ∃ (kq : Nat) (x4_3 : Int), v4 = .int .i64 x4_3 ∧ Aside0 (palinoderef1_Number.j0 kq a0 x4_3 = some r) ∧ Aside0 (kq ≤ k) ∧ Drawn0 w wc)
    case first =>
      have H := HC4.out
      clear HC4
      by_cases c5 : (a0.size : Int) = 2
      · rw [if_pos c5] at H
        have c5b0 : ((a0.size : Int) == 2) = true := beq_iff_eq.mpr c5
        have c5b1 : ((a0.size : Int) != 2) = false := bne_eq_false_iff_eq.mpr c5
        clear c5
        (first | rw [c5b0] | (simp only [i64_w, i32_w]; rw [c5b0]) | skip)
        have H' := Aside0.mk H
        clear H
        go_wp2
        go_meet
        case rel => exact ⟨_, (Go.bits .and .i64 (wrap64 (bt a0 0)) 31), (by first | rfl | (simp; done) | (simp [*]; done)), H', ⟨by first | omega | exact Nat.le_refl _⟩, by repeat (first | exact Drawn0.refl _ | apply Drawn0.step)⟩
      · rw [if_neg c5] at H
        have c5b0 : ((a0.size : Int) == 2) = false := beq_eq_false_iff_ne.mpr c5
        have c5b1 : ((a0.size : Int) != 2) = true := bne_iff_ne.mpr c5
        (first | rw [c5b0] | (simp only [i64_w, i32_w]; rw [c5b0]) | skip)
        by_cases c6 : (a0.size : Int) = 3
        · rw [if_pos c6] at H
          have c6b0 : ((a0.size : Int) == 3) = true := beq_iff_eq.mpr c6
          have c6b1 : ((a0.size : Int) != 3) = false := bne_eq_false_iff_eq.mpr c6
          clear c6
          have H' := Aside0.mk H
          clear H
          go_wp2
          go_meet
          case rel => exact ⟨_, (Go.bits .and .i64 (wrap64 (bt a0 0)) 15), (by first | rfl | (simp; done) | (simp [*]; done)), H', ⟨by first | omega | exact Nat.le_refl _⟩, by repeat (first | exact Drawn0.refl _ | apply Drawn0.step)⟩
        · rw [if_neg c6] at H
          have c6b0 : ((a0.size : Int) == 3) = false := beq_eq_false_iff_ne.mpr c6
          have c6b1 : ((a0.size : Int) != 3) = true := bne_iff_ne.mpr c6
          by_cases c7 : (a0.size : Int) = 4
          · rw [if_pos c7] at H
            have c7b0 : ((a0.size : Int) == 4) = true := beq_iff_eq.mpr c7
            have c7b1 : ((a0.size : Int) != 4) = false := bne_eq_false_iff_eq.mpr c7
            clear c7
            have H' := Aside0.mk H
            clear H
            go_wp2
            go_meet
            case rel => exact ⟨_, (Go.bits .and .i64 (wrap64 (bt a0 0)) 7), (by first | rfl | (simp; done) | (simp [*]; done)), H', ⟨by first | omega | exact Nat.le_refl _⟩, by repeat (first | exact Drawn0.refl _ | apply Drawn0.step)⟩
          · rw [if_neg c7] at H
            have c7b0 : ((a0.size : Int) == 4) = false := beq_eq_false_iff_ne.mpr c7
            have c7b1 : ((a0.size : Int) != 4) = true := bne_iff_ne.mpr c7
            have H' := Aside0.mk H
            clear H
            go_wp2
            go_meet
            case rel => exact ⟨_, (wrap64 (bt a0 0)), (by first | rfl | (simp; done) | (simp [*]; done)), H', ⟨by first | omega | exact Nat.le_refl _⟩, by repeat (first | exact Drawn0.refl _ | apply Drawn0.step)⟩
    case rest =>
      clear HC4
      try clear c2
      try clear c2b0
      try clear c2b1
      try clear p2
      try clear p3
      try clear q3
      try clear hx3
      try clear qi3
      try clear c5
      try clear c5b0
      try clear c5b1
      try clear c6
      try clear c6b0
      try clear c6b1
      try clear p6
      try clear c7
      try clear c7b0
      try clear c7b1
      try clear p3
      try clear q3
      obtain ⟨kq, x4_3, rfl, HA, HJ3, ⟨mc3, rfl⟩⟩ := hcut
      cases kq with
      | zero => exact absurd HA.out (by simp [palinoderef1_Number.j0])
      | succ kj3 =>
        have H := HA.out
        clear HA
        simp only [palinoderef1_Number.j0] at H
        have H' := Aside0.mk H
        clear H
        go_wp2
        go_loopg [4, 5] kj3 (fun kq v4 v5 w' => ∃ (x4_2 : Int) (x5_2 : Int), v4 = .int .i64 x4_2 ∧ v5 = .int .i64 x5_2 ∧ Aside0 (palinoderef1_Number.l0 kq a0 x4_2 x5_2 = some r) ∧ Aside0 (kq ≤ kj3) ∧ Drawn0 w w')
        case atStart => exact ⟨(x4_3), (1), (by first | rfl | (simp; done) | (simp [*]; done)), (by first | rfl | (simp; done) | (simp [*]; done)), H', ⟨Nat.le_refl _⟩, by repeat (first | exact Drawn0.refl _ | apply Drawn0.step)⟩
        case round =>
          clear H'
          try clear c2
          try clear c2b0
          try clear c2b1
          try clear p2
          try clear c3
          try clear p3
          try clear q3
          try clear hx3
          try clear qi3
          try clear c5
          try clear c5b0
          try clear c5b1
          try clear c6
          try clear c6b0
          try clear c6b1
          try clear p6
          try clear c7
          try clear c7b0
          try clear c7b1
          try clear p2
          try clear p3
          try clear p6
          try clear q3
          obtain ⟨x4_2, x5_2, rfl, rfl, HA, HK2, ⟨m2, rfl⟩⟩ := hrel
          cases gk with
          | zero => exact absurd HA.out (by simp [palinoderef1_Number.l0])
          | succ k2 =>
            have H := HA.out
            clear HA
            simp only [palinoderef1_Number.l0] at H
            by_cases c8 : x5_2 < (a0.size : Int)
            · rw [if_pos c8] at H
              have c8b0 : decide (x5_2 < (a0.size : Int)) = true := decide_eq_true c8
              clear c8
              by_cases c9 : 0 ≤ x5_2
              · rw [if_pos c9] at H
                have c9b0 : decide (0 ≤ x5_2) = true := decide_eq_true c9
                clear c9
                have H' := Aside0.mk H
                clear H
                have p10 : 0 ≤ (x5_2 : Int) := of_decide_eq_true (by first | (with_reducible assumption) | assumption)
                have q10 : x5_2 < (a0.size : Int) := of_decide_eq_true (by first | (with_reducible assumption) | assumption)
                have hx10 := bt_at a0 x5_2
                replace p10 := eq_true p10
                replace q10 := eq_true q10
                go_wp2
                go_roundg k2
                case measure => have := HJ3.out; have := HK2.out; omega
                case rel => exact ⟨(Go.bits .or .i64 (wrap64 (x4_2 * 64)) (Go.bits .and .i64 (wrap64 (bt a0 x5_2)) 63)), (wrap64 (x5_2 + 1)), (by first | rfl | (simp; done) | (simp [*]; done)), (by first | rfl | (simp; done) | (simp [*]; done)), H', ⟨by have := HJ3.out; have := HK2.out; omega⟩, by repeat (first | exact Drawn0.refl _ | apply Drawn0.step)⟩
              · rw [if_neg c9] at H
                exact absurd H (by simp)
            · rw [if_neg c8] at H
              have c8b0 : decide (x5_2 < (a0.size : Int)) = false := decide_eq_false c8
              clear c8
              obtain rfl := Option.some.inj H
              go_wp2
              go_ret
              exact ⟨by first | rfl | (simp; done) | (simp [*]; done), by repeat (first | exact Drawn0.refl _ | apply Drawn0.step)⟩
  · rw [if_neg c2] at H
    exact absurd H (by simp)

end Go.Proofs.Ytgepcdpnjinadaa.PX
